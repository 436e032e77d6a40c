/- Plain laws, in one text. -/
import Derived.Test.YtffkhhblppfbfaaGreatDoorGS5c
import Derived.Test.YtffkhhblppfbfaaGreatDoorEvZ
import Derived.Test.YtffkhhblppfbfaaGreatDoorEvSort
import Derived.Lib.ItoaNum
import Derived.Test.YtffkhhblppfbfaaGreatDoorPAll0
namespace Go.Proofs.YtffkhhblppfbfaaGreatDoor.Ev
open Go
set_option linter.unusedVariables false
set_option linter.unusedSimpArgs false
theorem hasAct_ok (L N:Nat) (row:List Move) (a:Int) (hL:1048576<L) (hl:row.length≤1048576):f66_2 L N row a=some (row.any fun m=>m.act==a):=by
 have key:∀(n i:Nat),i≤row.length→row.length-i<n→∃r:Int,f97_3.l0 L N (f97_3.p0_e0 L N some) (fun z5=>f97_3.p0_r L N some z5) n row a (row.length:Int) (i:Int)=some r∧decide (r≥0)=(row.drop i).any fun m=>m.act==a:=by
  intro n
  induction n with
  |zero=>intro i _ h;omega
  |succ n ih=>
   intro i hi hn
   show ∃r:Int,f97_3.s0 L N _ _ (f97_3.l0 L N _ _ n) row a (row.length:Int) (i:Int)=some r∧_
   unfold f97_3.s0 f97_3.s0'
   by_cases hlt:i<row.length
   ·have hc:∀m:Move,f67_1 L N m a=some (m.act==a):=fun m=>rfl
    simp only [lt_cast hlt,le0,cond_true,Bool.and_true,Int.toNat_natCast,at_lt hlt,hc,Option.bind_some]
    rw [List.drop_eq_getElem_cons hlt,List.any_cons]
    cases hb:(row[i].act==a) with
    |true=>rw [cond_true];exact ⟨(i:Int),rfl,by rw [Bool.true_or];exact dt (by omega)⟩
    |false=>rw [cond_false,Bool.false_or,wi_nat (by omega)];exact ih (i+1) (by omega) (by omega)
   ·rw [ge_cast hlt,cond_false,List.drop_eq_nil_of_le (by omega)]
    exact ⟨-1,rfl,rfl⟩
 obtain ⟨r,h1,h2⟩:=key L 0 (by omega) (by omega)
 rw [List.drop_zero] at h2
 have h3:f97_3 L N row a=some r:=h1
 show f66_2.b L N some row a=_
 unfold f66_2.b f66_2.b'
 rw [h3,Option.bind_some,h2]
def lacksR (ms:List (List Move)) (a:Int) (s:Int):Bool:=calmR (ms.getD s.toNat [])&&!(ms.getD s.toNat []).any fun m=>m.act==a
theorem failSure1_ok (L N:Nat) (ms:List (List Move)) (hm:Leads ms) (hL:8589934592≤L) (u:Bool) (q r w:List Int) (hq:Fits ms q):
  ∃ac,f53 L N ⟨ms⟩ q=some ac∧Rises ac∧ac.length≤100000000∧(∀a,a∈ac↔a≠0∧∃t,StepX ms (fun t=>(t:Int)∈q) a t)∧
   f64_1 L N u ⟨q,r,w⟩ ms=some (u||ac.any fun a=>q.any (lacksR ms a),u||ac.any fun a=>q.any (lacksR ms a)):=by
 have hlim:=lim_eq
 have hn:=hm.1
 have hql:=hq.1
 obtain ⟨ac,e1,e2,e3,e4⟩:=actsOf_ok L N ms hm q _ hq (by omega)
 refine ⟨ac,e1,e2,e3,e4,?_⟩
 show f64_1.b L N (fun a0 a1=>some (a0,a1)) u ⟨q,r,w⟩ ms=_
 unfold f64_1.b f64_1.b'
 have e1':f53 L N ⟨ms⟩ (Duo.mk q r w).a=some ac:=e1
 rw [e1',Option.bind_some]
 have key:∀(n i:Nat) (u:Bool),i≤ac.length→ac.length-i<n→
   f64_1.l0 L N (fun z9=>f64_1.p0_e0 L N (fun a0 a1=>some (a0,a1)) z9) n ms ac (ac.length:Int) (i:Int) u q r w=some (u||(ac.drop i).any fun a=>q.any (lacksR ms a),u||(ac.drop i).any fun a=>q.any (lacksR ms a)):=by
  intro n
  induction n with
  |zero=>intro i u _ h;omega
  |succ n ih=>
   intro i u hi hin
   show f64_1.s0 L N _ (f64_1.l0 L N _ n) ms ac (ac.length:Int) (i:Int) u q r w=_
   unfold f64_1.s0 f64_1.s0'
   by_cases hlt:i<ac.length
   ·have inner:∀(n' j:Nat) (u:Bool),j≤q.length→q.length-j<n'→
      f64_1.l1 L N (fun z22 z23 z24 z25 z26 z27 z28 z29=>f64_1.p1_e2 L N (fun z9=>f64_1.p0_e0 L N (fun a0 a1=>some (a0,a1)) z9) (f64_1.l0 L N (fun z9=>f64_1.p0_e0 L N (fun a0 a1=>some (a0,a1)) z9) n) z22 z23 z24 z25 z26 z27 z28 z29) n' ms ac (ac.length:Int) (i:Int) q (q.length:Int) (j:Int) u q r w ac[i]
       =f64_1.l0 L N (fun z9=>f64_1.p0_e0 L N (fun a0 a1=>some (a0,a1)) z9) n ms ac (ac.length:Int) ((i+1:Nat):Int) (u||(q.drop j).any (lacksR ms ac[i])) q r w:=by
     intro n'
     induction n' with
     |zero=>intro j u _ h;omega
     |succ n' ih'=>
      intro j u hj hjn
      show f64_1.s1 L N _ (f64_1.l1 L N _ n') ms ac (ac.length:Int) (i:Int) q (q.length:Int) (j:Int) u q r w ac[i]=_
      unfold f64_1.s1 f64_1.s1'
      by_cases hjl:j<q.length
      ·have hv:=hq.2.1 _ (List.getElem_mem hjl)
       obtain ⟨s,hs⟩:=Int.eq_ofNat_of_zero_le hv.1
       have hsl:s<ms.length:=by omega
       have hrl:=(hm.2 s hsl).1
       have hcalm:=calm_ok L N ⟨ms⟩ s hsl (by omega) hrl
       have hhas:=hasAct_ok L N ms[s] ac[i] (by omega) hrl
       have hl:lacksR ms ac[i] q[j]=(calmR ms[s]&&!(ms[s]).any fun m=>m.act==ac[i]):=by unfold lacksR;rw [hs,Int.toNat_natCast,getD_lt hsl]
       rw [List.drop_eq_getElem_cons hjl,List.any_cons,hl]
       simp only [lt_cast hjl,le0,cond_true,Bool.and_true,Int.toNat_natCast,at_lt hjl,hs,hcalm,Option.bind_some,lt_cast hsl,at_lt hsl,hhas]
       rw [wi_nat (by omega)]
       cases u with
       |true=>rw [cond_true,ih' (j+1) true (by omega) (by omega),Bool.true_or,Bool.true_or]
       |false=>
        rw [cond_false]
        have hcr:calmR (Graph.mk ms).moves[s]=calmR ms[s]:=rfl
        rw [hcr]
        cases calmR ms[s] with
        |true=>rw [cond_true,ih' (j+1) _ (by omega) (by omega),Bool.true_and,Bool.false_or]
        |false=>rw [cond_false,ih' (j+1) false (by omega) (by omega)];simp only [Bool.false_and,Bool.false_or]
      ·rw [ge_cast hjl,cond_false,List.drop_eq_nil_of_le (by omega)]
       show f64_1.p1_e2 L N _ _ ms ac (ac.length:Int) (i:Int) u q r w=_
       unfold f64_1.p1_e2 f64_1.p1_e2'
       rw [wi_nat (by omega),List.any_nil,Bool.or_false]
    have h1:=inner L 0 u (by omega) (by omega)
    rw [List.drop_zero] at h1
    simp only [lt_cast hlt,le0,cond_true,Bool.and_true,Int.toNat_natCast,at_lt hlt]
    refine (show _=_ from h1).trans ?_
    rw [ih (i+1) _ (by omega) (by omega),List.drop_eq_getElem_cons hlt,List.any_cons,Bool.or_assoc]
   ·rw [ge_cast hlt,cond_false,List.drop_eq_nil_of_le (by omega),List.any_nil,Bool.or_false]
    rfl
 have:=key L 0 u (by omega) (by omega)
 rw [List.drop_zero] at this
 exact this
end Go.Proofs.YtffkhhblppfbfaaGreatDoor.Ev
namespace Go.Proofs.YtffkhhblppfbfaaGreatDoor.Ev
open Go
set_option linter.unusedVariables false
set_option linter.unusedSimpArgs false
def stepB (A:Int→List Int):List Int→List (List Int)→List (List Int)
 |[],S=>S
 |a::ac,S=>stepB A ac (if A a∈S then S else S++[A a])
theorem findB_put (x y:ByteArray) (v:Bool):∀es:List (ByteArray×Bool),mapFind .str .bool x (mapPut .str .bool y v es)=if y=x then some v else mapFind .str .bool x es
 |[]=>by
  show (bif keyEq .str x y then some v else none)=_
  by_cases e:y=x
  ·subst e
   rw [show keyEq .str y y=true from by rw [keyEq_str];exact dt rfl,cond_true,if_pos rfl]
  ·rw [show keyEq .str x y=false from by rw [keyEq_str];exact df fun h=>e h.symm,cond_false,if_neg e];rfl
 |(k,u)::r=>by
  have ih:=findB_put x y v r
  by_cases e:y=k
  ·subst e
   have h1:mapPut .str .bool y v ((y,u)::r)=(y,v)::r:=by
    show (bif keyEq .str y y then (y,v)::r else _)=_
    rw [show keyEq .str y y=true from by rw [keyEq_str];exact dt rfl,cond_true]
   rw [h1]
   show (bif keyEq .str x y then some v else mapFind .str .bool x r)=if y=x then some v else (bif keyEq .str x y then some u else mapFind .str .bool x r)
   by_cases e2:y=x
   ·subst e2
    rw [show keyEq .str y y=true from by rw [keyEq_str];exact dt rfl,cond_true,if_pos rfl]
   ·rw [show keyEq .str x y=false from by rw [keyEq_str];exact df fun h=>e2 h.symm,cond_false,cond_false,if_neg e2]
  ·have h1:mapPut .str .bool y v ((k,u)::r)=(k,u)::mapPut .str .bool y v r:=by
    show (bif keyEq .str y k then _ else (k,u)::mapPut .str .bool y v r)=_
    rw [show keyEq .str y k=false from by rw [keyEq_str];exact df e,cond_false]
   rw [h1]
   show (bif keyEq .str x k then some u else mapFind .str .bool x (mapPut .str .bool y v r))=if y=x then some v else (bif keyEq .str x k then some u else mapFind .str .bool x r)
   by_cases e2:x=k
   ·subst e2
    rw [show keyEq .str x x=true from by rw [keyEq_str];exact dt rfl,cond_true,cond_true,if_neg e]
   ·rw [show keyEq .str x k=false from by rw [keyEq_str];exact df e2,cond_false,cond_false,ih]
def keyD (q:List Int):ByteArray:=keyB q++keyB q
theorem keyD_eq (q:List Int):keyD q=⟨(keyL q++keyL q).toArray⟩:=ba_app _ _
theorem keyD_inj {a b:List Int} (ha:∀v∈a,0≤v∧v<60) (hb:∀v∈b,0≤v∧v<60) (h:keyD a=keyD b):a=b:=by
 rw [keyD_eq,keyD_eq] at h
 have h1:(keyL a++keyL a).toArray=(keyL b++keyL b).toArray:=congrArg ByteArray.data h
 have h2:keyL a++keyL a=keyL b++keyL b:=by simpa using h1
 exact (keyL_inj (fun v hv=>by have:=ha v hv;omega) (fun v hv=>by have:=hb v hv;omega) h2).1
theorem keyB_size {q:List Int} (h:q.length≤60):(keyB q).size≤400:=by
 unfold keyB
 rw [ba_size]
 have:∀l:List Int,(numsL l).length≤3*l.length:=by
  intro l
  induction l with
  |nil=>simp [numsL]
  |cons a l ih=>
   have h1:=digL_len a.toNat
   have h2:numsL (a::l)=digL a.toNat++[32]++numsL l:=by unfold numsL;rw [List.flatMap_cons]
   rw [h2];simp;omega
 have:=this q
 unfold keyL
 simp;omega
def Seen (S:List (List Int)) (es:List (ByteArray×Bool)):Prop:=∀x:List Int,(∀v∈x,0≤v∧v<60)→mapFind .str .bool (keyD x) es=if x∈S then some true else none
theorem Seen.add {S:List (List Int)} {es:List (ByteArray×Bool)} (h:Seen S es) {y:List Int} (hy:∀v∈y,0≤v∧v<60):Seen (S++[y]) (mapPut .str .bool (keyD y) true es):=by
 intro x hx
 rw [findB_put]
 by_cases e:y=x
 ·subst e
  rw [if_pos rfl,if_pos (by simp)]
 ·rw [if_neg (fun h=>e (keyD_inj hy hx h)),h x hx]
  by_cases hm:x∈S
  ·rw [if_pos hm,if_pos (List.mem_append_left _ hm)]
  ·rw [if_neg hm,if_neg (by simp [hm];exact fun h=>e h.symm)]
theorem Seen.nil:Seen [] []:=fun x _=>by rw [if_neg (by simp)];rfl
theorem inD {R:Type} (L N:Nat) (ms:List (List Move)) (hm:Leads ms) (hL:8589934592≤L) (K2:Int→List (List Move)→Int→Bool→List (List Move)→List (List Move)→List Duo→List (ByteArray×Bool)→Option R) (Kr:Int→List (List Move)→Bool→Int→Bool→List (List Move)→List (List Move)→List Duo→List (ByteArray×Bool)→Option R)
  (k:Int) (u:Bool) (q w:List Int) (B:Nat) (hB:B≤1000001) (hw:w.length+1≤B) (hq:Fits ms q) (ac:List Int) (hac:ac.length≤100000000) (hne:∀a∈ac,aftA L N ms q a≠[]):
  ∀(n j:Nat) (ds:List Duo) (es:List (ByteArray×Bool)),j≤ac.length→ac.length-j<n→Seen (ds.map Duo.a) es→ds.map Duo.b=ds.map Duo.a→(∀d∈ds,d.w.length≤B)→ds.length≤1000000+j→
   ∃ds' es',f55_1.l1 L N K2 Kr n (-1) ms k ac (ac.length:Int) (j:Int) u ms ms q q w ds es=K2 (-1) ms k u ms ms ds' es'∧ds'.map Duo.a=stepB (aftA L N ms q) (ac.drop j) (ds.map Duo.a)∧ds'.map Duo.b=ds'.map Duo.a∧Seen (ds'.map Duo.a) es'∧∀d∈ds',d.w.length≤B:=by
 have hlim:=lim_eq
 have hn:=hm.1
 intro n
 induction n with
 |zero=>intro j ds es _ h;omega
 |succ n ih=>
  intro j ds es hj hjn hsn hab hwl hdl
  have hu:f55_1.l1 L N K2 Kr (n+1) (-1) ms k ac (ac.length:Int) (j:Int) u ms ms q q w ds es=f55_1.s1 L N K2 Kr (f55_1.l1 L N K2 Kr n) (-1) ms k ac (ac.length:Int) (j:Int) u ms ms q q w ds es:=rfl
  rw [hu]
  unfold f55_1.s1 f55_1.s1'
  by_cases hlt:j<ac.length
  ·obtain ⟨ha,hrow⟩:=aftA_ok L N ms hm hL q hq ac[j]
   have hfk:=Fits.key hm hrow.fits
   have hkey:=setKey_ok L N _ hfk.1 hfk.2 (by omega)
   have hksz:=keyB_size hfk.1
   have hlen:0<(aftA L N ms q ac[j]).length:=List.length_pos_iff.2 (hne _ (List.getElem_mem hlt))
   have hz:(((aftA L N ms q ac[j]).length:Int)==0)=false:=beq_eq_false_iff_ne.2 (by omega)
   have hcl:fclone w=some ():=by unfold fclone;rw [dt (by omega)];rfl
   have hl1:decide (w.length+([ac[j]]:List Int).length≤lim)=true:=dt (by simp only [List.length_cons,List.length_nil];omega)
   have hl2:decide ((keyB (aftA L N ms q ac[j])).size+(keyB (aftA L N ms q ac[j])).size≤4611686018427387904)=true:=dt (by omega)
   have hf:=hsn (aftA L N ms q ac[j]) hfk.2
   unfold keyD at hf
   rw [List.drop_eq_getElem_cons hlt]
   simp only [lt_cast hlt,le0,cond_true,Bool.and_true,Int.toNat_natCast,at_lt hlt,ha,Option.bind_some,hcl,hl1,hz,cond_false,hkey,hl2,hf]
   unfold stepB
   by_cases hmem:aftA L N ms q ac[j]∈ds.map Duo.a
   ·rw [if_pos hmem,if_pos hmem,Option.getD_some,cond_true,wi_nat (by omega)]
    exact ih (j+1) ds es (by omega) (by omega) hsn hab hwl (by omega)
   ·have hl3:decide (ds.length+([Duo.mk (aftA L N ms q ac[j]) (aftA L N ms q ac[j]) (w++[ac[j]])]:List Duo).length≤lim)=true:=dt (by simp only [List.length_cons,List.length_nil];omega)
    rw [if_neg hmem,if_neg hmem,Option.getD_none]
    show ∃ds' es',(bif false then _ else _)=_∧_
    rw [cond_false,hl3,cond_true,wi_nat (by omega)]
    have hmp:ds.map Duo.a++[aftA L N ms q ac[j]]=(ds++[Duo.mk (aftA L N ms q ac[j]) (aftA L N ms q ac[j]) (w++[ac[j]])]).map Duo.a:=by rw [List.map_append];rfl
    rw [hmp]
    refine ih (j+1) _ _ (by omega) (by omega) ?_ ?_ (fun d hd=>?_) (by simp;omega)
    ·rw [←hmp];exact hsn.add hfk.2
    ·rw [List.map_append,List.map_append,hab];rfl
    ·rcases List.mem_append.1 hd with h|h
     ·exact hwl d h
     ·obtain rfl:=List.mem_singleton.1 h;simpa using hw
  ·rw [ge_cast hlt,cond_false,List.drop_eq_nil_of_le (by omega)]
   exact ⟨ds,es,rfl,rfl,hab,hsn,hwl⟩
end Go.Proofs.YtffkhhblppfbfaaGreatDoor.Ev
namespace Go.Proofs.YtffkhhblppfbfaaGreatDoor.Ev
open Go
set_option linter.unusedVariables false
set_option linter.unusedSimpArgs false
theorem inF {R:Type} (L N:Nat) (ms:List (List Move)) (hm:Leads ms) (hL:8589934592≤L) (K2:Int→List (List Move)→List (List Bool)→Option R)
  (k:Nat) (q:List Int) (hq:Fits ms q) (ac:List Int) (hr:Rises ac) (hac:∀a,a∈ac↔a≠0∧aftA L N ms q a≠[]) (h4:∀a∈ac,-4≤a∧a≤4):
  ∀(d n:Nat) (sets:List (List Bool)),d≤9→d<n→(sets.map listB)[k]?=some q→(∀s∈sets,s.length=ms.length)→sets.length+d≤1000000→
   ∃sets',sets'.map listB=stepB (aftA L N ms q) (ac.filter fun b=>decide ((5:Int)-(d:Int)≤b)) (sets.map listB)∧(∀s∈sets',s.length=ms.length)∧f27.l1 L N K2 n (k:Int) ((5:Int)-(d:Int)) ms sets=K2 (k:Int) ms sets':=by
 have hlim:=lim_eq
 have hn:=hm.1
 intro d
 induction d with
 |zero=>
  intro n sets _ hn0 hk hs hl
  obtain ⟨n,rfl⟩:∃n',n=n'+1:=⟨n-1,by omega⟩
  have hnil:(ac.filter fun b=>decide ((5:Int)-((0:Nat):Int)≤b))=[]:=by
   rw [List.filter_eq_nil_iff]
   intro b hb
   have:=h4 b hb
   simp only [decide_eq_true_eq];omega
  rw [hnil]
  refine ⟨sets,rfl,hs,?_⟩
  show f27.s1 L N K2 (f27.l1 L N K2 n) (k:Int) ((5:Int)-((0:Nat):Int)) ms sets=_
  unfold f27.s1 f27.s1'
  rw [df (by omega),cond_false]
 |succ d ih=>
  intro n sets hd9 hnd hk hs hl
  obtain ⟨n,rfl⟩:∃n',n=n'+1:=⟨n-1,by omega⟩
  have hu:f27.l1 L N K2 (n+1) (k:Int) ((5:Int)-((d+1:Nat):Int)) ms sets=f27.s1 L N K2 (f27.l1 L N K2 n) (k:Int) ((5:Int)-((d+1:Nat):Int)) ms sets:=rfl
  rw [hu]
  generalize ha:(5:Int)-((d+1:Nat):Int)=a
  have ha1:a+1=(5:Int)-(d:Int):=by omega
  have hwi:wi (a+1)=(5:Int)-(d:Int):=by rw [wi_id (by omega) (by omega)];exact ha1
  have hkl:k<sets.length:=by
   rcases Nat.lt_or_ge k sets.length with h|h
   ·exact h
   ·rw [List.getElem?_eq_none (by rw [List.length_map];exact h)] at hk;cases hk
  have hkq:listB sets[k]=q:=by
   rw [List.getElem?_map,List.getElem?_eq_getElem hkl] at hk
   exact Option.some.inj hk
  have hskl:=hs _ (List.getElem_mem hkl)
  obtain ⟨out,o1,o2,o3⟩:=do8_ok L N ms sets[k] a hm hskl (by omega)
  have hrow:=listB_row o2 o3
  have hx:∀t,Tr sets[k] t↔(t:Int)∈q:=fun t=>by
   rw [←hkq,listB_mem]
   exact ⟨fun h=>⟨t,rfl,h⟩,fun ⟨u,e,h⟩=>(show u=t by omega)▸h⟩
  have hA:=(aftA_ok L N ms hm hL q hq a).2
  have hout:listB out=aftA L N ms q a:=by
   refine Row.uniq (X:=Slip ms (StepX ms (fun t=>(t:Int)∈q) a)) ⟨hrow.1,hrow.2.1,fun t=>(hrow.2.2.1 t).trans (Slip.iff (fun t=>StepX.iff hx a t) t),hrow.2.2.2⟩ hA
  obtain ⟨r,r1,r2⟩:=any8_ok L N out (by omega) (by omega)
  have hra:r=true↔aftA L N ms q a≠[]:=by
   rw [r2,←hout]
   constructor
   ·rintro ⟨t,ht⟩ e
    have:=(listB_mem out (t:Int)).2 ⟨t,rfl,ht⟩
    rw [e] at this;cases this
   ·intro h
    obtain ⟨v,hv⟩:=List.exists_mem_of_ne_nil _ h
    obtain ⟨t,-,ht⟩:=(listB_mem out v).1 hv
    exact ⟨t,ht⟩
  rw [from_step hr a]
  unfold f27.s1 f27.s1' f27.j0'
  simp only [dt (show a≤4 by omega),lt_cast hkl,le0,Bool.and_true,cond_true,Int.toNat_natCast,at_lt hkl,o1,Option.bind_some,hwi]
  have skip:a∉ac→∃sets',sets'.map listB=stepB (aftA L N ms q) ((if a∈ac then [a] else [])++ac.filter fun b=>decide (a+1≤b)) (sets.map listB)∧(∀s∈sets',s.length=ms.length)∧f27.l1 L N K2 n (k:Int) ((5:Int)-(d:Int)) ms sets=K2 (k:Int) ms sets':=fun hno=>by
   rw [if_neg hno,List.nil_append,ha1]
   exact ih n sets (by omega) (by omega) hk hs (by omega)
  by_cases ha0:a=0
  ·have hb:(a !=0)=false:=by rw [ha0];rfl
   rw [hb]
   simp only [cond_false]
   exact skip fun h=>((hac a).1 h).1 ha0
  ·have hb:(a !=0)=true:=by rw [bne_iff_ne];exact ha0
   rw [hb]
   simp only [cond_true,r1,Option.bind_some]
   cases hrr:r with
   |false=>
    simp only [cond_false]
    exact skip fun h=>by rw [hra.2 ((hac a).1 h).2] at hrr;cases hrr
   |true=>
    have hin:a∈ac:=(hac a).2 ⟨ha0,hra.1 hrr⟩
    have hfind:=find8_ok L N sets out (fun s hs'=>by rw [hs s hs'];omega) (by omega) (by omega) (by omega)
    rw [hout] at hfind
    have hmapl:(sets.map listB).length=sets.length:=List.length_map _
    simp only [cond_true,hfind,Option.bind_some]
    rw [if_pos hin,List.singleton_append]
    unfold stepB
    by_cases hmem:aftA L N ms q a∈sets.map listB
    ·have hlt:=List.idxOf_lt_length_of_mem hmem
     have b2:((((sets.map listB).idxOf (aftA L N ms q a):Nat):Int)==(sets.length:Int))=false:=beq_eq_false_iff_ne.2 (by omega)
     rw [if_pos hmem,b2,cond_false,ha1]
     exact ih n sets (by omega) (by omega) hk hs (by omega)
    ·have hidx:=idx_not hmem
     have b2:((((sets.map listB).idxOf (aftA L N ms q a):Nat):Int)==(sets.length:Int))=true:=beq_iff_eq.2 (by omega)
     have hl2:decide (sets.length+([out]:List (List Bool)).length≤lim)=true:=dt (by simp only [List.length_cons,List.length_nil];omega)
     have hmp:sets.map listB++[aftA L N ms q a]=(sets++[out]).map listB:=by rw [List.map_append,←hout];rfl
     rw [if_neg hmem,b2,cond_true,hl2,cond_true,ha1,hmp]
     refine ih n (sets++[out]) (by omega) (by omega) ?_ (fun s hs'=>?_) (by simp;omega)
     ·rw [←hmp,List.getElem?_append_left (by rw [List.length_map];exact hkl)];exact hk
     ·rcases List.mem_append.1 hs' with h|h
      ·exact hs s h
      ·obtain rfl:=List.mem_singleton.1 h;exact o2
end Go.Proofs.YtffkhhblppfbfaaGreatDoor.Ev
namespace Go.Proofs.YtffkhhblppfbfaaGreatDoor.Ev
open Go
set_option linter.unusedVariables false
set_option linter.unusedSimpArgs false
def only8 (a:Int):List Bool:=(List.replicate 8 false).set (place a) true
theorem l9Sure_ok (L N:Nat) (g:Graph) (hok:graphOk g=true) (hg:g.moves.length+gsize g.moves≤1048576) (hL:8589934592≤L) (x:List Bool) (hx:x.length=g.moves.length):
  ∃b,f69 L N g x=some b∧(b=true↔∀a,-4≤a→a≤4→a≠0→(∃t,StepX g.moves (Tr x) a t)→¬∃t,Tr x t∧∃h:t<g.moves.length,refR g.moves[t] (only8 a)=true):=by
 have hlim:=lim_eq
 have hm:=leads_of hok hg
 have hn:=hm.1
 have hge:Graph.mk g.moves=g:=by cases g;rfl
 show ∃b,f69.b L N some g x=some b∧_
 unfold f69.b f69.b'
 have key:∀(d n:Nat),d≤9→d<n→(∀a,-4≤a→a<5-(d:Int)→a≠0→(∃t,StepX g.moves (Tr x) a t)→¬∃t,Tr x t∧∃h:t<g.moves.length,refR g.moves[t] (only8 a)=true)→
   ∃b,f69.l0 L N (f69.p0_e0 L N some) (fun z5=>f69.p0_r L N some z5) n x ((5:Int)-(d:Int)) g.moves=some b∧(b=true↔∀a,-4≤a→a≤4→a≠0→(∃t,StepX g.moves (Tr x) a t)→¬∃t,Tr x t∧∃h:t<g.moves.length,refR g.moves[t] (only8 a)=true):=by
  intro d
  induction d with
  |zero=>
   intro n _ hn0 hall
   obtain ⟨n,rfl⟩:∃n',n=n'+1:=⟨n-1,by omega⟩
   show ∃b,f69.s0 L N _ _ (f69.l0 L N _ _ n) x ((5:Int)-((0:Nat):Int)) g.moves=some b∧_
   unfold f69.s0 f69.s0'
   rw [df (by omega),cond_false]
   exact ⟨true,rfl,fun _ a h1 h2=>hall a h1 (by omega),fun _=>rfl⟩
  |succ d ih=>
   intro n hd9 hnd hall
   obtain ⟨n,rfl⟩:∃n',n=n'+1:=⟨n-1,by omega⟩
   show ∃b,f69.s0 L N _ _ (f69.l0 L N _ _ n) x ((5:Int)-((d+1:Nat):Int)) g.moves=some b∧_
   generalize ha:(5:Int)-((d+1:Nat):Int)=a
   rw [ha] at hall
   have hwi:wi (a+1)=(5:Int)-(d:Int):=by rw [wi_id (by omega) (by omega)];omega
   have next:(a≠0→(∃t,StepX g.moves (Tr x) a t)→¬∃t,Tr x t∧∃h:t<g.moves.length,refR g.moves[t] (only8 a)=true)→∀b,-4≤b→b<5-(d:Int)→b≠0→(∃t,StepX g.moves (Tr x) b t)→¬∃t,Tr x t∧∃h:t<g.moves.length,refR g.moves[t] (only8 b)=true:=fun h b h1 h2=>by
    by_cases e:b=a
    ·rw [e];exact h
    ·exact hall b h1 (by omega)
   unfold f69.s0 f69.s0'
   rw [dt (show a≤4 by omega),cond_true,hwi,hge]
   by_cases ha0:a=0
   ·rw [show (a==0)=true from beq_iff_eq.2 ha0,cond_true]
    exact ih n (by omega) (by omega) (next fun h=>absurd ha0 h)
   ·rw [show (a==0)=false from beq_eq_false_iff_ne.2 ha0,cond_false]
    obtain ⟨out,o1,o2,o3⟩:=do8_ok L N g.moves x a hm hx (by omega)
    rw [hge] at o1
    obtain ⟨r,r1,r2⟩:=any8_ok L N out (by omega) (by omega)
    rw [o1,Option.bind_some,r1,Option.bind_some]
    have hr:r=true↔∃t,StepX g.moves (Tr x) a t:=by
     rw [r2]
     exact ⟨fun ⟨t,ht⟩=>slip_some ((o3 t).1 ht),fun ⟨t,ht⟩=>⟨t,(o3 t).2 (.base t ht)⟩⟩
    cases hrr:r with
    |false=>
     rw [Bool.not_false,cond_true]
     exact ih n (by omega) (by omega) (next fun _ h=>by rw [hr.2 h] at hrr;cases hrr)
    |true=>
     rw [Bool.not_true,cond_false]
     unfold f69.j0'
     have hp8:=place_lt (a:=a) ⟨by omega,by omega⟩ ha0
     have hpl:=place_ok L N (a:=a) ⟨by omega,by omega⟩ ha0
     obtain ⟨b,b1,b2⟩:=failsS_ok L N g hok hg (by omega) (only8 a) (by unfold only8;simp) x hx
     have h8:(List.replicate (8:Int).toNat false).length=8:=by simp
     have hlt:decide (((place a:Nat):Int)<((List.replicate (8:Int).toNat false).length:Int))=true:=by rw [h8];exact dt (by omega)
     have hle8:decide ((8:Int)≤(lim:Int))=true:=dt (by omega)
     have h08:decide ((0:Int)≤8)=true:=rfl
     have hset:(List.replicate (8:Int).toNat false).set ((place a:Nat):Int).toNat true=only8 a:=rfl
     rw [h08,hle8,Bool.and_true,cond_true,hpl,Option.bind_some,le0,hlt,Bool.and_true,cond_true,hset,hge,b1,Option.bind_some]
     cases hbb:b with
     |true=>
      rw [cond_true]
      refine ⟨false,rfl,fun h=>(by cases h),fun h=>absurd (b2.1 hbb) (h a (by omega) (by omega) ha0 (hr.1 hrr))⟩
     |false=>
      rw [cond_false,hwi]
      exact ih n (by omega) (by omega) (next fun _ _ h=>by rw [b2.2 h] at hbb;cases hbb)
 exact key 9 L (by omega) (by omega) fun a h1 h2=>by omega
end Go.Proofs.YtffkhhblppfbfaaGreatDoor.Ev
namespace Go.Proofs.YtffkhhblppfbfaaGreatDoor.Ev
open Go
set_option linter.unusedVariables false
set_option linter.unusedSimpArgs false
theorem findI_put (x y:Int) (v:Bool):∀es:List (Int×Bool),mapFind i64 .bool x (mapPut i64 .bool y v es)=if y=x then some v else mapFind i64 .bool x es
 |[]=>by
  show (bif (x==y) then some v else none)=_
  by_cases e:y=x
  ·subst e;rw [beq_self_eq_true,cond_true,if_pos rfl]
  ·rw [beq_eq_false_iff_ne.2 (fun h=>e h.symm),cond_false,if_neg e];rfl
 |(k,u)::r=>by
  have ih:=findI_put x y v r
  by_cases e:y=k
  ·subst e
   have h1:mapPut i64 .bool y v ((y,u)::r)=(y,v)::r:=by
    show (bif (y==y) then (y,v)::r else _)=_
    rw [beq_self_eq_true,cond_true]
   rw [h1]
   show (bif (x==y) then some v else mapFind i64 .bool x r)=if y=x then some v else (bif (x==y) then some u else mapFind i64 .bool x r)
   by_cases e2:y=x
   ·subst e2;rw [beq_self_eq_true,cond_true,if_pos rfl]
   ·rw [beq_eq_false_iff_ne.2 (fun h=>e2 h.symm),cond_false,cond_false,if_neg e2]
  ·have h1:mapPut i64 .bool y v ((k,u)::r)=(k,u)::mapPut i64 .bool y v r:=by
    show (bif (y==k) then _ else (k,u)::mapPut i64 .bool y v r)=_
    rw [beq_eq_false_iff_ne.2 e,cond_false]
   rw [h1]
   show (bif (x==k) then some u else mapFind i64 .bool x (mapPut i64 .bool y v r))=if y=x then some v else (bif (x==k) then some u else mapFind i64 .bool x r)
   by_cases e2:x=k
   ·subst e2;rw [beq_self_eq_true,cond_true,cond_true,if_neg e]
   ·rw [beq_eq_false_iff_ne.2 e2,cond_false,cond_false,ih]
structure Met (ms:List (List Move)) (q:List Int) (es:List (Int×Bool)) (b:List Bool):Prop where
 es:∀v,mapFind i64 .bool v es=if v∈q then some true else none
 len:b.length=ms.length
 tr:∀t:Nat,Tr b t↔(t:Int)∈q
 rng:∀v∈q,0≤v∧v<(ms.length:Int)
 cnt:q.length=cnt b
theorem Met.short {ms:List (List Move)} {q:List Int} {es:List (Int×Bool)} {b:List Bool} (h:Met ms q es b):q.length≤ms.length:=by
 rw [h.cnt,←h.len];exact cnt_le b
theorem Met.add {ms:List (List Move)} {q:List Int} {es:List (Int×Bool)} {b:List Bool} (h:Met ms q es b) {t:Nat} (ht:t<ms.length) (hn:(t:Int)∉q):Met ms (q++[(t:Int)]) (mapPut i64 .bool (t:Int) true es) (b.set t true):=by
 have hl:=h.len
 have hf:b.getD t false=false:=by
  cases e:b.getD t false with
  |false=>rfl
  |true=>exact absurd ((h.tr t).1 e) hn
 refine ⟨fun v=>?_,by simpa using hl,fun u=>?_,fun v hv=>?_,?_⟩
 ·rw [findI_put,h.es v]
  by_cases e:(t:Int)=v
  ·rw [if_pos e,if_pos (by rw [←e];simp)]
  ·rw [if_neg e]
   by_cases hm:v∈q
   ·rw [if_pos hm,if_pos (List.mem_append_left _ hm)]
   ·rw [if_neg hm,if_neg (by simp [hm];exact fun h=>e h.symm)]
 ·rw [Tr_set (by omega),h.tr u,List.mem_append,List.mem_singleton]
  constructor
  ·rintro (rfl|h)
   ·exact .inr rfl
   ·exact .inl h
  ·rintro (h|h)
   ·exact .inr h
   ·exact .inl (by omega)
 ·rcases List.mem_append.1 hv with q'|q'
  ·exact h.rng v q'
  ·rw [List.mem_singleton.1 q'];omega
 ·rw [cnt_set b t (by omega) hf,List.length_append,h.cnt];rfl
theorem reach_eq (L N:Nat) (ms:List (List Move)) (hm:Leads ms) (h1:1≤ms.length) (hL:1048576<L):∃q,f94 L N ⟨ms⟩ 0=some q∧f99 L N ⟨ms⟩ 0=some q∧(∀v∈q,0≤v∧v<(ms.length:Int))∧q.length≤ms.length:=by
 have hlim:=lim_eq
 have hn:=hm.1
 have key:∀(d k:Nat) (q:List Int) (es:List (Int×Bool)) (b:List Bool),61≤k+d→k≤q.length→Met ms q es b→∀n1 n2,d≤n1→d≤n2→∃q',
   f94.l0 L N (fun z4=>f94.p0_e0 L N some z4) n1 (k:Int) ms q es=some q'∧f99.l0 L N (fun z4=>f99.p0_e0 L N some z4) n2 (k:Int) ms q b=some q'∧(∀v∈q',0≤v∧v<(ms.length:Int))∧q'.length≤ms.length:=by
  intro d
  induction d with
  |zero=>intro k q es b hd hk hM;have:=hM.short;omega
  |succ d ih=>
   intro k q es b hd hk hM n1 n2 hn1 hn2
   obtain ⟨n1,rfl⟩:∃n',n1=n'+1:=⟨n1-1,by omega⟩
   obtain ⟨n2,rfl⟩:∃n',n2=n'+1:=⟨n2-1,by omega⟩
   show ∃q',f94.s0 L N _ (f94.l0 L N _ n1) (k:Int) ms q es=some q'∧f99.s0 L N _ (f99.l0 L N _ n2) (k:Int) ms q b=some q'∧_
   unfold f94.s0 f94.s0' f99.s0 f99.s0'
   by_cases hlt:k<q.length
   ·obtain ⟨h0,hv⟩:=hM.rng _ (List.getElem_mem hlt)
    obtain ⟨s,hs⟩:=Int.eq_ofNat_of_zero_le h0
    have hsl:s<ms.length:=by omega
    have hrl:=(hm.2 s hsl).1
    have hk60:k≤60:=by have:=hM.short;omega
    have inner:∀(n j:Nat) (q:List Int) (es:List (Int×Bool)) (b:List Bool),j≤(ms[s]).length→(ms[s]).length-j<n→Met ms q es b→∃q' es' b',Met ms q' es' b'∧q.length≤q'.length∧
      f94.l1 L N (fun z12 z13 z14 z15=>f94.p1_e2 L N (fun z4=>f94.p0_e0 L N some z4) (f94.l0 L N (fun z4=>f94.p0_e0 L N some z4) n1) z12 z13 z14 z15) n (k:Int) ms[s] ((ms[s]).length:Int) (j:Int) ms q es=f94.l0 L N (fun z4=>f94.p0_e0 L N some z4) n1 ((k+1:Nat):Int) ms q' es'∧
      f99.l1 L N (fun z11 z12 z13 z14=>f99.p1_e2 L N (fun z4=>f99.p0_e0 L N some z4) (f99.l0 L N (fun z4=>f99.p0_e0 L N some z4) n2) z11 z12 z13 z14) n (k:Int) ms[s] (j:Int) ms q b=f99.l0 L N (fun z4=>f99.p0_e0 L N some z4) n2 ((k+1:Nat):Int) ms q' b':=by
     intro n
     induction n with
     |zero=>intro j q es b _ h;omega
     |succ n ih'=>
      intro j q es b hj hjn hM
      have hsh:=hM.short
      have hbl:=hM.len
      by_cases hjl:j<(ms[s]).length
      ·obtain ⟨t,ht,htl⟩:=hm.nat hsl hjl
       have htb:t<b.length:=by omega
       have hf:=hM.es (t:Int)
       have hle:decide (q.length+([(t:Int)]:List Int).length≤lim)=true:=dt (by simp only [List.length_cons,List.length_nil];omega)
       by_cases hmem:(t:Int)∈q
       ·have hb:b.getD t false=true:=(hM.tr t).2 hmem
        rw [if_pos hmem] at hf
        obtain ⟨q',es',b',m1,m2,e1,e2⟩:=ih' (j+1) q es b (by omega) (by omega) hM
        refine ⟨q',es',b',m1,m2,?_,?_⟩
        ·show f94.s1 L N _ (f94.l1 L N _ n) (k:Int) ms[s] ((ms[s]).length:Int) (j:Int) ms q es=_
         unfold f94.s1 f94.s1'
         simp only [lt_cast hjl,le0,cond_true,Bool.and_true,Int.toNat_natCast,at_lt hjl,ht,hf,Option.getD_some,Bool.not_true,cond_false]
         rw [wi_nat (by omega)];exact e1
        ·show f99.s1 L N _ (f99.l1 L N _ n) (k:Int) ms[s] (j:Int) ms q b=_
         unfold f99.s1 f99.s1'
         simp only [lt_cast hjl,le0,cond_true,Bool.and_true,Int.toNat_natCast,at_lt hjl,ht,lt_cast htb,atD,hb,Bool.not_true,cond_false]
         rw [wi_nat (by omega)];exact e2
       ·have hb:b.getD t false=false:=by
         cases e:b.getD t false with
         |false=>rfl
         |true=>exact absurd ((hM.tr t).1 e) hmem
        rw [if_neg hmem] at hf
        obtain ⟨q',es',b',m1,m2,e1,e2⟩:=ih' (j+1) _ _ _ (by omega) (by omega) (hM.add htl hmem)
        refine ⟨q',es',b',m1,by rw [List.length_append] at m2;omega,?_,?_⟩
        ·show f94.s1 L N _ (f94.l1 L N _ n) (k:Int) ms[s] ((ms[s]).length:Int) (j:Int) ms q es=_
         unfold f94.s1 f94.s1'
         have hdf:(Ty.dflt .bool:Bool)=false:=rfl
         simp only [lt_cast hjl,le0,cond_true,Bool.and_true,Int.toNat_natCast,at_lt hjl,ht,hf,Option.getD_none,hdf,Bool.not_false,hle]
         rw [wi_nat (by omega)];exact e1
        ·show f99.s1 L N _ (f99.l1 L N _ n) (k:Int) ms[s] (j:Int) ms q b=_
         unfold f99.s1 f99.s1'
         simp only [lt_cast hjl,le0,cond_true,Bool.and_true,Int.toNat_natCast,at_lt hjl,ht,lt_cast htb,atD,hb,Bool.not_false,hle]
         rw [wi_nat (by omega)];exact e2
      ·refine ⟨q,es,b,hM,Nat.le_refl _,?_,?_⟩
       ·show f94.s1 L N _ (f94.l1 L N _ n) (k:Int) ms[s] ((ms[s]).length:Int) (j:Int) ms q es=_
        unfold f94.s1 f94.s1'
        rw [ge_cast hjl,cond_false]
        show f94.p1_e2 L N _ _ (k:Int) ms q es=_
        unfold f94.p1_e2 f94.p1_e2'
        rw [wi_nat (by omega)]
       ·show f99.s1 L N _ (f99.l1 L N _ n) (k:Int) ms[s] (j:Int) ms q b=_
        unfold f99.s1 f99.s1'
        rw [ge_cast hjl,cond_false]
        show f99.p1_e2 L N _ _ (k:Int) ms q b=_
        unfold f99.p1_e2 f99.p1_e2'
        rw [wi_nat (by omega)]
    obtain ⟨q',es',b',m1,m2,e1,e2⟩:=inner L 0 q es b (by omega) (by omega) hM
    obtain ⟨q2,f1,f2,f3⟩:=ih (k+1) q' es' b' (by omega) (by omega) m1 n1 n2 (by omega) (by omega)
    simp only [lt_cast hlt,le0,cond_true,Bool.and_true,Int.toNat_natCast,at_lt hlt,hs,lt_cast hsl,at_lt hsl]
    exact ⟨q2,(show _=_ from e1).trans f1,(show _=_ from e2).trans f2,f3⟩
   ·simp only [ge_cast hlt,cond_false]
    exact ⟨q,rfl,rfl,hM.rng,hM.short⟩
 have h0:Met ms [0] (mapPut i64 .bool (0:Int) true []) ((List.replicate ms.length false).set 0 true):=by
  have hnil:Met ms [] [] (List.replicate ms.length false):=⟨fun v=>by rw [if_neg (by simp)];rfl,by simp,fun t=>⟨fun h=>absurd h (Tr_replicate _ _),fun h=>(by cases h)⟩,fun v h=>(by cases h),by rw [cnt_replicate];rfl⟩
  exact hnil.add (t:=0) (by omega) (by simp)
 obtain ⟨q',e1,e2,e3⟩:=key 61 0 [0] _ _ (by omega) (by simp) h0 L L (by omega) (by omega)
 refine ⟨q',e1,?_,e3⟩
 show f99.b L N some ⟨ms⟩ 0=_
 unfold f99.b f99.b'
 refine (bif_t2 (by omega) (by show (ms.length:Int)≤_;omega)).trans ?_
 refine (bif_t2 (by omega) (by simp only [List.length_replicate];show (0:Int)<((ms.length:Int).toNat:Int);omega)).trans ?_
 exact e2
end Go.Proofs.YtffkhhblppfbfaaGreatDoor.Ev
namespace Go.Proofs.YtffkhhblppfbfaaGreatDoor.Ev
open Go
set_option linter.unusedVariables false
set_option linter.unusedSimpArgs false
def hasT (row:List Move) (x:List Bool):Bool:=row.any fun m=>m.act==0&&x.getD m.to.toNat false
def lRound (ms:List (List Move)):Nat→Nat→Bool×List Bool→Bool×List Bool
 |0,_,st=>st
 |n+1,i,st=>lRound ms n (i+1) (if st.2.getD i false&&!hasT (ms.getD i []) st.2 then (true,st.2.set i false) else st)
theorem lRound_len (ms:List (List Move)):∀(n i:Nat) (st:Bool×List Bool),(lRound ms n i st).2.length=st.2.length
 |0,_,_=>rfl
 |n+1,i,st=>by
  unfold lRound
  rw [lRound_len ms n]
  split<;>simp
theorem contains_ok (L N:Nat) (row:List Move) (x:List Bool) (hL:row.length<L) (hl:row.length≤1048576) (hto:∀m∈row,0≤m.to∧m.to<(x.length:Int)):
  f66_1 L N row x=some (hasT row x):=by
 have one:∀m∈row,f114_1 L N m x=some (m.act==0&&x.getD m.to.toNat false):=fun m hm=>by
  obtain ⟨h0,h1⟩:=hto m hm
  obtain ⟨t,ht⟩:=Int.eq_ofNat_of_zero_le h0
  have htl:t<x.length:=by omega
  show f114_1.b' L N some m x=_
  unfold f114_1.b'
  cases ha:(m.act==0) with
  |false=>rfl
  |true=>simp only [cond_true,ht,le0,lt_cast htl,Bool.and_true,Int.toNat_natCast,atD,Bool.true_and]
 have key:∀(n i:Nat),i≤row.length→row.length-i<n→∃r:Int,f97_1.l0 L N (f97_1.p0_e0 L N some) (fun z5=>f97_1.p0_r L N some z5) n row x (row.length:Int) (i:Int)=some r∧decide (r≥0)=hasT (row.drop i) x:=by
  intro n
  induction n with
  |zero=>intro i _ h;omega
  |succ n ih=>
   intro i hi hn
   show ∃r,f97_1.s0 L N _ _ (f97_1.l0 L N _ _ n) row x (row.length:Int) (i:Int)=some r∧_
   unfold f97_1.s0 f97_1.s0'
   by_cases hlt:i<row.length
   ·rw [List.drop_eq_getElem_cons hlt]
    simp only [lt_cast hlt,le0,Bool.and_true,cond_true,Int.toNat_natCast,at_lt hlt,one _ (List.getElem_mem hlt),Option.bind_some]
    unfold hasT
    rw [List.any_cons]
    cases hc:((row[i]).act==0&&x.getD (row[i]).to.toNat false) with
    |true=>
     rw [cond_true,Bool.true_or]
     exact ⟨(i:Int),rfl,dt (by omega)⟩
    |false=>
     rw [cond_false,Bool.false_or,wi_nat (by omega)]
     exact ih (i+1) (by omega) (by omega)
   ·rw [ge_cast hlt,cond_false,List.drop_eq_nil_of_le (by omega)]
    exact ⟨-1,rfl,rfl⟩
 obtain ⟨r,e,hr⟩:=key L 0 (by omega) (by omega)
 have e':f97_1 L N row x=some r:=e
 show f66_1.b' L N some row x=_
 unfold f66_1.b'
 rw [e',Option.bind_some,hr,List.drop_zero]
theorem impl_round {R:Type} (L N:Nat) (hL:1048576<L) (K:Bool→List (List Move)→List Bool→Option R) (ms:List (List Move)) (hm:Leads ms):
  ∀(n i:Nat) (ch:Bool) (x:List Bool),x.length=ms.length→i≤ms.length→ms.length-i<n→
   f92.l2 L N K n ch (ms.length:Int) (i:Int) ms x=K (lRound ms (ms.length-i) i (ch,x)).1 ms (lRound ms (ms.length-i) i (ch,x)).2:=by
 have hn60:=hm.1
 intro n
 induction n with
 |zero=>intro i ch x _ _ h;omega
 |succ n ih=>
  intro i ch x hx hi hn
  show f92.s2 L N K (f92.l2 L N K n) ch (ms.length:Int) (i:Int) ms x=_
  unfold f92.s2 f92.s2'
  by_cases hlt:i<ms.length
  ·have hxl:i<x.length:=by omega
   have hrow:=hm.2 i hlt
   have hc:=contains_ok L N ms[i] x (by omega) hrow.1 (fun m hmm=>by
    obtain ⟨k,hk,rfl⟩:=List.mem_iff_getElem.1 hmm
    rw [hx];exact hrow.2 k hk)
   rw [show ms.length-i=(ms.length-(i+1))+1 by omega]
   unfold lRound
   simp only [lt_cast hlt,lt_cast hxl,le0,Bool.and_true,cond_true,Int.toNat_natCast,at_lt hlt,atD,hc,Option.bind_some,getD_lt hlt]
   unfold f92.j0'
   cases hb:x.getD i false with
   |false=>
    rw [cond_false,cond_false,wi_nat (by omega),ih (i+1) ch x hx (by omega) (by omega),Bool.false_and]
    rfl
   |true=>
    rw [cond_true,Bool.true_and]
    cases hh:hasT ms[i] x with
    |true=>
     rw [Bool.not_true,cond_false,wi_nat (by omega),ih (i+1) ch x hx (by omega) (by omega)]
     rfl
    |false=>
     simp only [Bool.not_false,cond_true,lt_cast hxl,le0,Bool.and_true,Int.toNat_natCast]
     rw [wi_nat (by omega),ih (i+1) true _ (by simp [hx]) (by omega) (by omega),if_pos trivial]
  ·rw [ge_cast hlt,cond_false,show ms.length-i=0 by omega]
   rfl
theorem spec_row {R:Type} (L N:Nat) (K:Bool→Int→Bool→List (List Move)→List Bool→Option R) (ms:List (List Move)) (hm:Leads ms) (ch:Bool) (i:Nat) (hi:i<ms.length) (x:List Bool) (hx:x.length=ms.length):
  ∀(n k:Nat) (b:Bool),k≤(ms[i]).length→(ms[i]).length-k<n→f98.l3 L N K n ch (i:Int) b (k:Int) ms x=K ch (i:Int) (b||hasT ((ms[i]).drop k) x) ms x:=by
 have hrow:=(hm.2 i hi).1
 intro n
 induction n with
 |zero=>intro k b _ h;omega
 |succ n ih=>
  intro k b hk hn
  show f98.s3 L N K (f98.l3 L N K n) ch (i:Int) b (k:Int) ms x=_
  unfold f98.s3 f98.s3'
  by_cases hlt:k<(ms[i]).length
  ·rw [List.drop_eq_getElem_cons hlt]
   obtain ⟨t,ht,htl⟩:=hm.nat hi hlt
   have htx:t<x.length:=by omega
   have hw:wi ((k:Int)+1)=((k+1:Nat):Int):=wi_nat (by omega)
   simp only [le0,lt_cast hi,Bool.and_true,cond_true,Int.toNat_natCast,at_lt hi,lt_cast hlt,at_lt hlt,ht,lt_cast htx,atD,hw]
   cases b with
   |true=>rw [cond_true,ih (k+1) true (by omega) (by omega),Bool.true_or,Bool.true_or]
   |false=>
    rw [cond_false]
    unfold hasT
    rw [List.any_cons,ht,Int.toNat_natCast]
    cases ha:((ms[i])[k].act==0) with
    |true=>rw [cond_true,ih (k+1) _ (by omega) (by omega),Bool.true_and,Bool.false_or];rfl
    |false=>rw [cond_false,ih (k+1) false (by omega) (by omega),Bool.false_and,Bool.false_or,Bool.false_or,Bool.false_or];rfl
  ·simp only [le0,lt_cast hi,Bool.and_true,cond_true,Int.toNat_natCast,at_lt hi,ge_cast hlt,cond_false]
   rw [List.drop_eq_nil_of_le (by omega)]
   unfold hasT
   rw [List.any_nil,Bool.or_false]
theorem spec_round {R:Type} (L N:Nat) (hL:1048576<L) (K:Bool→List (List Move)→List Bool→Option R) (ms:List (List Move)) (hm:Leads ms):
  ∀(n i:Nat) (ch:Bool) (x:List Bool),x.length=ms.length→i≤ms.length→ms.length-i<n→
   f98.l2 L N K n ch (i:Int) ms x=K (lRound ms (ms.length-i) i (ch,x)).1 ms (lRound ms (ms.length-i) i (ch,x)).2:=by
 have hn60:=hm.1
 intro n
 induction n with
 |zero=>intro i ch x _ _ h;omega
 |succ n ih=>
  intro i ch x hx hi hn
  show f98.s2 L N K (f98.l2 L N K n) ch (i:Int) ms x=_
  unfold f98.s2 f98.s2'
  by_cases hlt:i<ms.length
  ·have hxl:i<x.length:=by omega
   have hrow:=hm.2 i hlt
   rw [show ms.length-i=(ms.length-(i+1))+1 by omega]
   unfold lRound
   rw [lt_cast hxl,cond_true]
   refine (spec_row L N _ ms hm ch i hlt x hx L 0 false (by omega) (by omega)).trans ?_
   rw [Bool.false_or,List.drop_zero,getD_lt hlt]
   show f98.p3_e6' L N K _ ch (i:Int) (hasT ms[i] x) ms x=_
   unfold f98.p3_e6'
   simp only [lt_cast hxl,le0,Bool.and_true,cond_true,Int.toNat_natCast,atD]
   unfold f98.j0'
   cases hb:x.getD i false with
   |false=>
    rw [cond_false,cond_false,wi_nat (by omega),ih (i+1) ch x hx (by omega) (by omega),Bool.false_and]
    rfl
   |true=>
    rw [cond_true,Bool.true_and]
    cases hh:hasT ms[i] x with
    |true=>
     rw [Bool.not_true,cond_false,wi_nat (by omega),ih (i+1) ch x hx (by omega) (by omega)]
     rfl
    |false=>
     simp only [Bool.not_false,cond_true,lt_cast hxl,le0,Bool.and_true,Int.toNat_natCast]
     rw [wi_nat (by omega),ih (i+1) true _ (by simp [hx]) (by omega) (by omega),if_pos trivial]
  ·have hxl:¬i<x.length:=by omega
   rw [ge_cast hxl,cond_false,show ms.length-i=0 by omega]
   rfl
theorem getD_set_false (x:List Bool) (i t:Nat):(x.set i false).getD t false=if t=i then false else x.getD t false:=by
 by_cases h:t=i
 ·subst h
  rw [if_pos rfl]
  by_cases hl:t<x.length
  ·rw [getD_lt (by simpa using hl),List.getElem_set_self]
  ·rw [List.getD,List.getElem?_eq_none (by simp;omega)];rfl
 ·rw [if_neg h,List.getD,List.getElem?_set_ne (by omega),←List.getD]
theorem hasT_mono {row:List Move} {x:List Bool} {i:Nat} (h:hasT row (x.set i false)=true):hasT row x=true:=by
 unfold hasT at*
 rw [List.any_eq_true] at*
 obtain ⟨m,hm,hx⟩:=h
 refine ⟨m,hm,?_⟩
 rw [Bool.and_eq_true] at*
 refine ⟨hx.1,?_⟩
 have h2:=hx.2
 rw [getD_set_false] at h2
 split at h2
 ·cases h2
 ·exact h2
theorem cnt_unset:∀(l:List Bool) (j:Nat),l.getD j false=true→cnt (l.set j false)+1=cnt l
 |[],j,h=>by simp at h
 |b::l,0,h=>by
  have hb:b=true:=by simpa using h
  subst hb
  simp [cnt];omega
 |b::l,j+1,h=>by
  have ih:=cnt_unset l j (by simpa using h)
  simp only [List.set_cons_succ,cnt]
  omega
def LInv (ms:List (List Move)) (x:List Bool):Prop:=∀j,x.getD j false=false→hasT (ms.getD j []) x=false
def LStab (ms:List (List Move)) (x:List Bool):Prop:=∀j,j<ms.length→x.getD j false=true→hasT (ms.getD j []) x=true
theorem lRound_spec (ms:List (List Move)):∀(n i:Nat) (st:Bool×List Bool),LInv ms st.2→
  LInv ms (lRound ms n i st).2∧cnt (lRound ms n i st).2≤cnt st.2∧((lRound ms n i st).1=false→st.1=false∧(lRound ms n i st).2=st.2∧∀j,i≤j→j<i+n→st.2.getD j false=true→hasT (ms.getD j []) st.2=true)∧((lRound ms n i st).1=true→st.1=true∨cnt (lRound ms n i st).2<cnt st.2)
 |0,i,st,h=>⟨h,Nat.le_refl _,fun e=>⟨e,rfl,fun j h1 h2=>by omega⟩,fun e=>.inl e⟩
 |n+1,i,st,h=>by
  unfold lRound
  cases hc:(st.2.getD i false&&!hasT (ms.getD i []) st.2) with
  |true=>
   rw [if_pos rfl]
   rw [Bool.and_eq_true] at hc
   have h2:hasT (ms.getD i []) st.2=false:=by simpa using hc.2
   have hcnt:=cnt_unset st.2 i hc.1
   have hinv:LInv ms (st.2.set i false):=fun j hj=>by
    rw [getD_set_false] at hj
    cases hh:hasT (ms.getD j []) (st.2.set i false) with
    |false=>rfl
    |true=>
     have:=hasT_mono hh
     by_cases e:j=i
     ·subst e;rw [h2] at this;cases this
     ·rw [if_neg e] at hj;rw [h j hj] at this;cases this
   obtain ⟨a1,a2,a3,a4⟩:=lRound_spec ms n (i+1) (true,st.2.set i false) hinv
   refine ⟨a1,Nat.le_trans a2 (by show cnt (st.2.set i false)≤_;omega),(fun e=>by have:=(a3 e).1;cases this),fun _=>.inr ?_⟩
   have a2':cnt (lRound ms n (i+1) (true,st.2.set i false)).2≤cnt (st.2.set i false):=a2
   omega
  |false=>
   rw [if_neg (by simp)]
   obtain ⟨a1,a2,a3,a4⟩:=lRound_spec ms n (i+1) st h
   refine ⟨a1,a2,fun e=>?_,a4⟩
   obtain ⟨b1,b2,b3⟩:=a3 e
   refine ⟨b1,b2,fun j h1 h2 h3=>?_⟩
   by_cases e:j=i
   ·subst e
    rw [h3,Bool.true_and] at hc
    simpa using hc
   ·exact b3 j (by omega) (by omega) h3
theorem lfix (L N:Nat) (hL:1048576<L) (ms:List (List Move)) (hm:Leads ms) (K1 K2:List Bool→Option (List Bool)):
  ∀(n:Nat) (ch:Bool) (x:List Bool),x.length=ms.length→LInv ms x→(if ch then cnt x+1 else 0)<n→(ch=false→LStab ms x)→
   ∃x',x'.length=ms.length∧LInv ms x'∧LStab ms x'∧f92.l1 L N K1 n ch ms x=K1 x'∧f98.l1 L N K2 n ch ms x=K2 x':=by
 have hn60:=hm.1
 intro n
 induction n with
 |zero=>intro ch x _ _ h;omega
 |succ n ih=>
  intro ch x hx hinv hn hst
  cases ch with
  |false=>exact ⟨x,hx,hinv,hst rfl,rfl,rfl⟩
  |true=>
   rw [if_pos rfl] at hn
   have e1:f92.l1 L N K1 (n+1) true ms x=f92.l2 L N (fun z15 z16 z17=>f92.p2_e4 L N K1 (f92.l1 L N K1 n) z15 z16 z17) L false (x.length:Int) (0:Int) ms x:=rfl
   have e2:f98.l1 L N K2 (n+1) true ms x=f98.l2 L N (fun z13 z14 z15=>f98.p2_e4 L N K2 (f98.l1 L N K2 n) z13 z14 z15) L false (0:Int) ms x:=rfl
   have r1:=impl_round L N hL (fun z15 z16 z17=>f92.p2_e4 L N K1 (f92.l1 L N K1 n) z15 z16 z17) ms hm L 0 false x hx (by omega) (by omega)
   have r2:=spec_round L N hL (fun z13 z14 z15=>f98.p2_e4 L N K2 (f98.l1 L N K2 n) z13 z14 z15) ms hm L 0 false x hx (by omega) (by omega)
   obtain ⟨a1,a2,a3,a4⟩:=lRound_spec ms (ms.length-0) 0 (false,x) hinv
   have hlen:=lRound_len ms (ms.length-0) 0 (false,x)
   have e1':f92.l1 L N K1 (n+1) true ms x=f92.l1 L N K1 n (lRound ms (ms.length-0) 0 (false,x)).1 ms (lRound ms (ms.length-0) 0 (false,x)).2:=by rw [e1,hx];exact r1
   have e2':f98.l1 L N K2 (n+1) true ms x=f98.l1 L N K2 n (lRound ms (ms.length-0) 0 (false,x)).1 ms (lRound ms (ms.length-0) 0 (false,x)).2:=by rw [e2];exact r2
   rw [e1',e2']
   generalize hr:lRound ms (ms.length-0) 0 (false,x)=r at*
   obtain ⟨c,y⟩:=r
   have hlen':y.length=x.length:=hlen
   refine ih c y (by omega) a1 ?_ fun hc=>?_
   ·cases c with
    |false=>simp;omega
    |true=>
     rcases a4 rfl with h|h
     ·cases h
     ·have h':cnt y<cnt x:=h
      rw [if_pos rfl];omega
   ·obtain ⟨-,b2,b3⟩:=a3 hc
    have hy:y=x:=b2
    subst hy
    exact fun j hj hxj=>b3 j (by omega) (by omega) hxj
theorem loops_eq (L N:Nat) (hL:1048576<L) (ms:List (List Move)) (hm:Leads ms):∃x,f92 L N ⟨ms⟩=some x∧f98 L N ⟨ms⟩=some x∧x.length=ms.length∧LInv ms x∧LStab ms x:=by
 have hlim:=lim_eq
 have hn60:=hm.1
 have h0:decide ((ms.length:Int)≤(lim:Int))=true:=dt (by omega)
 have e0:((ms.length:Int)).toNat=ms.length:=rfl
 have fill1:∀{R:Type} (K:List (List Move)→List Bool→Option R) (n i:Nat) (x:List Bool),x.length=ms.length→i≤ms.length→ms.length-i<n→(∀j,j<i→x.getD j false=true)→
   ∃x',x'.length=ms.length∧(∀j,j<ms.length→x'.getD j false=true)∧f92.l0 L N K n (ms.length:Int) (i:Int) ms x=K ms x':=by
  intro R K n
  induction n with
  |zero=>intro i x _ _ h;omega
  |succ n ih=>
   intro i x hx hi hn hp
   show ∃x',_∧_∧f92.s0 L N K (f92.l0 L N K n) (ms.length:Int) (i:Int) ms x=_
   unfold f92.s0 f92.s0'
   by_cases hlt:i<ms.length
   ·have hxl:i<x.length:=by omega
    simp only [lt_cast hlt,lt_cast hxl,le0,Bool.and_true,cond_true,Int.toNat_natCast]
    rw [wi_nat (by omega)]
    refine ih (i+1) _ (by simp [hx]) (by omega) (by omega) fun j hj=>?_
    by_cases e:j=i
    ·subst e;rw [getD_lt (by simpa using hxl),List.getElem_set_self]
    ·rw [List.getD,List.getElem?_set_ne (by omega),←List.getD];exact hp j (by omega)
   ·rw [ge_cast hlt,cond_false]
    exact ⟨x,hx,fun j hj=>hp j (by omega),rfl⟩
 have fill2:∀{R:Type} (K:List (List Move)→List Bool→Option R) (n i:Nat) (x:List Bool),x.length=ms.length→i≤ms.length→ms.length-i<n→(∀j,j<i→x.getD j false=true)→
   ∃x',x'.length=ms.length∧(∀j,j<ms.length→x'.getD j false=true)∧f98.l0 L N K n (i:Int) ms x=K ms x':=by
  intro R K n
  induction n with
  |zero=>intro i x _ _ h;omega
  |succ n ih=>
   intro i x hx hi hn hp
   show ∃x',_∧_∧f98.s0 L N K (f98.l0 L N K n) (i:Int) ms x=_
   unfold f98.s0 f98.s0'
   by_cases hlt:i<x.length
   ·simp only [lt_cast hlt,le0,Bool.and_true,cond_true,Int.toNat_natCast]
    rw [wi_nat (by omega)]
    refine ih (i+1) _ (by simp [hx]) (by omega) (by omega) fun j hj=>?_
    by_cases e:j=i
    ·subst e;rw [getD_lt (by simpa using hlt),List.getElem_set_self]
    ·rw [List.getD,List.getElem?_set_ne (by omega),←List.getD];exact hp j (by omega)
   ·rw [ge_cast hlt,cond_false]
    exact ⟨x,hx,fun j hj=>hp j (by omega),rfl⟩
 obtain ⟨x1,a1,a2,a3⟩:=fill1 (fun z4 z5=>f92.p0_e0 L N some z4 z5) L 0 (List.replicate ms.length false) (by simp) (by omega) (by omega) (fun j h=>by omega)
 obtain ⟨x2,b1,b2,b3⟩:=fill2 (fun z3 z4=>f98.p0_e0 L N some z3 z4) L 0 (List.replicate ms.length false) (by simp) (by omega) (by omega) (fun j h=>by omega)
 have hxx:x1=x2:=List.ext_getElem (by omega) fun j h1 h2=>by
  have c1:=a2 j (by omega);have c2:=b2 j (by omega)
  rw [getD_lt h1] at c1;rw [getD_lt h2] at c2
  rw [c1,c2]
 subst hxx
 have hinv:LInv ms x1:=fun j hj=>by
  by_cases h:j<ms.length
  ·rw [a2 j h] at hj;cases hj
  ·rw [show ms.getD j []=[] by rw [List.getD,List.getElem?_eq_none (by omega)];rfl];rfl
 have hcl:=cnt_le x1
 obtain ⟨x,h1,h2,h3,h4,h5⟩:=lfix L N hL ms hm (fun z9=>f92.p1_e2 L N some z9) (fun z8=>f98.p1_e2 L N some z8) L true x1 a1 hinv (by rw [if_pos rfl];omega) (fun h=>by cases h)
 refine ⟨x,?_,?_,h1,h2,h3⟩
 ·show f92.b L N some ⟨ms⟩=_
  unfold f92.b f92.b'
  simp only [le0,h0,Bool.and_true,cond_true,e0,List.length_replicate]
  exact a3.trans h4
 ·show f98.b L N some ⟨ms⟩=_
  unfold f98.b f98.b'
  simp only [le0,h0,Bool.and_true,cond_true,e0]
  exact b3.trans h5
end Go.Proofs.YtffkhhblppfbfaaGreatDoor.Ev
namespace Go.Proofs.YtffkhhblppfbfaaGreatDoor.Ev
open Go
set_option linter.unusedVariables false
set_option linter.unusedSimpArgs false
theorem first8_ok (L N:Nat) (ms:List (List Move)) (hm:Leads ms) (h1:1≤ms.length) (hL:1048576<L):∃b,f59 L N ⟨ms⟩=some b∧b.length=ms.length∧∀t,Tr b t↔Slip ms (fun x=>x=0) t:=by
 have hlim:=lim_eq
 have hn:=hm.1
 obtain ⟨b0,c1,c2,c3⟩:=slip2_ok L N ms ((List.replicate ms.length false).set 0 true) hm (by simp) (by omega)
 refine ⟨b0,?_,c2,fun t=>(c3 t).trans (Slip.iff (fun t=>?_) t)⟩
 ·show f59.b L N some ⟨ms⟩=_
  unfold f59.b f59.b'
  refine (bif_t2 (by omega) (by show (ms.length:Int)≤_;omega)).trans ?_
  refine (bif_t2 (by omega) (by simp only [List.length_replicate];show (0:Int)<((ms.length:Int).toNat:Int);omega)).trans ?_
  show ((f89 L N ⟨ms⟩ ((List.replicate ms.length false).set 0 true)).bind fun y=>some y)=_
  rw [c1];rfl
 ·rw [Tr_set (by simp;omega)]
  exact ⟨fun h=>h.resolve_right (Tr_replicate _ _),.inl⟩
def GoodRows (L N:Nat) (ms:List (List Move)) (S:List (List Int)) (rows:List (List Move)):Prop:=
 ∀(j:Nat) (hj:j<rows.length),∃ac:List Int,Rises ac∧(∀a,a∈ac↔a≠0∧aftA L N ms (S.getD j []) a≠[])∧(∀a∈ac,-4≤a∧a≤4)∧(∀a∈ac,aftA L N ms (S.getD j []) a∈S)∧rows[j]=ac.map fun a=>⟨a,((S.idxOf (aftA L N ms (S.getD j []) a):Nat):Int)⟩
theorem GoodRows.grow {L N:Nat} {ms:List (List Move)} {S T:List (List Int)} {rows:List (List Move)} (h:GoodRows L N ms S rows) (hl:rows.length≤S.length):GoodRows L N ms (S++T) rows:=fun j hj=>by
 obtain ⟨ac,h1,h2,h3,h4,h5⟩:=h j hj
 have e:(S++T).getD j []=S.getD j []:=by
  rw [List.getD_eq_getElem?_getD,List.getD_eq_getElem?_getD,List.getElem?_append_left (by omega)]
 rw [←e] at h2 h4 h5
 refine ⟨ac,h1,h2,h3,fun a ha=>List.mem_append_left _ (h4 a ha),?_⟩
 rw [h5]
 exact List.map_congr_left fun a ha=>by rw [idx_pre (h4 a ha)]
theorem sure_loop (L N:Nat) (ms:List (List Move)) (hm:Leads ms) (hact:∀(i:Nat) (hi:i<ms.length),∀m∈ms[i],-4≤m.act∧m.act≤4) (hL:8589934592≤L):
  ∀(d k:Nat) (S:List (List Int)) (es:List (ByteArray×Int)) (rows:List (List Move)),S.length≤60→61≤k+d→k≤S.length→Places S es→(∀x∈S,Fits ms x)→rows.length=k→(∀r∈rows,r.length≤540)→GoodRows L N ms S rows→(∀x∈S,x≠[])→
   ∀n1,d≤n1→∃(res:List (List Move)) (ok:Bool),
    f49_1.l0 L N (fun z7 z8=>f49_1.p0_e0 L N (fun a0 a1=>some (a0,a1)) z7 z8) (fun z10 z11 z12=>f49_1.p0_r L N (fun a0 a1=>some (a0,a1)) z10 z11 z12) n1 ms (k:Int) S es [] rows=some (res,ok)∧
    res.length≤60∧(∀r∈res,r.length≤540)∧(ok=true→∃T,res.length=(S++T).length∧GoodRows L N ms (S++T) res∧(∀x∈S++T,Fits ms x)∧∀x∈S++T,x≠[]):=by
 have hlim:=lim_eq
 intro d
 induction d with
 |zero=>intro k S es rows hS hd hk;omega
 |succ d ih=>
  intro k S es rows hS hd hk hp hfit hrl hr540 hgood hsne n1 hn1
  obtain ⟨n1,rfl⟩:∃n',n1=n'+1:=⟨n1-1,by omega⟩
  show ∃res ok,f49_1.s0 L N (fun z7 z8=>f49_1.p0_e0 L N (fun a0 a1=>some (a0,a1)) z7 z8) (fun z10 z11 z12=>f49_1.p0_r L N (fun a0 a1=>some (a0,a1)) z10 z11 z12) (f49_1.l0 L N (fun z7 z8=>f49_1.p0_e0 L N (fun a0 a1=>some (a0,a1)) z7 z8) (fun z10 z11 z12=>f49_1.p0_r L N (fun a0 a1=>some (a0,a1)) z10 z11 z12) n1) ms (k:Int) S es [] rows=some (res,ok)∧_
  unfold f49_1.s0 f49_1.s0'
  by_cases hlt:k<S.length
  ·have hq:=hfit _ (List.getElem_mem hlt)
   obtain ⟨ac,m1,m2,m3,m4,m5⟩:=moves1_ok L N ms hm hact hL S[k] hq
   have hv:∀a,(aftA L N ms S[k] a).length≤60∧∀v∈aftA L N ms S[k] a,0≤v∧v<60:=fun a=>Fits.key hm (aftA_ok L N ms hm hL S[k] hq a).2.fits
   simp only [lt_cast hlt,le0,Bool.and_true,cond_true,Int.toNat_natCast,at_lt hlt,m1,Option.bind_some,Bool.not_true,cond_false]
   have hI:=inI L N ms hm hL (fun z24 z25 z26 z27 z28 z29 z30=>f49_1.p1_e2 L N (fun z7 z8=>f49_1.p0_e0 L N (fun a0 a1=>some (a0,a1)) z7 z8) (fun z10 z11 z12=>f49_1.p0_r L N (fun a0 a1=>some (a0,a1)) z10 z11 z12) (f49_1.l0 L N (fun z7 z8=>f49_1.p0_e0 L N (fun a0 a1=>some (a0,a1)) z7 z8) (fun z10 z11 z12=>f49_1.p0_r L N (fun a0 a1=>some (a0,a1)) z10 z11 z12) n1) z24 z25 z26 z27 z28 z29 z30) (fun z32 z33 z34 z35 z36 z37 z38 z39=>f49_1.p1_r L N (fun z7 z8=>f49_1.p0_e0 L N (fun a0 a1=>some (a0,a1)) z7 z8) (fun z10 z11 z12=>f49_1.p0_r L N (fun a0 a1=>some (a0,a1)) z10 z11 z12) (f49_1.l0 L N (fun z7 z8=>f49_1.p0_e0 L N (fun a0 a1=>some (a0,a1)) z7 z8) (fun z10 z11 z12=>f49_1.p0_r L N (fun a0 a1=>some (a0,a1)) z10 z11 z12) n1) z32 z33 z34 z35 z36 z37 z38 z39)
    (k:Int) ac m3 (aftA L N ms S[k]) hv [] rows L 0 S es [] (by omega) (by omega) hp hS (by simp)
   rw [List.drop_zero] at hI
   cases hst:stepA (aftA L N ms S[k]) ac S [] with
   |none=>
    rw [hst] at hI
    obtain ⟨S1,es1,M1,i1⟩:=hI
    exact ⟨[],false,(show _=_ from i1).trans rfl,by simp,by simp,fun h=>by cases h⟩
   |some p=>
    obtain ⟨S',M'⟩:=p
    rw [hst] at hI
    obtain ⟨es',p1,i1⟩:=hI
    obtain ⟨⟨T,g1⟩,g2,g3,g4,g5⟩:=stepA_grow _ ac S [] S' M' hst
    rw [List.map_nil,List.nil_append] at g2
    have hrm:RisesM M':=rises_risesM (by rw [g2];exact m2)
    have hml:M'.length≤540:=risesM_len hrm fun m hmm=>by
     have h1:=m5 m.act (by rw [←g2];exact List.mem_map_of_mem hmm)
     have h2:=g4 hS (fun m h=>by cases h) m hmm
     omega
    have hS':=g3 hS
    obtain ⟨x1,x2⟩:=stepA_idx _ ac S [] S' M' hst
    have hgood':GoodRows L N ms S' (rows++[M']):=by
     intro j hj
     by_cases hjk:j<rows.length
     ·rw [List.getElem_append_left hjk,g1]
      exact hgood.grow (by omega) j hjk
     ·have hjk:j=rows.length:=by simp at hj;omega
      subst hjk
      have hSk:S'.getD rows.length []=S[k]:=by
       rw [g1,List.getD_eq_getElem?_getD,List.getElem?_append_left (by omega),hrl,List.getElem?_eq_getElem hlt];rfl
      refine ⟨ac,m2,fun a=>?_,m5,fun a ha=>?_,?_⟩
      ·rw [hSk];exact m4 a
      ·rw [hSk];exact x1 a ha
      ·rw [List.getElem_append_right (Nat.le_refl _),hSk]
       simp only [Nat.sub_self,List.getElem_cons_zero]
       rw [x2,List.nil_append]
    have hsne':∀x∈S',x≠[]:=fun x hx=>by
     rcases g5 x hx with h|⟨a,ha,rfl⟩
     ·exact hsne x h
     ·exact ((m4 a).1 ha).2
    have hle:decide (rows.length+([M']:List (List Move)).length≤lim)=true:=dt (by simp only [List.length_cons,List.length_nil];omega)
    obtain ⟨res,ok,j1,j3,j4,j5⟩:=ih (k+1) S' es' (rows++[M']) hS' (by omega) (by rw [g1,List.length_append];omega) p1 (fun x hx=>by
     rcases g5 x hx with h|⟨a,-,rfl⟩
     ·exact hfit x h
     ·exact (aftA_ok L N ms hm hL S[k] hq a).2.fits) (by simp;omega) (fun r hr=>by
     rcases List.mem_append.1 hr with h|h
     ·exact hr540 r h
     ·obtain rfl:=List.mem_singleton.1 h;exact hml) hgood' hsne' n1 (by omega)
    refine ⟨res,ok,(show _=_ from i1).trans ?_,j3,j4,fun hok=>?_⟩
    rotate_left 1
    ·obtain ⟨U,u1,u2,u3,u4⟩:=j5 hok
     rw [g1,List.append_assoc] at u1 u2 u3 u4
     exact ⟨T++U,u1,u2,u3,u4⟩
    ·show f49_1.p1_e2 L N _ _ _ ms (k:Int) S' es' M' [] rows=_
     unfold f49_1.p1_e2 f49_1.p1_e2' fsortM
     rw [dt (show M'.length≤lim by omega),cond_true,Option.bind_some,tidyM_self hrm,hle,cond_true,wi_nat (by omega)]
     exact j1
  ·rw [ge_cast hlt,cond_false]
   exact ⟨rows,true,rfl,by omega,hr540,fun _=>⟨[],by rw [List.append_nil];omega,by rw [List.append_nil];exact hgood,by rw [List.append_nil];exact hfit,by rw [List.append_nil];exact hsne⟩⟩
abbrev sgOut (rows:List (List Move)):List (List Move):=rows
theorem sureGraph_eq (L N:Nat) (g:Graph) (hg:g.moves.length+gsize g.moves≤1048576) (hL:8589934592≤L):
  ∃(rows:List (List Move)) (ok:Bool),f20 L N g=some (sgOut rows,ok)∧rows.length+gsize rows≤1048576∧rows.length≤60∧(∀r∈rows,r.length≤540)∧(ok=true→graphOk g=true∧∃S:List (List Int),rows.length=S.length∧1≤S.length∧GoodRows L N g.moves S rows∧(∀x∈S,Fits g.moves x)∧(∀x∈S,x≠[])∧Row g.moves (S.getD 0 []) (Slip g.moves fun x=>x=0)):=by
 have hlim:=lim_eq
 have hge:Graph.mk g.moves=g:=by cases g;rfl
 have h1:=gok1_ok L N g (by omega) hg
 cases hok:graphOk g with
 |false=>
  refine ⟨[],false,?_,by simp [gsize],by simp,by simp,fun h=>by cases h⟩
  ·show f20.b' L N (fun a0 a1=>some (a0,a1)) g=_
   unfold f20.b'
   rw [hge,h1,Option.bind_some,hok,Bool.not_false,cond_true]
 |true=>
  have hm:=leads_of hok hg
  obtain ⟨hn1,hn2,hmv⟩:=graphOk_mv hok
  have hact:∀(i:Nat) (hi:i<g.moves.length),∀m∈g.moves[i],-4≤m.act∧m.act≤4:=fun i hi m hm'=>by
   obtain ⟨k,hk,rfl⟩:=List.mem_iff_getElem.1 hm'
   have:=hmv i hi k hk
   exact ⟨this.1,this.2.1⟩
  obtain ⟨q,b1,b2⟩:=behI L N g.moves [] hm hn1 (by simp) (by omega)
  rw [hge] at b1
  have hqf:=b2.fits
  have hkey:=Fits.key hm hqf
  have hk0:=setKey_ok L N q hkey.1 hkey.2 (by omega)
  have hqne:q≠[]:=List.ne_nil_of_length_pos (b2.some.2 ⟨0,.base 0 rfl⟩)
  obtain ⟨res,ok,e1,e3,e4,e5⟩:=sure_loop L N g.moves hm hact hL 61 0 [q] (mapPut .str i64 (keyB q) (0:Int) []) [] (by simp) (by omega) (by simp)
   (by have:=Places.nil.add (y:=q) hkey.2 (by simp);exact this) (fun x hx=>by obtain rfl:=List.mem_singleton.1 hx;exact hqf) rfl (fun r hr=>by cases hr) (fun j hj=>by simp at hj) (fun x hx=>by obtain rfl:=List.mem_singleton.1 hx;exact hqne) L (by omega)
  have hgs:=gsize_le e4
  refine ⟨res,ok,?_,by omega,e3,e4,fun hok'=>?_⟩
  rotate_left 1
  ·obtain ⟨T,t1,t2,t3,t4⟩:=e5 hok'
   exact ⟨(by trivial),[q]++T,t1,by simp,t2,t3,t4,b2⟩
  ·show f20.b' L N (fun a0 a1=>some (a0,a1)) g=_
   unfold f20.b'
   have hb:f49_1 L N q g.moves=some (res,ok):=by
    show f49_1.b L N (fun a0 a1=>some (a0,a1)) q g.moves=_
    unfold f49_1.b f49_1.b'
    rw [hk0,Option.bind_some]
    exact e1
   rw [hge,h1,Option.bind_some,hok,Bool.not_true,cond_false,b1,Option.bind_some,hb,Option.bind_some]
end Go.Proofs.YtffkhhblppfbfaaGreatDoor.Ev
namespace Go.Proofs.YtffkhhblppfbfaaGreatDoor.Ev
open Go
set_option linter.unusedVariables false
set_option linter.unusedSimpArgs false
theorem place_inj {a b:Int} (ha:-4≤a∧a≤4) (hb:-4≤b∧b≤4) (a0:a≠0) (b0:b≠0) (h:place a=place b):a=b:=by
 unfold place at h
 split at h<;>split at h<;>omega
theorem only8_getD (a:Int) (h:-4≤a∧a≤4) (h0:a≠0) (k:Nat):(only8 a).getD k false=decide (k=place a):=by
 unfold only8
 have hp:=place_lt h h0
 by_cases e:k=place a
 ·subst e
  rw [List.getD_eq_getElem?_getD,List.getElem?_set_self (by simpa using hp),decide_eq_true rfl];rfl
 ·rw [List.getD_eq_getElem?_getD,List.getElem?_set_ne (fun h=>e h.symm),decide_eq_false e,List.getElem?_replicate]
  split<;>rfl
theorem refR_only {row:List Move} (hrow:∀m∈row,-4≤m.act∧m.act≤4) {a:Int} (h:-4≤a∧a≤4) (h0:a≠0):refR row (only8 a)=(calmR row&&!row.any fun m=>m.act==a):=by
 apply Bool.eq_iff_iff.2
 rw [refR_iff,Bool.and_eq_true,Bool.not_eq_true',List.any_eq_false]
 unfold calmR
 rw [List.all_eq_true]
 constructor
 ·rintro ⟨h1,h2⟩
  refine ⟨fun m hm=>by have:=h1 m hm;simpa using this,fun m hm e=>?_⟩
  have:=h2 m hm
  rw [only8_getD a h h0] at this
  have e':m.act=a:=by simpa using e
  rw [e',decide_eq_true rfl] at this
  cases this
 ·rintro ⟨h1,h2⟩
  have h3:∀m∈row,m.act≠0:=fun m hm=>by have:=h1 m hm;simpa using this
  refine ⟨h3,fun m hm=>?_⟩
  rw [only8_getD a h h0]
  refine decide_eq_false fun e=>h2 m hm ?_
  have:=place_inj (hrow m hm) h (h3 m hm) h0 e
  simpa using this
section
variable (L N : Nat)
theorem sure_ask (g:Graph) (hok:graphOk g=true) (hg:g.moves.length+gsize g.moves≤1048576) {q:List Int} (hq:Fits g.moves q) {x:List Bool} (hxq:listB x=q) {ac:List Int} (hac:∀a,a∈ac↔a≠0∧∃t,StepX g.moves (fun t=>(t:Int)∈q) a t):
  (∀a,-4≤a→a≤4→a≠0→(∃t,StepX g.moves (Tr x) a t)→¬∃t,Tr x t∧∃h:t<g.moves.length,refR g.moves[t] (only8 a)=true)↔(ac.any fun a=>q.any (lacksR g.moves a))=false:=by
 obtain ⟨hn1,hn2,hmv⟩:=graphOk_mv hok
 have hact:∀(i:Nat) (hi:i<g.moves.length),∀m∈g.moves[i],-4≤m.act∧m.act≤4:=fun i hi m hm'=>by
  obtain ⟨k,hk,rfl⟩:=List.mem_iff_getElem.1 hm'
  have:=hmv i hi k hk
  exact ⟨this.1,this.2.1⟩
 have hx:∀t,Tr x t↔(t:Int)∈q:=fun t=>by
  rw [←hxq,listB_mem]
  exact ⟨fun h=>⟨t,rfl,h⟩,fun ⟨u,e,h⟩=>(show u=t by omega)▸h⟩
 have hl:∀(a:Int) (t:Nat) (ht:t<g.moves.length),lacksR g.moves a (t:Int)=(calmR g.moves[t]&&!(g.moves[t]).any fun m=>m.act==a):=fun a t ht=>by
  unfold lacksR;rw [Int.toNat_natCast,getD_lt ht]
 have h4:∀a t,StepX g.moves (fun t=>(t:Int)∈q) a t→-4≤a∧a≤4:=fun a t ⟨s,_,hs,k,hk,e,_⟩=>by rw [←e];exact hact s hs _ (List.getElem_mem hk)
 rw [List.any_eq_false]
 constructor
 ·intro h a ha hany
  obtain ⟨h0,t,ht⟩:=(hac a).1 ha
  obtain ⟨v,hv,hlk⟩:=List.any_eq_true.1 hany
  have hr:=hq.2.1 v hv
  obtain ⟨s,rfl⟩:=Int.eq_ofNat_of_zero_le hr.1
  have hsl:s<g.moves.length:=by omega
  have ha4:=h4 a t ht
  rw [hl a s hsl,←refR_only (hact s hsl) ha4 h0] at hlk
  exact h a ha4.1 ha4.2 h0 ⟨t,(StepX.iff hx a t).2 ht⟩ ⟨s,(hx s).2 hv,hsl,hlk⟩
 ·intro h a h1 h2 h0 ⟨t,ht⟩ ⟨s,hs,hsl,hr⟩
  refine h a ((hac a).2 ⟨h0,t,(StepX.iff hx a t).1 ht⟩) (List.any_eq_true.2 ⟨(s:Int),(hx s).1 hs,?_⟩)
  rw [hl a s hsl,←refR_only (hact s hsl) ⟨h1,h2⟩ h0];exact hr
theorem stepB_mem {A:Int→List Int}:∀(ac:List Int) (S:List (List Int)) (x:List Int),x∈stepB A ac S→x∈S∨∃a∈ac,x=A a
 |[],S,x,h=>.inl h
 |a::ac,S,x,h=>by
  unfold stepB at h
  rcases stepB_mem ac _ x h with h|⟨b,hb,e⟩
  ·by_cases hm:A a∈S
   ·rw [if_pos hm] at h;exact .inl h
   ·rw [if_neg hm] at h
    rcases List.mem_append.1 h with h|h
    ·exact .inl h
    ·exact .inr ⟨a,.head _,List.mem_singleton.1 h⟩
  ·exact .inr ⟨b,.tail _ hb,e⟩
theorem stepB_len {A:Int→List Int}:∀(ac:List Int) (S:List (List Int)),S.length≤(stepB A ac S).length
 |[],S=>Nat.le_refl _
 |a::ac,S=>by
  unfold stepB
  have:=stepB_len (A:=A) ac (if A a∈S then S else S++[A a])
  by_cases hm:A a∈S
  ·rw [if_pos hm] at this⊢;exact this
  ·rw [if_neg hm] at this⊢;rw [List.length_append] at this;omega
theorem fail_loop (P:List Int→Prop) (g:Graph) (hok:graphOk g=true) (hg:g.moves.length+gsize g.moves≤1048576) (hL:8589934592≤L) (hP:∀q a,Fits g.moves q→P q→P (aftA L N g.moves q a)):
  ∀(d k:Nat) (ds:List Duo) (es:List (ByteArray×Bool)) (sets:List (List Bool)),k≤400→401≤k+d→k≤ds.length→Seen (ds.map Duo.a) es→ds.map Duo.b=ds.map Duo.a→(∀e∈ds,e.w.length≤k)→(∀x∈ds.map Duo.a,Fits g.moves x)→(∀x∈ds.map Duo.a,P x)→sets.map listB=ds.map Duo.a→(∀s∈sets,s.length=g.moves.length)→
   ∀n1 n2,d≤n1→d≤n2→∃(o v:Bool),
    f55_1.l0 L N (fun z12=>f55_1.p0_e0 L N (fun a0 a1=>some (a0,a1)) z12) (fun z13 z14=>f55_1.p0_r L N (fun a0 a1=>some (a0,a1)) z13 z14) n1 (-1) g.moves (k:Int) false g.moves g.moves ds es=some (o,v)∧
    f27.l0 L N (f27.p0_e0 L N (fun a0 a1=>some (a0,a1))) (fun z9 z10=>f27.p0_r L N (fun a0 a1=>some (a0,a1)) z9 z10) n2 (k:Int) g.moves sets=some (o&&!v,o)∧
    ((∀q,Fits g.moves q→P q→∀a,(∃t,StepX g.moves (fun t=>(t:Int)∈q) a t)→q.any (lacksR g.moves a)=false)→v=false):=by
 have hlim:=lim_eq
 have hm:=leads_of hok hg
 obtain ⟨hn1,hn2,hmv⟩:=graphOk_mv hok
 have hact:∀(i:Nat) (hi:i<g.moves.length),∀m∈g.moves[i],-4≤m.act∧m.act≤4:=fun i hi m hm'=>by
  obtain ⟨k,hk,rfl⟩:=List.mem_iff_getElem.1 hm'
  have:=hmv i hi k hk
  exact ⟨this.1,this.2.1⟩
 have hge:Graph.mk g.moves=g:=by cases g;rfl
 intro d
 induction d with
 |zero=>intro k ds es sets hk hd;omega
 |succ d ih=>
  intro k ds es sets hk4 hd hk hsn hab hwl hfit hPP hsets hsl n1 n2 hn1' hn2'
  obtain ⟨n1,rfl⟩:∃n',n1=n'+1:=⟨n1-1,by omega⟩
  obtain ⟨n2,rfl⟩:∃n',n2=n'+1:=⟨n2-1,by omega⟩
  have hsl2:sets.length=ds.length:=by have:=congrArg List.length hsets;simpa using this
  show ∃o v,f55_1.s0 L N (fun z12=>f55_1.p0_e0 L N (fun a0 a1=>some (a0,a1)) z12) (fun z13 z14=>f55_1.p0_r L N (fun a0 a1=>some (a0,a1)) z13 z14) (f55_1.l0 L N (fun z12=>f55_1.p0_e0 L N (fun a0 a1=>some (a0,a1)) z12) (fun z13 z14=>f55_1.p0_r L N (fun a0 a1=>some (a0,a1)) z13 z14) n1) (-1) g.moves (k:Int) false g.moves g.moves ds es=some (o,v)∧
    f27.s0 L N (f27.p0_e0 L N (fun a0 a1=>some (a0,a1))) (fun z9 z10=>f27.p0_r L N (fun a0 a1=>some (a0,a1)) z9 z10) (f27.l0 L N (f27.p0_e0 L N (fun a0 a1=>some (a0,a1))) (fun z9 z10=>f27.p0_r L N (fun a0 a1=>some (a0,a1)) z9 z10) n2) (k:Int) g.moves sets=some (o&&!v,o)∧_
  unfold f55_1.s0 f55_1.s0' f27.s0 f27.s0'
  by_cases hlt:k<ds.length
  ·have hlt2:k<sets.length:=by omega
   by_cases h400:ds.length>400
   ·simp only [lt_cast hlt,lt_cast hlt2,le0,Bool.and_true,cond_true]
    rw [dt (show (ds.length:Int)>400 by omega),dt (show (sets.length:Int)>400 by omega),cond_true,cond_true]
    exact ⟨false,false,rfl,rfl,fun _=>rfl⟩
   ·have hd1:decide ((ds.length:Int)>400)=false:=df (by omega)
    have hd2:decide ((sets.length:Int)>400)=false:=df (by omega)
    have hq:Fits g.moves (ds[k]).a:=hfit _ (List.mem_map_of_mem (List.getElem_mem hlt))
    have hbk:(ds[k]).b=(ds[k]).a:=by
     have:=congrArg (fun l=>l[k]?) hab
     simpa [hlt] using this
    have hsk:listB sets[k]=(ds[k]).a:=by
     have:=congrArg (fun l=>l[k]?) hsets
     simpa [hlt,hlt2] using this
    have hwk:=hwl _ (List.getElem_mem hlt)
    obtain ⟨ac,e1,e2,e3,e4,e5⟩:=failSure1_ok L N g.moves hm hL false (ds[k]).a (ds[k]).b (ds[k]).w hq
    obtain ⟨b,s1,s2⟩:=l9Sure_ok L N g hok hg hL sets[k] (hsl _ (List.getElem_mem hlt2))
    rw [Bool.false_or] at e5
    have hask:=sure_ask g hok hg hq hsk e4
    have hv:(ac.any fun a=>(ds[k]).a.any (lacksR g.moves a))=!b:=by
     cases hb:b with
     |true=>exact hask.1 (s2.1 hb)
     |false=>
      cases hany:(ac.any fun a=>(ds[k]).a.any (lacksR g.moves a)) with
      |true=>rfl
      |false=>rw [s2.2 (hask.2 hany)] at hb;cases hb
    rw [hv] at e5
    have hlist:listAt ds (Ty.dflt (.st 4)) k=ds[k]:=at_lt hlt
    have hwm:(((ds[k]).w.length:Int)==-1)=false:=beq_eq_false_iff_ne.2 (by omega)
    simp only [lt_cast hlt,lt_cast hlt2,le0,Bool.and_true,cond_true,hd1,hd2,cond_false,Int.toNat_natCast,hlist,e5,Option.bind_some,at_lt hlt2,hge,s1,hwm]
    cases hb:b with
    |false=>
     simp only [Bool.not_false,cond_true]
     refine ⟨true,true,rfl,rfl,fun hno=>?_⟩
     have hPk:=hPP _ (List.mem_map_of_mem (List.getElem_mem hlt))
     have:(ac.any fun a=>(ds[k]).a.any (lacksR g.moves a))=false:=List.any_eq_false.2 fun a ha=>by
      rw [hno _ hq hPk a ((e4 a).1 ha).2];simp
     rw [this,hb] at hv;cases hv
    |true=>
     simp only [Bool.not_true,cond_false]
     rw [hge] at e1
     rw [e1,Option.bind_some]
     have hne:∀a∈ac,aftA L N g.moves (ds[k]).a a≠[]:=fun a ha=>(aftA_some L N g.moves hm hL _ hq a).2 ((e4 a).1 ha).2
     have h4:∀a∈ac,-4≤a∧a≤4:=fun a ha=>by
      obtain ⟨-,t,s,-,hs,k',hk',e,-⟩:=(e4 a).1 ha
      rw [←e];exact hact s hs _ (List.getElem_mem hk')
     obtain ⟨ds',es',i1,i2,i3,i4,i5⟩:=inD L N g.moves hm hL (fun z31 z32 z33 z34 z35 z36 z37 z38=>f55_1.p1_e2 L N (fun z12=>f55_1.p0_e0 L N (fun a0 a1=>some (a0,a1)) z12) (fun z13 z14=>f55_1.p0_r L N (fun a0 a1=>some (a0,a1)) z13 z14) (f55_1.l0 L N (fun z12=>f55_1.p0_e0 L N (fun a0 a1=>some (a0,a1)) z12) (fun z13 z14=>f55_1.p0_r L N (fun a0 a1=>some (a0,a1)) z13 z14) n1) z31 z32 z33 z34 z35 z36 z37 z38) (fun z43 z44 z45 z46 z47 z48 z49 z50 z51=>f55_1.p1_r L N (fun z12=>f55_1.p0_e0 L N (fun a0 a1=>some (a0,a1)) z12) (fun z13 z14=>f55_1.p0_r L N (fun a0 a1=>some (a0,a1)) z13 z14) (f55_1.l0 L N (fun z12=>f55_1.p0_e0 L N (fun a0 a1=>some (a0,a1)) z12) (fun z13 z14=>f55_1.p0_r L N (fun a0 a1=>some (a0,a1)) z13 z14) n1) z43 z44 z45 z46 z47 z48 z49 z50 z51)
      (k:Int) false (ds[k]).a (ds[k]).w (k+1) (by omega) (by omega) hq ac e3 hne L 0 ds es (by omega) (by omega) hsn hab (fun e he=>by have:=hwl e he;omega) (by omega)
     obtain ⟨sets',j1,j2,j3⟩:=inF L N g.moves hm hL (fun z16 z17 z18=>f27.p1_e2 L N (f27.p0_e0 L N (fun a0 a1=>some (a0,a1))) (fun z9 z10=>f27.p0_r L N (fun a0 a1=>some (a0,a1)) z9 z10) (f27.l0 L N (f27.p0_e0 L N (fun a0 a1=>some (a0,a1))) (fun z9 z10=>f27.p0_r L N (fun a0 a1=>some (a0,a1)) z9 z10) n2) z16 z17 z18)
      k (ds[k]).a hq ac e2 (fun a=>(e4 a).trans (and_congr Iff.rfl (aftA_some L N g.moves hm hL _ hq a).symm)) h4 9 L sets (by omega) (by omega) (by rw [List.getElem?_map,List.getElem?_eq_getElem hlt2,Option.map_some,hsk]) hsl (by omega)
     have hall:(ac.filter fun b=>decide ((5:Int)-((9:Nat):Int)≤b))=ac:=by
      rw [List.filter_eq_self]
      intro b hb
      have:=h4 b hb
      simp only [decide_eq_true_eq];omega
     have h94:(5:Int)-((9:Nat):Int)=-4:=by omega
     rw [hall,hsets] at j1
     rw [h94] at j3
     rw [List.drop_zero] at i2
     have hfit':∀x∈ds'.map Duo.a,Fits g.moves x:=fun x hx=>by
      rw [i2] at hx
      rcases stepB_mem ac _ x hx with h|⟨a,-,rfl⟩
      ·exact hfit x h
      ·exact (aftA_ok L N g.moves hm hL _ hq a).2.fits
     have hPP':∀x∈ds'.map Duo.a,P x:=fun x hx=>by
      rw [i2] at hx
      rcases stepB_mem ac _ x hx with h|⟨a,-,rfl⟩
      ·exact hPP x h
      ·exact hP _ a hq (hPP _ (List.mem_map_of_mem (List.getElem_mem hlt)))
     have hgrow:ds.length≤ds'.length:=by
      have h1:=stepB_len (A:=aftA L N g.moves (ds[k]).a) ac (ds.map Duo.a)
      rw [←i2,List.length_map,List.length_map] at h1;exact h1
     obtain ⟨o,v,f1,f2,f3⟩:=ih (k+1) ds' es' sets' (by omega) (by omega) (by omega) i4 i3 (fun e he=>by have:=i5 e he;omega) hfit' hPP' (by rw [j1,i2]) j2 n1 n2 (by omega) (by omega)
     refine ⟨o,v,?_,?_,f3⟩
     ·rw [hbk]
      refine (show _=_ from i1).trans ?_
      show f55_1.p1_e2 L N _ _ _ (-1) g.moves (k:Int) false g.moves g.moves ds' es'=_
      unfold f55_1.p1_e2 f55_1.p1_e2'
      rw [wi_nat (by omega)]
      exact f1
     ·refine (show _=_ from j3).trans ?_
      show f27.p1_e2 L N _ _ _ (k:Int) g.moves sets'=_
      unfold f27.p1_e2 f27.p1_e2'
      rw [wi_nat (by omega)]
      exact f2
  ·have hlt2:¬k<sets.length:=by omega
   rw [ge_cast hlt,cond_false,ge_cast hlt2,cond_false]
   exact ⟨true,false,rfl,rfl,fun _=>rfl⟩
end
end Go.Proofs.YtffkhhblppfbfaaGreatDoor.Ev
namespace Go.Proofs.YtffkhhblppfbfaaGreatDoor.Ev
open Go
set_option linter.unusedVariables false
set_option linter.unusedSimpArgs false
theorem hasEnd_ok (L N:Nat) (q:List Int) (x:List Bool) (hL:q.length<L) (hl:q.length≤1048576) (hr:∀v∈q,0≤v∧v<(x.length:Int)):f93_1 L N q x=some (q.any fun s=>x.getD s.toNat false):=by
 have one:∀v∈q,f95_1 L N v x=some (x.getD v.toNat false):=fun v hv=>by
  obtain ⟨h0,h1⟩:=hr v hv
  obtain ⟨t,rfl⟩:=Int.eq_ofNat_of_zero_le h0
  have htl:t<x.length:=by omega
  show f95_1.b' L N some (t:Int) x=_
  unfold f95_1.b'
  simp only [le0,lt_cast htl,Bool.and_true,cond_true,Int.toNat_natCast,atD]
 have key:∀(n i:Nat),i≤q.length→q.length-i<n→∃r:Int,f115_1.l0 L N (f115_1.p0_e0 L N some) (fun z5=>f115_1.p0_r L N some z5) n q x (q.length:Int) (i:Int)=some r∧decide (r≥0)=(q.drop i).any fun s=>x.getD s.toNat false:=by
  intro n
  induction n with
  |zero=>intro i _ h;omega
  |succ n ih=>
   intro i hi hn
   show ∃r:Int,f115_1.s0 L N _ _ (f115_1.l0 L N _ _ n) q x (q.length:Int) (i:Int)=some r∧_
   unfold f115_1.s0 f115_1.s0'
   by_cases hlt:i<q.length
   ·simp only [lt_cast hlt,le0,cond_true,Bool.and_true,Int.toNat_natCast,at_lt hlt,one _ (List.getElem_mem hlt),Option.bind_some]
    rw [List.drop_eq_getElem_cons hlt,List.any_cons]
    cases hb:x.getD (q[i]).toNat false with
    |true=>rw [cond_true];exact ⟨(i:Int),rfl,by rw [Bool.true_or];exact dt (by omega)⟩
    |false=>rw [cond_false,Bool.false_or,wi_nat (by omega)];exact ih (i+1) (by omega) (by omega)
   ·rw [ge_cast hlt,cond_false,List.drop_eq_nil_of_le (by omega)]
    exact ⟨-1,rfl,rfl⟩
 obtain ⟨r,h1,h2⟩:=key L 0 (by omega) (by omega)
 rw [List.drop_zero] at h2
 have h3:f115_1 L N q x=some r:=h1
 show f93_1.b' L N some q x=_
 unfold f93_1.b'
 rw [h3,Option.bind_some,h2]
theorem calm_eq (L N:Nat) (g:Graph) (hok:graphOk g=true) (hg:g.moves.length+gsize g.moves≤1048576) (hL:1048576<L):∃e,f63 L N g=some e∧f68 L N g=some (!e):=by
 have hm:=leads_of hok hg
 have hn:=hm.1
 obtain ⟨hn1,-,-⟩:=graphOk_mv hok
 have hge:Graph.mk g.moves=g:=by cases g;rfl
 obtain ⟨x,l1,l2,l3,-,-⟩:=loops_eq L N hL g.moves hm
 obtain ⟨q,q1,q2,q3,q4⟩:=reach_eq L N g.moves hm hn1 hL
 rw [hge] at l1 l2 q1 q2
 have hr:∀v∈q,0≤v∧v<(x.length:Int):=fun v hv=>by have:=q3 v hv;omega
 refine ⟨q.any fun s=>x.getD s.toNat false,?_,?_⟩
 ·show f63.b' L N some g=_
  unfold f63.b'
  rw [hge,l1,Option.bind_some,q1,Option.bind_some,hasEnd_ok L N q x (by omega) (by omega) hr];rfl
 ·show f68.b L N some g=_
  unfold f68.b f68.b'
  rw [hge,l2,Option.bind_some,q2,Option.bind_some]
  have key:∀(n i:Nat),i≤q.length→q.length-i<n→f68.l0 L N (f68.p0_e0 L N some) (fun z5=>f68.p0_r L N some z5) n x q (i:Int)=some (!(q.drop i).any fun s=>x.getD s.toNat false):=by
   intro n
   induction n with
   |zero=>intro i _ h;omega
   |succ n ih=>
    intro i hi hn
    show f68.s0 L N _ _ (f68.l0 L N _ _ n) x q (i:Int)=_
    unfold f68.s0 f68.s0'
    by_cases hlt:i<q.length
    ·obtain ⟨h0,h1⟩:=hr _ (List.getElem_mem hlt)
     obtain ⟨t,ht⟩:=Int.eq_ofNat_of_zero_le h0
     have htl:t<x.length:=by omega
     simp only [lt_cast hlt,le0,cond_true,Bool.and_true,Int.toNat_natCast,at_lt hlt,ht,lt_cast htl,atD]
     rw [List.drop_eq_getElem_cons hlt,List.any_cons,ht,Int.toNat_natCast]
     cases hb:x.getD t false with
     |true=>rw [cond_true,Bool.true_or];rfl
     |false=>rw [cond_false,Bool.false_or,wi_nat (by omega)];exact ih (i+1) (by omega) (by omega)
    ·rw [ge_cast hlt,cond_false,List.drop_eq_nil_of_le (by omega)];rfl
  exact key L 0 (by omega) (by omega)
theorem failSure_eq (P:List Int→Prop) (L N:Nat) (g:Graph) (hg:g.moves.length+gsize g.moves≤1048576) (hL:8589934592≤L) (hP:graphOk g=true→∀q a,Fits g.moves q→P q→P (aftA L N g.moves q a)) (hP0:graphOk g=true→∀q,Row g.moves q (Slip g.moves fun x=>x=0)→P q):
  ∃a b,f26 L N g=some (a,b)∧f27 L N g=some (a,b)∧((graphOk g=true→∀q,Fits g.moves q→P q→∀a,(∃t,StepX g.moves (fun t=>(t:Int)∈q) a t)→q.any (lacksR g.moves a)=false)→b=true→a=true):=by
 have hge:Graph.mk g.moves=g:=by cases g;rfl
 have h1:=gok1_ok L N g (by omega) hg
 have h2:=gok2_ok L N g (by omega) hg
 show ∃a b,f26.b L N (fun a0 a1=>some (a0,a1)) g=some (a,b)∧f27.b L N (fun a0 a1=>some (a0,a1)) g=some (a,b)∧_
 unfold f26.b f26.b' f27.b f27.b'
 rw [hge,h1,h2,Option.bind_some,Option.bind_some]
 cases hok:graphOk g with
 |false=>exact ⟨false,false,rfl,rfl,fun _ h=>by cases h⟩
 |true=>
  rw [Bool.not_true,cond_false,cond_false]
  obtain ⟨e,c1,c2⟩:=calm_eq L N g hok hg (by omega)
  rw [c1,c2,Option.bind_some,Option.bind_some,Bool.not_not]
  cases e with
  |true=>exact ⟨false,false,rfl,rfl,fun _ h=>by cases h⟩
  |false=>
   rw [cond_false,cond_false]
   have hm:=leads_of hok hg
   obtain ⟨hn1,-,-⟩:=graphOk_mv hok
   obtain ⟨q,b1,b2⟩:=behI L N g.moves [] hm hn1 (by simp) (by omega)
   obtain ⟨b,f1,f2,f3⟩:=first8_ok L N g.moves hm hn1 (by omega)
   rw [hge] at b1 f1
   have hqb:listB b=q:=Row.uniq (X:=Slip g.moves fun x=>x=0) (listB_row f2 f3) b2
   have hqf:=b2.fits
   have hkey:=Fits.key hm hqf
   have hk0:=setKey_ok L N q hkey.1 hkey.2 (by omega)
   have hksz:=keyB_size hkey.1
   obtain ⟨o,v,r1,r2,r3⟩:=fail_loop L N P g hok hg hL (hP hok) 401 0 [Duo.mk q q []] (mapPut .str .bool (keyD q) true []) [b] (by omega) (by omega) (by simp)
    (by have:=Seen.nil.add (y:=q) hkey.2;simpa using this) rfl (fun e he=>by obtain rfl:=List.mem_singleton.1 he;simp) (fun x hx=>by
     have:x=q:=by simpa using hx
     rw [this];exact hqf) (fun x hx=>by
     have:x=q:=by simpa using hx
     rw [this];exact hP0 hok q b2) (by simp [hqb]) (fun s hs=>by obtain rfl:=List.mem_singleton.1 hs;exact f2) L L (by omega) (by omega)
   have hl2:decide ((keyB q).size+(keyB q).size≤4611686018427387904)=true:=dt (by omega)
   have hd:f55_1 L N false ⟨g.moves⟩ ⟨g.moves⟩ (-1) g.moves=some (o,v):=by
    show f55_1.b L N (fun a0 a1=>some (a0,a1)) false ⟨g.moves⟩ ⟨g.moves⟩ (-1) g.moves=_
    unfold f55_1.b f55_1.b'
    rw [hge,b1]
    simp only [Option.bind_some]
    have hz:(decide ((0:Int)≤0)&&decide ((0:Int)<(([Duo.mk q q []]:List Duo).length:Int)))=true:=rfl
    have hla:listAt [Duo.mk q q []] (Ty.dflt (.st 4)) (0:Int).toNat=Duo.mk q q []:=rfl
    rw [hz,cond_true,hla,hk0,Option.bind_some,cond_true,Option.bind_some,hl2,cond_true]
    exact r1
   unfold f26.j0' f27.j1'
   rw [hd,hge,f1,Option.bind_some,Option.bind_some]
   have r2':f27.l0 L N (f27.p0_e0 L N (fun a0 a1=>some (a0,a1))) (fun z9 z10=>f27.p0_r L N (fun a0 a1=>some (a0,a1)) z9 z10) L (0:Int) g.moves [b]=some (o&&!v,o):=r2
   dsimp only
   rw [r2']
   cases o with
   |false=>exact ⟨false,false,rfl,rfl,fun _ h=>by cases h⟩
   |true=>exact ⟨!v,true,rfl,rfl,fun hno _=>by rw [r3 (hno (by trivial))];rfl⟩
end Go.Proofs.YtffkhhblppfbfaaGreatDoor.Ev
namespace Go.Proofs.YtffkhhblppfbfaaGreatDoor.Ev
open Go
set_option linter.unusedVariables false
set_option linter.unusedSimpArgs false
structure SureOf (ms rows:List (List Move)) (S:Nat→Nat→Prop):Prop where
 pos:1≤rows.length
 first:∀t,S 0 t↔Slip ms (fun x=>x=0) t
 some:∀j,j<rows.length→∃t,S j t
 calm:∀j a k,Mv rows j a k→a≠0
 to:∀j a k,Mv rows j a k→k<rows.length∧∀t,S k t↔Slip ms (StepX ms (S j) a) t
 all:∀j,j<rows.length→∀a,a≠0→(∃t,StepX ms (S j) a t)→∃k,Mv rows j a k
 one:∀j a k k',Mv rows j a k→Mv rows j a k'→k=k'
theorem SureOf.slip {ms rows:List (List Move)} {S:Nat→Nat→Prop} (h:SureOf ms rows S) {X:Nat→Prop} {t:Nat}:Slip rows X t↔X t:=by
 constructor
 ·intro hs
  refine slip_ind (P:=X) (fun t hx=>hx) (fun s t _ hmv=>absurd rfl (h.calm s 0 t hmv)) hs
 ·exact fun hx=>.base t hx
theorem beh_empty {ms:List (List Move)}:∀{w:List Int} {X:Nat→Prop},(∀t,¬X t)→∀t,¬Beh ms X w t
 |[],X,h,t,ht=>h t ht
 |a::w,X,h,t,ht=>by
  refine beh_empty (w:=w) (fun u hu=>?_) t ht
  obtain ⟨v,s,hs,-⟩:=slip_some hu
  exact h s hs
theorem SureOf.beh {ms rows:List (List Move)} {S:Nat→Nat→Prop} (h:SureOf ms rows S):∀(w:List Int),(∀a∈w,a≠0)→∀j,j<rows.length→
  (∃k,k<rows.length∧(∀u,Beh rows (fun x=>x=j) w u↔u=k)∧∀t,Beh ms (S j) w t↔S k t)∨((∀u,¬Beh rows (fun x=>x=j) w u)∧∀t,¬Beh ms (S j) w t)
 |[],_,j,hj=>.inl ⟨j,hj,fun u=>Iff.rfl,fun t=>Iff.rfl⟩
 |a::w,hw,j,hj=>by
  have ha:=hw a (.head _)
  by_cases hk:∃k,Mv rows j a k
  ·obtain ⟨k,hmv⟩:=hk
   obtain ⟨hkl,hS⟩:=h.to j a k hmv
   have e1:∀u,Slip rows (StepX rows (fun x=>x=j) a) u↔u=k:=fun u=>by
    rw [h.slip]
    constructor
    ·rintro ⟨s,rfl,hm⟩;exact h.one _ a u k hm hmv
    ·rintro rfl;exact ⟨j,rfl,hmv⟩
   have e2:∀t,Slip ms (StepX ms (S j) a) t↔S k t:=fun t=>(hS t).symm
   rcases h.beh w (fun b hb=>hw b (.tail _ hb)) k hkl with ⟨l,h1,h2,h3⟩|⟨h1,h2⟩
   ·exact .inl ⟨l,h1,fun u=>(Beh.congr e1 u).trans (h2 u),fun t=>(Beh.congr e2 t).trans (h3 t)⟩
   ·exact .inr ⟨fun u hu=>h1 u ((Beh.congr e1 u).1 hu),fun t ht=>h2 t ((Beh.congr e2 t).1 ht)⟩
  ·refine .inr ⟨beh_empty (w:=w) fun u hu=>?_,beh_empty (w:=w) fun u hu=>?_⟩
   ·obtain ⟨s,rfl,hm⟩:=h.slip.1 hu
    exact hk ⟨u,hm⟩
   ·obtain ⟨v,hv⟩:=slip_some hu
    exact hk (h.all j hj a ha ⟨v,hv⟩)
theorem SureOf.words {ms rows:List (List Move)} {S:Nat→Nat→Prop} (h:SureOf ms rows S) (w:List Int) (hw:∀a∈w,a≠0):
  (∃k,k<rows.length∧(∀u,Beh rows (Slip rows fun x=>x=0) w u↔u=k)∧∀t,Beh ms (Slip ms fun x=>x=0) w t↔S k t)∨((∀u,¬Beh rows (Slip rows fun x=>x=0) w u)∧∀t,¬Beh ms (Slip ms fun x=>x=0) w t):=by
 have e1:∀u,Slip rows (fun x=>x=0) u↔u=0:=fun u=>h.slip
 have e2:∀t,Slip ms (fun x=>x=0) t↔S 0 t:=fun t=>(h.first t).symm
 rcases h.beh w hw 0 h.pos with ⟨l,h1,h2,h3⟩|⟨h1,h2⟩
 ·exact .inl ⟨l,h1,fun u=>(Beh.congr e1 u).trans (h2 u),fun t=>(Beh.congr e2 t).trans (h3 t)⟩
 ·exact .inr ⟨fun u hu=>h1 u ((Beh.congr e1 u).1 hu),fun t ht=>h2 t ((Beh.congr e2 t).1 ht)⟩
theorem SureOf.same {ms rows:List (List Move)} {S:Nat→Nat→Prop} (h:SureOf ms rows S) (w:List Int) (hw:∀a∈w,a≠0):(∃t,Beh ms (Slip ms fun x=>x=0) w t)↔∃u,Beh rows (Slip rows fun x=>x=0) w u:=by
 rcases h.words w hw with ⟨k,h1,h2,h3⟩|⟨h1,h2⟩
 ·obtain ⟨t,ht⟩:=h.some k h1
  exact ⟨fun _=>⟨k,(h2 k).2 rfl⟩,fun _=>⟨t,(h3 t).2 ht⟩⟩
 ·exact ⟨fun ⟨t,ht⟩=>absurd ht (h2 t),fun ⟨u,hu⟩=>absurd hu (h1 u)⟩
end Go.Proofs.YtffkhhblppfbfaaGreatDoor.Ev
namespace Go.Proofs.YtffkhhblppfbfaaGreatDoor.Ev
open Go
set_option linter.unusedVariables false
set_option linter.unusedSimpArgs false
structure SureIn (L N:Nat) (ms:List (List Move)) (S:List (List Int)) (rows:List (List Move)):Prop where
 len:rows.length=S.length
 pos:1≤S.length
 good:GoodRows L N ms S rows
 fits:∀x∈S,Fits ms x
 ne:∀x∈S,x≠[]
 first:Row ms (S.getD 0 []) (Slip ms fun x=>x=0)
theorem SureIn.mem {L N:Nat} {ms:List (List Move)} {S:List (List Int)} {rows:List (List Move)} (h:SureIn L N ms S rows) {j:Nat} (hj:j<rows.length):S.getD j []∈S:=by
 have hl:=h.len
 have:j<S.length:=by omega
 rw [getD_lt this];exact List.getElem_mem this
theorem SureIn.act {L N:Nat} {ms:List (List Move)} {S:List (List Int)} {rows:List (List Move)} (h:SureIn L N ms S rows) {j:Nat} (hj:j<rows.length) {m:Move} (hm:m∈rows[j]):
  m.act≠0∧-4≤m.act∧m.act≤4∧aftA L N ms (S.getD j []) m.act∈S∧m.to=((S.idxOf (aftA L N ms (S.getD j []) m.act):Nat):Int):=by
 obtain ⟨ac,h1,h2,h3,h4,h5⟩:=h.good j hj
 rw [h5] at hm
 obtain ⟨a,ha,rfl⟩:=List.mem_map.1 hm
 exact ⟨((h2 a).1 ha).1,(h3 a ha).1,(h3 a ha).2,h4 a ha,rfl⟩
theorem SureIn.rises {L N:Nat} {ms:List (List Move)} {S:List (List Int)} {rows:List (List Move)} (h:SureIn L N ms S rows) {j:Nat} (hj:j<rows.length):Rises ((rows[j]).map Move.act):=by
 obtain ⟨ac,h1,h2,h3,h4,h5⟩:=h.good j hj
 rw [h5,List.map_map]
 have:(Move.act∘fun a=>(⟨a,((S.idxOf (aftA L N ms (S.getD j []) a):Nat):Int)⟩:Move))=id:=rfl
 rw [this,List.map_id];exact h1
theorem SureIn.graph {L N:Nat} {ms:List (List Move)} {S:List (List Int)} {rows:List (List Move)} (h:SureIn L N ms S rows) (h60:rows.length≤60):graphOk ⟨rows⟩=true:=by
 have hl:=h.len
 have hp:=h.pos
 refine graphOk_mk (by omega) h60 fun i hi=>⟨rises_risesM (h.rises hi),fun m hm=>?_⟩
 obtain ⟨-,a1,a2,a3,a4⟩:=h.act hi hm
 have:=List.idxOf_lt_length_of_mem a3
 unfold mvOk
 rw [dt ⟨a1,a2⟩,dt (show 0≤m.to∧m.to<(rows.length:Int) by omega)];rfl
theorem SureIn.of {L N:Nat} {ms:List (List Move)} (hm:Leads ms) (hL:8589934592≤L) {S:List (List Int)} {rows:List (List Move)} (h:SureIn L N ms S rows):SureOf ms rows fun j t=>(t:Int)∈S.getD j []:=by
 have hl:=h.len
 have hp:=h.pos
 have key:∀j a k,Mv rows j a k→∃hj:j<rows.length,a≠0∧aftA L N ms (S.getD j []) a∈S∧k=S.idxOf (aftA L N ms (S.getD j []) a):=fun j a k ⟨hj,i,hi,e1,e2⟩=>by
  obtain ⟨a0,-,-,a3,a4⟩:=h.act hj (List.getElem_mem hi)
  rw [e1] at a0 a3 a4
  rw [e2] at a4
  exact ⟨hj,a0,a3,by omega⟩
 refine ⟨by omega,fun t=>h.first.2.2.1 t,fun j hj=>?_,fun j a k hmv=>(key j a k hmv).2.1,fun j a k hmv=>?_,fun j hj a ha ⟨t,ht⟩=>?_,fun j a k k' h1 h2=>by rw [(key j a k h1).2.2.2,(key j a k' h2).2.2.2]⟩
 ·have hmem:=h.mem hj
  obtain ⟨v,hv⟩:=List.exists_mem_of_ne_nil _ (h.ne _ hmem)
  obtain ⟨t,rfl⟩:=Int.eq_ofNat_of_zero_le ((h.fits _ hmem).2.1 v hv).1
  exact ⟨t,hv⟩
 ·obtain ⟨hj,a0,a3,a4⟩:=key j a k hmv
  have hk:=List.idxOf_lt_length_of_mem a3
  rw [←a4] at hk
  have hSk:S.getD k []=aftA L N ms (S.getD j []) a:=by
   rw [getD_lt hk]
   have:=List.getElem_idxOf (x:=aftA L N ms (S.getD j []) a) (xs:=S) (by rw [←a4];exact hk)
   simpa only [←a4] using this
  refine ⟨by omega,fun t=>?_⟩
  show (t:Int)∈S.getD k []↔_
  rw [hSk]
  exact (aftA_ok L N ms hm hL _ (h.fits _ (h.mem hj)) a).2.2.2.1 t
 ·obtain ⟨ac,h1,h2,h3,h4,h5⟩:=h.good j hj
  have hin:a∈ac:=(h2 a).2 ⟨ha,(aftA_some L N ms hm hL _ (h.fits _ (h.mem hj)) a).2 ⟨t,ht⟩⟩
  have hin2:(⟨a,((S.idxOf (aftA L N ms (S.getD j []) a):Nat):Int)⟩:Move)∈rows[j]:=by rw [h5];exact List.mem_map_of_mem hin
  obtain ⟨i,hi,e⟩:=List.mem_iff_getElem.1 hin2
  exact ⟨_,hj,i,hi,by rw [e],by rw [e]⟩
theorem sureGraph_in (L N:Nat) (g:Graph) (hg:g.moves.length+gsize g.moves≤1048576) (hL:8589934592≤L):
  ∃(rows:List (List Move)) (ok:Bool),f20 L N g=some (sgOut rows,ok)∧rows.length+gsize rows≤1048576∧rows.length≤60∧(∀r∈rows,r.length≤540)∧
   (ok=true→graphOk g=true∧graphOk ⟨rows⟩=true∧∃S,SureIn L N g.moves S rows∧SureOf g.moves rows fun j t=>(t:Int)∈S.getD j []):=by
 obtain ⟨rows,ok,h2,h3,h4,h5,h6⟩:=sureGraph_eq L N g hg hL
 refine ⟨rows,ok,h2,h3,h4,h5,fun hok=>?_⟩
 obtain ⟨g1,S,s1,s2,s3,s4,s5,s6⟩:=h6 hok
 have hin:SureIn L N g.moves S rows:=⟨s1,s2,s3,s4,s5,s6⟩
 exact ⟨g1,hin.graph h4,S,hin,hin.of (leads_of g1 hg) hL⟩
end Go.Proofs.YtffkhhblppfbfaaGreatDoor.Ev
namespace Go.Proofs.YtffkhhblppfbfaaGreatDoor.Ev
open Go
set_option linter.unusedVariables false
set_option linter.unusedSimpArgs false
theorem one_sure {rows:List (List Move)} (L N:Nat) (q:List Int) (hq:Fits rows q) (h1:q.length≤1) (a:Int) (h:∃t,StepX rows (fun t=>(t:Int)∈q) a t):q.any (lacksR rows a)=false:=by
 obtain ⟨t,s,hs,hsl,k,hk,e,-⟩:=h
 rw [List.any_eq_false]
 intro v hv
 have hvs:v=(s:Int):=by
  match q,h1,hv,hs with
  |[x],_,hv,hs=>
   rw [List.mem_singleton] at hv hs
   rw [hv,hs]
  |[],_,hv,_=>cases hv
  |_::_::_,h1,_,_=>simp at h1
 subst hvs
 unfold lacksR
 rw [Int.toNat_natCast,getD_lt hsl]
 have hany:((rows[s]).any fun m=>m.act==a)=true:=List.any_eq_true.2 ⟨_,List.getElem_mem hk,by rw [e];simp⟩
 rw [hany,Bool.not_true,Bool.and_false];simp
theorem lawFailSure (x0:List Int) (hx0:DatOk (.sl (.int .u8)) x0):∃L N,f5 L N x0=some true:=by
 generalize hLL:8589934592=L
 refine ⟨L,1000,?_⟩
 have hlim:=lim_eq
 obtain ⟨c,o1,o2⟩:=open_ok L 1000 hx0
 obtain ⟨g,p',d1,-,-,d2⟩:=graph_draw L 1000 (by omega) (by omega) o2 (p:=0) (by omega) (by omega)
 have hge:∀g:Graph,Graph.mk g.moves=g:=fun g=>by cases g;rfl
 have hd:f25 L 1000 x0=some g:=by
  show f25.b' L 1000 some x0=_
  unfold f25.b'
  rw [o1]
  simp only [Option.bind_some,d1,hge]
 have hsz:=d2.size
 obtain ⟨a,b,e1,e2,-⟩:=failSure_eq (fun _=>True) L 1000 g hsz (by omega) (fun _ _ _ _ _=>trivial) (fun _ _ _=>trivial)
 obtain ⟨rows,ok,s2,s3,s4,s5,s6⟩:=sureGraph_in L 1000 g hsz (by omega)
 show f5.b' L 1000 some x0=_
 unfold f5.b'
 by_cases hl:(x0.length:Int)>1048576
 ·rw [dt hl,cond_true]
 ·rw [df hl,cond_false,hd]
  simp only [Option.bind_some,hge,e1,e2,beq_self_eq_true,Bool.not_true,cond_false]
  unfold f5.j0'
  have hge2:Graph.mk (Graph.mk rows).moves=⟨rows⟩:=rfl
  cases ok with
  |false=>
   obtain ⟨a2,b2,f1,-,-⟩:=failSure_eq (fun _=>True) L 1000 ⟨rows⟩ s3 (by omega) (fun _ _ _ _ _=>trivial) (fun _ _ _=>trivial)
   simp only [hge,s2,Option.bind_some,f1,Bool.not_false,cond_true]
  |true=>
   obtain ⟨-,g2,S,hin,hof⟩:=s6 rfl
   have hm2:=leads_of g2 s3
   obtain ⟨a2,b2,f1,-,f3⟩:=failSure_eq (fun q=>q.length≤1) L 1000 ⟨rows⟩ s3 (by omega) (fun _ q a hq hq1=>by
    obtain ⟨e,hr⟩:=aftA_ok L 1000 rows hm2 (by omega) q hq a
    show (aftA L 1000 rows q a).length≤1
    match hA:aftA L 1000 rows q a with
    |[]=>simp
    |[x]=>simp
    |x::y::r=>
     exfalso
     rw [hA] at hr
     have h1:=hr.2.1 x (by simp)
     have h2:=hr.2.1 y (by simp)
     obtain ⟨i,rfl⟩:=Int.eq_ofNat_of_zero_le h1.1
     obtain ⟨j,rfl⟩:=Int.eq_ofNat_of_zero_le h2.1
     obtain ⟨u,k1,k2⟩:=hof.slip.1 ((hr.2.2.1 i).1 (by simp))
     obtain ⟨v,k3,k4⟩:=hof.slip.1 ((hr.2.2.1 j).1 (by simp))
     have huv:u=v:=by
      match q,hq1,k1,k3 with
      |[z],_,k1,k3=>
       rw [List.mem_singleton] at k1 k3
       omega
      |[],_,k1,_=>cases k1
      |_::_::_,hq1,_,_=>simp at hq1
     subst huv
     have:=hof.one u a i j k2 k4
     subst this
     have h3:=(List.pairwise_cons.1 hr.2.2.2).1 (i:Int) (by simp)
     omega) (fun _ q hq=>by
    match q,hq with
    |[],_=>simp
    |[x],_=>simp
    |x::y::r,hq=>
     exfalso
     have h1:=hq.2.1 x (by simp)
     have h2:=hq.2.1 y (by simp)
     obtain ⟨i,rfl⟩:=Int.eq_ofNat_of_zero_le h1.1
     obtain ⟨j,rfl⟩:=Int.eq_ofNat_of_zero_le h2.1
     have k1:=hof.slip.1 ((hq.2.2.1 i).1 (by simp))
     have k2:=hof.slip.1 ((hq.2.2.1 j).1 (by simp))
     have h3:=(List.pairwise_cons.1 hq.2.2.2).1 (j:Int) (by simp)
     omega)
   have f4:=f3 (fun _ q hq hq1 a h=>one_sure L 1000 q hq hq1 a h)
   simp only [hge,s2,Option.bind_some,f1,Bool.not_true,cond_false]
   cases b2 with
   |false=>rfl
   |true=>rw [f4 rfl];rfl
end Go.Proofs.YtffkhhblppfbfaaGreatDoor.Ev
