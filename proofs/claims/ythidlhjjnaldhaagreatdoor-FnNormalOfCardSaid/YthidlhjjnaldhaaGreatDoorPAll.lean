/- Plain laws, in one text. -/
import Derived.Test.YthidlhjjnaldhaaGreatDoorNW6b
import Derived.Test.YthidlhjjnaldhaaGreatDoorEvZ
import Derived.Test.YthidlhjjnaldhaaGreatDoorEvSortS
import Derived.KernelRfl
import Derived.Test.YthidlhjjnaldhaaGreatDoorEvSort
import Derived.Test.YthidlhjjnaldhaaGreatDoorPAll0
namespace Go.Proofs.YthidlhjjnaldhaaGreatDoor.Ev
open Go
set_option linter.unusedVariables false
set_option linter.unusedSimpArgs false
theorem key_str (x y:ByteArray):keyEq .str x y=decide (x=y):=by
 show (x==y)=_
 rw [Bool.eq_iff_iff,decide_eq_true_eq]
 obtain ⟨a⟩:=x
 obtain ⟨b⟩:=y
 show (a==b)=true↔_
 rw [beq_iff_eq]
 exact ⟨fun h=>by rw [h],fun h=>congrArg ByteArray.data h⟩
theorem find_put {α:Ty} (x y:ByteArray) (v:α.den):∀es:List (ByteArray×α.den),mapFind .str α x (mapPut .str α y v es)=if y=x then some v else mapFind .str α x es
 |[]=>by
  show (bif keyEq .str x y then some v else none)=_
  rw [key_str]
  by_cases e:y=x
  ·rw [if_pos e,dt e.symm];rfl
  ·rw [if_neg e,df fun h=>e h.symm];rfl
 |(k,u)::r=>by
  have ih:=find_put (α:=α) x y v r
  have h1:mapPut .str α y v ((k,u)::r)=(bif keyEq .str y k then (y,v)::r else (k,u)::mapPut .str α y v r):=rfl
  have h2:∀(k:ByteArray) (u:α.den) (r:List (ByteArray×α.den)),mapFind .str α x ((k,u)::r)=(bif keyEq .str x k then some u else mapFind .str α x r):=fun _ _ _=>rfl
  rw [h1,key_str]
  by_cases e:y=k
  ·rw [dt e,cond_true,h2,h2,key_str,key_str]
   by_cases e2:y=x
   ·rw [if_pos e2,dt e2.symm,cond_true]
   ·rw [if_neg e2,df fun h=>e2 h.symm,cond_false,df fun h=>e2 (e.trans h.symm),cond_false]
  ·rw [df e,cond_false,h2,h2,key_str,ih]
   by_cases e2:y=x
   ·rw [if_pos e2,df fun h=>e (e2.trans h),cond_false,if_pos e2]
   ·rw [if_neg e2,if_neg e2]
def PlacesT (S:List Tree) (es:List (ByteArray×Int)):Prop:=∀x:List UInt8,mapFind .str i64 ⟨x.toArray⟩ es=if x∈S.map ttx then some (((S.map ttx).idxOf x:Nat):Int) else none
theorem PlacesT.add {S:List Tree} {es:List (ByteArray×Int)} (h:PlacesT S es) {t:Tree} (hn:ttx t∉S.map ttx):PlacesT (S++[t]) (mapPut .str i64 (txB t) ((S.length:Nat):Int) es):=by
 intro x
 rw [find_put (α:=i64),List.map_append,List.map_singleton]
 have hte:txB t=⟨x.toArray⟩↔ttx t=x:=by
  unfold txB
  exact ⟨fun h=>by have h1:(ttx t).toArray=x.toArray:=congrArg ByteArray.data h;simpa using h1,fun h=>by rw [h]⟩
 by_cases e:ttx t=x
 ·subst e
  rw [if_pos (hte.2 rfl),if_pos (by simp),List.idxOf_append,if_neg hn]
  simp
 ·rw [if_neg (fun h=>e (hte.1 h)),h x]
  by_cases hm:x∈S.map ttx
  ·rw [if_pos hm,if_pos (List.mem_append_left _ hm),List.idxOf_append,if_pos hm]
  ·rw [if_neg hm,if_neg (by rw [List.mem_append,List.mem_singleton];exact fun h=>h.elim hm fun h=>e h.symm)]
theorem PlacesT.nil:PlacesT [] []:=fun x=>by rw [if_neg (by simp)];rfl
def stepT:List Step→List Tree→List Move→Option (List Tree×List Move)
 |[],S,M=>some (S,M)
 |s::st,S,M=>if ttx s.thn∉S.map ttx∧(S.length=60∨nodes s.thn>24) then none else stepT st (if ttx s.thn∈S.map ttx then S else S++[s.thn]) (M++[⟨s.act,(((S.map ttx).idxOf (ttx s.thn):Nat):Int)⟩])
theorem stepT_grow:∀(st:List Step) (S:List Tree) (M:List Move) (S':List Tree) (M':List Move),stepT st S M=some (S',M')→
  (∃T,S'=S++T)∧(S.length≤60→S'.length≤60)∧(∀x∈S',x∈S∨∃s∈st,x=s.thn∧nodes x≤24)∧(∀s∈st,ttx s.thn∈S'.map ttx)∧M'=M++st.map fun s=>⟨s.act,(((S'.map ttx).idxOf (ttx s.thn):Nat):Int)⟩
 |[],S,M,S',M',h=>by
  obtain ⟨rfl,rfl⟩:=Prod.mk.inj (Option.some.inj h)
  exact ⟨⟨[],by simp⟩,fun h=>h,fun x hx=>.inl hx,fun s hs=>(by cases hs),by simp⟩
 |s::st,S,M,S',M',h=>by
  unfold stepT at h
  split at h
  ·cases h
  ·rename_i hc
   obtain ⟨⟨T,e1⟩,e2,e3,e4,e5⟩:=stepT_grow st _ _ S' M' h
   have hin:ttx s.thn∈(if ttx s.thn∈S.map ttx then S else S++[s.thn]).map ttx∧((if ttx s.thn∈S.map ttx then S else S++[s.thn]).map ttx).idxOf (ttx s.thn)=(S.map ttx).idxOf (ttx s.thn):=by
    by_cases hm:ttx s.thn∈S.map ttx
    ·rw [if_pos hm];exact ⟨hm,rfl⟩
    ·rw [if_neg hm,List.map_append,List.map_singleton]
     refine ⟨by simp,?_⟩
     rw [List.idxOf_append,if_neg hm,List.idxOf_eq_length hm];simp
   have hS':ttx s.thn∈S'.map ttx:=by rw [e1,List.map_append];exact List.mem_append_left _ hin.1
   have hi:(S'.map ttx).idxOf (ttx s.thn)=(S.map ttx).idxOf (ttx s.thn):=by rw [e1,List.map_append,List.idxOf_append,if_pos hin.1,hin.2]
   refine ⟨?_,fun h60=>e2 ?_,fun x hx=>?_,fun y hy=>?_,?_⟩
   ·by_cases hm:ttx s.thn∈S.map ttx
    ·rw [if_pos hm] at e1;exact ⟨T,e1⟩
    ·rw [if_neg hm] at e1;exact ⟨[s.thn]++T,by rw [e1,List.append_assoc]⟩
   ·by_cases hm:ttx s.thn∈S.map ttx
    ·rw [if_pos hm];exact h60
    ·rw [if_neg hm,List.length_append,List.length_singleton]
     have:S.length≠60:=fun h=>hc ⟨hm,.inl h⟩
     omega
   ·rcases e3 x hx with q|⟨y,hy,q⟩
    ·by_cases hm:ttx s.thn∈S.map ttx
     ·rw [if_pos hm] at q;exact .inl q
     ·rw [if_neg hm] at q
      rcases List.mem_append.1 q with q|q
      ·exact .inl q
      ·have hx':=List.mem_singleton.1 q
       refine .inr ⟨s,.head _,hx',?_⟩
       rw [hx']
       exact Nat.not_lt.1 fun h=>hc ⟨hm,.inr h⟩
    ·exact .inr ⟨y,.tail _ hy,q⟩
   ·rcases List.mem_cons.1 hy with rfl|hy
    ·exact hS'
    ·exact e4 y hy
   ·rw [e5,List.map_cons,hi,List.append_assoc];rfl
theorem inTI {R:Type} (L N:Nat) (hN:1000≤N) (ds:List Tree) (i:Int) (st:List Step) (r1 rows:List (List Move))
  (Ke:List Tree→Int→List Tree→List (ByteArray×Int)→List Move→List (List Move)→List (List Move)→Option R) (Kr:List Tree→Bool→Int→List Tree→List (ByteArray×Int)→List Move→List (List Move)→List (List Move)→Option R)
  (hst:∀s∈st,∃k,WT s.thn k∧k≤24) (hsl:st.length≤400000):
  ∀(n j:Nat) (S:List Tree) (es:List (ByteArray×Int)) (M:List Move),j≤st.length→st.length-j<n→PlacesT S es→S.length≤60→M.length≤j→
   match stepT (st.drop j) S M with
   |some (S',M')=>∃es',PlacesT S' es'∧f104_1.l1 L N Ke Kr n ds i (st.map Step.act) (st.map Step.thn) ((st.map Step.thn).length:Int) (j:Int) S es M r1 rows=Ke ds i S' es' M' r1 rows
   |none=>∃S' es' M',f104_1.l1 L N Ke Kr n ds i (st.map Step.act) (st.map Step.thn) ((st.map Step.thn).length:Int) (j:Int) S es M r1 rows=Kr ds false i S' es' M' r1 rows:=by
 have hlim:=lim_eq
 intro n
 induction n with
 |zero=>intro j S es M _ h;omega
 |succ n ih=>
  intro j S es M hj hn hp hS hM
  have hu:f104_1.l1 L N Ke Kr (n+1) ds i (st.map Step.act) (st.map Step.thn) ((st.map Step.thn).length:Int) (j:Int) S es M r1 rows=f104_1.s1 L N Ke Kr (f104_1.l1 L N Ke Kr n) ds i (st.map Step.act) (st.map Step.thn) ((st.map Step.thn).length:Int) (j:Int) S es M r1 rows:=rfl
  rw [hu]
  unfold f104_1.s1 f104_1.s1'
  by_cases hlt:j<st.length
  ·obtain ⟨k,hw,hk⟩:=hst _ (List.getElem_mem hlt)
   have htx:=textI L N (st[j]).thn k hw (by omega) N (by omega)
   have hlt1:j<(st.map Step.thn).length:=by rw [List.length_map];exact hlt
   have hlt2:j<(st.map Step.act).length:=by rw [List.length_map];exact hlt
   have hat:(st.map Step.thn)[j]=(st[j]).thn:=List.getElem_map _
   have hact:(st.map Step.act)[j]=(st[j]).act:=List.getElem_map _
   have hf:mapFind .str i64 (txB (st[j]).thn) es=_:=hp (ttx (st[j]).thn)
   have h24:¬nodes (st[j]).thn>24:=by rw [hw.nodes_eq];omega
   rw [List.drop_eq_getElem_cons hlt]
   simp only [lt_cast hlt1,le0,Bool.and_true,cond_true,Int.toNat_natCast,at_lt hlt1,hat,tree_eta,htx,Option.bind_some,hf]
   have put:∀(S2:List Tree) (es2:List (ByteArray×Int)) (q:Nat),PlacesT S2 es2→S2.length≤60→match stepT (st.drop (j+1)) S2 (M++[⟨(st[j]).act,(q:Int)⟩]) with
     |some (S',M')=>∃es',PlacesT S' es'∧f104_1.j0' L N Ke Kr (f104_1.l1 L N Ke Kr n) ds i (st.map Step.act) (j:Int) (q:Int) (st.map Step.thn) ((st.map Step.thn).length:Int) (j:Int) S2 es2 M r1 rows=Ke ds i S' es' M' r1 rows
     |none=>∃S' es' M',f104_1.j0' L N Ke Kr (f104_1.l1 L N Ke Kr n) ds i (st.map Step.act) (j:Int) (q:Int) (st.map Step.thn) ((st.map Step.thn).length:Int) (j:Int) S2 es2 M r1 rows=Kr ds false i S' es' M' r1 rows:=by
    intro S2 es2 q hp2 h2
    unfold f104_1.j0'
    have hle:decide (M.length+([Move.mk (st[j]).act (q:Int)]:List Move).length≤lim)=true:=dt (by simp only [List.length_cons,List.length_nil];omega)
    simp only [lt_cast hlt2,le0,Bool.and_true,cond_true,Int.toNat_natCast,at_lt hlt2,hact,hle]
    rw [wi_nat (by omega)]
    exact ih (j+1) S2 es2 _ (by omega) (by omega) hp2 h2 (by simp;omega)
   unfold stepT
   by_cases hm:ttx (st[j]).thn∈S.map ttx
   ·rw [if_neg (fun h=>h.1 hm),if_pos hm]
    simp only [if_pos hm,Option.isSome_some,Bool.not_true,cond_false,Option.getD_some]
    exact put S es _ hp hS
   ·have hx:(S.map ttx).idxOf (ttx (st[j]).thn)=S.length:=by rw [List.idxOf_eq_length hm,List.length_map]
    rw [hx]
    simp only [if_neg hm,Option.isSome_none,Bool.not_false,cond_true]
    by_cases h60:S.length=60
    ·rw [if_pos ⟨hm,.inl h60⟩,show (((S.length:Nat):Int)==60)=true by rw [h60];rfl,cond_true]
     exact ⟨_,_,_,rfl⟩
    ·have hle1:decide (S.length+([(st[j]).thn]:List Tree).length≤lim)=true:=dt (by simp only [List.length_cons,List.length_nil];omega)
     rw [if_neg (fun h=>h.2.elim h60 h24),show (((S.length:Nat):Int)==60)=false by simp;omega,cond_false,hle1,cond_true]
     exact put (S++[(st[j]).thn]) _ S.length (hp.add hm) (by simp;omega)
  ·have hlt1:¬j<(st.map Step.thn).length:=by rw [List.length_map];exact hlt
   rw [ge_cast hlt1,cond_false,List.drop_eq_nil_of_le (by omega)]
   exact ⟨es,hp,rfl⟩
theorem movesT (L N:Nat) (hN:100000≤N) (hL:1000002<L) (ds:List Tree) (hd:DefsW ds) (t:Tree) (k:Nat) (h:WT t k) (hk:k≤24) (hcl:CL (ds.length:Int) false t):
  ((∃s∈steps ds t,nodes s.thn>24)∧f105_1 L N t ds=some ([],[],false))∨((∀s∈steps ds t,nodes s.thn≤24)∧f105_1 L N t ds=some ((steps ds t).map Step.act,(steps ds t).map Step.thn,true)):=by
 have hlim:=lim_eq
 have hst:=stepsI L N (by omega) ds hd t k h hk hcl N (by omega)
 have hb:=steps_bnd ds hd t k h hk hcl
 have hlen:=hb.len (Nat.le_refl _)
 generalize hS:steps ds t=st at*
 have key:∀(n i:Nat),i≤st.length→st.length-i<n→(∀s∈st.take i,nodes s.thn≤24)→
   ((∃s∈st,nodes s.thn>24)∧f105_1.l0 L N (fun z6 z7=>f105_1.p0_e0 L N (fun a0 a1 a2=>some (a0,a1,a2)) z6 z7) (fun z9 z10 z11=>f105_1.p0_r L N (fun a0 a1 a2=>some (a0,a1,a2)) z9 z10 z11) n (st.length:Int) (i:Int) ((st.take i).map Step.act) ((st.take i).map Step.thn) st=some ([],[],false))∨
   ((∀s∈st,nodes s.thn≤24)∧f105_1.l0 L N (fun z6 z7=>f105_1.p0_e0 L N (fun a0 a1 a2=>some (a0,a1,a2)) z6 z7) (fun z9 z10 z11=>f105_1.p0_r L N (fun a0 a1 a2=>some (a0,a1,a2)) z9 z10 z11) n (st.length:Int) (i:Int) ((st.take i).map Step.act) ((st.take i).map Step.thn) st=some (st.map Step.act,st.map Step.thn,true)):=by
  intro n
  induction n with
  |zero=>intro i _ h;omega
  |succ n ih=>
   intro i hi hn hall
   have hu:∀(a:List Int) (b:List Tree),f105_1.l0 L N (fun z6 z7=>f105_1.p0_e0 L N (fun a0 a1 a2=>some (a0,a1,a2)) z6 z7) (fun z9 z10 z11=>f105_1.p0_r L N (fun a0 a1 a2=>some (a0,a1,a2)) z9 z10 z11) (n+1) (st.length:Int) (i:Int) a b st=f105_1.s0 L N (fun z6 z7=>f105_1.p0_e0 L N (fun a0 a1 a2=>some (a0,a1,a2)) z6 z7) (fun z9 z10 z11=>f105_1.p0_r L N (fun a0 a1 a2=>some (a0,a1,a2)) z9 z10 z11) (f105_1.l0 L N (fun z6 z7=>f105_1.p0_e0 L N (fun a0 a1 a2=>some (a0,a1,a2)) z6 z7) (fun z9 z10 z11=>f105_1.p0_r L N (fun a0 a1 a2=>some (a0,a1,a2)) z9 z10 z11) n) (st.length:Int) (i:Int) a b st:=fun _ _=>rfl
   rw [hu]
   unfold f105_1.s0 f105_1.s0'
   by_cases hlt:i<st.length
   ·obtain ⟨-,k',hw',hk',-⟩:=hb.1 _ (List.getElem_mem hlt)
    have hnd:=hw'.nodes_eq
    obtain ⟨r,e,hr⟩:=tn_great L N (st[i]).thn 24 (by omega) (by omega) (by omega) (by omega)
    have e':f81 L N N (st[i]).thn (24:Int)=some r:=e
    simp only [lt_cast hlt,le0,Bool.and_true,cond_true,Int.toNat_natCast,at_lt hlt,tree_eta,e',Option.bind_some]
    by_cases hgt:nodes (st[i]).thn>24
    ·rw [dt (show r>24 from hr.2 hgt),cond_true]
     exact .inl ⟨⟨_,List.getElem_mem hlt,hgt⟩,rfl⟩
    ·have hle1:decide (((st.take i).map Step.act).length+([(st[i]).act]:List Int).length≤lim)=true:=dt (by simp;omega)
     have hle2:decide (((st.take i).map Step.thn).length+([(st[i]).thn]:List Tree).length≤lim)=true:=dt (by simp;omega)
     have ht:st.take (i+1)=st.take i++[st[i]]:=by rw [List.take_add_one,List.getElem?_eq_getElem hlt];rfl
     have a1:(st.take i).map Step.act++[(st[i]).act]=(st.take (i+1)).map Step.act:=by rw [ht,List.map_append];rfl
     have a2:(st.take i).map Step.thn++[(st[i]).thn]=(st.take (i+1)).map Step.thn:=by rw [ht,List.map_append];rfl
     rw [df (show ¬r>24 from fun h=>hgt (hr.1 h)),cond_false,hle1,cond_true,hle2,cond_true,a1,a2,wi_nat (by omega)]
     refine ih (i+1) (by omega) (by omega) fun s hs=>?_
     rw [ht] at hs
     rcases List.mem_append.1 hs with h|h
     ·exact hall s h
     ·rw [List.mem_singleton.1 h];omega
   ·rw [ge_cast hlt,cond_false,List.take_of_length_le (by omega)]
    rw [List.take_of_length_le (by omega)] at hall
    exact .inr ⟨hall,rfl⟩
 have hb0:f105_1 L N t ds=f105_1.l0 L N (fun z6 z7=>f105_1.p0_e0 L N (fun a0 a1 a2=>some (a0,a1,a2)) z6 z7) (fun z9 z10 z11=>f105_1.p0_r L N (fun a0 a1 a2=>some (a0,a1,a2)) z9 z10 z11) L (st.length:Int) (0:Int) [] [] st:=by
  show f105_1.b L N (fun a0 a1 a2=>some (a0,a1,a2)) t ds=_
  unfold f105_1.b f105_1.b'
  rw [tree_eta,hst,Option.bind_some]
 rw [hb0]
 exact key L 0 (by omega) (by omega) (fun s hs=>by simp at hs)
def GoodT (ds:List Tree) (S:List Tree) (rows:List (List Move)):Prop:=
 ∀(j:Nat) (hj:j<rows.length),(∀s∈steps ds (S.getD j (.mk 0 0 [])),ttx s.thn∈S.map ttx)∧rows[j]=tidyM ((steps ds (S.getD j (.mk 0 0 []))).map fun s=>⟨s.act,(((S.map ttx).idxOf (ttx s.thn):Nat):Int)⟩)
theorem GoodT.grow {ds S T:List Tree} {rows:List (List Move)} (h:GoodT ds S rows) (hl:rows.length≤S.length):GoodT ds (S++T) rows:=fun j hj=>by
 obtain ⟨h1,h2⟩:=h j hj
 have e:(S++T).getD j (.mk 0 0 [])=S.getD j (.mk 0 0 []):=by
  rw [List.getD_eq_getElem?_getD,List.getD_eq_getElem?_getD,List.getElem?_append_left (by omega)]
 rw [e,List.map_append]
 refine ⟨fun s hs=>List.mem_append_left _ (h1 s hs),?_⟩
 rw [h2]
 exact congrArg tidyM (List.map_congr_left fun s hs=>by rw [List.idxOf_append,if_pos (h1 s hs)])
def FitS (ds:List Tree) (t:Tree):Prop:=∃k,k≤24∧WT t k∧CL (ds.length:Int) false t
structure TermIn (ds:List Tree) (t:Tree) (S:List Tree) (rows:List (List Move)):Prop where
 defs:DefsW ds
 len:rows.length=S.length
 len60:S.length≤60
 pos:1≤S.length
 first:S.getD 0 (.mk 0 0 [])=t
 good:GoodT ds S rows
 fits:∀x∈S,FitS ds x
end Go.Proofs.YthidlhjjnaldhaaGreatDoor.Ev
namespace Go.Proofs.YthidlhjjnaldhaaGreatDoor.Ev
open Go
set_option linter.unusedVariables false
set_option linter.unusedSimpArgs false
def Tr (l:List Bool) (t:Nat):Prop:=l.getD t false=true
theorem Tr_set {l:List Bool} {j t:Nat} (hj:j<l.length):Tr (l.set j true) t↔t=j∨Tr l t:=by
 unfold Tr
 rw [List.getD_eq_getElem?_getD,List.getD_eq_getElem?_getD]
 by_cases h:t=j
 ·subst h;rw [List.getElem?_set_self hj];simp
 ·rw [List.getElem?_set_ne (Ne.symm h)];simp [h]
def cnt:List Bool→Nat
 |[]=>0
 |b::r=>(bif b then 1 else 0)+cnt r
theorem cnt_le:∀l:List Bool,cnt l≤l.length
 |[]=>Nat.le_refl _
 |b::r=>by have:=cnt_le r;cases b<;>simp [cnt]<;>omega
theorem cnt_set:∀(l:List Bool) (j:Nat),j<l.length→l.getD j false=false→cnt (l.set j true)=cnt l+1
 |b::r,0,_,h=>by
  have hb:b=false:=h
  subst hb
  simp [cnt];omega
 |b::r,j+1,hj,h=>by
  have:=cnt_set r j (by simpa using hj) (by simpa using h)
  simp only [List.set_cons_succ,cnt,this];omega
inductive Slip (ms:List (List Move)) (X:Nat→Prop):Nat→Prop
 |base (t:Nat) (h:X t):Slip ms X t
 |step (s t:Nat) (hs:Slip ms X s) (hl:s<ms.length) (k:Nat) (hk:k<(ms[s]).length) (ha:(ms[s])[k].act=0) (ht:(ms[s])[k].to=(t:Int)):Slip ms X t
theorem Slip.mono {ms:List (List Move)} {X Y:Nat→Prop} (h:∀t,X t→Y t) {t:Nat} (r:Slip ms X t):Slip ms Y t:=by
 induction r with
 |base t hx=>exact .base t (h t hx)
 |step s t _ hl k hk ha ht ih=>exact .step s t ih hl k hk ha ht
def Leads (ms:List (List Move)):Prop:=ms.length≤60∧∀(i:Nat) (hi:i<ms.length),(ms[i]).length≤1048576∧∀(k:Nat) (hk:k<(ms[i]).length),0≤(ms[i])[k].to∧(ms[i])[k].to<(ms.length:Int)
theorem leads_of {g:Graph} (h:graphOk g=true) (hs:g.moves.length+gsize g.moves≤1048576):Leads g.moves:=by
 obtain ⟨h1,h2,h3⟩:=graphOk_mv h
 refine ⟨h2,fun i hi=>⟨?_,fun k hk=>?_⟩⟩
 ·have:=gsize_row _ (List.getElem_mem hi);omega
 ·have:=h3 i hi k hk;exact ⟨this.2.2.1,this.2.2.2⟩
theorem Leads.nat {ms:List (List Move)} (h:Leads ms) {i:Nat} (hi:i<ms.length) {k:Nat} (hk:k<(ms[i]).length):∃t:Nat,(ms[i])[k].to=(t:Int)∧t<ms.length:=by
 obtain ⟨h1,h2⟩:=(h.2 i hi).2 k hk
 obtain ⟨t,ht⟩:=Int.eq_ofNat_of_zero_le h1
 exact ⟨t,ht,by omega⟩
def Mv (ms:List (List Move)) (s:Nat) (a:Int) (t:Nat):Prop:=∃(hs:s<ms.length) (k:Nat) (hk:k<(ms[s]).length),(ms[s])[k].act=a∧(ms[s])[k].to=(t:Int)
theorem Mv.lt {ms:List (List Move)} (hm:Leads ms) {s t:Nat} {a:Int} (h:Mv ms s a t):s<ms.length∧t<ms.length:=by
 obtain ⟨hs,k,hk,-,ht⟩:=h
 have:=(hm.2 s hs).2 k hk
 exact ⟨hs,by omega⟩
end Go.Proofs.YthidlhjjnaldhaaGreatDoor.Ev
namespace Go.Proofs.YthidlhjjnaldhaaGreatDoor.Ev
open Go
set_option linter.unusedVariables false
set_option linter.unusedSimpArgs false
def shiftR (n:Nat) (r:List Move):List Move:=r.map fun m=>⟨m.act,m.to+(n:Int)⟩
def bothL (a b:List (List Move)):List (List Move):=a++b.map (shiftR a.length)
theorem bothL_len (a b:List (List Move)):(bothL a b).length=a.length+b.length:=by unfold bothL;rw [List.length_append,List.length_map]
theorem TermIn.graph {ds:List Tree} {t:Tree} {S:List Tree} {rows:List (List Move)} (h:TermIn ds t S rows):graphOk ⟨rows⟩=true∧∀r∈rows,r.length≤540:=by
 have hl:=h.len
 have h60:=h.len60
 have hp:=h.pos
 have key:∀(i:Nat) (hi:i<rows.length),RisesM rows[i]∧∀m∈rows[i],(-4≤m.act∧m.act≤4)∧0≤m.to∧m.to<(rows.length:Int):=fun i hi=>by
  obtain ⟨g1,g2⟩:=h.good i hi
  have hmem:S.getD i (.mk 0 0 [])∈S:=by rw [getD_lt (show i<S.length by omega)];exact List.getElem_mem _
  obtain ⟨k,hk,hw,hcl⟩:=h.fits _ hmem
  have hb:=steps_bnd ds h.defs _ k hw hk hcl
  rw [g2]
  refine ⟨tidyM_rises _,fun m hm=>?_⟩
  obtain ⟨s,hs,rfl⟩:=List.mem_map.1 ((tidyM_mem _ m).1 hm)
  have h1:=List.idxOf_lt_length_of_mem (g1 s hs)
  rw [List.length_map] at h1
  exact ⟨(hb.1 s hs).1,by show (0:Int)≤(((S.map ttx).idxOf (ttx s.thn):Nat):Int);omega,by show ((((S.map ttx).idxOf (ttx s.thn):Nat)):Int)<_;omega⟩
 refine ⟨graphOk_mk (by omega) (by omega) fun i hi=>⟨(key i hi).1,fun m hm=>?_⟩,fun r hr=>?_⟩
 ·obtain ⟨h1,h2,h3⟩:=(key i hi).2 m hm
  unfold mvOk
  rw [dt h1,dt ⟨h2,h3⟩];rfl
 ·obtain ⟨i,hi,rfl⟩:=List.mem_iff_getElem.1 hr
  exact risesM_len (key i hi).1 fun m hm=>by have:=(key i hi).2 m hm;omega
theorem shiftR_rises {n:Nat} {r:List Move} (h:RisesM r):RisesM (shiftR n r):=by
 unfold shiftR RisesM
 rw [List.pairwise_map]
 refine List.Pairwise.imp (fun {a b} hab=>?_) h
 unfold lessM at hab⊢
 have:=of_decide_eq_true hab
 exact decide_eq_true (by show a.act<b.act∨(a.act=b.act∧a.to+(n:Int)<b.to+(n:Int));omega)
theorem graphOk_rows {g:Graph} (h:graphOk g=true):∀(i:Nat) (hi:i<g.moves.length),RisesM g.moves[i]∧∀m∈g.moves[i],mvOk g.moves.length m=true:=by
 have h0:=h
 unfold graphOk at h
 simp only [Bool.and_eq_true,decide_eq_true_eq] at h
 intro i hi
 have h1:=allN_get _ 0 h.2 i (by omega) (by omega)
 simp only [getD_lt hi] at h1
 have hat:∀(k:Nat) (hk:k<(g.moves[i]).length),atOk g.moves.length g.moves[i] k=true:=fun k hk=>allN_get _ 0 h1 k (by omega) (by omega)
 refine ⟨?_,fun m hm=>?_⟩
 ·have step:∀(k:Nat) (hk:k+1<(g.moves[i]).length),lessM (g.moves[i])[k] (g.moves[i])[k+1]=true:=fun k hk=>by
   have:=hat (k+1) hk
   unfold atOk at this
   rw [Bool.and_eq_true,df (by omega),Bool.false_or,getD_lt hk,Nat.add_sub_cancel,getD_lt (show k<(g.moves[i]).length by omega)] at this
   exact this.2
  have far:∀(d k:Nat) (hk:k+d+1<(g.moves[i]).length),lessM (g.moves[i])[k] (g.moves[i])[k+d+1]=true:=by
   intro d
   induction d with
   |zero=>intro k hk;exact step k hk
   |succ d ih=>intro k hk;exact less_trans (ih k (by omega)) (step (k+d+1) hk)
  unfold RisesM
  rw [List.pairwise_iff_getElem]
  intro a b ha hb hab
  have:=far (b-a-1) a (by omega)
  simpa only [show a+(b-a-1)+1=b by omega] using this
 ·obtain ⟨k,hk,rfl⟩:=List.mem_iff_getElem.1 hm
  have:=hat k hk
  unfold atOk at this
  rw [Bool.and_eq_true,getD_lt hk] at this
  exact this.1
theorem bothL_graph {a b:List (List Move)} (ha:graphOk ⟨a⟩=true) (hb:graphOk ⟨b⟩=true) (h60:a.length+b.length≤60):graphOk ⟨bothL a b⟩=true:=by
 have h1:1≤a.length:=(graphOk_mv ha).1
 have hl:=bothL_len a b
 have mono:∀{n m:Nat} {x:Move},mvOk n x=true→n≤m→mvOk m x=true:=fun {n m x} h hnm=>by
  unfold mvOk at h⊢
  simp only [Bool.and_eq_true,decide_eq_true_eq] at h⊢
  exact ⟨h.1,h.2.1,by omega⟩
 refine graphOk_mk (by omega) (by omega) fun i hi=>?_
 unfold bothL at hi
 by_cases hia:i<a.length
 ·have e:(bothL a b)[i]=a[i]:=by unfold bothL;rw [List.getElem_append_left hia]
  rw [e]
  obtain ⟨g1,g2⟩:=graphOk_rows ha i hia
  exact ⟨g1,fun m hm=>mono (g2 m hm) (by rw [hl];show a.length≤_;omega)⟩
 ·have hib:i-a.length<b.length:=by rw [List.length_append,List.length_map] at hi;omega
  have e:(bothL a b)[i]=shiftR a.length b[i-a.length]:=by unfold bothL;rw [List.getElem_append_right (by omega),List.getElem_map]
  rw [e]
  obtain ⟨g1,g2⟩:=graphOk_rows hb (i-a.length) hib
  refine ⟨shiftR_rises g1,fun m hm=>?_⟩
  obtain ⟨x,hx,rfl⟩:=List.mem_map.1 hm
  have:=g2 x hx
  unfold mvOk at this⊢
  simp only [Bool.and_eq_true,decide_eq_true_eq] at this⊢
  have h3:x.to<(b.length:Int):=this.2.2
  exact ⟨this.1,by show 0≤x.to+(a.length:Int);omega,by show x.to+(a.length:Int)<_;omega⟩
theorem shifted_ok (L N:Nat) (r:List Move) (n:Nat) (hr:r.length≤1048576) (hL:1048577<L) (hn:n≤60) (hto:∀m∈r,0≤m.to∧m.to<60):f107 L N r (n:Int)=some (shiftR n r):=by
 have hlim:=lim_eq
 show f107.b L N some r (n:Int)=_
 unfold f107.b f107.b'
 have key:∀(q i:Nat) (out:List Move),i≤r.length→r.length-i<q→out.length≤i→f107.l0 L N (fun z5=>f107.p0_e0 L N some z5) q (n:Int) r (r.length:Int) (i:Int) out=some (out++shiftR n (r.drop i)):=by
  intro q
  induction q with
  |zero=>intro i out _ h;omega
  |succ q ih=>
   intro i out hi hq ho
   show f107.s0 L N _ (f107.l0 L N _ q) (n:Int) r (r.length:Int) (i:Int) out=_
   unfold f107.s0 f107.s0'
   by_cases hlt:i<r.length
   ·have ht:=hto _ (List.getElem_mem hlt)
    have hw:wi ((r[i]).to+(n:Int))=(r[i]).to+(n:Int):=wi_id (by omega) (by omega)
    have hle:decide (out.length+([Move.mk (r[i]).act ((r[i]).to+(n:Int))]:List Move).length≤lim)=true:=dt (by simp only [List.length_cons,List.length_nil];omega)
    simp only [lt_cast hlt,le0,Bool.and_true,cond_true,Int.toNat_natCast,at_lt hlt,hw,hle]
    rw [wi_nat (by omega),ih (i+1) _ (by omega) (by omega) (by simp;omega),List.drop_eq_getElem_cons hlt]
    unfold shiftR
    rw [List.map_cons,List.append_assoc];rfl
   ·rw [ge_cast hlt,cond_false,List.drop_eq_nil_of_le (by omega)]
    unfold shiftR
    rw [List.map_nil,List.append_nil];rfl
 have:=key L 0 [] (by omega) (by omega) (by simp)
 rw [List.drop_zero,List.nil_append] at this
 exact this
theorem shiftR_zero (r:List Move):shiftR 0 r=r:=by
 unfold shiftR
 refine (List.map_congr_left (fun m _=>?_)).trans (List.map_id r)
 show (⟨m.act,m.to+((0:Nat):Int)⟩:Move)=m
 have:m.to+((0:Nat):Int)=m.to:=by omega
 rw [this]
theorem bothI (L N:Nat) (hL:1048577<L) (a b:List (List Move)) (ha:graphOk ⟨a⟩=true) (hb:graphOk ⟨b⟩=true) (hra:∀r∈a,r.length≤540) (hrb:∀r∈b,r.length≤540):
  f66 L N ⟨a⟩ ⟨b⟩=some (if a.length+b.length≤60 then (⟨bothL a b⟩,true) else (⟨[]⟩,false)):=by
 have hlim:=lim_eq
 obtain ⟨a1,a2,a3⟩:=graphOk_mv ha
 obtain ⟨b1,b2,b3⟩:=graphOk_mv hb
 have hga:a.length+gsize a≤1048576:=by have:=gsize_le hra;have:a.length≤60:=a2;omega
 have hgb:b.length+gsize b≤1048576:=by have:=gsize_le hrb;have:b.length≤60:=b2;omega
 have a2:a.length≤60:=a2
 have b2:b.length≤60:=b2
 show f66.b L N (fun a0 a1=>some (a0,a1)) ⟨a⟩ ⟨b⟩=_
 unfold f66.b f66.b'
 have e1:f106 L N (Graph.mk (Graph.mk a).moves)=some true:=(gok1_ok L N ⟨a⟩ (by omega) hga).trans (by rw [ha])
 have e2:f106 L N (Graph.mk (Graph.mk b).moves)=some true:=(gok1_ok L N ⟨b⟩ (by omega) hgb).trans (by rw [hb])
 have hw:wi ((a.length:Int)+(b.length:Int))=(a.length:Int)+(b.length:Int):=wi_id (by omega) (by omega)
 have hw':wi (((Graph.mk a).moves.length:Int)+((Graph.mk b).moves.length:Int))=(a.length:Int)+(b.length:Int):=hw
 rw [e1,Option.bind_some,Bool.not_true,cond_false,e2,Option.bind_some,Bool.not_true,cond_false,hw']
 by_cases h60:a.length+b.length≤60
 ·rw [if_pos h60,df (by omega),cond_false]
  unfold f66.j0'
  have hto:∀{x:List (List Move)},graphOk ⟨x⟩=true→x.length≤60→∀r∈x,∀m∈r,0≤m.to∧m.to<60:=fun {x} hx hl r hr m hm=>by
   obtain ⟨i,hi,rfl⟩:=List.mem_iff_getElem.1 hr
   obtain ⟨k,hk,rfl⟩:=List.mem_iff_getElem.1 hm
   have:=(graphOk_mv hx).2.2 i hi k hk
   have h4:((x[i])[k]).to<(x.length:Int):=this.2.2.2
   exact ⟨this.2.2.1,by omega⟩
  have second:∀(q i:Nat) (out:List (List Move)),i≤b.length→b.length-i<q→out.length≤60+i→f66.l1 L N (fun z22=>f66.p1_e2 L N (fun a0 a1=>some (a0,a1)) z22) q b (b.length:Int) (i:Int) a out=some (⟨out++(b.drop i).map (shiftR a.length)⟩,true):=by
   intro q
   induction q with
   |zero=>intro i out _ h;omega
   |succ q ih=>
    intro i out hi hq ho
    show f66.s1 L N _ (f66.l1 L N _ q) b (b.length:Int) (i:Int) a out=_
    unfold f66.s1 f66.s1'
    by_cases hlt:i<b.length
    ·have hsh:=shifted_ok L N b[i] a.length (by have:=hrb _ (List.getElem_mem hlt);omega) (by omega) a2 (hto hb b2 _ (List.getElem_mem hlt))
     have hle:decide (out.length+([shiftR a.length b[i]]:List (List Move)).length≤lim)=true:=dt (by simp only [List.length_cons,List.length_nil];omega)
     simp only [lt_cast hlt,le0,Bool.and_true,cond_true,Int.toNat_natCast,at_lt hlt,hsh,Option.bind_some,hle]
     rw [wi_nat (by omega),ih (i+1) _ (by omega) (by omega) (by simp;omega),List.drop_eq_getElem_cons hlt,List.map_cons,List.append_assoc];rfl
    ·rw [ge_cast hlt,cond_false,List.drop_eq_nil_of_le (by omega),List.map_nil,List.append_nil];rfl
  have first:∀(q i:Nat) (out:List (List Move)),i≤a.length→a.length-i<q→out.length≤i→f66.l0 L N (fun z13 z14 z15=>f66.p0_e0 L N (fun a0 a1=>some (a0,a1)) z13 z14 z15) q a (a.length:Int) (i:Int) a b out=f66.p0_e0 L N (fun a0 a1=>some (a0,a1)) a b (out++a.drop i):=by
   intro q
   induction q with
   |zero=>intro i out _ h;omega
   |succ q ih=>
    intro i out hi hq ho
    show f66.s0 L N _ (f66.l0 L N _ q) a (a.length:Int) (i:Int) a b out=_
    unfold f66.s0 f66.s0'
    by_cases hlt:i<a.length
    ·have hsh:=shifted_ok L N a[i] 0 (by have:=hra _ (List.getElem_mem hlt);omega) (by omega) (by omega) (hto ha a2 _ (List.getElem_mem hlt))
     rw [shiftR_zero] at hsh
     have hsh':f107 L N a[i] (0:Int)=some a[i]:=hsh
     have hle:decide (out.length+([a[i]]:List (List Move)).length≤lim)=true:=dt (by simp only [List.length_cons,List.length_nil];omega)
     simp only [lt_cast hlt,le0,Bool.and_true,cond_true,Int.toNat_natCast,at_lt hlt,hsh',Option.bind_some,hle]
     rw [wi_nat (by omega),ih (i+1) _ (by omega) (by omega) (by simp;omega),List.drop_eq_getElem_cons hlt,List.append_assoc];rfl
    ·rw [ge_cast hlt,cond_false,List.drop_eq_nil_of_le (by omega),List.append_nil]
  have f1:=first L 0 [] (by omega) (by omega) (by simp)
  rw [List.drop_zero,List.nil_append] at f1
  refine (show _=_ from f1).trans ?_
  unfold f66.p0_e0 f66.p0_e0'
  have f2:=second L 0 a (by omega) (by omega) (by omega)
  rw [List.drop_zero] at f2
  exact f2
 ·rw [if_neg h60,dt (by omega),cond_true]
end Go.Proofs.YthidlhjjnaldhaaGreatDoor.Ev
namespace Go.Proofs.YthidlhjjnaldhaaGreatDoor.Ev
open Go
set_option linter.unusedVariables false
set_option linter.unusedSimpArgs false
theorem graph_loopI (L N:Nat) (hN:100000≤N) (hL:1000002<L) (ds:List Tree) (hd:DefsW ds):
  ∀(d k:Nat) (S:List Tree) (es:List (ByteArray×Int)) (rows:List (List Move)),S.length≤60→61≤k+d→k≤S.length→PlacesT S es→(∀x∈S,FitS ds x)→rows.length=k→GoodT ds S rows→
   ∀n1,d≤n1→∃(res:List (List Move)) (ok:Bool),
    f104_1.l0 L N (fun z7 z8=>f104_1.p0_e0 L N (fun a0 a1=>some (a0,a1)) z7 z8) (fun z10 z11 z12=>f104_1.p0_r L N (fun a0 a1=>some (a0,a1)) z10 z11 z12) n1 ds (k:Int) S es [] rows=some (res,ok)∧
    (ok=false→res=[])∧(ok=true→∃T,res.length=(S++T).length∧(S++T).length≤60∧GoodT ds (S++T) res∧∀x∈S++T,FitS ds x):=by
 have hlim:=lim_eq
 intro d
 induction d with
 |zero=>intro k S es rows hS hd hk;omega
 |succ d ih=>
  intro k S es rows hS hd' hk hp hfit hrl hgood n1 hn1
  obtain ⟨n1,rfl⟩:∃n',n1=n'+1:=⟨n1-1,by omega⟩
  show ∃res ok,f104_1.s0 L N (fun z7 z8=>f104_1.p0_e0 L N (fun a0 a1=>some (a0,a1)) z7 z8) (fun z10 z11 z12=>f104_1.p0_r L N (fun a0 a1=>some (a0,a1)) z10 z11 z12) (f104_1.l0 L N (fun z7 z8=>f104_1.p0_e0 L N (fun a0 a1=>some (a0,a1)) z7 z8) (fun z10 z11 z12=>f104_1.p0_r L N (fun a0 a1=>some (a0,a1)) z10 z11 z12) n1) ds (k:Int) S es [] rows=some (res,ok)∧_
  unfold f104_1.s0 f104_1.s0'
  by_cases hlt:k<S.length
  ·obtain ⟨kt,hk24,hw,hcl⟩:=hfit _ (List.getElem_mem hlt)
   have hb:=steps_bnd ds hd S[k] kt hw hk24 hcl
   have hlen:=hb.len (Nat.le_refl _)
   simp only [lt_cast hlt,le0,Bool.and_true,cond_true,Int.toNat_natCast,at_lt hlt,Option.bind_some]
   rcases movesT L N hN hL ds hd S[k] kt hw hk24 hcl with ⟨hbig,em⟩|⟨hall,em⟩
   ·rw [em,Option.bind_some]
    exact ⟨[],false,rfl,fun _=>rfl,fun h=>by cases h⟩
   ·rw [em,Option.bind_some]
    simp only [Bool.not_true,cond_false]
    have hTI:=inTI L N (by omega) ds (k:Int) (steps ds S[k]) [] rows (fun z24 z25 z26 z27 z28 z29 z30=>f104_1.p1_e2 L N (fun z7 z8=>f104_1.p0_e0 L N (fun a0 a1=>some (a0,a1)) z7 z8) (fun z10 z11 z12=>f104_1.p0_r L N (fun a0 a1=>some (a0,a1)) z10 z11 z12) (f104_1.l0 L N (fun z7 z8=>f104_1.p0_e0 L N (fun a0 a1=>some (a0,a1)) z7 z8) (fun z10 z11 z12=>f104_1.p0_r L N (fun a0 a1=>some (a0,a1)) z10 z11 z12) n1) z24 z25 z26 z27 z28 z29 z30) (fun z32 z33 z34 z35 z36 z37 z38 z39=>f104_1.p1_r L N (fun z7 z8=>f104_1.p0_e0 L N (fun a0 a1=>some (a0,a1)) z7 z8) (fun z10 z11 z12=>f104_1.p0_r L N (fun a0 a1=>some (a0,a1)) z10 z11 z12) (f104_1.l0 L N (fun z7 z8=>f104_1.p0_e0 L N (fun a0 a1=>some (a0,a1)) z7 z8) (fun z10 z11 z12=>f104_1.p0_r L N (fun a0 a1=>some (a0,a1)) z10 z11 z12) n1) z32 z33 z34 z35 z36 z37 z38 z39)
     (fun s hs=>by obtain ⟨-,k',a1,-⟩:=hb.1 s hs;have:=hall s hs;rw [a1.nodes_eq] at this;exact ⟨k',a1,this⟩) (by omega) L 0 S es [] (by omega) (by omega) hp hS (by simp)
    rw [List.drop_zero] at hTI
    cases hst:stepT (steps ds S[k]) S [] with
    |none=>
     rw [hst] at hTI
     obtain ⟨S2,es2,M2,e2⟩:=hTI
     exact ⟨[],false,(show _=_ from e2).trans rfl,fun _=>rfl,fun h=>by cases h⟩
    |some p=>
     obtain ⟨S',M'⟩:=p
     rw [hst] at hTI
     obtain ⟨es',p1,e2⟩:=hTI
     obtain ⟨⟨T,g1⟩,g2,g3,g4,g5⟩:=stepT_grow _ S [] S' M' hst
     rw [List.nil_append] at g5
     have hml:M'.length≤332352:=by rw [g5,List.length_map];exact hlen
     have hS':=g2 hS
     have hfit':∀x∈S',FitS ds x:=fun x hx=>by
      rcases g3 x hx with h|⟨s,hs,rfl,hn⟩
      ·exact hfit x h
      ·obtain ⟨-,k',a1,-,a3⟩:=hb.1 s hs
       exact ⟨k',by rw [a1.nodes_eq] at hn;exact hn,a1,a3⟩
     have hgood':GoodT ds S' (rows++[tidyM M']):=by
      intro j hj
      by_cases hjk:j<rows.length
      ·rw [List.getElem_append_left hjk,g1]
       exact hgood.grow (by omega) j hjk
      ·have hjk:j=rows.length:=by simp at hj;omega
       subst hjk
       have hSk:S'.getD rows.length (.mk 0 0 [])=S[k]:=by
        rw [g1,List.getD_eq_getElem?_getD,List.getElem?_append_left (by omega),hrl,List.getElem?_eq_getElem hlt];rfl
       rw [hSk,List.getElem_append_right (Nat.le_refl _)]
       simp only [Nat.sub_self,List.getElem_cons_zero]
       exact ⟨g4,by rw [g5]⟩
     have hle:decide (rows.length+([tidyM M']:List (List Move)).length≤lim)=true:=dt (by simp only [List.length_cons,List.length_nil];omega)
     obtain ⟨res,ok,j1,j3,j4⟩:=ih (k+1) S' es' (rows++[tidyM M']) hS' (by omega) (by rw [g1,List.length_append];omega) p1 hfit' (by simp;omega) hgood' n1 (by omega)
     refine ⟨res,ok,(show _=_ from e2).trans ?_,j3,fun hok=>?_⟩
     ·show f104_1.p1_e2 L N _ _ _ ds (k:Int) S' es' M' [] rows=_
      unfold f104_1.p1_e2 f104_1.p1_e2' fsortM
      rw [dt (show M'.length≤lim by omega),cond_true,Option.bind_some,hle,cond_true,wi_nat (by omega)]
      exact j1
     ·obtain ⟨U,u1,u2,u3,u4⟩:=j4 hok
      rw [g1,List.append_assoc] at u1 u2 u3 u4
      exact ⟨T++U,u1,u2,u3,u4⟩
  ·rw [ge_cast hlt,cond_false]
   exact ⟨rows,true,rfl,fun h=>(by cases h),fun _=>⟨[],by rw [List.append_nil];omega,by rw [List.append_nil];exact hS,by rw [List.append_nil];exact hgood,by rw [List.append_nil];exact hfit⟩⟩
theorem defsNone (L N:Nat) (hL:2≤L) (hN:1≤N):f102 L N []=some true:=by
 obtain ⟨L,rfl⟩:∃q,L=q+2:=⟨L-2,by omega⟩
 obtain ⟨N,rfl⟩:∃q,N=q+1:=⟨N-1,by omega⟩
 kernel_rfl
theorem graphOfI (L N:Nat) (hN:4194308≤N) (hL:1048578<L) (t:Tree) (ht:nodes t≤1048577):
  ∃rows ok,f65 L N t []=some (⟨rows⟩,ok)∧(ok=true→∃S,TermIn [] t S rows)∧(ok=true→FitW t 0):=by
 have hd1:=defsNone L N (by omega) (by omega)
 have h:DefsW []:=⟨by simp,fun d hd=>by cases hd⟩
 have hf1:=fitsI L N t 0 ht hN (by omega)
 by_cases hf:FitW t 0
 ·obtain ⟨k,hk,hw,-,hcl⟩:=id hf
  obtain ⟨res,ok,e1,e3,e4⟩:=graph_loopI L N (by omega) (by omega) [] h 61 0 [t] (mapPut .str i64 (txB t) (0:Int) []) [] (by simp) (by omega) (by simp)
   (by have:=PlacesT.nil.add (t:=t) (by simp);exact this) (fun x hx=>by rw [List.mem_singleton.1 hx];exact ⟨k,hk,hw,hcl⟩) rfl (fun j hj=>by simp at hj) L (by omega)
  have htI:=textI L N t k hw (by omega) N (by omega)
  refine ⟨res,ok,?_,fun hok=>?_,fun _=>hf⟩
  ·show f65.b' L N (fun a0 a1=>some (a0,a1)) t []=_
   unfold f65.b'
   have hb:f104_1 L N t []=some (res,ok):=by
    show f104_1.b L N (fun a0 a1=>some (a0,a1)) t []=_
    unfold f104_1.b f104_1.b'
    rw [tree_eta,htI,Option.bind_some]
    exact e1
   rw [hd1,Option.bind_some,Bool.not_true,cond_false,tree_eta]
   show (f103 L N t 0).bind _=_
   rw [hf1,Option.bind_some,isB_true hf,Bool.not_true,cond_false,hb,Option.bind_some]
  ·obtain ⟨T,t1,t2,t3,t4⟩:=e4 hok
   exact ⟨[t]++T,h,t1,t2,by simp,by simp,t3,t4⟩
 ·refine ⟨[],false,?_,fun h=>(by cases h),fun h=>by cases h⟩
  show f65.b' L N (fun a0 a1=>some (a0,a1)) t []=_
  unfold f65.b'
  rw [hd1,Option.bind_some,Bool.not_true,cond_false,tree_eta]
  show (f103 L N t 0).bind _=_
  rw [hf1,Option.bind_some,isB_false hf,Bool.not_false,cond_true]
theorem bothOfI (L N:Nat) (hN:4194308≤N) (hL:1048578<L) (t u:Tree) (ht:nodes t≤1048577) (hu:nodes u≤1048577):
  ∃rows at' ok,f35 L N t u []=some (⟨rows⟩,at',ok)∧(ok=true→FitW t 0∧FitW u 0)∧
   (ok=true→∃S a U b,TermIn [] t S a∧TermIn [] u U b∧a.length+b.length≤60∧rows=bothL a b∧at'=(a.length:Int)):=by
 obtain ⟨ra,oa,a1,a4,a5⟩:=graphOfI L N hN hL t ht
 obtain ⟨rb,ob,b1,b4,b5⟩:=graphOfI L N hN hL u hu
 show ∃rows at' ok,f35.b' L N (fun a0 a1 a2=>some (a0,a1,a2)) t u []=some (⟨rows⟩,at',ok)∧_
 unfold f35.b'
 rw [tree_eta,tree_eta,a1,b1]
 simp only [Option.bind_some]
 cases oa with
 |false=>exact ⟨[],0,false,rfl,fun h=>(by cases h),fun h=>by cases h⟩
 |true=>
  rw [Bool.not_true,cond_false]
  cases ob with
  |false=>exact ⟨[],0,false,rfl,fun h=>(by cases h),fun h=>by cases h⟩
  |true=>
   rw [Bool.not_true,cond_false]
   obtain ⟨S,hS⟩:=a4 rfl
   obtain ⟨U,hU⟩:=b4 rfl
   have e1:f66 L N (Graph.mk (Graph.mk ra).moves) (Graph.mk (Graph.mk rb).moves)=_:=bothI L N (by omega) ra rb hS.graph.1 hU.graph.1 hS.graph.2 hU.graph.2
   rw [e1]
   simp only [Option.bind_some]
   by_cases h60:ra.length+rb.length≤60
   ·rw [if_pos h60]
    exact ⟨bothL ra rb,(ra.length:Int),true,rfl,fun _=>⟨a5 rfl,b5 rfl⟩,fun _=>⟨S,ra,U,rb,hS,hU,h60,rfl,rfl⟩⟩
   ·rw [if_neg h60]
    exact ⟨[],(ra.length:Int),false,rfl,fun h=>(by cases h),fun h=>by cases h⟩
end Go.Proofs.YthidlhjjnaldhaaGreatDoor.Ev
namespace Go.Proofs.YthidlhjjnaldhaaGreatDoor.Ev
open Go
set_option linter.unusedVariables false
set_option linter.unusedSimpArgs false
def QOk (ms:List (List Move)) (seen:List Bool) (q:List Int):Prop:=seen.length=ms.length∧(∀v∈q,∃t:Nat,v=(t:Int)∧Tr seen t)∧(∀t:Nat,Tr seen t→(t:Int)∈q)∧q.length=cnt seen∧q.Nodup
theorem QOk.add {ms:List (List Move)} {seen:List Bool} {q:List Int} (h:QOk ms seen q) {t:Nat} (ht:t<ms.length) (hf:seen.getD t false=false):QOk ms (seen.set t true) (q++[(t:Int)]):=by
 obtain ⟨h1,h2,h3,h4,h5⟩:=h
 refine ⟨by simp [h1],fun v hv=>?_,fun t' ht'=>?_,?_,?_⟩
 ·rcases List.mem_append.1 hv with hv|hv
  ·obtain ⟨s,rfl,hs⟩:=h2 v hv
   exact ⟨s,rfl,(Tr_set (by omega)).2 (.inr hs)⟩
  ·obtain rfl:=List.mem_singleton.1 hv
   exact ⟨t,rfl,(Tr_set (by omega)).2 (.inl rfl)⟩
 ·rcases (Tr_set (by omega)).1 ht' with rfl|h
  ·exact List.mem_append_right _ (List.mem_singleton.2 rfl)
  ·exact List.mem_append_left _ (h3 t' h)
 ·rw [List.length_append,cnt_set _ _ (by omega) hf,h4];rfl
 ·refine List.nodup_append.2 ⟨h5,by simp,fun a ha b hb e=>?_⟩
  obtain rfl:=List.mem_singleton.1 hb
  obtain ⟨s,hs,hT⟩:=h2 a ha
  obtain rfl:s=t:=by omega
  unfold Tr at hT
  rw [hf] at hT;cases hT
theorem QOk.len {ms:List (List Move)} {seen:List Bool} {q:List Int} (h:QOk ms seen q):q.length≤ms.length:=by
 have:=cnt_le seen
 obtain ⟨h1,-,-,h4,-⟩:=h
 omega
end Go.Proofs.YthidlhjjnaldhaaGreatDoor.Ev
namespace Go.Proofs.YthidlhjjnaldhaaGreatDoor.Ev
open Go
set_option linter.unusedVariables false
set_option linter.unusedSimpArgs false
def NextE (E:Nat→Nat→Prop) (n:Nat) (q:List Int):Prop:=q.length=n∧∀(i:Nat) (hi:i<q.length),∃j:Nat,q[i]=(j:Int)∧j≤i∧E j i∧∀j',j'<j→¬E j' i
theorem NextE.congr {E F:Nat→Nat→Prop} {n:Nat} {q:List Int} (h:NextE E n q) (he:∀i j,j≤i→i<n→(E j i↔F j i)):NextE F n q:=
 ⟨h.1,fun i hi=>by
  obtain ⟨j,a1,a2,a3,a4⟩:=h.2 i hi
  have hn:i<n:=by rw [←h.1];exact hi
  exact ⟨j,a1,a2,(he i j a2 hn).1 a3,fun j' hj' hf=>a4 j' hj' ((he i j' (by omega) hn).2 hf)⟩⟩
def Low (p:List Int):Prop:=∀(i:Nat) (hi:i<p.length),0≤p[i]∧p[i]≤(i:Int)
theorem low_zero (n:Nat):Low (List.replicate n (0:Int)):=fun i hi=>by rw [List.getElem_replicate];omega
theorem NextE.low {E:Nat→Nat→Prop} {n:Nat} {q:List Int} (h:NextE E n q):Low q:=fun i hi=>by
 obtain ⟨j,a1,a2,-⟩:=h.2 i hi
 rw [a1];omega
theorem NextE.ge {E:Nat→Nat→Prop} {n:Nat} {p q:List Int} (h:NextE E n q) (hp:p.length=n) (hl:Low p) (hE:∀j i,E j i→p.getD j 0=p.getD i 0):∀(i:Nat) (h1:i<p.length) (h2:i<q.length),p[i]≤q[i]:=fun i h1 h2=>by
 obtain ⟨j,a1,a2,a3,-⟩:=h.2 i h2
 have e:=hE j i a3
 have hj:j<p.length:=by omega
 rw [getD_lt h1,getD_lt hj] at e
 have:=(hl j hj).2
 rw [a1];omega
def wgt (p:List Int):Nat:=(p.map Int.toNat).sum
theorem wgt_lt:∀{p q:List Int},p.length=q.length→(∀(i:Nat) (h1:i<p.length) (h2:i<q.length),0≤p[i]∧p[i]≤q[i])→p≠q→wgt p<wgt q
 |[],[],_,_,h=>absurd rfl h
 |[],_::_,h,_,_=>by simp at h
 |_::_,[],h,_,_=>by simp at h
 |a::p,b::q,hl,hle,hne=>by
  have h0:=hle 0 (by simp) (by simp)
  have hl':p.length=q.length:=by simpa using hl
  have htl:∀(i:Nat) (h1:i<p.length) (h2:i<q.length),0≤p[i]∧p[i]≤q[i]:=fun i h1 h2=>hle (i+1) (by simp;omega) (by simp;omega)
  simp only [List.getElem_cons_zero] at h0
  unfold wgt
  rw [List.map_cons,List.map_cons,List.sum_cons,List.sum_cons]
  by_cases e:a=b
  ·subst e
   have:=wgt_lt hl' htl (fun e=>hne (by rw [e]))
   unfold wgt at this
   omega
  ·by_cases e2:p=q
   ·subst e2;omega
   ·have:=wgt_lt hl' htl e2
    unfold wgt at this
    omega
theorem wgt_le:∀{p:List Int} {B:Nat},(∀x∈p,x≤(B:Int))→wgt p≤p.length*B
 |[],_,_=>by simp [wgt]
 |a::p,B,h=>by
  have h1:=h a (.head _)
  have h2:=wgt_le (p:=p) (B:=B) fun x hx=>h x (.tail _ hx)
  unfold wgt at h2⊢
  rw [List.map_cons,List.sum_cons,List.length_cons,Nat.add_mul,Nat.one_mul]
  omega
def Sig (ms:List (List Move)) (p:List Int) (i:Nat) (m:Move):Prop:=∃(h:i<ms.length) (k:Nat) (hk:k<(ms[i]).length),m.act=(ms[i])[k].act∧m.to=p.getD (ms[i])[k].to.toNat 0
def Akin (ms:List (List Move)) (p:List Int) (j i:Nat):Prop:=p.getD j 0=p.getD i 0∧∀m,Sig ms p i m↔Sig ms p j m
theorem Akin.refl (ms:List (List Move)) (p:List Int) (i:Nat):Akin ms p i i:=⟨rfl,fun _=>Iff.rfl⟩
theorem equalI_ok (L N:Nat) (a b:List Int) (hL:a.length<L) (hl:a.length≤1048576):∃r,f146 L N a b=some r∧(r=true↔a=b):=by
 show ∃r,f146.b L N some a b=some r∧_
 unfold f146.b f146.b'
 by_cases he:a.length=b.length
 ·have:((a.length:Int) !=(b.length:Int))=false:=by simp [he]
  rw [this,cond_false]
  have key:∀(n i:Nat),i≤a.length→a.length-i<n→(∀j (h1:j<a.length) (h2:j<b.length),j<i→a[j]=b[j])→
    ∃r,f146.l0 L N (f146.p0_e0 L N some) (fun z3=>f146.p0_r L N some z3) n a b (a.length:Int) (i:Int)=some r∧(r=true↔a=b):=by
   intro n
   induction n with
   |zero=>intro i _ h;omega
   |succ n ih=>
    intro i hi hn hs
    show ∃r,f146.s0 L N _ _ (f146.l0 L N _ _ n) a b (a.length:Int) (i:Int)=some r∧_
    unfold f146.s0 f146.s0'
    by_cases hlt:i<a.length
    ·have hlt':i<b.length:=by omega
     simp only [le0,lt_cast hlt,lt_cast hlt',Bool.and_true,cond_true,Int.toNat_natCast,at_lt hlt,at_lt hlt']
     by_cases h1:a[i]=b[i]
     ·rw [show (a[i] !=b[i])=false by simpa using h1,cond_false,wi_nat (by omega)]
      refine ih (i+1) (by omega) (by omega) fun j h2 h3 h4=>?_
      by_cases e:j=i
      ·subst e;exact h1
      ·exact hs j h2 h3 (by omega)
     ·rw [show (a[i] !=b[i])=true by simpa using h1,cond_true]
      refine ⟨false,rfl,?_⟩
      simp only [Bool.false_eq_true,false_iff]
      intro e
      subst e
      exact h1 rfl
    ·simp only [ge_cast hlt,cond_false]
     refine ⟨true,rfl,?_⟩
     simp only [true_iff]
     exact List.ext_getElem he fun j h1 h2=>hs j h1 h2 (by omega)
  exact key L 0 (by omega) (by omega) (fun _ _ _ h=>by omega)
 ·have:((a.length:Int) !=(b.length:Int))=true:=by simp;omega
  rw [this,cond_true]
  refine ⟨false,rfl,?_⟩
  simp only [Bool.false_eq_true,false_iff]
  intro e
  exact he (by rw [e])
end Go.Proofs.YthidlhjjnaldhaaGreatDoor.Ev
namespace Go.Proofs.YthidlhjjnaldhaaGreatDoor.Ev
open Go
set_option linter.unusedVariables false
set_option linter.unusedSimpArgs false
theorem equalMA_ok (L N:Nat) (a b:List Move) (hL:a.length<L) (hl:a.length≤1099511627776):∃r,f185 L N a b=some r∧(r=true↔a=b):=by
 show ∃r,f185.b L N some a b=some r∧_
 unfold f185.b f185.b'
 have eqb:∀x y:Move,Move.eqb x y=true↔x=y:=fun x y=>by
  constructor
  ·intro h
   simp only [Move.eqb,Bool.and_eq_true,beq_iff_eq] at h
   rw [←mv_eta x,←mv_eta y,h.1,h.2]
  ·rintro rfl;simp [Move.eqb]
 by_cases he:a.length=b.length
 ·have:((a.length:Int) !=(b.length:Int))=false:=by simp [he]
  rw [this,cond_false]
  have key:∀(n i:Nat),i≤a.length→a.length-i<n→(∀j (h1:j<a.length) (h2:j<b.length),j<i→a[j]=b[j])→
    ∃r,f185.l0 L N (f185.p0_e0 L N some) (fun z4=>f185.p0_r L N some z4) n a b (a.length:Int) (i:Int)=some r∧(r=true↔a=b):=by
   intro n
   induction n with
   |zero=>intro i _ h;omega
   |succ n ih=>
    intro i hi hn hs
    show ∃r,f185.s0 L N _ _ (f185.l0 L N _ _ n) a b (a.length:Int) (i:Int)=some r∧_
    unfold f185.s0 f185.s0'
    by_cases hlt:i<a.length
    ·have hlt':i<b.length:=by omega
     simp only [le0,lt_cast hlt,lt_cast hlt',Bool.and_true,cond_true,Int.toNat_natCast,at_lt hlt,at_lt hlt']
     cases h0:Move.eqb a[i] b[i] with
     |true=>
      have h1:=(eqb _ _).1 h0
      rw [Bool.not_true,cond_false,wi_nat (by omega)]
      refine ih (i+1) (by omega) (by omega) fun j h2 h3 h4=>?_
      by_cases e:j=i
      ·subst e;exact h1
      ·exact hs j h2 h3 (by omega)
     |false=>
      rw [Bool.not_false,cond_true]
      refine ⟨false,rfl,?_⟩
      simp only [Bool.false_eq_true,false_iff]
      intro e
      subst e
      rw [(eqb _ _).2 rfl] at h0;cases h0
    ·simp only [ge_cast hlt,cond_false]
     refine ⟨true,rfl,?_⟩
     simp only [true_iff]
     exact List.ext_getElem he fun j h1 h2=>hs j h1 h2 (by omega)
  exact key L 0 (by omega) (by omega) (fun _ _ _ h=>by omega)
 ·have:((a.length:Int) !=(b.length:Int))=true:=by simp;omega
  rw [this,cond_true]
  refine ⟨false,rfl,?_⟩
  simp only [Bool.false_eq_true,false_iff]
  intro e
  exact he (by rw [e])
theorem refineA_ok (L N:Nat) (ms:List (List Move)) (hn60:ms.length≤60) (hL:8589934592≤L) (p:List Int) (hp:p.length=ms.length) (key:Nat→List Move) (hkl:∀i,(key i).length≤3774873660)
  (hkey:∀i,i<ms.length→f145_1 L N (i:Int) ms p=some (key i)):
  ∃q,f144_1 L N p ms p=some q∧NextE (fun j i=>p.getD j 0=p.getD i 0∧key j=key i) ms.length q:=by
 have hlim:=lim_eq
 have inner:∀{R:Type} (K:List Int→List (List Move)→List Int→Int→Int→List Int→List (List Move)→Option R) (i:Nat) (hi:i<ms.length) (out:List Int) (keys:List (List Move)),out.length=ms.length→keys.length=ms.length→(∀j,j≤i→keys.getD j []=key j)→∀(n j:Nat),j≤i→i-j<n→(∀j',j'<j→¬(p.getD j' 0=p.getD i 0∧key j'=key i))→out.getD i 0=(i:Int)→
   ∃(b:Nat) (out':List Int),b≤i∧(p.getD b 0=p.getD i 0∧key b=key i)∧(∀j',j'<b→¬(p.getD j' 0=p.getD i 0∧key j'=key i))∧out'=out.set i (b:Int)∧f144_1.l1 L N K n p ms p (i:Int) (j:Int) (ms.length:Int) (i:Int) out keys=K p ms p (ms.length:Int) (i:Int) out' keys:=by
  intro R K i hi out keys ho hk hks n
  induction n with
  |zero=>intro j _ h;omega
  |succ n ih=>
   intro j hj hn hno hoi
   show ∃(b:Nat) (out':List Int),_∧_∧_∧_∧f144_1.s1 L N _ (f144_1.l1 L N _ n) p ms p (i:Int) (j:Int) (ms.length:Int) (i:Int) out keys=_
   unfold f144_1.s1 f144_1.s1'
   by_cases hlt:j<i
   ·have hjp:j<p.length:=by omega
    have hip:i<p.length:=by omega
    have hjk:j<keys.length:=by omega
    have hik:i<keys.length:=by omega
    have hio:i<out.length:=by omega
    simp only [lt_cast hlt,le0,lt_cast hjp,lt_cast hip,lt_cast hjk,lt_cast hik,Bool.and_true,cond_true,Int.toNat_natCast,atD,hks j (by omega),hks i (by omega)]
    have stay:¬(p.getD j 0=p.getD i 0∧key j=key i)→∃(b:Nat) (out':List Int),b≤i∧(p.getD b 0=p.getD i 0∧key b=key i)∧(∀j',j'<b→¬(p.getD j' 0=p.getD i 0∧key j'=key i))∧out'=out.set i (b:Int)∧f144_1.l1 L N K n p ms p (i:Int) (wi ((j:Int)+1)) (ms.length:Int) (i:Int) out keys=K p ms p (ms.length:Int) (i:Int) out' keys:=fun hne=>by
     rw [wi_nat (by omega)]
     refine ih (j+1) (by omega) (by omega) (fun j' h=>?_) hoi
     by_cases e:j'=j
     ·subst e;exact hne
     ·exact hno j' (by omega)
    by_cases h1:p.getD j 0=p.getD i 0
    ·obtain ⟨r,e1,f1⟩:=equalMA_ok L N (key j) (key i) (by have:=hkl j;omega) (by have:=hkl j;omega)
     rw [show (p.getD j 0==p.getD i 0)=true by simpa using h1,cond_true,e1,Option.bind_some]
     unfold f144_1.j0'
     cases r with
     |true=>
      simp only [cond_true,le0,lt_cast hio,Bool.and_true,Int.toNat_natCast]
      exact ⟨j,_,by omega,⟨h1,f1.1 rfl⟩,hno,rfl,rfl⟩
     |false=>
      rw [cond_false]
      exact stay fun h=>absurd (f1.2 h.2) (by simp)
    ·rw [show (p.getD j 0==p.getD i 0)=false by simpa using h1,cond_false]
     unfold f144_1.j0'
     rw [cond_false]
     exact stay fun h=>h1 h.1
   ·have hji:j=i:=by omega
    subst hji
    simp only [ge_cast (Nat.lt_irrefl _),cond_false]
    refine ⟨j,_,Nat.le_refl _,⟨rfl,rfl⟩,hno,rfl,?_⟩
    have hio:j<out.length:=by omega
    rw [getD_lt hio] at hoi
    rw [←hoi,List.set_getElem_self]
 show ∃q,f144_1.b L N some p ms p=some q∧_
 unfold f144_1.b f144_1.b'
 have h0:decide ((ms.length:Int)≤(lim:Int))=true:=dt (by omega)
 have e0:((ms.length:Int)).toNat=ms.length:=rfl
 simp only [hp,le0,h0,Bool.and_true,cond_true,e0]
 have key0:∀(n i:Nat) (out:List Int) (keys:List (List Move)),out.length=ms.length→keys.length=ms.length→i≤ms.length→ms.length-i<n→(∀j,j<i→keys.getD j []=key j)→(∀i',i'<i→∃j:Nat,out.getD i' 0=(j:Int)∧j≤i'∧(p.getD j 0=p.getD i' 0∧key j=key i')∧∀j',j'<j→¬(p.getD j' 0=p.getD i' 0∧key j'=key i'))→
   ∃q,f144_1.l0 L N (fun z7=>f144_1.p0_e0 L N some z7) n p ms p (ms.length:Int) (i:Int) out keys=some q∧NextE (fun j i=>p.getD j 0=p.getD i 0∧key j=key i) ms.length q:=by
  intro n
  induction n with
  |zero=>intro i out keys _ _ _ h;omega
  |succ n ih=>
   intro i out keys ho hk hi hn hks hout
   show ∃q,f144_1.s0 L N _ (f144_1.l0 L N _ n) p ms p (ms.length:Int) (i:Int) out keys=some q∧_
   unfold f144_1.s0 f144_1.s0'
   by_cases hlt:i<ms.length
   ·have hio:i<out.length:=by omega
    have hik:i<keys.length:=by omega
    simp only [lt_cast hlt,cond_true,hkey i hlt,Option.bind_some,le0,lt_cast hio,lt_cast hik,Bool.and_true,Int.toNat_natCast]
    have hks':∀j,j≤i→(keys.set i (key i)).getD j []=key j:=fun j hj=>by
     by_cases e:j=i
     ·subst e;rw [getD_lt (by simpa using hik),List.getElem_set_self]
     ·rw [List.getD,List.getElem?_set_ne (by omega),←List.getD];exact hks j (by omega)
    obtain ⟨b,out',q1,q2,q3,q4,e⟩:=inner (fun z18 z19 z20 z21 z22 z23 z24=>f144_1.p1_e2 L N (fun z7=>f144_1.p0_e0 L N some z7) (f144_1.l0 L N (fun z7=>f144_1.p0_e0 L N some z7) n) z18 z19 z20 z21 z22 z23 z24) i hlt (out.set i (i:Int)) (keys.set i (key i)) (by simp [ho]) (by simp [hk]) hks' L 0 (by omega) (by omega) (fun j' h=>by omega) (by rw [getD_lt (by simpa using hio),List.getElem_set_self])
    refine (show ∃q,_=some q∧_ from ?_)
    have e':f144_1.l1 L N (fun z18 z19 z20 z21 z22 z23 z24=>f144_1.p1_e2 L N (fun z7=>f144_1.p0_e0 L N some z7) (f144_1.l0 L N (fun z7=>f144_1.p0_e0 L N some z7) n) z18 z19 z20 z21 z22 z23 z24) L p ms p (i:Int) (0:Int) (ms.length:Int) (i:Int) (out.set i (i:Int)) (keys.set i (key i))=_:=e
    rw [e']
    show ∃q,f144_1.p1_e2' L N _ _ p ms p (ms.length:Int) (i:Int) out' (keys.set i (key i))=some q∧_
    unfold f144_1.p1_e2'
    rw [wi_nat (by omega)]
    have hset:(out.set i (i:Int)).set i (b:Int)=out.set i (b:Int):=by rw [List.set_set]
    refine ih (i+1) out' _ (by rw [q4];simp [ho]) (by simp [hk]) (by omega) (by omega) (fun j hj=>hks' j (by omega)) fun i' hi'=>?_
    rw [q4,hset]
    by_cases e:i'=i
    ·subst e
     exact ⟨b,by rw [getD_lt (by simpa using hio),List.getElem_set_self],q1,q2,q3⟩
    ·obtain ⟨j,r1,r2⟩:=hout i' (by omega)
     exact ⟨j,by rw [List.getD,List.getElem?_set_ne (by omega),←List.getD];exact r1,r2⟩
   ·simp only [ge_cast hlt,cond_false]
    have hi':i=ms.length:=by omega
    subst hi'
    refine ⟨out,rfl,ho,fun i hi=>?_⟩
    obtain ⟨j,r1,r2⟩:=hout i (by omega)
    rw [getD_lt hi] at r1
    exact ⟨j,r1,r2⟩
 exact key0 L 0 (List.replicate ms.length (0:Int)) (List.replicate ms.length ([]:List Move)) List.length_replicate List.length_replicate (by omega) (by omega) (fun j h=>by omega) (fun i' h=>by omega)
end Go.Proofs.YthidlhjjnaldhaaGreatDoor.Ev
namespace Go.Proofs.YthidlhjjnaldhaaGreatDoor.Ev
open Go
set_option linter.unusedVariables false
set_option linter.unusedSimpArgs false
def sigRow (ms:List (List Move)) (p:List Int) (i:Nat):List Move:=(ms.getD i []).map fun m=>Move.mk m.act (p.getD m.to.toNat 0)
def alikeKey (ms:List (List Move)) (p:List Int) (i:Nat):List Move:=tidyM (sigRow ms p i)
theorem sigRow_len {ms:List (List Move)} (hm:Leads ms) (p:List Int) (i:Nat):(sigRow ms p i).length≤1048576:=by
 unfold sigRow
 rw [List.length_map]
 by_cases h:i<ms.length
 ·rw [getD_lt h];exact (hm.2 i h).1
 ·rw [List.getD,List.getElem?_eq_none (by omega)];simp
theorem sigRow_mem (ms:List (List Move)) (p:List Int) (i:Nat) (m:Move):m∈sigRow ms p i↔Sig ms p i m:=by
 unfold sigRow Sig
 rw [List.mem_map]
 by_cases h:i<ms.length
 ·rw [getD_lt h]
  constructor
  ·rintro ⟨x,hx,rfl⟩
   obtain ⟨k,hk,rfl⟩:=List.mem_iff_getElem.1 hx
   exact ⟨h,k,hk,rfl,rfl⟩
  ·rintro ⟨_,k,hk,h1,h2⟩
   exact ⟨_,List.getElem_mem hk,by rw [←mv_eta m,h1,h2]⟩
 ·rw [List.getD,List.getElem?_eq_none (by omega)]
  constructor
  ·rintro ⟨x,hx,-⟩;simp at hx
  ·rintro ⟨h',-⟩;exact absurd h' h
theorem alikeKey_len {ms:List (List Move)} (hm:Leads ms) (p:List Int) (i:Nat):(alikeKey ms p i).length≤3774873660:=by
 have h1:=tidyM_le (sigRow ms p i)
 have h2:=sigRow_len hm p i
 unfold alikeKey
 omega
theorem alikeKey_iff (ms:List (List Move)) (p:List Int) (j i:Nat):alikeKey ms p j=alikeKey ms p i↔∀m,Sig ms p i m↔Sig ms p j m:=by
 have hmem:∀k m,m∈alikeKey ms p k↔Sig ms p k m:=fun k m=>(tidyM_mem _ m).trans (sigRow_mem ms p k m)
 constructor
 ·intro h m
  rw [←hmem i m,←hmem j m,h]
 ·intro h
  exact risesM_ext (tidyM_rises _) (tidyM_rises _) fun m=>(hmem j m).trans ((h m).symm.trans (hmem i m).symm)
theorem keyA_ok (L N:Nat) (ms:List (List Move)) (hm:Leads ms) (hL:8589934592≤L) (p:List Int) (hp:p.length=ms.length) (i:Nat) (hi:i<ms.length):f145_1 L N (i:Int) ms p=some (alikeKey ms p i):=by
 have hlim:=lim_eq
 have hrow:=hm.2 i hi
 have h1:f112_1 L N p (i:Int) ms=some (alikeKey ms p i):=by
  show f112_1.b L N some p (i:Int) ms=_
  unfold f112_1.b f112_1.b'
  simp only [le0,lt_cast hi,Bool.and_true,cond_true,Int.toNat_natCast,at_lt hi]
  have key:∀(n k:Nat) (out:List Move),k≤(ms[i]).length→(ms[i]).length-k<n→out.length=k→
    f112_1.l0 L N (fun z5=>f112_1.p0_e0 L N some z5) n p ms[i] ((ms[i]).length:Int) (k:Int) out=some (tidyM (out++((ms[i]).drop k).map fun m=>Move.mk m.act (p.getD m.to.toNat 0))):=by
   intro n
   induction n with
   |zero=>intro k out _ h;omega
   |succ n ih=>
    intro k out hk hn ho
    show f112_1.s0 L N _ (f112_1.l0 L N _ n) p ms[i] ((ms[i]).length:Int) (k:Int) out=_
    unfold f112_1.s0 f112_1.s0'
    by_cases hlt:k<(ms[i]).length
    ·obtain ⟨t,ht,htl⟩:=hm.nat hi hlt
     have htp:t<p.length:=by omega
     have hle:decide (out.length+([(Move.mk ((ms[i])[k]).act (p.getD t 0))]:(List Move)).length≤lim)=true:=dt (by simp only [List.length_cons,List.length_nil];omega)
     simp only [lt_cast hlt,le0,Bool.and_true,cond_true,Int.toNat_natCast,at_lt hlt,ht,lt_cast htp,atD,hle]
     rw [wi_nat (by omega),ih (k+1) _ (by omega) (by omega) (by simp [ho]),List.drop_eq_getElem_cons hlt,List.map_cons,ht,Int.toNat_natCast,List.append_assoc]
     rfl
    ·simp only [ge_cast hlt,cond_false]
     rw [List.drop_eq_nil_of_le (by omega),List.map_nil,List.append_nil]
     show f112_1.p0_e0' L N some out=_
     unfold f112_1.p0_e0'
     rw [fsortM_some (by omega),Option.bind_some]
  have h:=key L 0 [] (by omega) (by omega) rfl
  rw [List.drop_zero,List.nil_append] at h
  have hs:alikeKey ms p i=tidyM ((ms[i]).map fun m=>Move.mk m.act (p.getD m.to.toNat 0)):=by
   unfold alikeKey sigRow;rw [getD_lt hi]
  rw [hs]
  exact h
 show f145_1.b' L N some (i:Int) ms p=_
 unfold f145_1.b'
 rw [h1,Option.bind_some]
theorem refineAkin (L N:Nat) (ms:List (List Move)) (hm:Leads ms) (hL:8589934592≤L) (p:List Int) (hp:p.length=ms.length):
  ∃q,f144_1 L N p ms p=some q∧NextE (Akin ms p) ms.length q:=by
 obtain ⟨q,h1,h2⟩:=refineA_ok L N ms hm.1 hL p hp (alikeKey ms p) (alikeKey_len hm p) (fun i hi=>keyA_ok L N ms hm hL p hp i hi)
 exact ⟨q,h1,h2.congr fun i j _ _=>and_congr Iff.rfl (alikeKey_iff ms p j i)⟩
theorem last_cast {α:Type} (pre:List α) (p d:α) (h:pre.length≤1048576):wi (((pre++[p]).length:Int)-1)=(pre.length:Int)∧pre.length<(pre++[p]).length∧listAt (pre++[p]) d pre.length=p:=by
 refine ⟨?_,by simp,?_⟩
 ·rw [List.length_append,List.length_cons,List.length_nil,wi_id (by omega) (by omega)];omega
 ·rw [at_lt (by simp)];simp
end Go.Proofs.YthidlhjjnaldhaaGreatDoor.Ev
namespace Go.Proofs.YthidlhjjnaldhaaGreatDoor.Ev
open Go
set_option linter.unusedVariables false
set_option linter.unusedSimpArgs false
inductive Chain (E:List Int→Nat→Nat→Prop) (n:Nat):List (List Int)→List Int→Prop
 |zero:Chain E n [] (List.replicate n 0)
 |snoc (pre:List (List Int)) (p q:List Int) (h:Chain E n pre p) (hq:NextE (E p) n q):Chain E n (pre++[p]) q
structure EqE (E:List Int→Nat→Nat→Prop):Prop where
 refl:∀p i,E p i i
 symm:∀p i j,E p i j→E p j i
 trans:∀p i j k,E p i j→E p j k→E p i k
 fine:∀p i j,E p i j→p.getD i 0=p.getD j 0
theorem NextE.same {E:Nat→Nat→Prop} {n:Nat} {q:List Int} (h:NextE E n q) (sy:∀i j,E i j→E j i) (tr:∀i j k,E i j→E j k→E i k) {i i':Nat} (hi:i<n) (hi':i'<n):q.getD i 0=q.getD i' 0↔E i i':=by
 have hl:=h.1
 rw [getD_lt (show i<q.length by omega),getD_lt (show i'<q.length by omega)]
 obtain ⟨j,a1,a2,a3,a4⟩:=h.2 i (by omega)
 obtain ⟨j',b1,b2,b3,b4⟩:=h.2 i' (by omega)
 rw [a1,b1]
 constructor
 ·intro e
  obtain rfl:j=j':=by omega
  exact tr _ _ _ (sy _ _ a3) b3
 ·intro e
  have h1:¬j<j':=fun hlt=>b4 j hlt (tr _ _ _ a3 e)
  have h2:¬j'<j:=fun hlt=>a4 j' hlt (tr _ _ _ b3 (sy _ _ e))
  have:j=j':=by omega
  rw [this]
theorem Chain.len {E:List Int→Nat→Nat→Prop} {n:Nat} {pre:List (List Int)} {p:List Int} (h:Chain E n pre p):p.length=n:=by
 cases h with
 |zero=>simp
 |snoc pre p q h hq=>exact hq.1
theorem Chain.low {E:List Int→Nat→Nat→Prop} {n:Nat} {pre:List (List Int)} {p:List Int} (h:Chain E n pre p):Low p:=by
 cases h with
 |zero=>exact low_zero n
 |snoc pre p q h hq=>exact hq.low
theorem Chain.first {E:List Int→Nat→Nat→Prop} {n:Nat} {pre:List (List Int)} {p:List Int} (h:Chain E n pre p):(pre++[p]).getD 0 []=List.replicate n 0:=by
 induction h with
 |zero=>rfl
 |snoc pre p q h hq ih=>
  cases pre with
  |nil=>exact ih
  |cons a t=>exact ih
theorem Chain.keeps {E:List Int→Nat→Nat→Prop} (hE:EqE E) {n:Nat} {pre:List (List Int)} {p:List Int} (h:Chain E n pre p) (R:Nat→Nat→Prop)
  (hR:∀p,p.length=n→(∀i j,i<n→j<n→R i j→p.getD i 0=p.getD j 0)→∀i j,i<n→j<n→R i j→E p i j):
  ∀i j,i<n→j<n→R i j→p.getD i 0=p.getD j 0:=by
 induction h with
 |zero=>
  intro i j hi hj _
  rw [getD_lt (by simpa using hi),getD_lt (by simpa using hj),List.getElem_replicate,List.getElem_replicate]
 |snoc pre p q h hq ih=>
  intro i j hi hj hr
  exact (hq.same (hE.symm p) (hE.trans p) hi hj).2 (hR p h.len ih i j hi hj hr)
def Fix (E:List Int→Nat→Nat→Prop) (n:Nat) (q:List Int):Prop:=q.length=n∧NextE (E q) n q
theorem Fix.same {E:List Int→Nat→Nat→Prop} (hE:EqE E) {n:Nat} {q:List Int} (h:Fix E n q) {i j:Nat} (hi:i<n) (hj:j<n):q.getD i 0=q.getD j 0↔E q i j:=h.2.same (hE.symm q) (hE.trans q) hi hj
theorem akinEq (ms:List (List Move)):EqE (Akin ms) where
 refl p i:=Akin.refl ms p i
 symm p i j h:=⟨h.1.symm,fun m=>(h.2 m).symm⟩
 trans p i j k h1 h2:=⟨h1.1.trans h2.1,fun m=>(h2.2 m).trans (h1.2 m)⟩
 fine p i j h:=h.1
theorem roundsI (L N:Nat) (ms:List (List Move)) (hm:Leads ms) (hL:8589934592≤L):∀(n:Nat) (pre:List (List Int)) (p:List Int),p.length=ms.length→Low p→pre.length≤wgt p→3600-wgt p<n→Chain (Akin ms) ms.length pre p→
  ∃pre' q,f111_1.l0 L N (fun z4=>f111_1.p0_r L N some z4) n ms (pre++[p])=some (pre'++[q])∧pre'.length≤3600∧Chain (Akin ms) ms.length pre' q∧Fix (Akin ms) ms.length q:=by
 have hlim:=lim_eq
 have hn60:=hm.1
 have hw:∀p:List Int,p.length=ms.length→Low p→wgt p≤3600:=fun p hp hl=>by
  have h1:=wgt_le (p:=p) (B:=60) fun x hx=>by
   obtain ⟨i,hi,rfl⟩:=List.mem_iff_getElem.1 hx
   have:=hl i hi;omega
  omega
 intro n
 induction n with
 |zero=>intro pre p _ _ _ h;omega
 |succ n ih=>
  intro pre p hp hl hpre hn hch
  have hwp:=hw p hp hl
  obtain ⟨e1,e2,e3⟩:=last_cast pre p [] (by omega)
  obtain ⟨q1,b1,a2⟩:=refineAkin L N ms hm hL p hp
  have hq:q1.length=ms.length:=a2.1
  obtain ⟨r1,d1,c2⟩:=equalI_ok L N q1 p (by omega) (by omega)
  have hle:decide ((pre++[p]).length+([q1]:List (List Int)).length≤lim)=true:=dt (by simp only [List.length_append,List.length_cons,List.length_nil];omega)
  have s2:f111_1.l0 L N (fun z4=>f111_1.p0_r L N some z4) (n+1) ms (pre++[p])=bif r1 then some (pre++[p]) else f111_1.l0 L N (fun z4=>f111_1.p0_r L N some z4) n ms (pre++[p]++[q1]):=by
   show f111_1.s0 L N _ (f111_1.l0 L N _ n) ms (pre++[p])=_
   unfold f111_1.s0 f111_1.s0'
   simp only [e1,le0,lt_cast e2,Bool.and_true,cond_true,Int.toNat_natCast,e3,b1,d1,Option.bind_some,hle]
   rfl
  rw [s2]
  cases r1 with
  |true=>
   have heq:q1=p:=c2.1 rfl
   subst heq
   exact ⟨pre,q1,rfl,by omega,hch,hp,a2⟩
  |false=>
   have hne:p≠q1:=fun e=>absurd (c2.2 e.symm) (by simp)
   have hlt:=wgt_lt (by omega) (fun i h1 h2=>⟨(hl i h1).1,a2.ge hp hl (fun j i h=>h.1) i h1 h2⟩) hne
   have hwq:=hw q1 hq a2.low
   exact ih (pre++[p]) q1 hq a2.low (by simp only [List.length_append,List.length_cons,List.length_nil];omega) (by omega) (.snoc _ _ _ hch a2)
theorem chainI (L N:Nat) (ms:List (List Move)) (hm:Leads ms) (hL:8589934592≤L):∃pre q,f69 L N ⟨ms⟩=some (pre++[q])∧pre.length≤3600∧Chain (Akin ms) ms.length pre q∧Fix (Akin ms) ms.length q:=by
 have hlim:=lim_eq
 have hn60:=hm.1
 obtain ⟨pre,q,h2,h4,h5,h6⟩:=roundsI L N ms hm hL L [] (List.replicate ms.length 0) (by simp) (low_zero _) (by simp) (by omega) .zero
 have h0:decide ((ms.length:Int)≤(lim:Int))=true:=dt (by omega)
 have e0:((ms.length:Int)).toNat=ms.length:=rfl
 have r2:f69 L N ⟨ms⟩=some (pre++[q]):=by
  have hrr:f111_1 L N (ms.length:Int) ms=some (pre++[q]):=by
   show f111_1.b L N some (ms.length:Int) ms=_
   unfold f111_1.b f111_1.b'
   simp only [le0,h0,Bool.and_true,cond_true,e0]
   exact h2
  show f69.b' L N some ⟨ms⟩=_
  unfold f69.b'
  simp only [hrr,Option.bind_some]
 exact ⟨pre,q,r2,h4,h5,h6⟩
theorem classesI (L N:Nat) (ms:List (List Move)) {pre:List (List Int)} {q:List Int} (hr:f69 L N ⟨ms⟩=some (pre++[q])) (hp:pre.length≤3600) (hq:q.length≤60):f37 L N ⟨ms⟩=some q:=by
 have hlim:=lim_eq
 obtain ⟨e1,e2,e3⟩:=last_cast pre q [] (by omega)
 show f37.b' L N some ⟨ms⟩=_
 unfold f37.b'
 have hfc:fclone q=some ():=by unfold fclone;rw [dt (by omega)];rfl
 simp only [hr,Option.bind_some,e1,le0,lt_cast e2,Bool.and_true,cond_true,Int.toNat_natCast,e3,hfc]
end Go.Proofs.YthidlhjjnaldhaaGreatDoor.Ev
namespace Go.Proofs.YthidlhjjnaldhaaGreatDoor.Ev
open Go
set_option linter.unusedVariables false
set_option linter.unusedSimpArgs false
abbrev noT:Tree:=.mk 0 0 []
theorem getD_left {S U:List Tree} {i:Nat} (h:i<S.length):(S++U).getD i noT=S.getD i noT:=by
 rw [List.getD_eq_getElem?_getD,List.getD_eq_getElem?_getD,List.getElem?_append_left h]
theorem getD_right {S U:List Tree} {i:Nat} (h:S.length≤i):(S++U).getD i noT=U.getD (i-S.length) noT:=by
 rw [List.getD_eq_getElem?_getD,List.getD_eq_getElem?_getD,List.getElem?_append_right h]
theorem TermIn.place {ds:List Tree} {t:Tree} {S:List Tree} {rows:List (List Move)} (h:TermIn ds t S rows) {i:Nat} (hi:i<rows.length) {s:Step} (hs:s∈steps ds (S.getD i noT)):
  (S.map ttx).idxOf (ttx s.thn)<S.length∧S.getD ((S.map ttx).idxOf (ttx s.thn)) noT=s.thn:=by
 have hl:=h.len
 have hin:=(h.good i hi).1 s hs
 have hx:=List.idxOf_lt_length_of_mem hin
 have hx':(S.map ttx).idxOf (ttx s.thn)<S.length:=by rw [List.length_map] at hx;exact hx
 refine ⟨hx',?_⟩
 have e1:=List.getElem_idxOf (x:=ttx s.thn) (xs:=S.map ttx) hx
 rw [List.getElem_map] at e1
 have hm1:S[(S.map ttx).idxOf (ttx s.thn)]∈S:=List.getElem_mem hx'
 obtain ⟨k1,-,w1,-⟩:=h.fits _ hm1
 have hi':i<S.length:=by omega
 have hSi:S.getD i noT=S[i]:=by rw [List.getD_eq_getElem?_getD,List.getElem?_eq_getElem hi'];rfl
 obtain ⟨k2,l2,w2,c2⟩:=h.fits _ (List.getElem_mem hi')
 rw [hSi] at hs
 obtain ⟨-,k3,w3,-,-⟩:=(steps_bnd ds h.defs S[i] k2 w2 l2 c2).1 s hs
 rw [List.getD_eq_getElem?_getD,List.getElem?_eq_getElem hx']
 exact ttx_one w1 w3 e1
theorem TermIn.row1 {ds:List Tree} {t:Tree} {S:List Tree} {rows:List (List Move)} (h:TermIn ds t S rows) {i:Nat} (hi:i<rows.length) {m:Move} (hm:m∈rows[i]):
  ∃s∈steps ds (S.getD i noT),s.act=m.act∧∃k:Nat,k<S.length∧m.to=(k:Int)∧S.getD k noT=s.thn:=by
 rw [(h.good i hi).2,tidyM_mem] at hm
 obtain ⟨s,hs,rfl⟩:=List.mem_map.1 hm
 obtain ⟨h1,h2⟩:=h.place hi hs
 exact ⟨s,hs,rfl,_,h1,rfl,h2⟩
theorem TermIn.row2 {ds:List Tree} {t:Tree} {S:List Tree} {rows:List (List Move)} (h:TermIn ds t S rows) {i:Nat} (hi:i<rows.length) {s:Step} (hs:s∈steps ds (S.getD i noT)):
  ∃k:Nat,k<S.length∧(⟨s.act,(k:Int)⟩:Move)∈rows[i]∧S.getD k noT=s.thn:=by
 obtain ⟨h1,h2⟩:=h.place hi hs
 refine ⟨_,h1,?_,h2⟩
 rw [(h.good i hi).2,tidyM_mem]
 exact List.mem_map.2 ⟨s,hs,rfl⟩
section
variable {ds : List Tree} {t u : Tree} {S U : List Tree} {a b : List (List Move)} (hS : TermIn ds t S a) (hU : TermIn ds u U b)
include hS hU
theorem bothMv1 {i j:Nat} {c:Int} (h:Mv (bothL a b) i c j):∃s∈steps ds ((S++U).getD i noT),s.act=c∧(S++U).getD j noT=s.thn:=by
 obtain ⟨hi,k,hk,hact,hto⟩:=h
 have hl:=bothL_len a b
 have h1:=hS.len
 have h2:=hU.len
 have hmem:((bothL a b)[i])[k]∈(bothL a b)[i]:=List.getElem_mem hk
 generalize hM:((bothL a b)[i])[k]=m at hmem hact hto
 by_cases hia:i<a.length
 ·have e:(bothL a b)[i]=a[i]:=by unfold bothL;exact List.getElem_append_left hia
  rw [e] at hmem
  obtain ⟨s,g1,g2,k',g3,g4,g5⟩:=hS.row1 hia hmem
  obtain rfl:j=k':=by omega
  refine ⟨s,by rw [getD_left (by omega)];exact g1,by rw [g2,hact],by rw [getD_left g3];exact g5⟩
 ·have hib:i-a.length<b.length:=by omega
  have e:(bothL a b)[i]=shiftR a.length b[i-a.length]:=by
   have h3:i<(a++b.map (shiftR a.length)).length:=hi
   show (a++b.map (shiftR a.length))[i]=_
   rw [List.getElem_append_right (show a.length≤i by omega),List.getElem_map]
  rw [e] at hmem
  unfold shiftR at hmem
  obtain ⟨m',hm',rfl⟩:=List.mem_map.1 hmem
  obtain ⟨s,g1,g2,k',g3,g4,g5⟩:=hU.row1 hib hm'
  have hto':m'.to+(a.length:Int)=(j:Int):=hto
  have hact':m'.act=c:=hact
  refine ⟨s,by rw [getD_right (by omega),←h1];exact g1,by rw [g2,hact'],?_⟩
  rw [getD_right (by omega),←h1,show j-a.length=k' by omega];exact g5
theorem bothMv2 {i:Nat} (hi:i<(bothL a b).length) {s:Step} (hs:s∈steps ds ((S++U).getD i noT)):∃j,Mv (bothL a b) i s.act j∧(S++U).getD j noT=s.thn:=by
 have hl:=bothL_len a b
 have h1:=hS.len
 have h2:=hU.len
 by_cases hia:i<a.length
 ·have e:(bothL a b)[i]=a[i]:=by unfold bothL;exact List.getElem_append_left hia
  rw [getD_left (by omega)] at hs
  obtain ⟨k,g1,g2,g3⟩:=hS.row2 hia hs
  refine ⟨k,?_,by rw [getD_left g1];exact g3⟩
  rw [←e] at g2
  obtain ⟨q,hq,eq⟩:=List.mem_iff_getElem.1 g2
  exact ⟨hi,q,hq,by rw [eq],by rw [eq]⟩
 ·have hib:i-a.length<b.length:=by omega
  have e:(bothL a b)[i]=shiftR a.length b[i-a.length]:=by
   have h3:i<(a++b.map (shiftR a.length)).length:=hi
   show (a++b.map (shiftR a.length))[i]=_
   rw [List.getElem_append_right (show a.length≤i by omega),List.getElem_map]
  rw [getD_right (by omega),←h1] at hs
  obtain ⟨k,g1,g2,g3⟩:=hU.row2 hib hs
  refine ⟨a.length+k,?_,by rw [getD_right (by omega),←h1,show a.length+k-a.length=k by omega];exact g3⟩
  have g4:(⟨s.act,((a.length+k:Nat):Int)⟩:Move)∈(bothL a b)[i]:=by
   rw [e]
   unfold shiftR
   refine List.mem_map.2 ⟨_,g2,?_⟩
   show (⟨s.act,(k:Int)+(a.length:Int)⟩:Move)=_
   rw [show ((a.length+k:Nat):Int)=(k:Int)+(a.length:Int) by omega]
  obtain ⟨q,hq,eq⟩:=List.mem_iff_getElem.1 g4
  exact ⟨hi,q,hq,by rw [eq],by rw [eq]⟩
end
theorem fine_both {a b:List (List Move)} (ha:graphOk ⟨a⟩=true∧∀r∈a,r.length≤540) (hb:graphOk ⟨b⟩=true∧∀r∈b,r.length≤540) (h60:a.length+b.length≤60):graphOk ⟨bothL a b⟩=true∧(bothL a b).length+gsize (bothL a b)≤1048576:=by
 refine ⟨bothL_graph ha.1 hb.1 h60,?_⟩
 have hr:∀r∈bothL a b,r.length≤540:=fun r hr=>by
  unfold bothL at hr
  rcases List.mem_append.1 hr with h|h
  ·exact ha.2 r h
  ·obtain ⟨x,hx,rfl⟩:=List.mem_map.1 h
   unfold shiftR
   rw [List.length_map];exact hb.2 x hx
 have hgs:=gsize_le hr
 have hl:=bothL_len a b
 omega
theorem mv_sig {ms:List (List Move)} (hm:Leads ms) {p:List Int} {i:Nat} {m:Move}:Sig ms p i m↔∃t,Mv ms i m.act t∧m.to=p.getD t 0:=by
 constructor
 ·rintro ⟨hi,k,hk,h1,h2⟩
  obtain ⟨t,ht,-⟩:=hm.nat hi hk
  exact ⟨t,⟨hi,k,hk,h1.symm,ht⟩,by rw [h2,ht,Int.toNat_natCast]⟩
 ·rintro ⟨t,⟨hi,k,hk,h1,h2⟩,h3⟩
  exact ⟨hi,k,hk,h1.symm,by rw [h3,h2,Int.toNat_natCast]⟩
theorem zig_like {ms:List (List Move)} (hm:Leads ms) {B:Nat→Nat→Prop} (hs:∀i j,B i j→B j i) (hz:∀i j a t,B i j→Mv ms i a t→∃t',Mv ms j a t'∧B t t') {q:List Int} {pre:List (List Int)} (hc:Chain (Akin ms) ms.length pre q) {i j:Nat} (hi:i<ms.length) (hj:j<ms.length) (e:B i j):q.getD i 0=q.getD j 0:=by
 refine hc.keeps (akinEq ms) B (fun p hp hk i j hi hj hb=>⟨hk i j hi hj hb,fun m=>?_⟩) i j hi hj e
 have half:∀i j,B i j→Sig ms p i m→Sig ms p j m:=fun i j hb h=>by
  obtain ⟨t,h1,h2⟩:=(mv_sig hm).1 h
  obtain ⟨t',g1,g2⟩:=hz i j _ t hb h1
  exact (mv_sig hm).2 ⟨t',g1,by rw [h2];exact hk t t' (h1.lt hm).2 (g1.lt hm).2 g2⟩
 exact ⟨half j i (hs i j hb),half i j hb⟩
structure Match (R:Tree→Tree→Prop):Prop where
 symm:∀p q,R p q→R q p
 zig:∀p q,R p q→∀s∈steps [] p,∃s'∈steps [] q,s'.act=s.act∧R s.thn s'.thn
theorem termsAlike_of (L N:Nat) (hL:8589934592≤L) {t u:Tree} {ds:List Tree} {ms:List (List Move)} {n:Nat} (h:f35 L N t u ds=some (⟨ms⟩,(n:Int),true)) (hm:Leads ms) (hn:n<ms.length):
  ∃x q pre,f15 L N t u ds=some (x,true)∧Chain (Akin ms) ms.length pre q∧Fix (Akin ms) ms.length q∧(x=true↔q.getD 0 0=q.getD n 0):=by
 have hn60:=hm.1
 obtain ⟨pre,q,c3,c5,c6,c7⟩:=chainI L N ms hm hL
 have hql:=c7.1
 have c4:=classesI L N ms c3 c5 (by omega)
 have c4':f37 L N (Graph.mk (Graph.mk ms).moves)=some q:=c4
 have h0:(decide ((0:Int)≤0)&&decide ((0:Int)<(q.length:Int)))=true:=by rw [dt (show (0:Int)<(q.length:Int) by omega)];rfl
 have hnq:n<q.length:=by omega
 refine ⟨q.getD 0 0==q.getD n 0,q,pre,?_,c6,c7,beq_iff_eq⟩
 show f15.b' L N (fun a0 a1=>some (a0,a1)) t u ds=_
 unfold f15.b'
 rw [tree_eta,tree_eta,h]
 simp only [Option.bind_some,Bool.not_true,cond_false]
 rw [c4']
 simp only [Option.bind_some,h0,cond_true,le0,lt_cast hnq,Bool.and_true,Int.toNat_natCast,atD]
 rfl
theorem termsAlike_no (L N:Nat) {t u:Tree} {ds:List Tree} {g:Graph} {a:Int} (h:f35 L N t u ds=some (g,a,false)):f15 L N t u ds=some (false,false):=by
 show f15.b' L N (fun a0 a1=>some (a0,a1)) t u ds=_
 unfold f15.b'
 rw [tree_eta,tree_eta,h]
 rfl
theorem match_alike (L N:Nat) (hN:4194308≤N) (hL:8589934592≤L) {R:Tree→Tree→Prop} (hR:Match R) {t u:Tree} (ht:nodes t≤1048577) (hu:nodes u≤1048577) (h:R t u):
  ∃x ok,f15 L N t u []=some (x,ok)∧(ok=true→x=true):=by
 obtain ⟨rows,at',ok,h1,-,h3⟩:=bothOfI L N hN (by omega) t u ht hu
 cases ok with
 |false=>exact ⟨false,false,termsAlike_no L N h1,fun h=>by cases h⟩
 |true=>
  obtain ⟨S,a,U,b,hS,hU,h60,rfl,rfl⟩:=h3 rfl
  obtain ⟨f1,f2⟩:=fine_both hS.graph hU.graph h60
  have hm:Leads (bothL a b):=leads_of f1 f2
  have hl:=bothL_len a b
  have k1:=hS.len
  have k2:=hU.len
  have p1:=hS.pos
  have p2:=hU.pos
  obtain ⟨x,q,pre,e1,e2,e3,e4⟩:=termsAlike_of L N (by omega) h1 hm (by omega)
  refine ⟨x,true,e1,fun _=>e4.2 ?_⟩
  refine zig_like hm (B:=fun i j=>i<(bothL a b).length∧j<(bothL a b).length∧R ((S++U).getD i noT) ((S++U).getD j noT)) (fun i j h=>⟨h.2.1,h.1,hR.symm _ _ h.2.2⟩) (fun i j c y h hmv=>?_) e2 (by omega) (by omega) ⟨by omega,by omega,?_⟩
  ·obtain ⟨s,g1,g2,g3⟩:=bothMv1 hS hU hmv
   obtain ⟨s',g4,g5,g6⟩:=hR.zig _ _ h.2.2 s g1
   obtain ⟨y',g7,g8⟩:=bothMv2 hS hU h.2.1 g4
   rw [g5,g2] at g7
   exact ⟨y',g7,(hmv.lt hm).2,(g7.lt hm).2,by rw [g3,g8];exact g6⟩
  ·have x0:(S++U).getD 0 noT=t:=by rw [getD_left (by omega)];exact hS.first
   have x1:(S++U).getD a.length noT=u:=by rw [getD_right (by omega),show a.length-S.length=0 by omega];exact hU.first
   rw [x0,x1];exact h
theorem mnT_ok (L N:Nat):∀m:Nat,(∀t:Tree,2*nodes t≤m→nodes t<L→nodes t≤lim→f19 L N m t t=some true)∧
  (∀ps:List Tree,2*nodess ps+1≤m→nodess ps<L→nodess ps≤lim→f57 L N m ps ps=some true):=by
 intro m
 induction m with
 |zero=>exact ⟨fun t h=>by have:=nodes_pos t;omega,fun ps h=>by omega⟩
 |succ m ih=>
  refine ⟨fun t h hL hl=>?_,fun ps h hL hl=>?_⟩
  ·obtain ⟨o,a,ps⟩:=t
   simp only [nodes] at h hL hl
   show f19.b L N _ _ some (Tree.mk o a ps) (Tree.mk o a ps)=_
   unfold f19.b f19.b'
   simp only [beq_self_eq_true,cond_true]
   show ((f57 L N m ps ps).bind _)=_
   rw [ih.2 ps (by omega) (by omega) (by omega)]
   rfl
  ·have hll:=nodess_len ps
   have hlim:lim=1099511627776:=rfl
   show f57.b L N _ _ some ps ps=_
   unfold f57.b f57.b'
   simp only [bne_self_eq_false,cond_false]
   have key:∀(n i:Nat),ps.length-i<n→i≤ps.length→
     f57.l0 L N (f19 L N m) (f57 L N m) (f57.p0_e0 L N (f19 L N m) (f57 L N m) some) (fun z=>f57.p0_r L N (f19 L N m) (f57 L N m) some z) n ps ps (i:Int)=some true:=by
    intro n
    induction n with
    |zero=>intro i h;omega
    |succ n ihn=>
     intro i h2 hi
     show f57.s0 L N _ _ _ _ (f57.l0 L N _ _ _ _ n) ps ps i=_
     unfold f57.s0 f57.s0'
     by_cases hlt:i<ps.length
     ·have hg:=nodes_get hlt
      simp only [lt_cast hlt,le0,cond_true,Bool.and_true,wi_nat (show i<9223372036854775807 by omega),Int.toNat_natCast,at_lt hlt]
      rw [ih.1 ps[i] (by omega) (by omega) (by omega)]
      exact ihn (i+1) (by omega) (by omega)
     ·simp only [ge_cast hlt,cond_false]
      rfl
   exact key L 0 (by omega) (by omega)
end Go.Proofs.YthidlhjjnaldhaaGreatDoor.Ev
namespace Go.Proofs.YthidlhjjnaldhaaGreatDoor.Ev
open Go
set_option linter.unusedVariables false
set_option linter.unusedSimpArgs false
def NR (p q:Tree):Prop:=∃k m,WT p k∧CL 0 false p∧nfF m p=some q
theorem nr_match:Match fun p q=>NR p q∨NR q p where
 symm p q h:=h.symm
 zig p q h s hs:=by
  rcases h with ⟨k,m,h1,h2,h3⟩|⟨k,m,h1,h2,h3⟩
  ·obtain ⟨m,rfl⟩:∃q,m=q+1:=by
    cases m with
    |zero=>cases h3
    |succ m=>exact ⟨m,rfl⟩
   obtain ⟨n1,n2⟩:=nf_steps h1 h2 h3
   obtain ⟨n,g1,g2⟩:=n1 s hs
   obtain ⟨-,k',f1,f2,f3⟩:=step_less _ p k h1 h2 s hs
   exact ⟨_,g2,rfl,.inl ⟨k',m,f1,f3,g1⟩⟩
  ·obtain ⟨m,rfl⟩:∃q,m=q+1:=by
    cases m with
    |zero=>cases h3
    |succ m=>exact ⟨m,rfl⟩
   obtain ⟨n1,n2⟩:=nf_steps h1 h2 h3
   obtain ⟨s0,g1,g2,g3⟩:=n2 s hs
   obtain ⟨-,k',f1,f2,f3⟩:=step_less _ q k h1 h2 s0 g1
   exact ⟨s0,g1,g2,.inr ⟨k',m,f1,f3,g3⟩⟩
theorem lawNormalOf (x0:List Int) (hx0:DatOk (.sl (.int .u8)) x0):∃L N,f6 L N x0=some true:=by
 have hlim:=lim_eq
 generalize hLL:8589934592=L
 generalize hNN:4194308=N
 refine ⟨L,N,?_⟩
 obtain ⟨c,o1,o2⟩:=open_ok L N hx0
 obtain ⟨t,p',d1,-,-,d2⟩:=term_draw L N (by omega) o2 (p:=0) (n:=0) (by omega) (by omega) (by omega)
 have hd:f22 L N x0=some t:=by
  show f22.b' L N some x0=_
  unfold f22.b'
  rw [o1]
  simp only [Option.bind_some,d1,tree_eta]
 obtain ⟨T,ok,w1,w3⟩:=normalI L N (by omega) (by omega) t (by omega)
 obtain ⟨T',ok',w2,w4⟩:=normalS L N (by omega) (by omega) t (by omega)
 obtain ⟨rfl,rfl⟩:=w3.same w4
 obtain ⟨hT,hTw⟩:=w3.ok
 have m1:=(mnT_ok L N N).1 T (by omega) (by omega) (by omega)
 show f6.b' L N some x0=_
 unfold f6.b'
 by_cases hl:(x0.length:Int)>1048576
 ·rw [dt hl,cond_true]
 ·rw [df hl,cond_false,hd]
  simp only [Option.bind_some,tree_eta,w1,w2,m1,beq_self_eq_true,Bool.not_true,cond_false]
  unfold f6.j0'
  cases ok with
  |false=>rfl
  |true=>
   obtain ⟨h1,h2,h3⟩:=w3.1 rfl
   obtain ⟨k,hk,hw⟩:=h1
   obtain ⟨q1,q2,q3⟩:=nfF_ok _ t k hw h2 h3
   obtain ⟨T2,ok2,v1,v3⟩:=normalI L N (by omega) (by omega) T (by omega)
   have h4:nfF (nodes T) T=some T:=nf_again k t hw h2 _ T h3 _ (Nat.le_refl _)
   have hok2:ok2=true:=by
    cases ok2 with
    |true=>rfl
    |false=>
     have:=(v3.2 rfl).2 ⟨nodes T,hT,hTw⟩ q3
     rw [h4] at this;cases this
   subst hok2
   obtain ⟨-,-,h5⟩:=v3.1 rfl
   obtain rfl:T=T2:=Option.some.inj (h4.symm.trans h5)
   obtain ⟨x,ok3,a1,a2⟩:=match_alike L N (by omega) (by omega) nr_match (t:=t) (u:=T) (by omega) (by omega) (.inl ⟨k,_,hw,h2,h3⟩)
   simp only [tree_eta,v1,a1,m1,Option.bind_some,Bool.not_true,cond_false,cond_true]
   cases ok3 with
   |false=>rfl
   |true=>rw [a2 rfl];rfl
end Go.Proofs.YthidlhjjnaldhaaGreatDoor.Ev
