/- Plain laws, in one text. -/
import Derived.Test.YthidlhjjnaldhaaGreatDoorLW5c
import Derived.Test.YthidlhjjnaldhaaGreatDoorEvZ
import Derived.KernelRfl
import Derived.Test.YthidlhjjnaldhaaGreatDoorEvSort
import Derived.Test.YthidlhjjnaldhaaGreatDoorPAll0
namespace Go.Proofs.YthidlhjjnaldhaaGreatDoor.Ev
open Go
set_option linter.unusedVariables false
set_option linter.unusedSimpArgs false
def shiftR (n:Nat) (r:List Move):List Move:=r.map fun m=>⟨m.act,m.to+(n:Int)⟩
def bothL (a b:List (List Move)):List (List Move):=a++b.map (shiftR a.length)
theorem bothL_len (a b:List (List Move)):(bothL a b).length=a.length+b.length:=by unfold bothL;rw [List.length_append,List.length_map]
theorem TermIn.graph {ds:List Tree} {t:Tree} {S:List Tree} {rows:List (List Move)} (h:TermIn ds t S rows):graphOk ⟨rows⟩=true∧∀r∈rows,r.length≤540:=by
 have hl:=h.len
 have h60:=h.len60
 have hp:=h.pos
 have key:∀(i:Nat) (hi:i<rows.length),RisesM rows[i]∧∀m∈rows[i],(-4≤m.act∧m.act≤4)∧0≤m.to∧m.to<(rows.length:Int):=fun i hi=>by
  obtain ⟨g1,g2⟩:=h.good i hi
  have hmem:S.getD i (.mk 0 0 [])∈S:=by rw [getD_lt (show i<S.length by omega)];exact List.getElem_mem _
  obtain ⟨k,hk,hw,hcl⟩:=h.fits _ hmem
  have hb:=steps_bnd ds h.defs _ k hw hk hcl
  rw [g2]
  refine ⟨tidyM_rises _,fun m hm=>?_⟩
  obtain ⟨s,hs,rfl⟩:=List.mem_map.1 ((tidyM_mem _ m).1 hm)
  have h1:=List.idxOf_lt_length_of_mem (g1 s hs)
  rw [List.length_map] at h1
  exact ⟨(hb.1 s hs).1,by show (0:Int)≤(((S.map ttx).idxOf (ttx s.thn):Nat):Int);omega,by show ((((S.map ttx).idxOf (ttx s.thn):Nat)):Int)<_;omega⟩
 refine ⟨graphOk_mk (by omega) (by omega) fun i hi=>⟨(key i hi).1,fun m hm=>?_⟩,fun r hr=>?_⟩
 ·obtain ⟨h1,h2,h3⟩:=(key i hi).2 m hm
  unfold mvOk
  rw [dt h1,dt ⟨h2,h3⟩];rfl
 ·obtain ⟨i,hi,rfl⟩:=List.mem_iff_getElem.1 hr
  exact risesM_len (key i hi).1 fun m hm=>by have:=(key i hi).2 m hm;omega
theorem shiftR_rises {n:Nat} {r:List Move} (h:RisesM r):RisesM (shiftR n r):=by
 unfold shiftR RisesM
 rw [List.pairwise_map]
 refine List.Pairwise.imp (fun {a b} hab=>?_) h
 unfold lessM at hab⊢
 have:=of_decide_eq_true hab
 exact decide_eq_true (by show a.act<b.act∨(a.act=b.act∧a.to+(n:Int)<b.to+(n:Int));omega)
theorem graphOk_rows {g:Graph} (h:graphOk g=true):∀(i:Nat) (hi:i<g.moves.length),RisesM g.moves[i]∧∀m∈g.moves[i],mvOk g.moves.length m=true:=by
 have h0:=h
 unfold graphOk at h
 simp only [Bool.and_eq_true,decide_eq_true_eq] at h
 intro i hi
 have h1:=allN_get _ 0 h.2 i (by omega) (by omega)
 simp only [getD_lt hi] at h1
 have hat:∀(k:Nat) (hk:k<(g.moves[i]).length),atOk g.moves.length g.moves[i] k=true:=fun k hk=>allN_get _ 0 h1 k (by omega) (by omega)
 refine ⟨?_,fun m hm=>?_⟩
 ·have step:∀(k:Nat) (hk:k+1<(g.moves[i]).length),lessM (g.moves[i])[k] (g.moves[i])[k+1]=true:=fun k hk=>by
   have:=hat (k+1) hk
   unfold atOk at this
   rw [Bool.and_eq_true,df (by omega),Bool.false_or,getD_lt hk,Nat.add_sub_cancel,getD_lt (show k<(g.moves[i]).length by omega)] at this
   exact this.2
  have far:∀(d k:Nat) (hk:k+d+1<(g.moves[i]).length),lessM (g.moves[i])[k] (g.moves[i])[k+d+1]=true:=by
   intro d
   induction d with
   |zero=>intro k hk;exact step k hk
   |succ d ih=>intro k hk;exact less_trans (ih k (by omega)) (step (k+d+1) hk)
  unfold RisesM
  rw [List.pairwise_iff_getElem]
  intro a b ha hb hab
  have:=far (b-a-1) a (by omega)
  simpa only [show a+(b-a-1)+1=b by omega] using this
 ·obtain ⟨k,hk,rfl⟩:=List.mem_iff_getElem.1 hm
  have:=hat k hk
  unfold atOk at this
  rw [Bool.and_eq_true,getD_lt hk] at this
  exact this.1
theorem bothL_graph {a b:List (List Move)} (ha:graphOk ⟨a⟩=true) (hb:graphOk ⟨b⟩=true) (h60:a.length+b.length≤60):graphOk ⟨bothL a b⟩=true:=by
 have h1:1≤a.length:=(graphOk_mv ha).1
 have hl:=bothL_len a b
 have mono:∀{n m:Nat} {x:Move},mvOk n x=true→n≤m→mvOk m x=true:=fun {n m x} h hnm=>by
  unfold mvOk at h⊢
  simp only [Bool.and_eq_true,decide_eq_true_eq] at h⊢
  exact ⟨h.1,h.2.1,by omega⟩
 refine graphOk_mk (by omega) (by omega) fun i hi=>?_
 unfold bothL at hi
 by_cases hia:i<a.length
 ·have e:(bothL a b)[i]=a[i]:=by unfold bothL;rw [List.getElem_append_left hia]
  rw [e]
  obtain ⟨g1,g2⟩:=graphOk_rows ha i hia
  exact ⟨g1,fun m hm=>mono (g2 m hm) (by rw [hl];show a.length≤_;omega)⟩
 ·have hib:i-a.length<b.length:=by rw [List.length_append,List.length_map] at hi;omega
  have e:(bothL a b)[i]=shiftR a.length b[i-a.length]:=by unfold bothL;rw [List.getElem_append_right (by omega),List.getElem_map]
  rw [e]
  obtain ⟨g1,g2⟩:=graphOk_rows hb (i-a.length) hib
  refine ⟨shiftR_rises g1,fun m hm=>?_⟩
  obtain ⟨x,hx,rfl⟩:=List.mem_map.1 hm
  have:=g2 x hx
  unfold mvOk at this⊢
  simp only [Bool.and_eq_true,decide_eq_true_eq] at this⊢
  have h3:x.to<(b.length:Int):=this.2.2
  exact ⟨this.1,by show 0≤x.to+(a.length:Int);omega,by show x.to+(a.length:Int)<_;omega⟩
theorem shifted_ok (L N:Nat) (r:List Move) (n:Nat) (hr:r.length≤1048576) (hL:1048577<L) (hn:n≤60) (hto:∀m∈r,0≤m.to∧m.to<60):f107 L N r (n:Int)=some (shiftR n r):=by
 have hlim:=lim_eq
 show f107.b L N some r (n:Int)=_
 unfold f107.b f107.b'
 have key:∀(q i:Nat) (out:List Move),i≤r.length→r.length-i<q→out.length≤i→f107.l0 L N (fun z5=>f107.p0_e0 L N some z5) q (n:Int) r (r.length:Int) (i:Int) out=some (out++shiftR n (r.drop i)):=by
  intro q
  induction q with
  |zero=>intro i out _ h;omega
  |succ q ih=>
   intro i out hi hq ho
   show f107.s0 L N _ (f107.l0 L N _ q) (n:Int) r (r.length:Int) (i:Int) out=_
   unfold f107.s0 f107.s0'
   by_cases hlt:i<r.length
   ·have ht:=hto _ (List.getElem_mem hlt)
    have hw:wi ((r[i]).to+(n:Int))=(r[i]).to+(n:Int):=wi_id (by omega) (by omega)
    have hle:decide (out.length+([Move.mk (r[i]).act ((r[i]).to+(n:Int))]:List Move).length≤lim)=true:=dt (by simp only [List.length_cons,List.length_nil];omega)
    simp only [lt_cast hlt,le0,Bool.and_true,cond_true,Int.toNat_natCast,at_lt hlt,hw,hle]
    rw [wi_nat (by omega),ih (i+1) _ (by omega) (by omega) (by simp;omega),List.drop_eq_getElem_cons hlt]
    unfold shiftR
    rw [List.map_cons,List.append_assoc];rfl
   ·rw [ge_cast hlt,cond_false,List.drop_eq_nil_of_le (by omega)]
    unfold shiftR
    rw [List.map_nil,List.append_nil];rfl
 have:=key L 0 [] (by omega) (by omega) (by simp)
 rw [List.drop_zero,List.nil_append] at this
 exact this
theorem shiftR_zero (r:List Move):shiftR 0 r=r:=by
 unfold shiftR
 refine (List.map_congr_left (fun m _=>?_)).trans (List.map_id r)
 show (⟨m.act,m.to+((0:Nat):Int)⟩:Move)=m
 have:m.to+((0:Nat):Int)=m.to:=by omega
 rw [this]
theorem bothI (L N:Nat) (hL:1048577<L) (a b:List (List Move)) (ha:graphOk ⟨a⟩=true) (hb:graphOk ⟨b⟩=true) (hra:∀r∈a,r.length≤540) (hrb:∀r∈b,r.length≤540):
  f66 L N ⟨a⟩ ⟨b⟩=some (if a.length+b.length≤60 then (⟨bothL a b⟩,true) else (⟨[]⟩,false)):=by
 have hlim:=lim_eq
 obtain ⟨a1,a2,a3⟩:=graphOk_mv ha
 obtain ⟨b1,b2,b3⟩:=graphOk_mv hb
 have hga:a.length+gsize a≤1048576:=by have:=gsize_le hra;have:a.length≤60:=a2;omega
 have hgb:b.length+gsize b≤1048576:=by have:=gsize_le hrb;have:b.length≤60:=b2;omega
 have a2:a.length≤60:=a2
 have b2:b.length≤60:=b2
 show f66.b L N (fun a0 a1=>some (a0,a1)) ⟨a⟩ ⟨b⟩=_
 unfold f66.b f66.b'
 have e1:f106 L N (Graph.mk (Graph.mk a).moves)=some true:=(gok1_ok L N ⟨a⟩ (by omega) hga).trans (by rw [ha])
 have e2:f106 L N (Graph.mk (Graph.mk b).moves)=some true:=(gok1_ok L N ⟨b⟩ (by omega) hgb).trans (by rw [hb])
 have hw:wi ((a.length:Int)+(b.length:Int))=(a.length:Int)+(b.length:Int):=wi_id (by omega) (by omega)
 have hw':wi (((Graph.mk a).moves.length:Int)+((Graph.mk b).moves.length:Int))=(a.length:Int)+(b.length:Int):=hw
 rw [e1,Option.bind_some,Bool.not_true,cond_false,e2,Option.bind_some,Bool.not_true,cond_false,hw']
 by_cases h60:a.length+b.length≤60
 ·rw [if_pos h60,df (by omega),cond_false]
  unfold f66.j0'
  have hto:∀{x:List (List Move)},graphOk ⟨x⟩=true→x.length≤60→∀r∈x,∀m∈r,0≤m.to∧m.to<60:=fun {x} hx hl r hr m hm=>by
   obtain ⟨i,hi,rfl⟩:=List.mem_iff_getElem.1 hr
   obtain ⟨k,hk,rfl⟩:=List.mem_iff_getElem.1 hm
   have:=(graphOk_mv hx).2.2 i hi k hk
   have h4:((x[i])[k]).to<(x.length:Int):=this.2.2.2
   exact ⟨this.2.2.1,by omega⟩
  have second:∀(q i:Nat) (out:List (List Move)),i≤b.length→b.length-i<q→out.length≤60+i→f66.l1 L N (fun z22=>f66.p1_e2 L N (fun a0 a1=>some (a0,a1)) z22) q b (b.length:Int) (i:Int) a out=some (⟨out++(b.drop i).map (shiftR a.length)⟩,true):=by
   intro q
   induction q with
   |zero=>intro i out _ h;omega
   |succ q ih=>
    intro i out hi hq ho
    show f66.s1 L N _ (f66.l1 L N _ q) b (b.length:Int) (i:Int) a out=_
    unfold f66.s1 f66.s1'
    by_cases hlt:i<b.length
    ·have hsh:=shifted_ok L N b[i] a.length (by have:=hrb _ (List.getElem_mem hlt);omega) (by omega) a2 (hto hb b2 _ (List.getElem_mem hlt))
     have hle:decide (out.length+([shiftR a.length b[i]]:List (List Move)).length≤lim)=true:=dt (by simp only [List.length_cons,List.length_nil];omega)
     simp only [lt_cast hlt,le0,Bool.and_true,cond_true,Int.toNat_natCast,at_lt hlt,hsh,Option.bind_some,hle]
     rw [wi_nat (by omega),ih (i+1) _ (by omega) (by omega) (by simp;omega),List.drop_eq_getElem_cons hlt,List.map_cons,List.append_assoc];rfl
    ·rw [ge_cast hlt,cond_false,List.drop_eq_nil_of_le (by omega),List.map_nil,List.append_nil];rfl
  have first:∀(q i:Nat) (out:List (List Move)),i≤a.length→a.length-i<q→out.length≤i→f66.l0 L N (fun z13 z14 z15=>f66.p0_e0 L N (fun a0 a1=>some (a0,a1)) z13 z14 z15) q a (a.length:Int) (i:Int) a b out=f66.p0_e0 L N (fun a0 a1=>some (a0,a1)) a b (out++a.drop i):=by
   intro q
   induction q with
   |zero=>intro i out _ h;omega
   |succ q ih=>
    intro i out hi hq ho
    show f66.s0 L N _ (f66.l0 L N _ q) a (a.length:Int) (i:Int) a b out=_
    unfold f66.s0 f66.s0'
    by_cases hlt:i<a.length
    ·have hsh:=shifted_ok L N a[i] 0 (by have:=hra _ (List.getElem_mem hlt);omega) (by omega) (by omega) (hto ha a2 _ (List.getElem_mem hlt))
     rw [shiftR_zero] at hsh
     have hsh':f107 L N a[i] (0:Int)=some a[i]:=hsh
     have hle:decide (out.length+([a[i]]:List (List Move)).length≤lim)=true:=dt (by simp only [List.length_cons,List.length_nil];omega)
     simp only [lt_cast hlt,le0,Bool.and_true,cond_true,Int.toNat_natCast,at_lt hlt,hsh',Option.bind_some,hle]
     rw [wi_nat (by omega),ih (i+1) _ (by omega) (by omega) (by simp;omega),List.drop_eq_getElem_cons hlt,List.append_assoc];rfl
    ·rw [ge_cast hlt,cond_false,List.drop_eq_nil_of_le (by omega),List.append_nil]
  have f1:=first L 0 [] (by omega) (by omega) (by simp)
  rw [List.drop_zero,List.nil_append] at f1
  refine (show _=_ from f1).trans ?_
  unfold f66.p0_e0 f66.p0_e0'
  have f2:=second L 0 a (by omega) (by omega) (by omega)
  rw [List.drop_zero] at f2
  exact f2
 ·rw [if_neg h60,dt (by omega),cond_true]
end Go.Proofs.YthidlhjjnaldhaaGreatDoor.Ev
namespace Go.Proofs.YthidlhjjnaldhaaGreatDoor.Ev
open Go
set_option linter.unusedVariables false
set_option linter.unusedSimpArgs false
theorem graph_loopI (L N:Nat) (hN:100000≤N) (hL:1000002<L) (ds:List Tree) (hd:DefsW ds):
  ∀(d k:Nat) (S:List Tree) (es:List (ByteArray×Int)) (rows:List (List Move)),S.length≤60→61≤k+d→k≤S.length→PlacesT S es→(∀x∈S,FitS ds x)→rows.length=k→GoodT ds S rows→
   ∀n1,d≤n1→∃(res:List (List Move)) (ok:Bool),
    f104_1.l0 L N (fun z7 z8=>f104_1.p0_e0 L N (fun a0 a1=>some (a0,a1)) z7 z8) (fun z10 z11 z12=>f104_1.p0_r L N (fun a0 a1=>some (a0,a1)) z10 z11 z12) n1 ds (k:Int) S es [] rows=some (res,ok)∧
    (ok=false→res=[])∧(ok=true→∃T,res.length=(S++T).length∧(S++T).length≤60∧GoodT ds (S++T) res∧∀x∈S++T,FitS ds x):=by
 have hlim:=lim_eq
 intro d
 induction d with
 |zero=>intro k S es rows hS hd hk;omega
 |succ d ih=>
  intro k S es rows hS hd' hk hp hfit hrl hgood n1 hn1
  obtain ⟨n1,rfl⟩:∃n',n1=n'+1:=⟨n1-1,by omega⟩
  show ∃res ok,f104_1.s0 L N (fun z7 z8=>f104_1.p0_e0 L N (fun a0 a1=>some (a0,a1)) z7 z8) (fun z10 z11 z12=>f104_1.p0_r L N (fun a0 a1=>some (a0,a1)) z10 z11 z12) (f104_1.l0 L N (fun z7 z8=>f104_1.p0_e0 L N (fun a0 a1=>some (a0,a1)) z7 z8) (fun z10 z11 z12=>f104_1.p0_r L N (fun a0 a1=>some (a0,a1)) z10 z11 z12) n1) ds (k:Int) S es [] rows=some (res,ok)∧_
  unfold f104_1.s0 f104_1.s0'
  by_cases hlt:k<S.length
  ·obtain ⟨kt,hk24,hw,hcl⟩:=hfit _ (List.getElem_mem hlt)
   have hb:=steps_bnd ds hd S[k] kt hw hk24 hcl
   have hlen:=hb.len (Nat.le_refl _)
   simp only [lt_cast hlt,le0,Bool.and_true,cond_true,Int.toNat_natCast,at_lt hlt,Option.bind_some]
   rcases movesT L N hN hL ds hd S[k] kt hw hk24 hcl with ⟨hbig,em⟩|⟨hall,em⟩
   ·rw [em,Option.bind_some]
    exact ⟨[],false,rfl,fun _=>rfl,fun h=>by cases h⟩
   ·rw [em,Option.bind_some]
    simp only [Bool.not_true,cond_false]
    have hTI:=inTI L N (by omega) ds (k:Int) (steps ds S[k]) [] rows (fun z24 z25 z26 z27 z28 z29 z30=>f104_1.p1_e2 L N (fun z7 z8=>f104_1.p0_e0 L N (fun a0 a1=>some (a0,a1)) z7 z8) (fun z10 z11 z12=>f104_1.p0_r L N (fun a0 a1=>some (a0,a1)) z10 z11 z12) (f104_1.l0 L N (fun z7 z8=>f104_1.p0_e0 L N (fun a0 a1=>some (a0,a1)) z7 z8) (fun z10 z11 z12=>f104_1.p0_r L N (fun a0 a1=>some (a0,a1)) z10 z11 z12) n1) z24 z25 z26 z27 z28 z29 z30) (fun z32 z33 z34 z35 z36 z37 z38 z39=>f104_1.p1_r L N (fun z7 z8=>f104_1.p0_e0 L N (fun a0 a1=>some (a0,a1)) z7 z8) (fun z10 z11 z12=>f104_1.p0_r L N (fun a0 a1=>some (a0,a1)) z10 z11 z12) (f104_1.l0 L N (fun z7 z8=>f104_1.p0_e0 L N (fun a0 a1=>some (a0,a1)) z7 z8) (fun z10 z11 z12=>f104_1.p0_r L N (fun a0 a1=>some (a0,a1)) z10 z11 z12) n1) z32 z33 z34 z35 z36 z37 z38 z39)
     (fun s hs=>by obtain ⟨-,k',a1,-⟩:=hb.1 s hs;have:=hall s hs;rw [a1.nodes_eq] at this;exact ⟨k',a1,this⟩) (by omega) L 0 S es [] (by omega) (by omega) hp hS (by simp)
    rw [List.drop_zero] at hTI
    cases hst:stepT (steps ds S[k]) S [] with
    |none=>
     rw [hst] at hTI
     obtain ⟨S2,es2,M2,e2⟩:=hTI
     exact ⟨[],false,(show _=_ from e2).trans rfl,fun _=>rfl,fun h=>by cases h⟩
    |some p=>
     obtain ⟨S',M'⟩:=p
     rw [hst] at hTI
     obtain ⟨es',p1,e2⟩:=hTI
     obtain ⟨⟨T,g1⟩,g2,g3,g4,g5⟩:=stepT_grow _ S [] S' M' hst
     rw [List.nil_append] at g5
     have hml:M'.length≤332352:=by rw [g5,List.length_map];exact hlen
     have hS':=g2 hS
     have hfit':∀x∈S',FitS ds x:=fun x hx=>by
      rcases g3 x hx with h|⟨s,hs,rfl,hn⟩
      ·exact hfit x h
      ·obtain ⟨-,k',a1,-,a3⟩:=hb.1 s hs
       exact ⟨k',by rw [a1.nodes_eq] at hn;exact hn,a1,a3⟩
     have hgood':GoodT ds S' (rows++[tidyM M']):=by
      intro j hj
      by_cases hjk:j<rows.length
      ·rw [List.getElem_append_left hjk,g1]
       exact hgood.grow (by omega) j hjk
      ·have hjk:j=rows.length:=by simp at hj;omega
       subst hjk
       have hSk:S'.getD rows.length (.mk 0 0 [])=S[k]:=by
        rw [g1,List.getD_eq_getElem?_getD,List.getElem?_append_left (by omega),hrl,List.getElem?_eq_getElem hlt];rfl
       rw [hSk,List.getElem_append_right (Nat.le_refl _)]
       simp only [Nat.sub_self,List.getElem_cons_zero]
       exact ⟨g4,by rw [g5]⟩
     have hle:decide (rows.length+([tidyM M']:List (List Move)).length≤lim)=true:=dt (by simp only [List.length_cons,List.length_nil];omega)
     obtain ⟨res,ok,j1,j3,j4⟩:=ih (k+1) S' es' (rows++[tidyM M']) hS' (by omega) (by rw [g1,List.length_append];omega) p1 hfit' (by simp;omega) hgood' n1 (by omega)
     refine ⟨res,ok,(show _=_ from e2).trans ?_,j3,fun hok=>?_⟩
     ·show f104_1.p1_e2 L N _ _ _ ds (k:Int) S' es' M' [] rows=_
      unfold f104_1.p1_e2 f104_1.p1_e2' fsortM
      rw [dt (show M'.length≤lim by omega),cond_true,Option.bind_some,hle,cond_true,wi_nat (by omega)]
      exact j1
     ·obtain ⟨U,u1,u2,u3,u4⟩:=j4 hok
      rw [g1,List.append_assoc] at u1 u2 u3 u4
      exact ⟨T++U,u1,u2,u3,u4⟩
  ·rw [ge_cast hlt,cond_false]
   exact ⟨rows,true,rfl,fun h=>(by cases h),fun _=>⟨[],by rw [List.append_nil];omega,by rw [List.append_nil];exact hS,by rw [List.append_nil];exact hgood,by rw [List.append_nil];exact hfit⟩⟩
theorem defsNone (L N:Nat) (hL:2≤L) (hN:1≤N):f102 L N []=some true:=by
 obtain ⟨L,rfl⟩:∃q,L=q+2:=⟨L-2,by omega⟩
 obtain ⟨N,rfl⟩:∃q,N=q+1:=⟨N-1,by omega⟩
 kernel_rfl
theorem graphOfI (L N:Nat) (hN:4194308≤N) (hL:1048578<L) (t:Tree) (ht:nodes t≤1048577):
  ∃rows ok,f65 L N t []=some (⟨rows⟩,ok)∧(ok=true→∃S,TermIn [] t S rows)∧(ok=true→FitW t 0):=by
 have hd1:=defsNone L N (by omega) (by omega)
 have h:DefsW []:=⟨by simp,fun d hd=>by cases hd⟩
 have hf1:=fitsI L N t 0 ht hN (by omega)
 by_cases hf:FitW t 0
 ·obtain ⟨k,hk,hw,-,hcl⟩:=id hf
  obtain ⟨res,ok,e1,e3,e4⟩:=graph_loopI L N (by omega) (by omega) [] h 61 0 [t] (mapPut .str i64 (txB t) (0:Int) []) [] (by simp) (by omega) (by simp)
   (by have:=PlacesT.nil.add (t:=t) (by simp);exact this) (fun x hx=>by rw [List.mem_singleton.1 hx];exact ⟨k,hk,hw,hcl⟩) rfl (fun j hj=>by simp at hj) L (by omega)
  have htI:=textI L N t k hw (by omega) N (by omega)
  refine ⟨res,ok,?_,fun hok=>?_,fun _=>hf⟩
  ·show f65.b' L N (fun a0 a1=>some (a0,a1)) t []=_
   unfold f65.b'
   have hb:f104_1 L N t []=some (res,ok):=by
    show f104_1.b L N (fun a0 a1=>some (a0,a1)) t []=_
    unfold f104_1.b f104_1.b'
    rw [tree_eta,htI,Option.bind_some]
    exact e1
   rw [hd1,Option.bind_some,Bool.not_true,cond_false,tree_eta]
   show (f103 L N t 0).bind _=_
   rw [hf1,Option.bind_some,isB_true hf,Bool.not_true,cond_false,hb,Option.bind_some]
  ·obtain ⟨T,t1,t2,t3,t4⟩:=e4 hok
   exact ⟨[t]++T,h,t1,t2,by simp,by simp,t3,t4⟩
 ·refine ⟨[],false,?_,fun h=>(by cases h),fun h=>by cases h⟩
  show f65.b' L N (fun a0 a1=>some (a0,a1)) t []=_
  unfold f65.b'
  rw [hd1,Option.bind_some,Bool.not_true,cond_false,tree_eta]
  show (f103 L N t 0).bind _=_
  rw [hf1,Option.bind_some,isB_false hf,Bool.not_false,cond_true]
theorem bothOfI (L N:Nat) (hN:4194308≤N) (hL:1048578<L) (t u:Tree) (ht:nodes t≤1048577) (hu:nodes u≤1048577):
  ∃rows at' ok,f35 L N t u []=some (⟨rows⟩,at',ok)∧(ok=true→FitW t 0∧FitW u 0)∧
   (ok=true→∃S a U b,TermIn [] t S a∧TermIn [] u U b∧a.length+b.length≤60∧rows=bothL a b∧at'=(a.length:Int)):=by
 obtain ⟨ra,oa,a1,a4,a5⟩:=graphOfI L N hN hL t ht
 obtain ⟨rb,ob,b1,b4,b5⟩:=graphOfI L N hN hL u hu
 show ∃rows at' ok,f35.b' L N (fun a0 a1 a2=>some (a0,a1,a2)) t u []=some (⟨rows⟩,at',ok)∧_
 unfold f35.b'
 rw [tree_eta,tree_eta,a1,b1]
 simp only [Option.bind_some]
 cases oa with
 |false=>exact ⟨[],0,false,rfl,fun h=>(by cases h),fun h=>by cases h⟩
 |true=>
  rw [Bool.not_true,cond_false]
  cases ob with
  |false=>exact ⟨[],0,false,rfl,fun h=>(by cases h),fun h=>by cases h⟩
  |true=>
   rw [Bool.not_true,cond_false]
   obtain ⟨S,hS⟩:=a4 rfl
   obtain ⟨U,hU⟩:=b4 rfl
   have e1:f66 L N (Graph.mk (Graph.mk ra).moves) (Graph.mk (Graph.mk rb).moves)=_:=bothI L N (by omega) ra rb hS.graph.1 hU.graph.1 hS.graph.2 hU.graph.2
   rw [e1]
   simp only [Option.bind_some]
   by_cases h60:ra.length+rb.length≤60
   ·rw [if_pos h60]
    exact ⟨bothL ra rb,(ra.length:Int),true,rfl,fun _=>⟨a5 rfl,b5 rfl⟩,fun _=>⟨S,ra,U,rb,hS,hU,h60,rfl,rfl⟩⟩
   ·rw [if_neg h60]
    exact ⟨[],(ra.length:Int),false,rfl,fun h=>(by cases h),fun h=>by cases h⟩
end Go.Proofs.YthidlhjjnaldhaaGreatDoor.Ev
namespace Go.Proofs.YthidlhjjnaldhaaGreatDoor.Ev
open Go
set_option linter.unusedVariables false
set_option linter.unusedSimpArgs false
def QOk (ms:List (List Move)) (seen:List Bool) (q:List Int):Prop:=seen.length=ms.length∧(∀v∈q,∃t:Nat,v=(t:Int)∧Tr seen t)∧(∀t:Nat,Tr seen t→(t:Int)∈q)∧q.length=cnt seen∧q.Nodup
theorem QOk.add {ms:List (List Move)} {seen:List Bool} {q:List Int} (h:QOk ms seen q) {t:Nat} (ht:t<ms.length) (hf:seen.getD t false=false):QOk ms (seen.set t true) (q++[(t:Int)]):=by
 obtain ⟨h1,h2,h3,h4,h5⟩:=h
 refine ⟨by simp [h1],fun v hv=>?_,fun t' ht'=>?_,?_,?_⟩
 ·rcases List.mem_append.1 hv with hv|hv
  ·obtain ⟨s,rfl,hs⟩:=h2 v hv
   exact ⟨s,rfl,(Tr_set (by omega)).2 (.inr hs)⟩
  ·obtain rfl:=List.mem_singleton.1 hv
   exact ⟨t,rfl,(Tr_set (by omega)).2 (.inl rfl)⟩
 ·rcases (Tr_set (by omega)).1 ht' with rfl|h
  ·exact List.mem_append_right _ (List.mem_singleton.2 rfl)
  ·exact List.mem_append_left _ (h3 t' h)
 ·rw [List.length_append,cnt_set _ _ (by omega) hf,h4];rfl
 ·refine List.nodup_append.2 ⟨h5,by simp,fun a ha b hb e=>?_⟩
  obtain rfl:=List.mem_singleton.1 hb
  obtain ⟨s,hs,hT⟩:=h2 a ha
  obtain rfl:s=t:=by omega
  unfold Tr at hT
  rw [hf] at hT;cases hT
theorem QOk.len {ms:List (List Move)} {seen:List Bool} {q:List Int} (h:QOk ms seen q):q.length≤ms.length:=by
 have:=cnt_le seen
 obtain ⟨h1,-,-,h4,-⟩:=h
 omega
end Go.Proofs.YthidlhjjnaldhaaGreatDoor.Ev
namespace Go.Proofs.YthidlhjjnaldhaaGreatDoor.Ev
open Go
set_option linter.unusedVariables false
set_option linter.unusedSimpArgs false
def NextE (E:Nat→Nat→Prop) (n:Nat) (q:List Int):Prop:=q.length=n∧∀(i:Nat) (hi:i<q.length),∃j:Nat,q[i]=(j:Int)∧j≤i∧E j i∧∀j',j'<j→¬E j' i
theorem NextE.congr {E F:Nat→Nat→Prop} {n:Nat} {q:List Int} (h:NextE E n q) (he:∀i j,j≤i→i<n→(E j i↔F j i)):NextE F n q:=
 ⟨h.1,fun i hi=>by
  obtain ⟨j,a1,a2,a3,a4⟩:=h.2 i hi
  have hn:i<n:=by rw [←h.1];exact hi
  exact ⟨j,a1,a2,(he i j a2 hn).1 a3,fun j' hj' hf=>a4 j' hj' ((he i j' (by omega) hn).2 hf)⟩⟩
def Low (p:List Int):Prop:=∀(i:Nat) (hi:i<p.length),0≤p[i]∧p[i]≤(i:Int)
theorem low_zero (n:Nat):Low (List.replicate n (0:Int)):=fun i hi=>by rw [List.getElem_replicate];omega
theorem NextE.low {E:Nat→Nat→Prop} {n:Nat} {q:List Int} (h:NextE E n q):Low q:=fun i hi=>by
 obtain ⟨j,a1,a2,-⟩:=h.2 i hi
 rw [a1];omega
theorem NextE.ge {E:Nat→Nat→Prop} {n:Nat} {p q:List Int} (h:NextE E n q) (hp:p.length=n) (hl:Low p) (hE:∀j i,E j i→p.getD j 0=p.getD i 0):∀(i:Nat) (h1:i<p.length) (h2:i<q.length),p[i]≤q[i]:=fun i h1 h2=>by
 obtain ⟨j,a1,a2,a3,-⟩:=h.2 i h2
 have e:=hE j i a3
 have hj:j<p.length:=by omega
 rw [getD_lt h1,getD_lt hj] at e
 have:=(hl j hj).2
 rw [a1];omega
def wgt (p:List Int):Nat:=(p.map Int.toNat).sum
theorem wgt_lt:∀{p q:List Int},p.length=q.length→(∀(i:Nat) (h1:i<p.length) (h2:i<q.length),0≤p[i]∧p[i]≤q[i])→p≠q→wgt p<wgt q
 |[],[],_,_,h=>absurd rfl h
 |[],_::_,h,_,_=>by simp at h
 |_::_,[],h,_,_=>by simp at h
 |a::p,b::q,hl,hle,hne=>by
  have h0:=hle 0 (by simp) (by simp)
  have hl':p.length=q.length:=by simpa using hl
  have htl:∀(i:Nat) (h1:i<p.length) (h2:i<q.length),0≤p[i]∧p[i]≤q[i]:=fun i h1 h2=>hle (i+1) (by simp;omega) (by simp;omega)
  simp only [List.getElem_cons_zero] at h0
  unfold wgt
  rw [List.map_cons,List.map_cons,List.sum_cons,List.sum_cons]
  by_cases e:a=b
  ·subst e
   have:=wgt_lt hl' htl (fun e=>hne (by rw [e]))
   unfold wgt at this
   omega
  ·by_cases e2:p=q
   ·subst e2;omega
   ·have:=wgt_lt hl' htl e2
    unfold wgt at this
    omega
theorem wgt_le:∀{p:List Int} {B:Nat},(∀x∈p,x≤(B:Int))→wgt p≤p.length*B
 |[],_,_=>by simp [wgt]
 |a::p,B,h=>by
  have h1:=h a (.head _)
  have h2:=wgt_le (p:=p) (B:=B) fun x hx=>h x (.tail _ hx)
  unfold wgt at h2⊢
  rw [List.map_cons,List.sum_cons,List.length_cons,Nat.add_mul,Nat.one_mul]
  omega
def Sig (ms:List (List Move)) (p:List Int) (i:Nat) (m:Move):Prop:=∃(h:i<ms.length) (k:Nat) (hk:k<(ms[i]).length),m.act=(ms[i])[k].act∧m.to=p.getD (ms[i])[k].to.toNat 0
def Akin (ms:List (List Move)) (p:List Int) (j i:Nat):Prop:=p.getD j 0=p.getD i 0∧∀m,Sig ms p i m↔Sig ms p j m
theorem Akin.refl (ms:List (List Move)) (p:List Int) (i:Nat):Akin ms p i i:=⟨rfl,fun _=>Iff.rfl⟩
theorem equalI_ok (L N:Nat) (a b:List Int) (hL:a.length<L) (hl:a.length≤1048576):∃r,f146 L N a b=some r∧(r=true↔a=b):=by
 show ∃r,f146.b L N some a b=some r∧_
 unfold f146.b f146.b'
 by_cases he:a.length=b.length
 ·have:((a.length:Int) !=(b.length:Int))=false:=by simp [he]
  rw [this,cond_false]
  have key:∀(n i:Nat),i≤a.length→a.length-i<n→(∀j (h1:j<a.length) (h2:j<b.length),j<i→a[j]=b[j])→
    ∃r,f146.l0 L N (f146.p0_e0 L N some) (fun z3=>f146.p0_r L N some z3) n a b (a.length:Int) (i:Int)=some r∧(r=true↔a=b):=by
   intro n
   induction n with
   |zero=>intro i _ h;omega
   |succ n ih=>
    intro i hi hn hs
    show ∃r,f146.s0 L N _ _ (f146.l0 L N _ _ n) a b (a.length:Int) (i:Int)=some r∧_
    unfold f146.s0 f146.s0'
    by_cases hlt:i<a.length
    ·have hlt':i<b.length:=by omega
     simp only [le0,lt_cast hlt,lt_cast hlt',Bool.and_true,cond_true,Int.toNat_natCast,at_lt hlt,at_lt hlt']
     by_cases h1:a[i]=b[i]
     ·rw [show (a[i] !=b[i])=false by simpa using h1,cond_false,wi_nat (by omega)]
      refine ih (i+1) (by omega) (by omega) fun j h2 h3 h4=>?_
      by_cases e:j=i
      ·subst e;exact h1
      ·exact hs j h2 h3 (by omega)
     ·rw [show (a[i] !=b[i])=true by simpa using h1,cond_true]
      refine ⟨false,rfl,?_⟩
      simp only [Bool.false_eq_true,false_iff]
      intro e
      subst e
      exact h1 rfl
    ·simp only [ge_cast hlt,cond_false]
     refine ⟨true,rfl,?_⟩
     simp only [true_iff]
     exact List.ext_getElem he fun j h1 h2=>hs j h1 h2 (by omega)
  exact key L 0 (by omega) (by omega) (fun _ _ _ h=>by omega)
 ·have:((a.length:Int) !=(b.length:Int))=true:=by simp;omega
  rw [this,cond_true]
  refine ⟨false,rfl,?_⟩
  simp only [Bool.false_eq_true,false_iff]
  intro e
  exact he (by rw [e])
end Go.Proofs.YthidlhjjnaldhaaGreatDoor.Ev
namespace Go.Proofs.YthidlhjjnaldhaaGreatDoor.Ev
open Go
set_option linter.unusedVariables false
set_option linter.unusedSimpArgs false
theorem equalMA_ok (L N:Nat) (a b:List Move) (hL:a.length<L) (hl:a.length≤1099511627776):∃r,f185 L N a b=some r∧(r=true↔a=b):=by
 show ∃r,f185.b L N some a b=some r∧_
 unfold f185.b f185.b'
 have eqb:∀x y:Move,Move.eqb x y=true↔x=y:=fun x y=>by
  constructor
  ·intro h
   simp only [Move.eqb,Bool.and_eq_true,beq_iff_eq] at h
   rw [←mv_eta x,←mv_eta y,h.1,h.2]
  ·rintro rfl;simp [Move.eqb]
 by_cases he:a.length=b.length
 ·have:((a.length:Int) !=(b.length:Int))=false:=by simp [he]
  rw [this,cond_false]
  have key:∀(n i:Nat),i≤a.length→a.length-i<n→(∀j (h1:j<a.length) (h2:j<b.length),j<i→a[j]=b[j])→
    ∃r,f185.l0 L N (f185.p0_e0 L N some) (fun z4=>f185.p0_r L N some z4) n a b (a.length:Int) (i:Int)=some r∧(r=true↔a=b):=by
   intro n
   induction n with
   |zero=>intro i _ h;omega
   |succ n ih=>
    intro i hi hn hs
    show ∃r,f185.s0 L N _ _ (f185.l0 L N _ _ n) a b (a.length:Int) (i:Int)=some r∧_
    unfold f185.s0 f185.s0'
    by_cases hlt:i<a.length
    ·have hlt':i<b.length:=by omega
     simp only [le0,lt_cast hlt,lt_cast hlt',Bool.and_true,cond_true,Int.toNat_natCast,at_lt hlt,at_lt hlt']
     cases h0:Move.eqb a[i] b[i] with
     |true=>
      have h1:=(eqb _ _).1 h0
      rw [Bool.not_true,cond_false,wi_nat (by omega)]
      refine ih (i+1) (by omega) (by omega) fun j h2 h3 h4=>?_
      by_cases e:j=i
      ·subst e;exact h1
      ·exact hs j h2 h3 (by omega)
     |false=>
      rw [Bool.not_false,cond_true]
      refine ⟨false,rfl,?_⟩
      simp only [Bool.false_eq_true,false_iff]
      intro e
      subst e
      rw [(eqb _ _).2 rfl] at h0;cases h0
    ·simp only [ge_cast hlt,cond_false]
     refine ⟨true,rfl,?_⟩
     simp only [true_iff]
     exact List.ext_getElem he fun j h1 h2=>hs j h1 h2 (by omega)
  exact key L 0 (by omega) (by omega) (fun _ _ _ h=>by omega)
 ·have:((a.length:Int) !=(b.length:Int))=true:=by simp;omega
  rw [this,cond_true]
  refine ⟨false,rfl,?_⟩
  simp only [Bool.false_eq_true,false_iff]
  intro e
  exact he (by rw [e])
theorem refineA_ok (L N:Nat) (ms:List (List Move)) (hn60:ms.length≤60) (hL:8589934592≤L) (p:List Int) (hp:p.length=ms.length) (key:Nat→List Move) (hkl:∀i,(key i).length≤3774873660)
  (hkey:∀i,i<ms.length→f145_1 L N (i:Int) ms p=some (key i)):
  ∃q,f144_1 L N p ms p=some q∧NextE (fun j i=>p.getD j 0=p.getD i 0∧key j=key i) ms.length q:=by
 have hlim:=lim_eq
 have inner:∀{R:Type} (K:List Int→List (List Move)→List Int→Int→Int→List Int→List (List Move)→Option R) (i:Nat) (hi:i<ms.length) (out:List Int) (keys:List (List Move)),out.length=ms.length→keys.length=ms.length→(∀j,j≤i→keys.getD j []=key j)→∀(n j:Nat),j≤i→i-j<n→(∀j',j'<j→¬(p.getD j' 0=p.getD i 0∧key j'=key i))→out.getD i 0=(i:Int)→
   ∃(b:Nat) (out':List Int),b≤i∧(p.getD b 0=p.getD i 0∧key b=key i)∧(∀j',j'<b→¬(p.getD j' 0=p.getD i 0∧key j'=key i))∧out'=out.set i (b:Int)∧f144_1.l1 L N K n p ms p (i:Int) (j:Int) (ms.length:Int) (i:Int) out keys=K p ms p (ms.length:Int) (i:Int) out' keys:=by
  intro R K i hi out keys ho hk hks n
  induction n with
  |zero=>intro j _ h;omega
  |succ n ih=>
   intro j hj hn hno hoi
   show ∃(b:Nat) (out':List Int),_∧_∧_∧_∧f144_1.s1 L N _ (f144_1.l1 L N _ n) p ms p (i:Int) (j:Int) (ms.length:Int) (i:Int) out keys=_
   unfold f144_1.s1 f144_1.s1'
   by_cases hlt:j<i
   ·have hjp:j<p.length:=by omega
    have hip:i<p.length:=by omega
    have hjk:j<keys.length:=by omega
    have hik:i<keys.length:=by omega
    have hio:i<out.length:=by omega
    simp only [lt_cast hlt,le0,lt_cast hjp,lt_cast hip,lt_cast hjk,lt_cast hik,Bool.and_true,cond_true,Int.toNat_natCast,atD,hks j (by omega),hks i (by omega)]
    have stay:¬(p.getD j 0=p.getD i 0∧key j=key i)→∃(b:Nat) (out':List Int),b≤i∧(p.getD b 0=p.getD i 0∧key b=key i)∧(∀j',j'<b→¬(p.getD j' 0=p.getD i 0∧key j'=key i))∧out'=out.set i (b:Int)∧f144_1.l1 L N K n p ms p (i:Int) (wi ((j:Int)+1)) (ms.length:Int) (i:Int) out keys=K p ms p (ms.length:Int) (i:Int) out' keys:=fun hne=>by
     rw [wi_nat (by omega)]
     refine ih (j+1) (by omega) (by omega) (fun j' h=>?_) hoi
     by_cases e:j'=j
     ·subst e;exact hne
     ·exact hno j' (by omega)
    by_cases h1:p.getD j 0=p.getD i 0
    ·obtain ⟨r,e1,f1⟩:=equalMA_ok L N (key j) (key i) (by have:=hkl j;omega) (by have:=hkl j;omega)
     rw [show (p.getD j 0==p.getD i 0)=true by simpa using h1,cond_true,e1,Option.bind_some]
     unfold f144_1.j0'
     cases r with
     |true=>
      simp only [cond_true,le0,lt_cast hio,Bool.and_true,Int.toNat_natCast]
      exact ⟨j,_,by omega,⟨h1,f1.1 rfl⟩,hno,rfl,rfl⟩
     |false=>
      rw [cond_false]
      exact stay fun h=>absurd (f1.2 h.2) (by simp)
    ·rw [show (p.getD j 0==p.getD i 0)=false by simpa using h1,cond_false]
     unfold f144_1.j0'
     rw [cond_false]
     exact stay fun h=>h1 h.1
   ·have hji:j=i:=by omega
    subst hji
    simp only [ge_cast (Nat.lt_irrefl _),cond_false]
    refine ⟨j,_,Nat.le_refl _,⟨rfl,rfl⟩,hno,rfl,?_⟩
    have hio:j<out.length:=by omega
    rw [getD_lt hio] at hoi
    rw [←hoi,List.set_getElem_self]
 show ∃q,f144_1.b L N some p ms p=some q∧_
 unfold f144_1.b f144_1.b'
 have h0:decide ((ms.length:Int)≤(lim:Int))=true:=dt (by omega)
 have e0:((ms.length:Int)).toNat=ms.length:=rfl
 simp only [hp,le0,h0,Bool.and_true,cond_true,e0]
 have key0:∀(n i:Nat) (out:List Int) (keys:List (List Move)),out.length=ms.length→keys.length=ms.length→i≤ms.length→ms.length-i<n→(∀j,j<i→keys.getD j []=key j)→(∀i',i'<i→∃j:Nat,out.getD i' 0=(j:Int)∧j≤i'∧(p.getD j 0=p.getD i' 0∧key j=key i')∧∀j',j'<j→¬(p.getD j' 0=p.getD i' 0∧key j'=key i'))→
   ∃q,f144_1.l0 L N (fun z7=>f144_1.p0_e0 L N some z7) n p ms p (ms.length:Int) (i:Int) out keys=some q∧NextE (fun j i=>p.getD j 0=p.getD i 0∧key j=key i) ms.length q:=by
  intro n
  induction n with
  |zero=>intro i out keys _ _ _ h;omega
  |succ n ih=>
   intro i out keys ho hk hi hn hks hout
   show ∃q,f144_1.s0 L N _ (f144_1.l0 L N _ n) p ms p (ms.length:Int) (i:Int) out keys=some q∧_
   unfold f144_1.s0 f144_1.s0'
   by_cases hlt:i<ms.length
   ·have hio:i<out.length:=by omega
    have hik:i<keys.length:=by omega
    simp only [lt_cast hlt,cond_true,hkey i hlt,Option.bind_some,le0,lt_cast hio,lt_cast hik,Bool.and_true,Int.toNat_natCast]
    have hks':∀j,j≤i→(keys.set i (key i)).getD j []=key j:=fun j hj=>by
     by_cases e:j=i
     ·subst e;rw [getD_lt (by simpa using hik),List.getElem_set_self]
     ·rw [List.getD,List.getElem?_set_ne (by omega),←List.getD];exact hks j (by omega)
    obtain ⟨b,out',q1,q2,q3,q4,e⟩:=inner (fun z18 z19 z20 z21 z22 z23 z24=>f144_1.p1_e2 L N (fun z7=>f144_1.p0_e0 L N some z7) (f144_1.l0 L N (fun z7=>f144_1.p0_e0 L N some z7) n) z18 z19 z20 z21 z22 z23 z24) i hlt (out.set i (i:Int)) (keys.set i (key i)) (by simp [ho]) (by simp [hk]) hks' L 0 (by omega) (by omega) (fun j' h=>by omega) (by rw [getD_lt (by simpa using hio),List.getElem_set_self])
    refine (show ∃q,_=some q∧_ from ?_)
    have e':f144_1.l1 L N (fun z18 z19 z20 z21 z22 z23 z24=>f144_1.p1_e2 L N (fun z7=>f144_1.p0_e0 L N some z7) (f144_1.l0 L N (fun z7=>f144_1.p0_e0 L N some z7) n) z18 z19 z20 z21 z22 z23 z24) L p ms p (i:Int) (0:Int) (ms.length:Int) (i:Int) (out.set i (i:Int)) (keys.set i (key i))=_:=e
    rw [e']
    show ∃q,f144_1.p1_e2' L N _ _ p ms p (ms.length:Int) (i:Int) out' (keys.set i (key i))=some q∧_
    unfold f144_1.p1_e2'
    rw [wi_nat (by omega)]
    have hset:(out.set i (i:Int)).set i (b:Int)=out.set i (b:Int):=by rw [List.set_set]
    refine ih (i+1) out' _ (by rw [q4];simp [ho]) (by simp [hk]) (by omega) (by omega) (fun j hj=>hks' j (by omega)) fun i' hi'=>?_
    rw [q4,hset]
    by_cases e:i'=i
    ·subst e
     exact ⟨b,by rw [getD_lt (by simpa using hio),List.getElem_set_self],q1,q2,q3⟩
    ·obtain ⟨j,r1,r2⟩:=hout i' (by omega)
     exact ⟨j,by rw [List.getD,List.getElem?_set_ne (by omega),←List.getD];exact r1,r2⟩
   ·simp only [ge_cast hlt,cond_false]
    have hi':i=ms.length:=by omega
    subst hi'
    refine ⟨out,rfl,ho,fun i hi=>?_⟩
    obtain ⟨j,r1,r2⟩:=hout i (by omega)
    rw [getD_lt hi] at r1
    exact ⟨j,r1,r2⟩
 exact key0 L 0 (List.replicate ms.length (0:Int)) (List.replicate ms.length ([]:List Move)) List.length_replicate List.length_replicate (by omega) (by omega) (fun j h=>by omega) (fun i' h=>by omega)
end Go.Proofs.YthidlhjjnaldhaaGreatDoor.Ev
namespace Go.Proofs.YthidlhjjnaldhaaGreatDoor.Ev
open Go
set_option linter.unusedVariables false
set_option linter.unusedSimpArgs false
def sigRow (ms:List (List Move)) (p:List Int) (i:Nat):List Move:=(ms.getD i []).map fun m=>Move.mk m.act (p.getD m.to.toNat 0)
def alikeKey (ms:List (List Move)) (p:List Int) (i:Nat):List Move:=tidyM (sigRow ms p i)
theorem sigRow_len {ms:List (List Move)} (hm:Leads ms) (p:List Int) (i:Nat):(sigRow ms p i).length≤1048576:=by
 unfold sigRow
 rw [List.length_map]
 by_cases h:i<ms.length
 ·rw [getD_lt h];exact (hm.2 i h).1
 ·rw [List.getD,List.getElem?_eq_none (by omega)];simp
theorem sigRow_mem (ms:List (List Move)) (p:List Int) (i:Nat) (m:Move):m∈sigRow ms p i↔Sig ms p i m:=by
 unfold sigRow Sig
 rw [List.mem_map]
 by_cases h:i<ms.length
 ·rw [getD_lt h]
  constructor
  ·rintro ⟨x,hx,rfl⟩
   obtain ⟨k,hk,rfl⟩:=List.mem_iff_getElem.1 hx
   exact ⟨h,k,hk,rfl,rfl⟩
  ·rintro ⟨_,k,hk,h1,h2⟩
   exact ⟨_,List.getElem_mem hk,by rw [←mv_eta m,h1,h2]⟩
 ·rw [List.getD,List.getElem?_eq_none (by omega)]
  constructor
  ·rintro ⟨x,hx,-⟩;simp at hx
  ·rintro ⟨h',-⟩;exact absurd h' h
theorem alikeKey_len {ms:List (List Move)} (hm:Leads ms) (p:List Int) (i:Nat):(alikeKey ms p i).length≤3774873660:=by
 have h1:=tidyM_le (sigRow ms p i)
 have h2:=sigRow_len hm p i
 unfold alikeKey
 omega
theorem alikeKey_iff (ms:List (List Move)) (p:List Int) (j i:Nat):alikeKey ms p j=alikeKey ms p i↔∀m,Sig ms p i m↔Sig ms p j m:=by
 have hmem:∀k m,m∈alikeKey ms p k↔Sig ms p k m:=fun k m=>(tidyM_mem _ m).trans (sigRow_mem ms p k m)
 constructor
 ·intro h m
  rw [←hmem i m,←hmem j m,h]
 ·intro h
  exact risesM_ext (tidyM_rises _) (tidyM_rises _) fun m=>(hmem j m).trans ((h m).symm.trans (hmem i m).symm)
theorem keyA_ok (L N:Nat) (ms:List (List Move)) (hm:Leads ms) (hL:8589934592≤L) (p:List Int) (hp:p.length=ms.length) (i:Nat) (hi:i<ms.length):f145_1 L N (i:Int) ms p=some (alikeKey ms p i):=by
 have hlim:=lim_eq
 have hrow:=hm.2 i hi
 have h1:f112_1 L N p (i:Int) ms=some (alikeKey ms p i):=by
  show f112_1.b L N some p (i:Int) ms=_
  unfold f112_1.b f112_1.b'
  simp only [le0,lt_cast hi,Bool.and_true,cond_true,Int.toNat_natCast,at_lt hi]
  have key:∀(n k:Nat) (out:List Move),k≤(ms[i]).length→(ms[i]).length-k<n→out.length=k→
    f112_1.l0 L N (fun z5=>f112_1.p0_e0 L N some z5) n p ms[i] ((ms[i]).length:Int) (k:Int) out=some (tidyM (out++((ms[i]).drop k).map fun m=>Move.mk m.act (p.getD m.to.toNat 0))):=by
   intro n
   induction n with
   |zero=>intro k out _ h;omega
   |succ n ih=>
    intro k out hk hn ho
    show f112_1.s0 L N _ (f112_1.l0 L N _ n) p ms[i] ((ms[i]).length:Int) (k:Int) out=_
    unfold f112_1.s0 f112_1.s0'
    by_cases hlt:k<(ms[i]).length
    ·obtain ⟨t,ht,htl⟩:=hm.nat hi hlt
     have htp:t<p.length:=by omega
     have hle:decide (out.length+([(Move.mk ((ms[i])[k]).act (p.getD t 0))]:(List Move)).length≤lim)=true:=dt (by simp only [List.length_cons,List.length_nil];omega)
     simp only [lt_cast hlt,le0,Bool.and_true,cond_true,Int.toNat_natCast,at_lt hlt,ht,lt_cast htp,atD,hle]
     rw [wi_nat (by omega),ih (k+1) _ (by omega) (by omega) (by simp [ho]),List.drop_eq_getElem_cons hlt,List.map_cons,ht,Int.toNat_natCast,List.append_assoc]
     rfl
    ·simp only [ge_cast hlt,cond_false]
     rw [List.drop_eq_nil_of_le (by omega),List.map_nil,List.append_nil]
     show f112_1.p0_e0' L N some out=_
     unfold f112_1.p0_e0'
     rw [fsortM_some (by omega),Option.bind_some]
  have h:=key L 0 [] (by omega) (by omega) rfl
  rw [List.drop_zero,List.nil_append] at h
  have hs:alikeKey ms p i=tidyM ((ms[i]).map fun m=>Move.mk m.act (p.getD m.to.toNat 0)):=by
   unfold alikeKey sigRow;rw [getD_lt hi]
  rw [hs]
  exact h
 show f145_1.b' L N some (i:Int) ms p=_
 unfold f145_1.b'
 rw [h1,Option.bind_some]
theorem refineAkin (L N:Nat) (ms:List (List Move)) (hm:Leads ms) (hL:8589934592≤L) (p:List Int) (hp:p.length=ms.length):
  ∃q,f144_1 L N p ms p=some q∧NextE (Akin ms p) ms.length q:=by
 obtain ⟨q,h1,h2⟩:=refineA_ok L N ms hm.1 hL p hp (alikeKey ms p) (alikeKey_len hm p) (fun i hi=>keyA_ok L N ms hm hL p hp i hi)
 exact ⟨q,h1,h2.congr fun i j _ _=>and_congr Iff.rfl (alikeKey_iff ms p j i)⟩
theorem last_cast {α:Type} (pre:List α) (p d:α) (h:pre.length≤1048576):wi (((pre++[p]).length:Int)-1)=(pre.length:Int)∧pre.length<(pre++[p]).length∧listAt (pre++[p]) d pre.length=p:=by
 refine ⟨?_,by simp,?_⟩
 ·rw [List.length_append,List.length_cons,List.length_nil,wi_id (by omega) (by omega)];omega
 ·rw [at_lt (by simp)];simp
end Go.Proofs.YthidlhjjnaldhaaGreatDoor.Ev
namespace Go.Proofs.YthidlhjjnaldhaaGreatDoor.Ev
open Go
set_option linter.unusedVariables false
set_option linter.unusedSimpArgs false
inductive Chain (E:List Int→Nat→Nat→Prop) (n:Nat):List (List Int)→List Int→Prop
 |zero:Chain E n [] (List.replicate n 0)
 |snoc (pre:List (List Int)) (p q:List Int) (h:Chain E n pre p) (hq:NextE (E p) n q):Chain E n (pre++[p]) q
structure EqE (E:List Int→Nat→Nat→Prop):Prop where
 refl:∀p i,E p i i
 symm:∀p i j,E p i j→E p j i
 trans:∀p i j k,E p i j→E p j k→E p i k
 fine:∀p i j,E p i j→p.getD i 0=p.getD j 0
theorem NextE.same {E:Nat→Nat→Prop} {n:Nat} {q:List Int} (h:NextE E n q) (sy:∀i j,E i j→E j i) (tr:∀i j k,E i j→E j k→E i k) {i i':Nat} (hi:i<n) (hi':i'<n):q.getD i 0=q.getD i' 0↔E i i':=by
 have hl:=h.1
 rw [getD_lt (show i<q.length by omega),getD_lt (show i'<q.length by omega)]
 obtain ⟨j,a1,a2,a3,a4⟩:=h.2 i (by omega)
 obtain ⟨j',b1,b2,b3,b4⟩:=h.2 i' (by omega)
 rw [a1,b1]
 constructor
 ·intro e
  obtain rfl:j=j':=by omega
  exact tr _ _ _ (sy _ _ a3) b3
 ·intro e
  have h1:¬j<j':=fun hlt=>b4 j hlt (tr _ _ _ a3 e)
  have h2:¬j'<j:=fun hlt=>a4 j' hlt (tr _ _ _ b3 (sy _ _ e))
  have:j=j':=by omega
  rw [this]
theorem Chain.len {E:List Int→Nat→Nat→Prop} {n:Nat} {pre:List (List Int)} {p:List Int} (h:Chain E n pre p):p.length=n:=by
 cases h with
 |zero=>simp
 |snoc pre p q h hq=>exact hq.1
theorem Chain.low {E:List Int→Nat→Nat→Prop} {n:Nat} {pre:List (List Int)} {p:List Int} (h:Chain E n pre p):Low p:=by
 cases h with
 |zero=>exact low_zero n
 |snoc pre p q h hq=>exact hq.low
theorem Chain.first {E:List Int→Nat→Nat→Prop} {n:Nat} {pre:List (List Int)} {p:List Int} (h:Chain E n pre p):(pre++[p]).getD 0 []=List.replicate n 0:=by
 induction h with
 |zero=>rfl
 |snoc pre p q h hq ih=>
  cases pre with
  |nil=>exact ih
  |cons a t=>exact ih
theorem Chain.keeps {E:List Int→Nat→Nat→Prop} (hE:EqE E) {n:Nat} {pre:List (List Int)} {p:List Int} (h:Chain E n pre p) (R:Nat→Nat→Prop)
  (hR:∀p,p.length=n→(∀i j,i<n→j<n→R i j→p.getD i 0=p.getD j 0)→∀i j,i<n→j<n→R i j→E p i j):
  ∀i j,i<n→j<n→R i j→p.getD i 0=p.getD j 0:=by
 induction h with
 |zero=>
  intro i j hi hj _
  rw [getD_lt (by simpa using hi),getD_lt (by simpa using hj),List.getElem_replicate,List.getElem_replicate]
 |snoc pre p q h hq ih=>
  intro i j hi hj hr
  exact (hq.same (hE.symm p) (hE.trans p) hi hj).2 (hR p h.len ih i j hi hj hr)
def Fix (E:List Int→Nat→Nat→Prop) (n:Nat) (q:List Int):Prop:=q.length=n∧NextE (E q) n q
theorem Fix.same {E:List Int→Nat→Nat→Prop} (hE:EqE E) {n:Nat} {q:List Int} (h:Fix E n q) {i j:Nat} (hi:i<n) (hj:j<n):q.getD i 0=q.getD j 0↔E q i j:=h.2.same (hE.symm q) (hE.trans q) hi hj
theorem akinEq (ms:List (List Move)):EqE (Akin ms) where
 refl p i:=Akin.refl ms p i
 symm p i j h:=⟨h.1.symm,fun m=>(h.2 m).symm⟩
 trans p i j k h1 h2:=⟨h1.1.trans h2.1,fun m=>(h2.2 m).trans (h1.2 m)⟩
 fine p i j h:=h.1
theorem roundsI (L N:Nat) (ms:List (List Move)) (hm:Leads ms) (hL:8589934592≤L):∀(n:Nat) (pre:List (List Int)) (p:List Int),p.length=ms.length→Low p→pre.length≤wgt p→3600-wgt p<n→Chain (Akin ms) ms.length pre p→
  ∃pre' q,f111_1.l0 L N (fun z4=>f111_1.p0_r L N some z4) n ms (pre++[p])=some (pre'++[q])∧pre'.length≤3600∧Chain (Akin ms) ms.length pre' q∧Fix (Akin ms) ms.length q:=by
 have hlim:=lim_eq
 have hn60:=hm.1
 have hw:∀p:List Int,p.length=ms.length→Low p→wgt p≤3600:=fun p hp hl=>by
  have h1:=wgt_le (p:=p) (B:=60) fun x hx=>by
   obtain ⟨i,hi,rfl⟩:=List.mem_iff_getElem.1 hx
   have:=hl i hi;omega
  omega
 intro n
 induction n with
 |zero=>intro pre p _ _ _ h;omega
 |succ n ih=>
  intro pre p hp hl hpre hn hch
  have hwp:=hw p hp hl
  obtain ⟨e1,e2,e3⟩:=last_cast pre p [] (by omega)
  obtain ⟨q1,b1,a2⟩:=refineAkin L N ms hm hL p hp
  have hq:q1.length=ms.length:=a2.1
  obtain ⟨r1,d1,c2⟩:=equalI_ok L N q1 p (by omega) (by omega)
  have hle:decide ((pre++[p]).length+([q1]:List (List Int)).length≤lim)=true:=dt (by simp only [List.length_append,List.length_cons,List.length_nil];omega)
  have s2:f111_1.l0 L N (fun z4=>f111_1.p0_r L N some z4) (n+1) ms (pre++[p])=bif r1 then some (pre++[p]) else f111_1.l0 L N (fun z4=>f111_1.p0_r L N some z4) n ms (pre++[p]++[q1]):=by
   show f111_1.s0 L N _ (f111_1.l0 L N _ n) ms (pre++[p])=_
   unfold f111_1.s0 f111_1.s0'
   simp only [e1,le0,lt_cast e2,Bool.and_true,cond_true,Int.toNat_natCast,e3,b1,d1,Option.bind_some,hle]
   rfl
  rw [s2]
  cases r1 with
  |true=>
   have heq:q1=p:=c2.1 rfl
   subst heq
   exact ⟨pre,q1,rfl,by omega,hch,hp,a2⟩
  |false=>
   have hne:p≠q1:=fun e=>absurd (c2.2 e.symm) (by simp)
   have hlt:=wgt_lt (by omega) (fun i h1 h2=>⟨(hl i h1).1,a2.ge hp hl (fun j i h=>h.1) i h1 h2⟩) hne
   have hwq:=hw q1 hq a2.low
   exact ih (pre++[p]) q1 hq a2.low (by simp only [List.length_append,List.length_cons,List.length_nil];omega) (by omega) (.snoc _ _ _ hch a2)
theorem chainI (L N:Nat) (ms:List (List Move)) (hm:Leads ms) (hL:8589934592≤L):∃pre q,f69 L N ⟨ms⟩=some (pre++[q])∧pre.length≤3600∧Chain (Akin ms) ms.length pre q∧Fix (Akin ms) ms.length q:=by
 have hlim:=lim_eq
 have hn60:=hm.1
 obtain ⟨pre,q,h2,h4,h5,h6⟩:=roundsI L N ms hm hL L [] (List.replicate ms.length 0) (by simp) (low_zero _) (by simp) (by omega) .zero
 have h0:decide ((ms.length:Int)≤(lim:Int))=true:=dt (by omega)
 have e0:((ms.length:Int)).toNat=ms.length:=rfl
 have r2:f69 L N ⟨ms⟩=some (pre++[q]):=by
  have hrr:f111_1 L N (ms.length:Int) ms=some (pre++[q]):=by
   show f111_1.b L N some (ms.length:Int) ms=_
   unfold f111_1.b f111_1.b'
   simp only [le0,h0,Bool.and_true,cond_true,e0]
   exact h2
  show f69.b' L N some ⟨ms⟩=_
  unfold f69.b'
  simp only [hrr,Option.bind_some]
 exact ⟨pre,q,r2,h4,h5,h6⟩
theorem classesI (L N:Nat) (ms:List (List Move)) {pre:List (List Int)} {q:List Int} (hr:f69 L N ⟨ms⟩=some (pre++[q])) (hp:pre.length≤3600) (hq:q.length≤60):f37 L N ⟨ms⟩=some q:=by
 have hlim:=lim_eq
 obtain ⟨e1,e2,e3⟩:=last_cast pre q [] (by omega)
 show f37.b' L N some ⟨ms⟩=_
 unfold f37.b'
 have hfc:fclone q=some ():=by unfold fclone;rw [dt (by omega)];rfl
 simp only [hr,Option.bind_some,e1,le0,lt_cast e2,Bool.and_true,cond_true,Int.toNat_natCast,e3,hfc]
end Go.Proofs.YthidlhjjnaldhaaGreatDoor.Ev
namespace Go.Proofs.YthidlhjjnaldhaaGreatDoor.Ev
open Go
set_option linter.unusedVariables false
set_option linter.unusedSimpArgs false
abbrev noT:Tree:=.mk 0 0 []
theorem getD_left {S U:List Tree} {i:Nat} (h:i<S.length):(S++U).getD i noT=S.getD i noT:=by
 rw [List.getD_eq_getElem?_getD,List.getD_eq_getElem?_getD,List.getElem?_append_left h]
theorem getD_right {S U:List Tree} {i:Nat} (h:S.length≤i):(S++U).getD i noT=U.getD (i-S.length) noT:=by
 rw [List.getD_eq_getElem?_getD,List.getD_eq_getElem?_getD,List.getElem?_append_right h]
theorem TermIn.place {ds:List Tree} {t:Tree} {S:List Tree} {rows:List (List Move)} (h:TermIn ds t S rows) {i:Nat} (hi:i<rows.length) {s:Step} (hs:s∈steps ds (S.getD i noT)):
  (S.map ttx).idxOf (ttx s.thn)<S.length∧S.getD ((S.map ttx).idxOf (ttx s.thn)) noT=s.thn:=by
 have hl:=h.len
 have hin:=(h.good i hi).1 s hs
 have hx:=List.idxOf_lt_length_of_mem hin
 have hx':(S.map ttx).idxOf (ttx s.thn)<S.length:=by rw [List.length_map] at hx;exact hx
 refine ⟨hx',?_⟩
 have e1:=List.getElem_idxOf (x:=ttx s.thn) (xs:=S.map ttx) hx
 rw [List.getElem_map] at e1
 have hm1:S[(S.map ttx).idxOf (ttx s.thn)]∈S:=List.getElem_mem hx'
 obtain ⟨k1,-,w1,-⟩:=h.fits _ hm1
 have hi':i<S.length:=by omega
 have hSi:S.getD i noT=S[i]:=by rw [List.getD_eq_getElem?_getD,List.getElem?_eq_getElem hi'];rfl
 obtain ⟨k2,l2,w2,c2⟩:=h.fits _ (List.getElem_mem hi')
 rw [hSi] at hs
 obtain ⟨-,k3,w3,-,-⟩:=(steps_bnd ds h.defs S[i] k2 w2 l2 c2).1 s hs
 rw [List.getD_eq_getElem?_getD,List.getElem?_eq_getElem hx']
 exact ttx_one w1 w3 e1
theorem TermIn.row1 {ds:List Tree} {t:Tree} {S:List Tree} {rows:List (List Move)} (h:TermIn ds t S rows) {i:Nat} (hi:i<rows.length) {m:Move} (hm:m∈rows[i]):
  ∃s∈steps ds (S.getD i noT),s.act=m.act∧∃k:Nat,k<S.length∧m.to=(k:Int)∧S.getD k noT=s.thn:=by
 rw [(h.good i hi).2,tidyM_mem] at hm
 obtain ⟨s,hs,rfl⟩:=List.mem_map.1 hm
 obtain ⟨h1,h2⟩:=h.place hi hs
 exact ⟨s,hs,rfl,_,h1,rfl,h2⟩
theorem TermIn.row2 {ds:List Tree} {t:Tree} {S:List Tree} {rows:List (List Move)} (h:TermIn ds t S rows) {i:Nat} (hi:i<rows.length) {s:Step} (hs:s∈steps ds (S.getD i noT)):
  ∃k:Nat,k<S.length∧(⟨s.act,(k:Int)⟩:Move)∈rows[i]∧S.getD k noT=s.thn:=by
 obtain ⟨h1,h2⟩:=h.place hi hs
 refine ⟨_,h1,?_,h2⟩
 rw [(h.good i hi).2,tidyM_mem]
 exact List.mem_map.2 ⟨s,hs,rfl⟩
section
variable {ds : List Tree} {t u : Tree} {S U : List Tree} {a b : List (List Move)} (hS : TermIn ds t S a) (hU : TermIn ds u U b)
include hS hU
theorem bothMv1 {i j:Nat} {c:Int} (h:Mv (bothL a b) i c j):∃s∈steps ds ((S++U).getD i noT),s.act=c∧(S++U).getD j noT=s.thn:=by
 obtain ⟨hi,k,hk,hact,hto⟩:=h
 have hl:=bothL_len a b
 have h1:=hS.len
 have h2:=hU.len
 have hmem:((bothL a b)[i])[k]∈(bothL a b)[i]:=List.getElem_mem hk
 generalize hM:((bothL a b)[i])[k]=m at hmem hact hto
 by_cases hia:i<a.length
 ·have e:(bothL a b)[i]=a[i]:=by unfold bothL;exact List.getElem_append_left hia
  rw [e] at hmem
  obtain ⟨s,g1,g2,k',g3,g4,g5⟩:=hS.row1 hia hmem
  obtain rfl:j=k':=by omega
  refine ⟨s,by rw [getD_left (by omega)];exact g1,by rw [g2,hact],by rw [getD_left g3];exact g5⟩
 ·have hib:i-a.length<b.length:=by omega
  have e:(bothL a b)[i]=shiftR a.length b[i-a.length]:=by
   have h3:i<(a++b.map (shiftR a.length)).length:=hi
   show (a++b.map (shiftR a.length))[i]=_
   rw [List.getElem_append_right (show a.length≤i by omega),List.getElem_map]
  rw [e] at hmem
  unfold shiftR at hmem
  obtain ⟨m',hm',rfl⟩:=List.mem_map.1 hmem
  obtain ⟨s,g1,g2,k',g3,g4,g5⟩:=hU.row1 hib hm'
  have hto':m'.to+(a.length:Int)=(j:Int):=hto
  have hact':m'.act=c:=hact
  refine ⟨s,by rw [getD_right (by omega),←h1];exact g1,by rw [g2,hact'],?_⟩
  rw [getD_right (by omega),←h1,show j-a.length=k' by omega];exact g5
theorem bothMv2 {i:Nat} (hi:i<(bothL a b).length) {s:Step} (hs:s∈steps ds ((S++U).getD i noT)):∃j,Mv (bothL a b) i s.act j∧(S++U).getD j noT=s.thn:=by
 have hl:=bothL_len a b
 have h1:=hS.len
 have h2:=hU.len
 by_cases hia:i<a.length
 ·have e:(bothL a b)[i]=a[i]:=by unfold bothL;exact List.getElem_append_left hia
  rw [getD_left (by omega)] at hs
  obtain ⟨k,g1,g2,g3⟩:=hS.row2 hia hs
  refine ⟨k,?_,by rw [getD_left g1];exact g3⟩
  rw [←e] at g2
  obtain ⟨q,hq,eq⟩:=List.mem_iff_getElem.1 g2
  exact ⟨hi,q,hq,by rw [eq],by rw [eq]⟩
 ·have hib:i-a.length<b.length:=by omega
  have e:(bothL a b)[i]=shiftR a.length b[i-a.length]:=by
   have h3:i<(a++b.map (shiftR a.length)).length:=hi
   show (a++b.map (shiftR a.length))[i]=_
   rw [List.getElem_append_right (show a.length≤i by omega),List.getElem_map]
  rw [getD_right (by omega),←h1] at hs
  obtain ⟨k,g1,g2,g3⟩:=hU.row2 hib hs
  refine ⟨a.length+k,?_,by rw [getD_right (by omega),←h1,show a.length+k-a.length=k by omega];exact g3⟩
  have g4:(⟨s.act,((a.length+k:Nat):Int)⟩:Move)∈(bothL a b)[i]:=by
   rw [e]
   unfold shiftR
   refine List.mem_map.2 ⟨_,g2,?_⟩
   show (⟨s.act,(k:Int)+(a.length:Int)⟩:Move)=_
   rw [show ((a.length+k:Nat):Int)=(k:Int)+(a.length:Int) by omega]
  obtain ⟨q,hq,eq⟩:=List.mem_iff_getElem.1 g4
  exact ⟨hi,q,hq,by rw [eq],by rw [eq]⟩
end
theorem fine_both {a b:List (List Move)} (ha:graphOk ⟨a⟩=true∧∀r∈a,r.length≤540) (hb:graphOk ⟨b⟩=true∧∀r∈b,r.length≤540) (h60:a.length+b.length≤60):graphOk ⟨bothL a b⟩=true∧(bothL a b).length+gsize (bothL a b)≤1048576:=by
 refine ⟨bothL_graph ha.1 hb.1 h60,?_⟩
 have hr:∀r∈bothL a b,r.length≤540:=fun r hr=>by
  unfold bothL at hr
  rcases List.mem_append.1 hr with h|h
  ·exact ha.2 r h
  ·obtain ⟨x,hx,rfl⟩:=List.mem_map.1 h
   unfold shiftR
   rw [List.length_map];exact hb.2 x hx
 have hgs:=gsize_le hr
 have hl:=bothL_len a b
 omega
theorem mv_sig {ms:List (List Move)} (hm:Leads ms) {p:List Int} {i:Nat} {m:Move}:Sig ms p i m↔∃t,Mv ms i m.act t∧m.to=p.getD t 0:=by
 constructor
 ·rintro ⟨hi,k,hk,h1,h2⟩
  obtain ⟨t,ht,-⟩:=hm.nat hi hk
  exact ⟨t,⟨hi,k,hk,h1.symm,ht⟩,by rw [h2,ht,Int.toNat_natCast]⟩
 ·rintro ⟨t,⟨hi,k,hk,h1,h2⟩,h3⟩
  exact ⟨hi,k,hk,h1.symm,by rw [h3,h2,Int.toNat_natCast]⟩
theorem zig_like {ms:List (List Move)} (hm:Leads ms) {B:Nat→Nat→Prop} (hs:∀i j,B i j→B j i) (hz:∀i j a t,B i j→Mv ms i a t→∃t',Mv ms j a t'∧B t t') {q:List Int} {pre:List (List Int)} (hc:Chain (Akin ms) ms.length pre q) {i j:Nat} (hi:i<ms.length) (hj:j<ms.length) (e:B i j):q.getD i 0=q.getD j 0:=by
 refine hc.keeps (akinEq ms) B (fun p hp hk i j hi hj hb=>⟨hk i j hi hj hb,fun m=>?_⟩) i j hi hj e
 have half:∀i j,B i j→Sig ms p i m→Sig ms p j m:=fun i j hb h=>by
  obtain ⟨t,h1,h2⟩:=(mv_sig hm).1 h
  obtain ⟨t',g1,g2⟩:=hz i j _ t hb h1
  exact (mv_sig hm).2 ⟨t',g1,by rw [h2];exact hk t t' (h1.lt hm).2 (g1.lt hm).2 g2⟩
 exact ⟨half j i (hs i j hb),half i j hb⟩
structure Match (R:Tree→Tree→Prop):Prop where
 symm:∀p q,R p q→R q p
 zig:∀p q,R p q→∀s∈steps [] p,∃s'∈steps [] q,s'.act=s.act∧R s.thn s'.thn
theorem termsAlike_of (L N:Nat) (hL:8589934592≤L) {t u:Tree} {ds:List Tree} {ms:List (List Move)} {n:Nat} (h:f35 L N t u ds=some (⟨ms⟩,(n:Int),true)) (hm:Leads ms) (hn:n<ms.length):
  ∃x q pre,f15 L N t u ds=some (x,true)∧Chain (Akin ms) ms.length pre q∧Fix (Akin ms) ms.length q∧(x=true↔q.getD 0 0=q.getD n 0):=by
 have hn60:=hm.1
 obtain ⟨pre,q,c3,c5,c6,c7⟩:=chainI L N ms hm hL
 have hql:=c7.1
 have c4:=classesI L N ms c3 c5 (by omega)
 have c4':f37 L N (Graph.mk (Graph.mk ms).moves)=some q:=c4
 have h0:(decide ((0:Int)≤0)&&decide ((0:Int)<(q.length:Int)))=true:=by rw [dt (show (0:Int)<(q.length:Int) by omega)];rfl
 have hnq:n<q.length:=by omega
 refine ⟨q.getD 0 0==q.getD n 0,q,pre,?_,c6,c7,beq_iff_eq⟩
 show f15.b' L N (fun a0 a1=>some (a0,a1)) t u ds=_
 unfold f15.b'
 rw [tree_eta,tree_eta,h]
 simp only [Option.bind_some,Bool.not_true,cond_false]
 rw [c4']
 simp only [Option.bind_some,h0,cond_true,le0,lt_cast hnq,Bool.and_true,Int.toNat_natCast,atD]
 rfl
theorem termsAlike_no (L N:Nat) {t u:Tree} {ds:List Tree} {g:Graph} {a:Int} (h:f35 L N t u ds=some (g,a,false)):f15 L N t u ds=some (false,false):=by
 show f15.b' L N (fun a0 a1=>some (a0,a1)) t u ds=_
 unfold f15.b'
 rw [tree_eta,tree_eta,h]
 rfl
theorem match_alike (L N:Nat) (hN:4194308≤N) (hL:8589934592≤L) {R:Tree→Tree→Prop} (hR:Match R) {t u:Tree} (ht:nodes t≤1048577) (hu:nodes u≤1048577) (h:R t u):
  ∃x ok,f15 L N t u []=some (x,ok)∧(ok=true→x=true):=by
 obtain ⟨rows,at',ok,h1,-,h3⟩:=bothOfI L N hN (by omega) t u ht hu
 cases ok with
 |false=>exact ⟨false,false,termsAlike_no L N h1,fun h=>by cases h⟩
 |true=>
  obtain ⟨S,a,U,b,hS,hU,h60,rfl,rfl⟩:=h3 rfl
  obtain ⟨f1,f2⟩:=fine_both hS.graph hU.graph h60
  have hm:Leads (bothL a b):=leads_of f1 f2
  have hl:=bothL_len a b
  have k1:=hS.len
  have k2:=hU.len
  have p1:=hS.pos
  have p2:=hU.pos
  obtain ⟨x,q,pre,e1,e2,e3,e4⟩:=termsAlike_of L N (by omega) h1 hm (by omega)
  refine ⟨x,true,e1,fun _=>e4.2 ?_⟩
  refine zig_like hm (B:=fun i j=>i<(bothL a b).length∧j<(bothL a b).length∧R ((S++U).getD i noT) ((S++U).getD j noT)) (fun i j h=>⟨h.2.1,h.1,hR.symm _ _ h.2.2⟩) (fun i j c y h hmv=>?_) e2 (by omega) (by omega) ⟨by omega,by omega,?_⟩
  ·obtain ⟨s,g1,g2,g3⟩:=bothMv1 hS hU hmv
   obtain ⟨s',g4,g5,g6⟩:=hR.zig _ _ h.2.2 s g1
   obtain ⟨y',g7,g8⟩:=bothMv2 hS hU h.2.1 g4
   rw [g5,g2] at g7
   exact ⟨y',g7,(hmv.lt hm).2,(g7.lt hm).2,by rw [g3,g8];exact g6⟩
  ·have x0:(S++U).getD 0 noT=t:=by rw [getD_left (by omega)];exact hS.first
   have x1:(S++U).getD a.length noT=u:=by rw [getD_right (by omega),show a.length-S.length=0 by omega];exact hU.first
   rw [x0,x1];exact h
theorem mnT_ok (L N:Nat):∀m:Nat,(∀t:Tree,2*nodes t≤m→nodes t<L→nodes t≤lim→f19 L N m t t=some true)∧
  (∀ps:List Tree,2*nodess ps+1≤m→nodess ps<L→nodess ps≤lim→f57 L N m ps ps=some true):=by
 intro m
 induction m with
 |zero=>exact ⟨fun t h=>by have:=nodes_pos t;omega,fun ps h=>by omega⟩
 |succ m ih=>
  refine ⟨fun t h hL hl=>?_,fun ps h hL hl=>?_⟩
  ·obtain ⟨o,a,ps⟩:=t
   simp only [nodes] at h hL hl
   show f19.b L N _ _ some (Tree.mk o a ps) (Tree.mk o a ps)=_
   unfold f19.b f19.b'
   simp only [beq_self_eq_true,cond_true]
   show ((f57 L N m ps ps).bind _)=_
   rw [ih.2 ps (by omega) (by omega) (by omega)]
   rfl
  ·have hll:=nodess_len ps
   have hlim:lim=1099511627776:=rfl
   show f57.b L N _ _ some ps ps=_
   unfold f57.b f57.b'
   simp only [bne_self_eq_false,cond_false]
   have key:∀(n i:Nat),ps.length-i<n→i≤ps.length→
     f57.l0 L N (f19 L N m) (f57 L N m) (f57.p0_e0 L N (f19 L N m) (f57 L N m) some) (fun z=>f57.p0_r L N (f19 L N m) (f57 L N m) some z) n ps ps (i:Int)=some true:=by
    intro n
    induction n with
    |zero=>intro i h;omega
    |succ n ihn=>
     intro i h2 hi
     show f57.s0 L N _ _ _ _ (f57.l0 L N _ _ _ _ n) ps ps i=_
     unfold f57.s0 f57.s0'
     by_cases hlt:i<ps.length
     ·have hg:=nodes_get hlt
      simp only [lt_cast hlt,le0,cond_true,Bool.and_true,wi_nat (show i<9223372036854775807 by omega),Int.toNat_natCast,at_lt hlt]
      rw [ih.1 ps[i] (by omega) (by omega) (by omega)]
      exact ihn (i+1) (by omega) (by omega)
     ·simp only [ge_cast hlt,cond_false]
      rfl
   exact key L 0 (by omega) (by omega)
end Go.Proofs.YthidlhjjnaldhaaGreatDoor.Ev
namespace Go.Proofs.YthidlhjjnaldhaaGreatDoor.Ev
open Go
set_option linter.unusedVariables false
set_option linter.unusedSimpArgs false
def Bis (p q:Tree):Prop:=∃R,Match R∧R p q
theorem Bis.refl (p:Tree):Bis p p:=⟨Eq,⟨fun _ _ h=>h.symm,fun p q h s hs=>by subst h;exact ⟨s,hs,rfl,rfl⟩⟩,rfl⟩
theorem Bis.symm {p q:Tree} (h:Bis p q):Bis q p:=by
 obtain ⟨R,hR,h⟩:=h
 exact ⟨R,hR,hR.symm _ _ h⟩
theorem Bis.zig {p q:Tree} (h:Bis p q):∀s∈steps [] p,∃s'∈steps [] q,s'.act=s.act∧Bis s.thn s'.thn:=fun s hs=>by
 obtain ⟨R,hR,h⟩:=h
 obtain ⟨s',h1,h2,h3⟩:=hR.zig _ _ h s hs
 exact ⟨s',h1,h2,R,hR,h3⟩
theorem Bis.of_rel (R:Tree→Tree→Prop) (h1:∀p q,R p q→∀s∈steps [] p,∃s'∈steps [] q,s'.act=s.act∧R s.thn s'.thn) (h2:∀p q,R p q→∀s∈steps [] q,∃s'∈steps [] p,s'.act=s.act∧R s'.thn s.thn) {p q:Tree} (h:R p q):Bis p q:=by
 refine ⟨fun a b=>R a b∨R b a,⟨fun a b h=>h.symm,fun a b h s hs=>?_⟩,.inl h⟩
 rcases h with h|h
 ·obtain ⟨s',g1,g2,g3⟩:=h1 a b h s hs
  exact ⟨s',g1,g2,.inl g3⟩
 ·obtain ⟨s',g1,g2,g3⟩:=h2 b a h s hs
  exact ⟨s',g1,g2,.inr g3⟩
theorem Bis.trans {p q r:Tree} (h:Bis p q) (h':Bis q r):Bis p r:=
 Bis.of_rel (fun a c=>∃b,Bis a b∧Bis b c) (fun a c ⟨b,e1,e2⟩ s hs=>by
  obtain ⟨s1,g1,g2,g3⟩:=e1.zig s hs
  obtain ⟨s2,k1,k2,k3⟩:=e2.zig s1 g1
  exact ⟨s2,k1,k2.trans g2,s1.thn,g3,k3⟩) (fun a c ⟨b,e1,e2⟩ s hs=>by
  obtain ⟨s1,g1,g2,g3⟩:=e2.symm.zig s hs
  obtain ⟨s2,k1,k2,k3⟩:=e1.symm.zig s1 g1
  exact ⟨s2,k1,k2.trans g2,s1.thn,k3.symm,g3.symm⟩) ⟨q,h,h'⟩
theorem Bis.of_steps {p q:Tree} (h1:∀s∈steps [] p,∃s'∈steps [] q,s'.act=s.act∧Bis s.thn s'.thn) (h2:∀s∈steps [] q,∃s'∈steps [] p,s'.act=s.act∧Bis s'.thn s.thn):Bis p q:=
 Bis.of_rel (fun a b=>(a=p∧b=q)∨Bis a b) (fun a b h s hs=>by
  rcases h with ⟨rfl,rfl⟩|h
  ·obtain ⟨s',g1,g2,g3⟩:=h1 s hs;exact ⟨s',g1,g2,.inr g3⟩
  ·obtain ⟨s',g1,g2,g3⟩:=h.zig s hs;exact ⟨s',g1,g2,.inr g3⟩) (fun a b h s hs=>by
  rcases h with ⟨rfl,rfl⟩|h
  ·obtain ⟨s',g1,g2,g3⟩:=h2 s hs;exact ⟨s',g1,g2,.inr g3⟩
  ·obtain ⟨s',g1,g2,g3⟩:=h.symm.zig s hs;exact ⟨s',g1,g2,.inr g3.symm⟩) (.inl ⟨rfl,rfl⟩)
theorem Bis.same {p q:Tree} (h:∀s,s∈steps [] p↔s∈steps [] q):Bis p q:=
 .of_steps (fun s hs=>⟨s,(h s).1 hs,rfl,.refl _⟩) fun s hs=>⟨s,(h s).2 hs,rfl,.refl _⟩
theorem s_nil:steps [] (.mk 0 0 [])=[]:=by unfold steps;rw [stp_nil]
theorem s_act (n:Int) (a:Tree):steps [] (.mk 1 n [a])=[⟨n,a⟩]:=by unfold steps;rw [stp_act]
theorem s_sum {a b:Tree} {s:Step}:s∈steps [] (.mk 2 0 [a,b])↔s∈steps [] a∨s∈steps [] b:=by unfold steps;rw [stp_sum,List.mem_append]
theorem s_par {a b:Tree} {s:Step}:s∈steps [] (.mk 3 0 [a,b])↔(∃x∈steps [] a,s=⟨x.act,.mk 3 0 [x.thn,b]⟩)∨(∃y∈steps [] b,s=⟨y.act,.mk 3 0 [a,y.thn]⟩)∨(∃x∈steps [] a,∃y∈steps [] b,x.act≠0∧x.act=wi (0-y.act)∧s=⟨0,.mk 3 0 [x.thn,y.thn]⟩):=by
 unfold steps
 rw [stp_par]
 unfold parS
 rw [List.mem_append,List.mem_append,List.mem_map,List.mem_map,List.mem_flatMap]
 constructor
 ·rintro ((⟨x,hx,rfl⟩|⟨y,hy,rfl⟩)|⟨x,hx,h⟩)
  ·exact .inl ⟨x,hx,rfl⟩
  ·exact .inr (.inl ⟨y,hy,rfl⟩)
  ·unfold tauRow at h
   split at h
   ·rename_i h0
    obtain ⟨y,hy,rfl⟩:=List.mem_map.1 h
    obtain ⟨h1,h2⟩:=List.mem_filter.1 hy
    exact .inr (.inr ⟨x,hx,y,h1,h0,by simpa using h2,rfl⟩)
   ·cases h
 ·rintro (⟨x,hx,rfl⟩|⟨y,hy,rfl⟩|⟨x,hx,y,hy,h0,h1,rfl⟩)
  ·exact .inl (.inl ⟨x,hx,rfl⟩)
  ·exact .inl (.inr ⟨y,hy,rfl⟩)
  ·refine .inr ⟨x,hx,?_⟩
   unfold tauRow
   rw [if_pos h0]
   exact List.mem_map.2 ⟨y,List.mem_filter.2 ⟨hy,by simpa using h1⟩,rfl⟩
theorem s_hide {n:Int} {a:Tree} {s:Step}:s∈steps [] (.mk 4 n [a])↔∃x∈steps [] a,(x.act=0∨nmS x.act≠n)∧s=⟨x.act,.mk 4 n [x.thn]⟩:=by
 unfold steps
 rw [stp_hide]
 unfold hideS
 rw [List.mem_map]
 constructor
 ·rintro ⟨x,hx,rfl⟩
  obtain ⟨h1,h2⟩:=List.mem_filter.1 hx
  refine ⟨x,h1,?_,rfl⟩
  unfold keepH' at h2
  rw [Bool.or_eq_true,beq_iff_eq,bne_iff_ne] at h2
  exact h2
 ·rintro ⟨x,hx,h,rfl⟩
  refine ⟨x,List.mem_filter.2 ⟨hx,?_⟩,rfl⟩
  unfold keepH'
  rw [Bool.or_eq_true,beq_iff_eq,bne_iff_ne]
  exact h
def Pl (t:Tree):Prop:=(∃k,WT t k)∧CL 0 false t
theorem Pl.step {t:Tree} (h:Pl t) {s:Step} (hs:s∈steps [] t):(-4≤s.act∧s.act≤4)∧Pl s.thn:=by
 obtain ⟨⟨k,h1⟩,h2⟩:=h
 obtain ⟨g1,k',g2,-,g3⟩:=step_less _ t k h1 h2 s hs
 exact ⟨g1,⟨k',g2⟩,g3⟩
theorem wi_neg {x:Int} (h:-4≤x∧x≤4):wi (0-x)=-x:=by rw [wi_id (by omega) (by omega)];omega
theorem bis_act {n:Int} {a b:Tree} (h:Bis a b):Bis (.mk 1 n [a]) (.mk 1 n [b]):=by
 refine .of_steps (fun s hs=>?_) fun s hs=>?_
 ·rw [s_act,List.mem_singleton] at hs;subst hs
  exact ⟨⟨n,b⟩,by rw [s_act];exact .head _,rfl,h⟩
 ·rw [s_act,List.mem_singleton] at hs;subst hs
  exact ⟨⟨n,a⟩,by rw [s_act];exact .head _,rfl,h⟩
theorem bis_sum {a b a' b':Tree} (h:Bis a a') (h':Bis b b'):Bis (.mk 2 0 [a,b]) (.mk 2 0 [a',b']):=by
 refine .of_steps (fun s hs=>?_) fun s hs=>?_
 ·rcases s_sum.1 hs with hs|hs
  ·obtain ⟨s',g1,g2,g3⟩:=h.zig s hs;exact ⟨s',s_sum.2 (.inl g1),g2,g3⟩
  ·obtain ⟨s',g1,g2,g3⟩:=h'.zig s hs;exact ⟨s',s_sum.2 (.inr g1),g2,g3⟩
 ·rcases s_sum.1 hs with hs|hs
  ·obtain ⟨s',g1,g2,g3⟩:=h.symm.zig s hs;exact ⟨s',s_sum.2 (.inl g1),g2,g3.symm⟩
  ·obtain ⟨s',g1,g2,g3⟩:=h'.symm.zig s hs;exact ⟨s',s_sum.2 (.inr g1),g2,g3.symm⟩
theorem bis_par {a b a' b':Tree} (h:Bis a a') (h':Bis b b'):Bis (.mk 3 0 [a,b]) (.mk 3 0 [a',b']):=by
 refine ⟨fun p q=>∃a b a' b',Bis a a'∧Bis b b'∧p=.mk 3 0 [a,b]∧q=.mk 3 0 [a',b'],⟨?_,?_⟩,a,b,a',b',h,h',rfl,rfl⟩
 ·rintro p q ⟨a,b,a',b',h,h',rfl,rfl⟩
  exact ⟨a',b',a,b,h.symm,h'.symm,rfl,rfl⟩
 ·rintro p q ⟨a,b,a',b',h,h',rfl,rfl⟩ s hs
  rcases s_par.1 hs with ⟨x,hx,rfl⟩|⟨y,hy,rfl⟩|⟨x,hx,y,hy,h0,h1,rfl⟩
  ·obtain ⟨x',g1,g2,g3⟩:=h.zig x hx
   exact ⟨_,s_par.2 (.inl ⟨x',g1,rfl⟩),g2,x.thn,b,x'.thn,b',g3,h',rfl,rfl⟩
  ·obtain ⟨y',g1,g2,g3⟩:=h'.zig y hy
   exact ⟨_,s_par.2 (.inr (.inl ⟨y',g1,rfl⟩)),g2,a,y.thn,a',y'.thn,h,g3,rfl,rfl⟩
  ·obtain ⟨x',g1,g2,g3⟩:=h.zig x hx
   obtain ⟨y',k1,k2,k3⟩:=h'.zig y hy
   exact ⟨_,s_par.2 (.inr (.inr ⟨x',g1,y',k1,by rw [g2];exact h0,by rw [g2,k2];exact h1,rfl⟩)),rfl,x.thn,y.thn,x'.thn,y'.thn,g3,k3,rfl,rfl⟩
theorem bis_hide {n:Int} {a b:Tree} (h:Bis a b):Bis (.mk 4 n [a]) (.mk 4 n [b]):=by
 refine ⟨fun p q=>∃a b,Bis a b∧p=.mk 4 n [a]∧q=.mk 4 n [b],⟨?_,?_⟩,a,b,h,rfl,rfl⟩
 ·rintro p q ⟨a,b,h,rfl,rfl⟩
  exact ⟨b,a,h.symm,rfl,rfl⟩
 ·rintro p q ⟨a,b,h,rfl,rfl⟩ s hs
  obtain ⟨x,hx,h0,rfl⟩:=s_hide.1 hs
  obtain ⟨x',g1,g2,g3⟩:=h.zig x hx
  exact ⟨_,s_hide.2 ⟨x',g1,by rw [g2];exact h0,rfl⟩,g2,x.thn,x'.thn,g3,rfl,rfl⟩
theorem pl_sub {o n:Int} {ps:List Tree} (h:Pl (.mk o n ps)):∀p∈ps,Pl p:=fun p hp=>by
 obtain ⟨⟨k,h1⟩,h2⟩:=h
 have hw:WT (.mk o n ps) (nodes (.mk o n ps)):=by rw [h1.nodes_eq];exact h1
 have ho:o≠5:=fun e=>by
  subst e
  have h3:=h2.lt
  have:=(wt_mk.1 hw).1
  unfold HeadW at this
  omega
 exact ⟨⟨_,(wt_mk.1 hw).2 p hp⟩,h2.sub ho p hp⟩
theorem bis_parcomm {a b:Tree} (ha:Pl a) (hb:Pl b):Bis (.mk 3 0 [a,b]) (.mk 3 0 [b,a]):=by
 refine ⟨fun p q=>∃a b,Pl a∧Pl b∧p=.mk 3 0 [a,b]∧q=.mk 3 0 [b,a],⟨?_,?_⟩,a,b,ha,hb,rfl,rfl⟩
 ·rintro p q ⟨a,b,h,h',rfl,rfl⟩
  exact ⟨b,a,h',h,rfl,rfl⟩
 ·rintro p q ⟨a,b,h,h',rfl,rfl⟩ s hs
  rcases s_par.1 hs with ⟨x,hx,rfl⟩|⟨y,hy,rfl⟩|⟨x,hx,y,hy,h0,h1,rfl⟩
  ·exact ⟨_,s_par.2 (.inr (.inl ⟨x,hx,rfl⟩)),rfl,x.thn,b,(h.step hx).2,h',rfl,rfl⟩
  ·exact ⟨_,s_par.2 (.inl ⟨y,hy,rfl⟩),rfl,a,y.thn,h,(h'.step hy).2,rfl,rfl⟩
  ·have e1:=wi_neg (h'.step hy).1
   have e2:=wi_neg (h.step hx).1
   exact ⟨_,s_par.2 (.inr (.inr ⟨y,hy,x,hx,by omega,by omega,rfl⟩)),rfl,x.thn,y.thn,(h.step hx).2,(h'.step hy).2,rfl,rfl⟩
theorem bis_parassoc {a b c:Tree} (ha:Pl a) (hb:Pl b) (hc:Pl c):Bis (.mk 3 0 [a,.mk 3 0 [b,c]]) (.mk 3 0 [.mk 3 0 [a,b],c]):=by
 refine Bis.of_rel (fun p q=>∃a b c,Pl a∧Pl b∧Pl c∧p=.mk 3 0 [a,.mk 3 0 [b,c]]∧q=.mk 3 0 [.mk 3 0 [a,b],c]) ?_ ?_ ⟨a,b,c,ha,hb,hc,rfl,rfl⟩
 ·rintro p q ⟨a,b,c,ha,hb,hc,rfl,rfl⟩ s hs
  rcases s_par.1 hs with ⟨x,hx,rfl⟩|⟨yz,hyz,rfl⟩|⟨x,hx,yz,hyz,h0,h1,rfl⟩
  ·exact ⟨_,s_par.2 (.inl ⟨_,s_par.2 (.inl ⟨x,hx,rfl⟩),rfl⟩),rfl,x.thn,b,c,(ha.step hx).2,hb,hc,rfl,rfl⟩
  ·rcases s_par.1 hyz with ⟨y,hy,rfl⟩|⟨z,hz,rfl⟩|⟨y,hy,z,hz,k0,k1,rfl⟩
   ·exact ⟨_,s_par.2 (.inl ⟨_,s_par.2 (.inr (.inl ⟨y,hy,rfl⟩)),rfl⟩),rfl,a,y.thn,c,ha,(hb.step hy).2,hc,rfl,rfl⟩
   ·exact ⟨_,s_par.2 (.inr (.inl ⟨z,hz,rfl⟩)),rfl,a,b,z.thn,ha,hb,(hc.step hz).2,rfl,rfl⟩
   ·exact ⟨_,s_par.2 (.inr (.inr ⟨_,s_par.2 (.inr (.inl ⟨y,hy,rfl⟩)),z,hz,k0,k1,rfl⟩)),rfl,a,y.thn,z.thn,ha,(hb.step hy).2,(hc.step hz).2,rfl,rfl⟩
  ·rcases s_par.1 hyz with ⟨y,hy,rfl⟩|⟨z,hz,rfl⟩|⟨y,hy,z,hz,k0,k1,rfl⟩
   ·exact ⟨_,s_par.2 (.inl ⟨_,s_par.2 (.inr (.inr ⟨x,hx,y,hy,h0,h1,rfl⟩)),rfl⟩),rfl,x.thn,y.thn,c,(ha.step hx).2,(hb.step hy).2,hc,rfl,rfl⟩
   ·exact ⟨_,s_par.2 (.inr (.inr ⟨_,s_par.2 (.inl ⟨x,hx,rfl⟩),z,hz,h0,h1,rfl⟩)),rfl,x.thn,b,z.thn,(ha.step hx).2,hb,(hc.step hz).2,rfl,rfl⟩
   ·exact absurd (h1.trans (wi_neg (x:=0) (by omega))) (by simpa using h0)
 ·rintro p q ⟨a,b,c,ha,hb,hc,rfl,rfl⟩ s hs
  rcases s_par.1 hs with ⟨xy,hxy,rfl⟩|⟨z,hz,rfl⟩|⟨xy,hxy,z,hz,h0,h1,rfl⟩
  ·rcases s_par.1 hxy with ⟨x,hx,rfl⟩|⟨y,hy,rfl⟩|⟨x,hx,y,hy,k0,k1,rfl⟩
   ·exact ⟨_,s_par.2 (.inl ⟨x,hx,rfl⟩),rfl,x.thn,b,c,(ha.step hx).2,hb,hc,rfl,rfl⟩
   ·exact ⟨_,s_par.2 (.inr (.inl ⟨_,s_par.2 (.inl ⟨y,hy,rfl⟩),rfl⟩)),rfl,a,y.thn,c,ha,(hb.step hy).2,hc,rfl,rfl⟩
   ·exact ⟨_,s_par.2 (.inr (.inr ⟨x,hx,_,s_par.2 (.inl ⟨y,hy,rfl⟩),k0,k1,rfl⟩)),rfl,x.thn,y.thn,c,(ha.step hx).2,(hb.step hy).2,hc,rfl,rfl⟩
  ·exact ⟨_,s_par.2 (.inr (.inl ⟨_,s_par.2 (.inr (.inl ⟨z,hz,rfl⟩)),rfl⟩)),rfl,a,b,z.thn,ha,hb,(hc.step hz).2,rfl,rfl⟩
  ·rcases s_par.1 hxy with ⟨x,hx,rfl⟩|⟨y,hy,rfl⟩|⟨x,hx,y,hy,k0,k1,rfl⟩
   ·exact ⟨_,s_par.2 (.inr (.inr ⟨x,hx,_,s_par.2 (.inr (.inl ⟨z,hz,rfl⟩)),h0,h1,rfl⟩)),rfl,x.thn,b,z.thn,(ha.step hx).2,hb,(hc.step hz).2,rfl,rfl⟩
   ·exact ⟨_,s_par.2 (.inr (.inl ⟨_,s_par.2 (.inr (.inr ⟨y,hy,z,hz,h0,h1,rfl⟩)),rfl⟩)),rfl,a,y.thn,z.thn,ha,(hb.step hy).2,(hc.step hz).2,rfl,rfl⟩
   ·exact absurd rfl h0
theorem bis_parunit {a:Tree}:Bis (.mk 3 0 [a,.mk 0 0 []]) a:=by
 refine Bis.of_rel (fun p q=>p=.mk 3 0 [q,.mk 0 0 []]) ?_ ?_ rfl
 ·rintro p q rfl s hs
  rcases s_par.1 hs with ⟨x,hx,rfl⟩|⟨y,hy,rfl⟩|⟨x,hx,y,hy,h0,h1,rfl⟩
  ·exact ⟨x,hx,rfl,rfl⟩
  ·rw [s_nil] at hy;cases hy
  ·rw [s_nil] at hy;cases hy
 ·rintro p q rfl s hs
  exact ⟨_,s_par.2 (.inl ⟨s,hs,rfl⟩),rfl,rfl⟩
theorem bis_hh {n x:Int} {a:Tree}:Bis (.mk 4 n [.mk 4 x [a]]) (.mk 4 x [.mk 4 n [a]]):=by
 refine ⟨fun p q=>∃n x a,p=.mk 4 n [.mk 4 x [a]]∧q=.mk 4 x [.mk 4 n [a]],⟨?_,?_⟩,n,x,a,rfl,rfl⟩
 ·rintro p q ⟨n,x,a,rfl,rfl⟩
  exact ⟨x,n,a,rfl,rfl⟩
 ·rintro p q ⟨n,x,a,rfl,rfl⟩ s hs
  obtain ⟨s1,h1,h2,rfl⟩:=s_hide.1 hs
  obtain ⟨s2,h3,h4,rfl⟩:=s_hide.1 h1
  exact ⟨_,s_hide.2 ⟨_,s_hide.2 ⟨s2,h3,h2,rfl⟩,h4,rfl⟩,rfl,n,x,s2.thn,rfl,rfl⟩
theorem bis_hs {n:Int} {a b:Tree}:Bis (.mk 4 n [.mk 2 0 [a,b]]) (.mk 2 0 [.mk 4 n [a],.mk 4 n [b]]):=by
 refine .same fun s=>?_
 rw [s_sum,s_hide,s_hide,s_hide]
 constructor
 ·rintro ⟨x,hx,h⟩
  rcases s_sum.1 hx with hx|hx
  ·exact .inl ⟨x,hx,h⟩
  ·exact .inr ⟨x,hx,h⟩
 ·rintro (⟨x,hx,h⟩|⟨x,hx,h⟩)
  ·exact ⟨x,s_sum.2 (.inl hx),h⟩
  ·exact ⟨x,s_sum.2 (.inr hx),h⟩
theorem bis_ha {n x:Int} {a:Tree} (h:x=0∨nmS x≠n):Bis (.mk 4 n [.mk 1 x [a]]) (.mk 1 x [.mk 4 n [a]]):=by
 refine .same fun s=>?_
 rw [s_hide,s_act,s_act,List.mem_singleton]
 constructor
 ·rintro ⟨y,hy,-,rfl⟩
  rw [List.mem_singleton] at hy;subst hy;rfl
 ·rintro rfl
  exact ⟨_,.head _,h,rfl⟩
theorem fr_two (m o:Int) (a b:Tree) (ho:o≠1) (h4:o≠4) (n:Int):fr m (.mk o n [a,b])=(fr m a||fr m b):=by
 rw [fr_mk,show (o==1)=false by simpa using ho,show (o==4)=false by simpa using h4]
 simp [frs]
theorem fr_hide (m n:Int) (a:Tree):fr m (.mk 4 n [a])=(n !=m&&fr m a):=by
 rw [fr_mk]
 by_cases h:n=m
 ·subst h;simp
 ·rw [show (n==m)=false by simpa using h,show (n !=m)=true by simpa using h]
  simp [frs]
theorem fr_act (m x:Int) (a:Tree):fr m (.mk 1 x [a])=(fr m a||(x !=0&&nmS x==m)):=by
 rw [fr_mk]
 simp [frs]
theorem fr_step (m:Int):∀(t:Tree) (k:Nat),WT t k→CL 0 false t→fr m t=false→∀s∈steps [] t,(s.act=0∨nmS s.act≠m)∧fr m s.thn=false:=by
 intro t k h
 induction h with
 |nil=>intro _ _ s hs;rw [s_nil] at hs;cases hs
 |call x hx=>intro hcl;have:=hcl.lt;omega
 |act n a k hn ha ih=>
  intro hcl hf s hs
  rw [s_act] at hs
  rw [List.mem_singleton.1 hs]
  rw [fr_act,Bool.or_eq_false_iff,Bool.and_eq_false_iff] at hf
  refine ⟨?_,hf.1⟩
  rcases hf.2 with h|h
  ·exact .inl (by simpa using h)
  ·exact .inr (by simpa using h)
 |sum a b i j ha hb iha ihb=>
  intro hcl hf s hs
  have hc:=hcl.sub (by decide)
  rw [fr_two m 2 a b (by decide) (by decide),Bool.or_eq_false_iff] at hf
  rcases s_sum.1 hs with h|h
  ·exact iha (hc a (.head _)) hf.1 s h
  ·exact ihb (hc b (.tail _ (.head _))) hf.2 s h
 |par a b i j ha hb iha ihb=>
  intro hcl hf s hs
  have hc:=hcl.sub (by decide)
  rw [fr_two m 3 a b (by decide) (by decide),Bool.or_eq_false_iff] at hf
  rcases s_par.1 hs with ⟨x,hx,rfl⟩|⟨y,hy,rfl⟩|⟨x,hx,y,hy,h0,h1,rfl⟩
  ·obtain ⟨g1,g2⟩:=iha (hc a (.head _)) hf.1 x hx
   exact ⟨g1,by show fr m (.mk 3 0 [x.thn,b])=false;rw [fr_two m 3 _ _ (by decide) (by decide),g2,hf.2];rfl⟩
  ·obtain ⟨g1,g2⟩:=ihb (hc b (.tail _ (.head _))) hf.2 y hy
   exact ⟨g1,by show fr m (.mk 3 0 [a,y.thn])=false;rw [fr_two m 3 _ _ (by decide) (by decide),g2,hf.1];rfl⟩
  ·obtain ⟨-,g2⟩:=iha (hc a (.head _)) hf.1 x hx
   obtain ⟨-,g3⟩:=ihb (hc b (.tail _ (.head _))) hf.2 y hy
   exact ⟨.inl rfl,by show fr m (.mk 3 0 [x.thn,y.thn])=false;rw [fr_two m 3 _ _ (by decide) (by decide),g2,g3];rfl⟩
 |hide x a k hx ha ih=>
  intro hcl hf s hs
  have hc:=hcl.sub (by decide)
  obtain ⟨y,hy,h0,rfl⟩:=s_hide.1 hs
  rw [fr_hide] at hf
  by_cases hxm:x=m
  ·subst hxm
   exact ⟨h0,by show fr x (.mk 4 x [y.thn])=false;rw [fr_hide];simp⟩
  ·rw [show (x !=m)=true by simpa using hxm,Bool.true_and] at hf
   obtain ⟨g1,g2⟩:=ih (hc a (.head _)) hf y hy
   exact ⟨g1,by show fr m (.mk 4 x [y.thn])=false;rw [fr_hide,g2,Bool.and_false]⟩
theorem bis_hf {n:Int} {a:Tree} (ha:Pl a) (h:fr n a=false):Bis (.mk 4 n [a]) a:=by
 refine Bis.of_rel (fun p q=>Pl q∧fr n q=false∧p=.mk 4 n [q]) ?_ ?_ ⟨ha,h,rfl⟩
 ·rintro p q ⟨hq,hf,rfl⟩ s hs
  obtain ⟨x,hx,h0,rfl⟩:=s_hide.1 hs
  obtain ⟨⟨k,h1⟩,h2⟩:=id hq
  exact ⟨x,hx,rfl,(hq.step hx).2,(fr_step n q k h1 h2 hf x hx).2,rfl⟩
 ·rintro p q ⟨hq,hf,rfl⟩ s hs
  obtain ⟨⟨k,h1⟩,h2⟩:=id hq
  obtain ⟨g1,g2⟩:=fr_step n q k h1 h2 hf s hs
  exact ⟨_,s_hide.2 ⟨s,hs,g1,rfl⟩,rfl,(hq.step hs).2,g2,rfl⟩
theorem s_exp (l:List Step) (s:Step):s∈steps [] (sumL (l.map actS))↔s∈l:=by
 unfold steps
 rw [stp_sumL,List.mem_flatMap]
 constructor
 ·rintro ⟨x,hx,h⟩
  obtain ⟨s',hs',rfl⟩:=List.mem_map.1 hx
  unfold actS at h
  rw [stp_act,List.mem_singleton] at h
  subst h;exact hs'
 ·intro h
  refine ⟨actS s,List.mem_map.2 ⟨s,h,rfl⟩,?_⟩
  unfold actS
  rw [stp_act];exact .head _
theorem lawR_bis {t u:Tree} (ht:Pl t) (h:LawR t u):Bis t u:=by
 cases h with
 |comm o a b ho=>
  rcases ho with rfl|rfl
  ·exact .same fun s=>by rw [s_sum,s_sum];exact Or.comm
  ·exact bis_parcomm (pl_sub ht a (.head _)) (pl_sub ht b (.tail _ (.head _)))
 |assoc o a q r ho=>
  rcases ho with rfl|rfl
  ·exact .same fun s=>by rw [s_sum,s_sum,s_sum,s_sum];exact or_assoc.symm
  ·have h2:=pl_sub ht _ (.tail _ (.head _))
   exact bis_parassoc (pl_sub ht a (.head _)) (pl_sub h2 q (.head _)) (pl_sub h2 r (.tail _ (.head _)))
 |idem a=>exact .same fun s=>by rw [s_sum];exact or_self_iff
 |unit o a ho=>
  rcases ho with rfl|rfl
  ·exact .same fun s=>by rw [s_sum,s_nil];simp
  ·exact bis_parunit
 |hh n x a=>exact bis_hh
 |hs n a b=>exact bis_hs
 |ha n x a h=>exact bis_ha h
 |hf n a hp h=>exact bis_hf (pl_sub ht _ (.head _)) h
 |exp t hp=>exact .same fun s=>(s_exp _ s).symm
theorem lawC_bis {t u:Tree} (h:LawC t u):Pl t→Bis t u:=by
 induction h with
 |here t u h=>exact fun ht=>lawR_bis ht h
 |sub o n ps i hi u h ih=>
  intro ht
  have hb:=ih (pl_sub ht _ (List.getElem_mem hi))
  obtain ⟨⟨k,hw⟩,hcl⟩:=ht
  cases hw with
  |nil=>exact absurd hi (by simp)
  |call n hn=>exact absurd hi (by simp)
  |act n a k hn h=>
   obtain rfl:i=0:=by simp at hi;omega
   exact bis_act hb
  |hide n a k hn h=>
   obtain rfl:i=0:=by simp at hi;omega
   exact bis_hide hb
  |sum a b x y ha hb'=>
   obtain rfl|rfl:i=0∨i=1:=by simp at hi;omega
   ·exact bis_sum hb (.refl _)
   ·exact bis_sum (.refl _) hb
  |par a b x y ha hb'=>
   obtain rfl|rfl:i=0∨i=1:=by simp at hi;omega
   ·exact bis_par hb (.refl _)
   ·exact bis_par (.refl _) hb
theorem fr_sumL (m:Int):∀l:List Tree,fr m (sumL l)=true→∃x∈l,fr m x=true
 |[],h=>by rw [sumL,fr_mk] at h;simp [frs] at h
 |[x],h=>⟨x,.head _,h⟩
 |x::y::r,h=>by
  rw [sumL,fr_two m 2 _ _ (by decide) (by decide),Bool.or_eq_true] at h
  rcases h with h|h
  ·exact ⟨x,.head _,h⟩
  ·obtain ⟨z,hz,e⟩:=fr_sumL m (y::r) h
   exact ⟨z,.tail _ hz,e⟩
theorem lawR_fr {t u:Tree} {k:Nat} (ht:WT t k) (h:LawR t u) (m:Int) (hm:fr m u=true):fr m t=true:=by
 cases h with
 |comm o a b ho=>
  rw [fr_two m o _ _ (by omega) (by omega),Bool.or_eq_true] at hm⊢
  exact hm.symm
 |assoc o a q r ho=>
  rw [fr_two m o _ _ (by omega) (by omega),fr_two m o _ _ (by omega) (by omega),Bool.or_eq_true,Bool.or_eq_true] at hm⊢
  exact or_assoc.1 hm
 |idem a=>rw [fr_two m 2 _ _ (by decide) (by decide),hm];rfl
 |unit o a ho=>rw [fr_two m o _ _ (by omega) (by omega),hm];rfl
 |hh n x a=>
  rw [fr_hide,fr_hide,Bool.and_eq_true,Bool.and_eq_true] at hm⊢
  exact ⟨hm.2.1,hm.1,hm.2.2⟩
 |hs n a b=>
  rw [fr_two m 2 _ _ (by decide) (by decide),fr_hide,fr_hide] at hm
  rw [fr_hide,fr_two m 2 _ _ (by decide) (by decide)]
  rw [Bool.or_eq_true,Bool.and_eq_true,Bool.and_eq_true] at hm
  rw [Bool.and_eq_true,Bool.or_eq_true]
  rcases hm with ⟨h1,h2⟩|⟨h1,h2⟩
  ·exact ⟨h1,.inl h2⟩
  ·exact ⟨h1,.inr h2⟩
 |ha n x a h=>
  rw [fr_act,fr_hide,Bool.or_eq_true,Bool.and_eq_true,Bool.and_eq_true] at hm
  rw [fr_hide,fr_act,Bool.and_eq_true,Bool.or_eq_true,Bool.and_eq_true]
  rcases hm with ⟨h1,h2⟩|⟨h1,h2⟩
  ·exact ⟨h1,.inl h2⟩
  ·refine ⟨?_,.inr ⟨h1,h2⟩⟩
   rw [bne_iff_ne] at h1⊢
   rw [beq_iff_eq] at h2
   rcases h with h|h
   ·exact absurd h h1
   ·rw [h2] at h;exact fun e=>h e.symm
 |hf n a hp h=>
  rw [fr_hide,hm,Bool.and_true,bne_iff_ne]
  intro e
  rw [e,hm] at h;cases h
 |exp t hp=>
  obtain ⟨x,hx,e⟩:=fr_sumL m _ hm
  obtain ⟨s,hs,rfl⟩:=List.mem_map.1 hx
  cases hf:fr m t with
  |true=>rfl
  |false=>
   obtain ⟨g1,g2⟩:=fr_step m t k ht hp hf s hs
   unfold actS at e
   rw [fr_act,g2,Bool.false_or,Bool.and_eq_true,bne_iff_ne,beq_iff_eq] at e
   rcases g1 with g1|g1
   ·exact absurd g1 e.1
   ·exact absurd e.2 g1
theorem frs_set (m:Int):∀(ps:List Tree) (i:Nat) (u:Tree) (h:i<ps.length),(fr m u=true→fr m ps[i]=true)→frs m (ps.set i u)=true→frs m ps=true
 |p::r,0,u,_,h,e=>by
  simp only [List.set_cons_zero,frs,List.getElem_cons_zero,Bool.or_eq_true] at h e⊢
  exact e.imp_left h
 |p::r,i+1,u,hi,h,e=>by
  simp only [List.set_cons_succ,frs,List.getElem_cons_succ,Bool.or_eq_true] at h e⊢
  exact e.imp_right (frs_set m r i u (by simpa using hi) h)
theorem lawC_fr {t u:Tree} (h:LawC t u):∀{k:Nat},WT t k→∀m:Int,fr m u=true→fr m t=true:=by
 induction h with
 |here t u h=>exact fun hw m hm=>lawR_fr hw h m hm
 |sub o n ps i hi u h ih=>
  intro k hw m hm
  have hw':WT (.mk o n ps) (nodes (.mk o n ps)):=by rw [hw.nodes_eq];exact hw
  have hp:=(wt_mk.1 hw').2 ps[i] (List.getElem_mem hi)
  have hs:=frs_set m ps i u hi (ih hp m)
  rw [fr_mk] at hm⊢
  rw [Bool.or_eq_true] at hm⊢
  refine hm.imp_left fun h=>?_
  cases hc:((o==4)&&(n==m))
  ·rw [hc,cond_false] at h;rw [cond_false];exact hs h
  ·rw [hc,cond_true] at h;cases h
end Go.Proofs.YthidlhjjnaldhaaGreatDoor.Ev
namespace Go.Proofs.YthidlhjjnaldhaaGreatDoor.Ev
open Go
set_option linter.unusedVariables false
set_option linter.unusedSimpArgs false
theorem mnHas_ok (L N:Nat) (q:List Int) (v:Int) (hL:q.length<L) (hl:q.length≤1048576):f21 L N q v=some (decide (v∈q)):=by
 show f21.b L N some q v=_
 unfold f21.b f21.b'
 have key:∀(n i:Nat),i≤q.length→q.length-i<n→f21.l0 L N (f21.p0_e0 L N some) (fun z3=>f21.p0_r L N some z3) n q v (i:Int)=some (decide (v∈q.drop i)):=by
  intro n
  induction n with
  |zero=>intro i _ h;omega
  |succ n ih=>
   intro i hi hn
   show f21.s0 L N _ _ (f21.l0 L N _ _ n) q v (i:Int)=_
   unfold f21.s0 f21.s0'
   by_cases hlt:i<q.length
   ·rw [List.drop_eq_getElem_cons hlt]
    simp only [lt_cast hlt,le0,Bool.and_true,cond_true,Int.toNat_natCast,at_lt hlt]
    by_cases h:q[i]=v
    ·rw [show (q[i]==v)=true by simpa using h,cond_true,dt (List.mem_cons.2 (.inl h.symm))];rfl
    ·rw [show (q[i]==v)=false by simpa using h,cond_false,wi_nat (by omega),ih (i+1) (by omega) (by omega)]
     have e:(v∈q.drop (i+1))↔v∈q[i]::q.drop (i+1):=⟨fun h'=>.tail _ h',fun h'=>(List.mem_cons.1 h').elim (fun e=>absurd e.symm h) id⟩
     rw [decide_eq_decide.2 e]
   ·rw [ge_cast hlt,cond_false,List.drop_eq_nil_of_le (by omega)];rfl
 exact key L 0 (by omega) (by omega)
end Go.Proofs.YthidlhjjnaldhaaGreatDoor.Ev
namespace Go.Proofs.YthidlhjjnaldhaaGreatDoor.Ev
open Go
set_option linter.unusedVariables false
set_option linter.unusedSimpArgs false
section
variable (L N : Nat) (hN : 4194308 ≤ N) (hL : 8589934592 ≤ L)
include hN hL
omit hN in
theorem place_draw {c:List Int} (hb:BOk c) {p:Int} (p0:0≤p) (pb:p≤1000000000) (t:Tree):
  ∃ps p',f48 L N c p t=some (ps,c,p')∧p≤p'∧p'≤p+100∧ps.length≤10:=by
 have hlim:=lim_eq
 show ∃ps p',f48.b L N (fun a0 a1 a2=>some (a0,a1,a2)) c p t=_∧_
 unfold f48.b f48.b'
 obtain ⟨r,hr,r0,r1⟩:=pick_ok L N hb (p:=p) (n:=4) p0 (by omega) (by omega)
 obtain ⟨k,rfl⟩:=Int.eq_ofNat_of_zero_le r0
 rw [hr,Option.bind_some]
 have fin:∀(q:Int) (ps:List Int),p≤q→q≤p+50→ps.length≤5→∃ps' p',f48.p0_e0 L N (fun a0 a1 a2=>some (a0,a1,a2)) c q ps=some (ps',c,p')∧p≤p'∧p'≤p+100∧ps'.length≤10:=by
  intro q ps h1 h2 h3
  unfold f48.p0_e0 f48.p0_e0'
  obtain ⟨s,hs,s0,s1⟩:=pick_ok L N hb (p:=q) (n:=30) (by omega) (by omega) (by omega)
  rw [hs,Option.bind_some]
  dsimp only
  cases (s==0) with
  |true=>
   rw [cond_true,dt (by simp only [List.length_singleton];omega),cond_true]
   exact ⟨_,_,rfl,by omega,by omega,by simp;omega⟩
  |false=>
   rw [cond_false]
   exact ⟨_,_,rfl,by omega,by omega,by omega⟩
 have key:∀(n k:Nat) (q:Int) (t:Tree) (ps:List Int),k<n→k≤3→p≤q→q+k≤p+10→ps.length+k≤4→0≤q→
   ∃ps' p',f48.l0 L N (fun z8 z9 z10=>f48.p0_e0 L N (fun a0 a1 a2=>some (a0,a1,a2)) z8 z9 z10) n (k:Int) c q t.op t.n t.parts ps=some (ps',c,p')∧p≤p'∧p'≤p+100∧ps'.length≤10:=by
  intro n
  induction n with
  |zero=>intro k q t ps h;omega
  |succ n ih=>
   intro k q t ps hk k3 h1 h2 h3 h4
   show ∃ps' p',f48.s0 L N _ (f48.l0 L N _ n) (k:Int) c q t.op t.n t.parts ps=_∧_
   unfold f48.s0 f48.s0'
   by_cases hk0:(k:Int)>0
   ·obtain ⟨k,rfl⟩:∃k',k=k'+1:=⟨k-1,by omega⟩
    rw [dt hk0,cond_true]
    by_cases hz:t.parts.length=0
    ·rw [show ((t.parts.length:Int)==0)=true by simpa using hz,cond_true]
     exact fin q ps h1 (by omega) (by omega)
    ·rw [show ((t.parts.length:Int)==0)=false by simpa using hz,cond_false]
     obtain ⟨s,hs,s0,s1⟩:=pick_ok L N hb (p:=q) (n:=(t.parts.length:Int)) (by omega) (by omega) (by omega)
     obtain ⟨i,rfl⟩:=Int.eq_ofNat_of_zero_le s0
     have hi:i<t.parts.length:=by omega
     have hw:wi (((k+1:Nat):Int)-1)=(k:Int):=by rw [wi_id (by omega) (by omega)];omega
     rw [hs,Option.bind_some]
     dsimp only
     rw [dt (by simp only [List.length_singleton];omega),cond_true,le0,lt_cast hi,Bool.and_self,cond_true,hw,Int.toNat_natCast,at_lt hi]
     exact ih k (q+1) _ _ (by omega) (by omega) (by omega) (by omega) (by simp;omega) (by omega)
   ·rw [df hk0,cond_false]
    exact fin q ps h1 (by omega) (by omega)
 exact key L k (p+1) t [] (by omega) (by omega) (by omega) (by omega) (by simp;omega) (by omega)
theorem lawApply_draw {x0:List Int} (hx0:DatOk (.sl (.int .u8)) x0):∃t law ps,f16 L N x0=some (t,law,ps)∧nodes t≤50∧ps.length≤10:=by
 have hlim:=lim_eq
 obtain ⟨c,o1,o2⟩:=open_ok L N hx0
 obtain ⟨t,p1,d1,d2,d3,d4⟩:=term_draw L N (by omega) o2 (p:=0) (n:=0) (by omega) (by omega) (by omega)
 obtain ⟨ps,p2,e1,e2,e3,e4⟩:=place_draw L N hL o2 (p:=p1) (by omega) (by omega) t
 obtain ⟨r,hr,r0,r1⟩:=pick_ok L N o2 (p:=p2) (n:=13) (by omega) (by omega) (by omega)
 obtain ⟨s,hs,s0,s1⟩:=pick_ok L N o2 (p:=p2+1) (n:=2) (by omega) (by omega) (by omega)
 show ∃t law ps,f16.b L N (fun a0 a1 a2=>some (a0,a1,a2)) x0=_∧_
 unfold f16.b f16.b'
 simp only [o1,d1,e1,hr,hs,Option.bind_some,tree_eta]
 have key:∀(n k:Nat) (a b:Int),k≤12→12-k<n→
   ∃t' law ps',f16.l0 L N (fun z12 z13 z14 z15 z16 z17 z18=>f16.p0_e0 L N (fun a0 a1 a2=>some (a0,a1,a2)) z12 z13 z14 z15 z16 z17 z18) n ps (k:Int) a b t.op t.n t.parts=some (t',law,ps')∧nodes t'≤50∧ps'.length≤10:=by
  intro n
  induction n with
  |zero=>intro k a b _ h;omega
  |succ n ih=>
   intro k a b hk hn
   have fin:∃t' law ps',f16.p0_e0 L N (fun a0 a1 a2=>some (a0,a1,a2)) ps (k:Int) a b t.op t.n t.parts=some (t',law,ps')∧nodes t'≤50∧ps'.length≤10:=by
    unfold f16.p0_e0 f16.p0_e0'
    simp only [tree_eta]
    exact ⟨_,_,_,rfl,d4,e4⟩
   show ∃t' law ps',f16.s0 L N _ (f16.l0 L N _ n) ps (k:Int) a b t.op t.n t.parts=_∧_
   unfold f16.s0 f16.s0'
   by_cases hlt:(k:Int)<12
   ·obtain ⟨T,ok,-,w2,-,-⟩:=apply_same L N hN hL t (k:Int) ps (by omega) (by omega)
    rw [dt hlt,cond_true,tree_eta,w2,Option.bind_some]
    cases ok
    ·rw [cond_false,wi_nat (by omega)]
     exact ih (k+1) a b (by omega) (by omega)
    ·rw [cond_true];exact fin
   ·rw [df hlt,cond_false];exact fin
 cases (s==0) with
 |true=>
  rw [cond_true]
  exact key L 0 0 0 (by omega) (by omega)
 |false=>
  rw [cond_false]
  exact ⟨_,_,_,rfl,d4,e4⟩
end
def namesL (c0 c1 c2 c3:Bool):List Int:=(((bif c0 then [0] else [])++(bif c1 then [1] else []))++(bif c2 then [2] else []))++(bif c3 then [3] else [])
theorem namesL_len (c0 c1 c2 c3:Bool):(namesL c0 c1 c2 c3).length≤4:=by
 cases c0<;>cases c1<;>cases c2<;>cases c3<;>decide
theorem namesL_mem {c0 c1 c2 c3:Bool} {v:Int}:v∈namesL c0 c1 c2 c3↔(v=0∧c0=true)∨(v=1∧c1=true)∨(v=2∧c2=true)∨(v=3∧c3=true):=by
 cases c0<;>cases c1<;>cases c2<;>cases c3<;>simp [namesL]
theorem names_loop (q N:Nat) (c0 c1 c2 c3:Bool):f20.l0 (q+5) N (fun z13=>f20.p0_e0 (q+5) N some z13) (q+5) c0 c1 c2 c3 0 []=some (namesL c0 c1 c2 c3):=by
 cases c0<;>cases c1<;>cases c2<;>cases c3<;>kernel_rfl
theorem names_ok (L N:Nat) (hN:4194308≤N) (hL:8589934592≤L) (t:Tree) (h:OkW t):f20 L N t=some (namesL (fr 0 t) (fr 1 t) (fr 2 t) (fr 3 t)):=by
 have hlim:=lim_eq
 obtain ⟨h1,h2⟩:=okW_iff.1 h
 show f20.b L N some t=_
 unfold f20.b f20.b'
 have hf:=freeI L N (by omega) N t (by omega) (by omega) (by omega) h2 (fun _=>false)
 simp only [Bool.false_or] at hf
 rw [tree_eta,termOkI L N t (by omega) (by omega) (by omega),Option.bind_some,isB_true h,cond_true,hf,Option.bind_some]
 unfold f20.j0'
 obtain ⟨q,rfl⟩:∃q,L=q+5:=⟨L-5,by omega⟩
 exact names_loop q N _ _ _ _
theorem lawLawApply (x0:List Int) (hx0:DatOk (.sl (.int .u8)) x0):∃L N,f5 L N x0=some true:=by
 have hlim:=lim_eq
 generalize hLL:8589934592=L
 generalize hNN:4194308=N
 refine ⟨L,N,?_⟩
 obtain ⟨t,law,ps,d1,d2,d3⟩:=lawApply_draw L N (by omega) (by omega) hx0
 obtain ⟨T,ok,w1,w2,w3,w4⟩:=apply_same L N (by omega) (by omega) t law ps (by omega) (by omega)
 have hT:nodes T≤24:=by
  cases ok
  ·rw [w4 rfl];simp [nodes,nodess]
  ·exact (okW_iff.1 (w3 rfl).2.1).1
 have m1:=(mnT_ok L N N).1 T (by omega) (by omega) (by omega)
 show f5.b L N some x0=_
 unfold f5.b f5.b'
 by_cases hl:(x0.length:Int)>1048576
 ·rw [dt hl,cond_true]
 ·rw [df hl,cond_false,d1]
  simp only [Option.bind_some,tree_eta,w1,w2,m1,beq_self_eq_true,Bool.not_true,cond_false]
  unfold f5.j0'
  cases ok with
  |false=>rfl
  |true=>
   obtain ⟨h1,h2,h3⟩:=w3 rfl
   have hal:∃x ok,f15 L N t T []=some (x,ok)∧(ok=true→x=true):=by
    by_cases hf:FitW t 0
    ·obtain ⟨k,hk,hw,-,hcl⟩:=id hf
     exact match_alike L N (by omega) (by omega) (R:=Bis) ⟨fun p q h=>h.symm,fun p q h=>h.zig⟩ (by omega) (by omega) (lawC_bis h3 ⟨⟨k,hw⟩,hcl⟩)
    ·obtain ⟨rows,at',ok,e1,e2,-⟩:=bothOfI L N (by omega) (by omega) t T (by omega) (by omega)
     cases ok with
     |false=>exact ⟨false,false,termsAlike_no L N e1,fun h=>by cases h⟩
     |true=>exact absurd (e2 rfl).1 hf
   obtain ⟨x,ok3,a1,a2⟩:=hal
   have n1:=names_ok L N (by omega) (by omega) t h1
   have n2:=names_ok L N (by omega) (by omega) T h2
   have hsub:∀v∈namesL (fr 0 T) (fr 1 T) (fr 2 T) (fr 3 T),v∈namesL (fr 0 t) (fr 1 t) (fr 2 t) (fr 3 t):=fun v hv=>by
    obtain ⟨k,hk,hw⟩:=h1
    have hm:=lawC_fr h3 hw
    rw [namesL_mem] at hv⊢
    rcases hv with ⟨h,e⟩|⟨h,e⟩|⟨h,e⟩|⟨h,e⟩
    ·exact .inl ⟨h,hm 0 e⟩
    ·exact .inr (.inl ⟨h,hm 1 e⟩)
    ·exact .inr (.inr (.inl ⟨h,hm 2 e⟩))
    ·exact .inr (.inr (.inr ⟨h,hm 3 e⟩))
   have l1:=namesL_len (fr 0 T) (fr 1 T) (fr 2 T) (fr 3 T)
   have l2:=namesL_len (fr 0 t) (fr 1 t) (fr 2 t) (fr 3 t)
   simp only [tree_eta,a1,n1,n2,Option.bind_some,Bool.not_true,cond_false]
   generalize namesL (fr 0 T) (fr 1 T) (fr 2 T) (fr 3 T)=A at hsub l1
   generalize namesL (fr 0 t) (fr 1 t) (fr 2 t) (fr 3 t)=B at hsub l2
   have fin:f5.p0_e0 L N some x ok3=some true:=by
    unfold f5.p0_e0 f5.p0_e0'
    cases ok3 with
    |false=>rfl
    |true=>rw [a2 rfl];rfl
   have key:∀(n i:Nat),i≤A.length→A.length-i<n→f5.l0 L N (fun z27 z28=>f5.p0_e0 L N some z27 z28) (fun z30 z31 z32=>f5.p0_r L N some z30 z31 z32) n x ok3 B A (i:Int)=some true:=by
    intro n
    induction n with
    |zero=>intro i _ h;omega
    |succ n ih=>
     intro i hi hn
     show f5.s0 L N _ _ (f5.l0 L N _ _ n) x ok3 B A (i:Int)=_
     unfold f5.s0 f5.s0'
     by_cases hlt:i<A.length
     ·simp only [lt_cast hlt,le0,Bool.and_true,cond_true,Int.toNat_natCast,at_lt hlt]
      rw [mnHas_ok L N B _ (by omega) (by omega),Option.bind_some,dt (hsub _ (List.getElem_mem hlt)),Bool.not_true,cond_false,wi_nat (by omega)]
      exact ih (i+1) (by omega) (by omega)
     ·rw [ge_cast hlt,cond_false]
      exact fin
   exact key L 0 (by omega) (by omega)
end Go.Proofs.YthidlhjjnaldhaaGreatDoor.Ev
