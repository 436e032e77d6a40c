/- What a law is handed reads as data; a law's call. Condition: the table of types fits the program. -/
import Derived.Test.YtfdcjocallblcaaGreatDoorEvW
import Derived.OpenShut
import Derived.DataReads
import Derived.Below
import Derived.WideShapes
namespace Go.Proofs.YtfdcjocallblcaaGreatDoor.Ev
open Go Go.RowKit
inductive PVok:PV→Prop
 |bool (b:Bool):PVok (.bool b)
 |int (k:IntKind) (n:Int) (h:(Lit.int k n).wf=true):PVok (.int k n)
 |str (s:ByteArray) (h:s.size≤maxLen):PVok (.str s)
 |sl (es:List (List PV)) (h:es.length≤maxLen) (he:∀e∈es,∀p∈e,PVok p):PVok (.sl es)
def DatOk (t:Ty) (x:t.den):Prop:=∀p∈enc t x,PVok p
def fieldsFit (P:Program) (ty:TypeId→Option Ty):List Field→Nat→List Ty→Bool
 |[],_,[]=>true
 |f::fs,n,k::ks=>Nat.beq f.offset n&&Nat.beq (P.cellsOf f.type) 1&&decide (ty f.type=some k)&&!isSt k&&fieldsFit P ty fs (n+1) ks
 |_,_,_=>false
def tyFits (P:Program) (ty:TypeId→Option Ty) (t:TypeId):Ty→Bool
 |.bool=>isBoolB P t
 |.int k=>match P.underlying t with
  |some (.int k')=>decide (k'=k)
  |_=>false
 |.str=>isStrT P t
 |.sl k=>match P.underlying t with
  |some (.slice e)=>decide (ty e=some k)&&Nat.beq (P.cellsOf e) (nCells k)&&Nat.ble 1 (nCells k)
  |_=>false
 |.st i=>!(Nat.beq i 3)&&Nat.blt i 6&&(match P.underlying t with
  |some (.struct fs)=>Nat.beq (P.cellsOf t) (fieldTys i).length&&fieldsFit P ty fs.toList 0 (fieldTys i)
  |_=>false)
def tyFind (t:Nat):List (Nat×Ty)→Option Ty
 |[]=>none
 |(i,k)::r=>bif Nat.beq i t then some k else tyFind t r
theorem tyFind_mem {t:Nat} {k:Ty}:∀{l:List (Nat×Ty)},tyFind t l=some k→(t,k)∈l
 |[],h=>by cases h
 |(i,k')::r,h=>by
  unfold tyFind at h
  cases hb:Nat.beq i t
  ·rw [hb] at h
   exact .tail _ (tyFind_mem h)
  ·rw [hb] at h
   obtain rfl:=nbeq_eq.1 hb
   cases h
   exact .head _
theorem tab_all {P:Program} {l:List (Nat×Ty)} (h:l.all (fun p=>tyFits P (fun t=>tyFind t l) p.1 p.2)=true):∀t k,(fun t=>tyFind t l) t=some k→tyFits P (fun t=>tyFind t l) t k=true:=
 fun t k ht=>List.all_eq_true.1 h (t,k) (tyFind_mem ht)
theorem collect {α:Type} {p:Nat→α→Prop}:∀n:Nat,(∀i,i<n→∃x,p i x)→∃xs:List α,xs.length=n∧∀i x,xs[i]?=some x→p i x
 |0,_=>⟨[],rfl,fun i x h=>by simp at h⟩
 |n+1,h=>by
  obtain ⟨xs,hl,hx⟩:=collect n fun i hi=>h i (by omega)
  obtain ⟨y,hy⟩:=h n (by omega)
  refine ⟨xs++[y],by simp [hl],fun i x hi=>?_⟩
  by_cases hlt:i<xs.length
  ·rw [List.getElem?_append_left hlt] at hi
   exact hx i x hi
  ·rw [List.getElem?_append_right (by omega)] at hi
   have hi0:i-xs.length=0:=by
    by_cases h0:i-xs.length=0
    ·exact h0
    ·rw [List.getElem?_eq_none (by simp;omega)] at hi;cases hi
   rw [hi0] at hi
   obtain rfl:y=x:=by simpa using hi
   rw [show i=n by omega]
   exact hy
theorem cells_get {w:World} {base:Nat} {a:Addr} {n:Nat} {cs:List Value} (h:w.cells? base a n=some cs):cs.length=n∧∀j,j<n→w.cell? (a.add j)=cs[j]?:=by
 unfold World.cells? at h
 split at h
 ·refine ⟨by rw [mapM_some_length h,List.length_range],fun j hj=>?_⟩
  exact mapM_some_get h j j (by simp [hj])
 ·cases h
theorem cell_some {w:World} {a:Addr} {v:Value} (h:w.cell? a=some v):a.spot=none∧a.block<w.heap.size:=by
 unfold World.cell? at h
 split at h
 ·rename_i c ty m hb
  refine ⟨?_,(Array.getElem?_eq_some_iff.1 hb).1⟩
  cases hs:a.spot with
  |none=>rfl
  |some s=>simp [hs] at h
 ·cases h
theorem mkSt_avs:∀(i:Nat),i≠3→i<6→∀d:Dens (fieldTys i),∃x:stDen i,mkSt i (avs (fieldTys i) d)=some x
 |0,_,_,d=>⟨_,rfl⟩
 |1,_,_,d=>⟨_,rfl⟩
 |2,_,_,d=>⟨_,rfl⟩
 |3,h,_,_=>absurd rfl h
 |4,_,_,d=>⟨_,rfl⟩
 |5,_,_,d=>⟨_,rfl⟩
 |n+6,_,h,_=>by omega
theorem mkSt_enc:∀(i:Nat),i≠3→i<6→∀(d:Dens (fieldTys i)) (x:stDen i),mkSt i (avs (fieldTys i) d)=some x→∀p∈enc (.st i) x,∃a∈avs (fieldTys i) d,∃t y,a=.tv t y∧p∈enc t y
 |0,_,_,d,x,e,p,hp=>by
  obtain rfl:=(Option.some.inj e)
  obtain ⟨a,b,u⟩:=d
  simp only [enc,List.mem_cons,List.not_mem_nil,or_false] at hp
  rcases hp with rfl|rfl
  ·exact ⟨_,.head _,_,_,rfl,by simp [enc]⟩
  ·exact ⟨_,.tail _ (.head _),_,_,rfl,by simp [enc]⟩
 |1,_,_,d,x,e,p,hp=>by
  obtain rfl:=(Option.some.inj e)
  obtain ⟨a,b,c,u⟩:=d
  simp only [enc,encTree,encTrees_eq,List.mem_cons,List.not_mem_nil,or_false] at hp
  rcases hp with rfl|rfl|rfl
  ·exact ⟨_,.head _,_,_,rfl,by simp [enc]⟩
  ·exact ⟨_,.tail _ (.head _),_,_,rfl,by simp [enc]⟩
  ·exact ⟨_,.tail _ (.tail _ (.head _)),_,_,rfl,by simp [enc]⟩
 |2,_,_,d,x,e,p,hp=>by
  obtain rfl:=(Option.some.inj e)
  obtain ⟨a,u⟩:=d
  simp only [enc,List.mem_cons,List.not_mem_nil,or_false] at hp
  subst hp
  refine ⟨_,.head _,_,_,rfl,?_⟩
  simp only [enc,List.mem_cons,List.not_mem_nil,or_false]
  rfl
 |3,h,_,_,_,_,_,_=>absurd rfl h
 |4,_,_,d,x,e,p,hp=>by
  obtain rfl:=(Option.some.inj e)
  obtain ⟨a,b,c,u⟩:=d
  simp only [enc,List.mem_cons,List.not_mem_nil,or_false] at hp
  rcases hp with rfl|rfl|rfl
  ·exact ⟨_,.head _,_,_,rfl,by simp only [enc,List.mem_cons,List.not_mem_nil,or_false]⟩
  ·exact ⟨_,.tail _ (.head _),_,_,rfl,by simp only [enc,List.mem_cons,List.not_mem_nil,or_false]⟩
  ·exact ⟨_,.tail _ (.tail _ (.head _)),_,_,rfl,by simp only [enc,List.mem_cons,List.not_mem_nil,or_false]⟩
 |5,_,_,d,x,e,p,hp=>by
  obtain rfl:=(Option.some.inj e)
  obtain ⟨a,b,c,u⟩:=d
  simp only [enc,List.mem_cons,List.not_mem_nil,or_false] at hp
  rcases hp with rfl|rfl|rfl
  ·exact ⟨_,.head _,_,_,rfl,by simp only [enc,List.mem_cons,List.not_mem_nil,or_false]⟩
  ·exact ⟨_,.tail _ (.head _),_,_,rfl,by simp only [enc,List.mem_cons,List.not_mem_nil,or_false]⟩
  ·exact ⟨_,.tail _ (.tail _ (.head _)),_,_,rfl,by simp only [enc,List.mem_cons,List.not_mem_nil,or_false]⟩
 |n+6,_,h,_,_,_,_,_=>by omega
section
variable {P : Program} {ty : TypeId → Option Ty} {l : List TypeId} {w : World} {fz : Nat → Prop}
theorem isBoolB_u {P:Program} {t:TypeId} (h:isBoolB P t=true):P.underlying t=some .bool:=by
 unfold isBoolB at h
 split at h
 ·assumption
 ·cases h
theorem isStrT_u {P:Program} {t:TypeId} (h:isStrT P t=true):P.underlying t=some .string:=by
 unfold isStrT at h
 split at h
 ·assumption
 ·cases h
theorem trod_rep {H:Type} {enc0:TypeId×Value→H} (hty:∀t k,ty t=some k→tyFits P ty t k=true) (hfz:∀b,b<w.heap.size→fz b) {base:Nat} {spare:Nat→Bool} {held:Bool}:
  ∀(fuel:Nat) (t:TypeId) (cs:List Value) (d:DataW H) (ps:List MemPlace) (k:Ty),DataW.trod enc0 P w base spare held fuel t cs=some (d,ps)→ty t=some k→
   ∃x:k.den,RepPs fz w (enc k x) cs∧DatOk k x
 |0,_,_,_,_,_,h,_=>by cases h
 |fuel+1,t,cs,d,ps,k,h,hk=>by
  have IH:=trod_rep (H:=H) (enc0:=enc0) hty hfz (base:=base) (spare:=spare) (held:=held) fuel
  have hfit:=hty t k hk
  unfold DataW.trod at h
  cases k with
  |bool=>
   have hu:P.underlying t=some .bool:=by
    exact isBoolB_u hfit
   rw [hu] at h
   split at h
   all_goals (first|(exfalso;cases h;done)|(rename_i heq;cases heq;done)|(rename_i heq _;cases heq;done)|skip)
   ·rename_i b _
    exact ⟨b,⟨.bool b,trivial⟩,fun p hp=>by simp [enc] at hp;subst hp;exact .bool b⟩
  |int kd=>
   have hu:P.underlying t=some (.int kd):=by
    simp only [tyFits] at hfit
    split at hfit
    ·rename_i k' hk'
     obtain rfl:=of_decide_eq_true hfit
     exact hk'
    ·cases hfit
   rw [hu] at h
   split at h
   all_goals (first|(exfalso;cases h;done)|(rename_i heq;cases heq;done)|(rename_i heq _;cases heq;done)|skip)
   ·rename_i k1 n hx
    cases hx
    split at h
    ·rename_i hc
     obtain ⟨rfl,hw⟩:=hc
     exact ⟨n,⟨.int _ n,trivial⟩,fun p hp=>by simp [enc] at hp;subst hp;exact .int _ n hw⟩
    ·cases h
  |str=>
   have hu:P.underlying t=some .string:=by
    exact isStrT_u hfit
   rw [hu] at h
   split at h
   all_goals (first|(exfalso;cases h;done)|(rename_i heq;cases heq;done)|(rename_i heq _;cases heq;done)|skip)
   ·rename_i s _
    split at h
    ·rename_i hs
     exact ⟨s,⟨.str s,trivial⟩,fun p hp=>by simp [enc] at hp;subst hp;exact .str s hs⟩
    ·cases h
  |sl k=>
   have hu:∃e,P.underlying t=some (.slice e)∧ty e=some k∧P.cellsOf e=nCells k∧1≤nCells k:=by
    simp only [tyFits] at hfit
    split at hfit
    ·rename_i e he
     simp only [Bool.and_eq_true] at hfit
     exact ⟨e,he,of_decide_eq_true hfit.1.1,nbeq_eq.1 hfit.1.2,Nat.le_of_ble_eq_true hfit.2⟩
    ·cases hfit
   obtain ⟨e,hu,he,hz,hpos⟩:=hu
   rw [hu] at h
   split at h
   all_goals (first|(exfalso;cases h;done)|(rename_i heq;cases heq;done)|(rename_i heq _;cases heq;done)|skip)
   ·exact ⟨([]:List k.den),⟨.sl0 _ _,trivial⟩,fun p hp=>by simp [enc] at hp;subst hp;exact .sl _ (by simp) (fun _ h=>by simp at h)⟩
   ·rename_i e' a len cap hx
    obtain rfl:e=e':=by cases hx;rfl
    clear hx
    split at h
    ·rename_i hb
     obtain ⟨-,hlc,hcm⟩:=hb
     cases hm:(List.range len).mapM (fun i=>(w.cells? base (a.add (i*P.cellsOf e)) (P.cellsOf e)).bind (DataW.trod enc0 P w base spare held fuel e)) with
     |none=>simp only [hm] at h;cases h
     |some elems=>
      have hel:∀i,i<len→∃x:k.den,∃cells,RepPs fz w (enc k x) cells∧DatOk k x∧cells.length=nCells k∧∀j,j<nCells k→w.cell? ((a.add (i*nCells k)).add j)=cells[j]?:=by
       intro i hi
       have hg:=mapM_some_get hm i i (by simp [hi])
       have hlen:=mapM_some_length hm
       rw [List.length_range] at hlen
       rw [List.getElem?_eq_getElem (by omega)] at hg
       rw [hz] at hg
       cases hc:w.cells? base (a.add (i*nCells k)) (nCells k) with
       |none=>rw [hc] at hg;cases hg
       |some cells=>
        rw [hc] at hg
        simp only [Option.bind_some] at hg
        obtain ⟨x,hx,hok⟩:=IH e cells _ _ k hg he
        obtain ⟨c1,c2⟩:=cells_get hc
        exact ⟨x,cells,hx,hok,c1,c2⟩
      obtain ⟨xs,hxl,hxs⟩:=collect (p:=fun i (x:k.den)=>∃cells,RepPs fz w (enc k x) cells∧DatOk k x∧cells.length=nCells k∧∀j,j<nCells k→w.cell? ((a.add (i*nCells k)).add j)=cells[j]?) len hel
      have hlm:len≤maxLen:=by omega
      refine ⟨xs,⟨?_,trivial⟩,fun p hp=>?_⟩
      ·by_cases hl0:len=0
       ·have:xs=[]:=List.eq_nil_of_length_eq_zero (by omega)
        subst this
        subst hl0
        exact .sl0 _ _
       ·have h0:∃v,w.cell? a=some v:=by
         obtain ⟨cells,-,-,hcl,hcc⟩:=hxs 0 _ (List.getElem?_eq_getElem (by omega))
         have:=hcc 0 (by omega)
         rw [Nat.zero_mul] at this
         have ha0:(a.add 0).add 0=a:=by simp [Addr.add]
         rw [ha0] at this
         rw [this,List.getElem?_eq_getElem (by omega)]
         exact ⟨_,rfl⟩
        obtain ⟨v0,hv0⟩:=h0
        obtain ⟨hspot,hblt⟩:=cell_some hv0
        obtain ⟨b,o,sp⟩:=a
        simp only at hspot hblt
        subst hspot
        have hadd:∀i j:Nat,((Addr.mk b o none).add (i*nCells k)).add j=⟨b,o+i*nCells k+j,none⟩:=fun i j=>by rw [Addr.add_lit,Addr.add_lit]
        have hml:(List.map (enc k) xs).length=len:=by rw [List.length_map,hxl]
        have key:=RepP.sl (fz:=fz) (w:=w) (List.map (enc k) xs) b o (nCells k) cap (fun i j=>(w.cell? ⟨b,o+i*nCells k+j,none⟩).getD undef) (by rw [hml];exact hlc) (hfz b hblt) (fun e he=>by
          obtain ⟨x,-,rfl⟩:=List.mem_map.1 he
          exact enc_length k x) (fun i j hi hj=>by
          rw [hml] at hi
          obtain ⟨cells,-,-,hcl,hcc⟩:=hxs i _ (List.getElem?_eq_getElem (by omega))
          have:=hcc j hj
          rw [hadd] at this
          rw [this,List.getElem?_eq_getElem (by omega)];rfl) (fun i hi j hj=>by
          have hi':=hi
          rw [hml] at hi'
          obtain ⟨cells,hr,-,hcl,hcc⟩:=hxs i _ (List.getElem?_eq_getElem (by omega))
          have hj':j<nCells k:=by
           rw [List.getElem_map,enc_length] at hj;exact hj
          have h1:=hcc j hj'
          rw [hadd] at h1
          rw [h1,List.getElem?_eq_getElem (by omega)]
          exact hr.at j _ _ (List.getElem?_eq_some_iff.2 ⟨by rw [enc_length];exact hj',by simp⟩) (List.getElem?_eq_getElem (by omega)))
        rw [hml] at key
        exact key
      ·simp only [enc,List.mem_cons,List.not_mem_nil,or_false] at hp
       subst hp
       refine .sl _ (by rw [List.length_map,hxl];exact hlm) fun e he p hp=>?_
       obtain ⟨x,hx,rfl⟩:=List.mem_map.1 he
       obtain ⟨i,hi,rfl⟩:=List.mem_iff_getElem.1 hx
       obtain ⟨cells,-,hok,-⟩:=hxs i _ (List.getElem?_eq_getElem hi)
       exact hok p hp
    ·cases h
  |st i=>
   have hu:i≠3∧i<6∧∃fs,P.underlying t=some (.struct fs)∧P.cellsOf t=(fieldTys i).length∧fieldsFit P ty fs.toList 0 (fieldTys i)=true:=by
    simp only [tyFits] at hfit
    simp only [Bool.and_eq_true] at hfit
    obtain ⟨⟨h3,h6⟩,hfit⟩:=hfit
    refine ⟨nbeq_ne.1 (by simpa using h3),by simp [Nat.blt] at h6;omega,?_⟩
    split at hfit
    ·rename_i fs hfs
     simp only [Bool.and_eq_true] at hfit
     exact ⟨fs,hfs,nbeq_eq.1 hfit.1,hfit.2⟩
    ·cases hfit
   obtain ⟨h3,h6,fs,hu,hcl,hff⟩:=hu
   rw [hu] at h
   replace h:(if cs.length=P.cellsOf t then (fs.toList.mapM fun f=>DataW.trod enc0 P w base spare held fuel f.type ((cs.drop f.offset).take (P.cellsOf f.type))).map fun xs=>(DataW.agg (xs.map (·.1)),xs.flatMap (·.2)) else none)=some (d,ps):=h
   ·clear hu
    split at h
    ·rename_i hlen
     cases hm:fs.toList.mapM (fun f=>DataW.trod enc0 P w base spare held fuel f.type ((cs.drop f.offset).take (P.cellsOf f.type))) with
     |none=>simp only [hm] at h;cases h
     |some xs=>
      have key:∀(fl:List Field) (n:Nat) (ks:List Ty) (xs:List (DataW H×List MemPlace)),fieldsFit P ty fl n ks=true→cs.length=n+ks.length→
        fl.mapM (fun f=>DataW.trod enc0 P w base spare held fuel f.type ((cs.drop f.offset).take (P.cellsOf f.type)))=some xs→
        ∃d:Dens ks,RepAs ⟨fun _=>undef,fz,fun _=>[]⟩ [] w (avs ks d) (cs.drop n)∧∀a∈avs ks d,∀t y,a=.tv t y→DatOk t y:=by
       intro fl
       induction fl with
       |nil=>
        intro n ks xs hf hn _
        cases ks with
        |nil=>
         refine ⟨(),?_,fun a ha=>by cases ha⟩
         rw [List.drop_eq_nil_of_le (by simp at hn;omega)]
         trivial
        |cons=>cases hf
       |cons f fl ih=>
        intro n ks xs hf hn hmm
        cases ks with
        |nil=>cases hf
        |cons k ks=>
         simp only [fieldsFit,Bool.and_eq_true] at hf
         obtain ⟨⟨⟨⟨f1,f2⟩,f3⟩,f4⟩,f5⟩:=hf
         have f1:=nbeq_eq.1 f1
         have f2:=nbeq_eq.1 f2
         have f3:=of_decide_eq_true f3
         rw [List.mapM_cons] at hmm
         cases h1:DataW.trod enc0 P w base spare held fuel f.type ((cs.drop f.offset).take (P.cellsOf f.type)) with
         |none=>rw [h1] at hmm;cases hmm
         |some y=>
          cases h2:fl.mapM (fun f=>DataW.trod enc0 P w base spare held fuel f.type ((cs.drop f.offset).take (P.cellsOf f.type))) with
          |none=>rw [h1,h2] at hmm;cases hmm
          |some ys=>
           obtain ⟨x,hx,hok⟩:=IH f.type _ _ _ k h1 f3
           simp only [List.length_cons] at hn
           obtain ⟨d,hd,hdok⟩:=ih (n+1) ks ys f5 (by omega) h2
           rw [f1,f2] at hx
           have hdrop:cs.drop n=cs[n]'(by omega)::cs.drop (n+1):=List.drop_eq_getElem_cons (by omega)
           rw [hdrop] at hx⊢
           refine ⟨(x,d),⟨?_,hd⟩,fun a ha t' y he=>?_⟩
           ·have hx1:RepPs fz w (enc k x) [cs[n]'(by omega)]:=hx
            cases k with
            |st=>simp [isSt] at f4
            |_=>exact hx1
           ·rcases List.mem_cons.1 ha with rfl|ha
            ·cases he;exact hok
            ·exact hdok a ha t' y he
      obtain ⟨d,hd,hdok⟩:=key fs.toList 0 (fieldTys i) xs hff (by rw [hlen,hcl];omega) hm
      obtain ⟨x,hx⟩:=mkSt_avs i h3 h6 d
      refine ⟨x,mkSt_rep (σ:=⟨fun _=>undef,fz,fun _=>[]⟩) (h:=[]) hx (by simpa using hd),fun p hp=>?_⟩
      obtain ⟨a,ha,t',y,he,hpe⟩:=mkSt_enc i h3 h6 d x hx p hp
      exact hdok a ha t' y he p hpe
    ·cases h
theorem arg_rep {H:Type} {enc0:TypeId×Value→H} (hty:∀t k,ty t=some k→tyFits P ty t k=true) (hfz:∀b,b<w.heap.size→fz b) {base:Nat} {spare:Nat→Bool} {held:Bool} {t:TypeId} {v:Value} {d:DataW H} {ps:List MemPlace} {k:Ty} {W0:World} {r:Reach} {b0:Nat}
  (ht:DataW.Trod enc0 P w base spare held t v d ps) (hk:ty t=some k) (hw:Value.okWide P W0 r b0 t v):∃x:k.den,RepT fz w k x v∧DatOk k x:=by
 obtain ⟨fuel,hf⟩:=ht
 obtain ⟨x,hx,hok⟩:=trod_rep hty hfz fuel t _ d ps k hf hk
 refine ⟨x,?_,hok⟩
 have hfit:=hty t k hk
 cases k with
 |st i=>
  simp only [tyFits,Bool.and_eq_true] at hfit
  have hu:∃fs,P.underlying t=some (.struct fs):=by
   have h2:=hfit.2
   split at h2
   ·exact ⟨_,by assumption⟩
   ·cases h2
  obtain ⟨fs,hu⟩:=hu
  obtain ⟨cs,rfl,-⟩:=Go.WideShapes.okWide_struct hu hw
  exact ⟨cs,rfl,hx⟩
 |bool=>
  simp only [tyFits] at hfit
  obtain ⟨b,rfl⟩:=Go.WideShapes.okWide_bool (isBoolB_u hfit) hw
  exact hx
 |int kd=>
  simp only [tyFits] at hfit
  split at hfit
  ·rename_i k' hu
   obtain ⟨n,rfl⟩:=Go.WideShapes.okWide_int hu hw
   exact hx
  ·cases hfit
 |str=>
  simp only [tyFits] at hfit
  obtain ⟨b,rfl⟩:=Go.WideShapes.okWide_string (isStrT_u hfit) hw
  exact hx
 |sl k=>
  simp only [tyFits] at hfit
  split at hfit
  ·rename_i e hu
   obtain ⟨a,n,c,rfl⟩:=Go.WideShapes.okWide_slice hu hw
   exact hx
  ·cases hfit
theorem law_calls {k:Nat} {e:List AV→View→Nat→Ans} (hok:EntOk P k e) {ts:List Ty} {d:Dens ts} {cargs:Array Value} {y:(e (avs ts d) (fun _=>none) 0).α} (hx:(e (avs ts d) (fun _=>none) 0).x=some y)
  (hg:(e (avs ts d) (fun _=>none) 0).g y=(.tv .bool true,[],[])) (r:RepAs ⟨fun _=>undef,fun b=>b<w.heap.size,fun _=>[]⟩ [] w (avs ts d) cargs.toList):
  Calls P k cargs w fun e w'=>e=.returned (.bool true)∧Below w.heap.size w w':=by
 obtain ⟨-,hs⟩:=hok (avs ts d) (fun _=>none) 0 [] y hx (fun q y h=>by cases h)
 rw [hg] at hs
 refine (hs (fun ⟨x,hx⟩=>by simp at hx) ⟨fun _=>undef,fun b=>b<w.heap.size,fun _=>[]⟩ w cargs (nil_inv (σ:=⟨fun _=>undef,fun b=>b<w.heap.size,fun _=>[]⟩) fun b hb=>hb) r).mono ?_
 rintro e' w' ⟨cv,σ',rfl,hp⟩
 have hr:=repT_bool hp.rep
 subst hr
 have hgr:w.grownBy w' none:=grown_of_ext hp.ext
 exact ⟨rfl,hgr.os,hgr.tape,hgr.output,hgr.size,fun k hk=>hgr.block k hk (by simp)⟩
end
end Go.Proofs.YtfdcjocallblcaaGreatDoor.Ev
