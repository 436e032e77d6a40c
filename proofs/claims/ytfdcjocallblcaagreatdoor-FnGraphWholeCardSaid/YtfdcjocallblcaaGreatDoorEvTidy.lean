/- impl.tidy (slices.SortFunc with byMove, then slices.Compact) on a row of the caller's own: what it tells. Condition: the contract. -/
import Derived.Test.YtfdcjocallblcaaGreatDoorEvSort
import Derived.Shelf.GgSortFunc.InsertionK
import Derived.Lib.SlicesCompact
namespace Go.Proofs.YtfdcjocallblcaaGreatDoor.Ev
open Go
def leM (x y:Move):Bool:=decide (x.act<y.act∨(x.act=y.act∧x.to≤y.to))
def sortM (xs:List Move):List Move:=xs.mergeSort leM
theorem sortM_length (xs:List Move):(sortM xs).length=xs.length:=List.length_mergeSort xs
theorem sortM_mem (xs:List Move) (x:Move):x∈sortM xs↔x∈xs:=List.mem_mergeSort
instance:Inhabited Move:=⟨⟨0,0⟩⟩
def tidyM (xs:List Move):List Move:=Go.Lib.compact (sortM xs)
theorem tidyM_le (xs:List Move):(tidyM xs).length≤xs.length:=by
 unfold tidyM Go.Lib.compact Go.Lib.compactUpTo
 rw [List.length_map,←sortM_length xs]
 exact Nat.le_trans (List.length_filter_le _ _) (by simp)
def encM (m:Move):List Value:=[.int .i64 m.act,.int .i64 m.to]
def restM (xs:List Move):List Move:=tidyM xs++List.replicate (xs.length-(tidyM xs).length) ⟨0,0⟩
theorem restM_length (xs:List Move):(restM xs).length=xs.length:=by
 unfold restM;have:=tidyM_le xs;simp;omega
def fsortM (xs:List Move):Option Unit:=bif decide (xs.length≤lim) then some () else none
def tidyRow (o:Nat):Option Obj→Option (Nat×Nat×List Move)
 |some (.row el k xs)=>if h:k=.st 0 then some (o,el,(h▸xs:List (Ty.den (.st 0)))) else none
 |_=>none
def tidyArg (vw:View):List AV→Option (Nat×Nat×List Move)
 |a::r=>match a with
  |.row o=>match r with
   |[]=>tidyRow o (vw o)
   |_=>none
  |_=>none
 |[]=>none
theorem tidyArg_some {vw:View} {args:List AV} {o el:Nat} {xs:List Move} (e:tidyArg vw args=some (o,el,xs)):args=[.row o]∧vw o=some (.row el (.st 0) xs):=by
 unfold tidyArg at e
 split at e
 ·rename_i a r
  split at e
  ·rename_i o'
   split at e
   ·unfold tidyRow at e
    split at e
    ·rename_i el' k xs' hg
     split at e
     ·rename_i hk
      subst hk
      obtain ⟨rfl,rfl,rfl⟩:o'=o∧el'=el∧xs'=xs:=by simpa using e
      exact ⟨rfl,hg⟩
     ·cases e
    ·cases e
   ·cases e
  ·cases e
 ·cases e
def tidyEnt (args:List AV) (vw:View) (site:Nat):Ans:=match tidyArg vw args with
 |some d=>⟨Unit,fsortM d.2.2,fun _=>(.row site,[(d.1,none),(site,some (.row d.2.1 (.st 0) (tidyM d.2.2)))],[])⟩
 |none=>Ans.no
theorem moves_cells {fz:Nat→Prop} {w:World}:∀(l:List Move) (vs:List Value),RepPs fz w (l.flatMap (enc (.st 0))) vs→vs=l.flatMap encM
 |[],[],_=>rfl
 |[],_::_,r=>r.elim
 |n::l,[],r=>r.elim
 |n::l,[c],r=>by obtain ⟨_,r2⟩:=r;exact r2.elim
 |n::l,c::c'::vs,r=>by
  obtain ⟨r1,r2,r3⟩:=r
  cases r1
  cases r2
  rw [moves_cells l vs r3];rfl
theorem moves_rep {fz:Nat→Prop} {w:World}:∀(l:List Move),RepPs fz w (l.flatMap (enc (.st 0))) (l.flatMap encM)
 |[]=>trivial
 |n::l=>⟨.int _ _,.int _ _,moves_rep l⟩
theorem flat_get:∀(xs:List Move) (t:Nat),(xs.flatMap encM)[t]?=if t<xs.length*2 then some ((encM xs[t/2]!)[t%2]!) else none
 |[],t=>by simp
 |m::xs,0=>by simp [encM]
 |m::xs,1=>by
  rw [if_pos (by simp only [List.length_cons];omega)];simp [encM]
 |m::xs,t+2=>by
  have h:=flat_get xs t
  rw [List.flatMap_cons]
  show ((encM m)++xs.flatMap encM)[t+2]?=_
  rw [List.getElem?_append_right (by simp [encM]),show t+2-(encM m).length=t by simp [encM],h]
  have h1:(t+2)/2=t/2+1:=by omega
  have h2:(t+2)%2=t%2:=by omega
  rw [h1,h2]
  by_cases hl:t<xs.length*2
  ·rw [if_pos hl,if_pos (by simp only [List.length_cons];omega)];simp
  ·rw [if_neg hl,if_neg (by simp only [List.length_cons];omega)]
theorem flat_list (xs:List Move):(Go.Sort.flatK encM 2 xs.toArray).toList=xs.flatMap encM:=by
 apply List.ext_getElem?
 intro t
 rw [flat_get]
 by_cases h:t<xs.length*2
 ·rw [if_pos h,Array.getElem?_toList,Array.getElem?_eq_getElem (by simpa using h)]
  unfold Go.Sort.flatK
  simp
 ·rw [if_neg h,Array.getElem?_toList,Array.getElem?_eq_none (by simpa using h)]
theorem flat_len (xs:List Move):(xs.flatMap encM).length=xs.length*2:=by
 rw [←flat_list];simp
theorem grownBy_sortedM (w:World) (b n:Nat) (d:Array Value) (os:Array Go.Obj):w.grownBy (Go.Sort.grow (Go.Sort.putRow id (Go.Sort.ahead w n) b 0 d) os) (some b):=by
 refine ⟨rfl,rfl,rfl,?_,fun k hk hne=>?_⟩
 ·show w.heap.size≤((w.heap.modify b _)++os).size
  rw [Array.size_append,Array.size_modify];omega
 ·rw [Go.Sort.heap_grow_old _ _ (by show k<(w.heap.modify b _).size;rw [Array.size_modify];exact hk)]
  show (w.heap.modify b _)[k]?=_
  rw [Array.getElem?_modify,if_neg (fun e=>hne (by rw [e]))]
theorem tidy_ok {P:Program} {k:Nat} (hc:Callable P k)
  (htidy:∀(blk off cap:Nat) (zs:List Move) (w:World),Go.Sort.HoldsK encM 2 w blk off zs.toArray→blk<w.heap.size→zs.length<4611686018427387904→zs.length≤cap→
   Calls P k #[.slice (some ⟨blk,off,none⟩) zs.length cap] w fun e w'=>e=.returned (.slice (some ⟨blk,off,none⟩) (tidyM zs).length cap)∧∃n os,w'=sortWorldK encM 2 w blk off n (restM zs).toArray os)
  (hnone:∀(a:Option Addr) (cap:Nat) (w:World),Calls P k #[.slice a 0 cap] w fun e w'=>e=.returned (.slice a 0 cap)∧w'=w):EntOk P k tidyEnt:=by
 intro args vw site h
 unfold tidyEnt
 split
 ·rename_i d hd
  obtain ⟨o,el,xs⟩:=d
  obtain ⟨rfl,hg⟩:=tidyArg_some hd
  intro y hy hs
  refine ⟨hc,?_⟩
  intro hsite σ w cargs inv r
  have hsite:=(hsite ⟨_,List.mem_cons_of_mem _ (List.mem_singleton.2 rfl)⟩).1
  have hlen:xs.length≤lim:=by
   have hy':fsortM xs=some y:=hy
   unfold fsortM at hy'
   exact of_decide_eq_true (cond_some hy').1
  have hll:lim=1099511627776:=rfl
  have hgg:=hs _ _ hg
  match hca:cargs.toList,r with
  |[c],r=>
  have hcv:c=σ.val o:=r.1.2 (live_of hgg)
  have hcargs:cargs=#[c]:=by rw [←Array.toArray_toList (xs:=cargs),hca]
  obtain ⟨cs,hown,hrep⟩:=inv.objs _ _ hgg
  have hcs:=moves_cells xs cs hrep
  have hne:o≠site:=fun e=>hsite (by rw [←e];exact H.ids_of_mem (by
   rcases Classical.em (o∈h.map (·.1)) with q|q
   ·exact q
   ·rw [H.get_none_of_not_mem o h q] at hgg;cases hgg))
  have hdel:H.get o (H.put site (.row el (.st 0) (tidyM xs)) (H.del o h))=none:=by
   rw [H.get_put_ne _ hne _];exact H.get_del_same o h inv.nodup
  have fin:∀(v':Value) (w':World) (row:Option Nat),(∃a l c',v'=.slice a l c')→blk v'=blk (σ.val o)→w.grownBy w' row→(∀b,row=some b→blk (σ.val o)=some b)→ObjRep (σ.set site v') (H.put site (.row el (.st 0) (tidyM xs)) (H.del o h)) w' site (.row el (.st 0) (tidyM xs))→
    Post σ h w site (.row site) [(o,none),(site,some (.row el (.st 0) (tidyM xs)))] [] (σ.set site v') w' v':=by
   intro v' w' row hsl hblk hgr hrow hobj
   obtain ⟨e1,e2,e3⟩:=changeG (σ':=σ.set site v') (h':=H.put site (.row el (.st 0) (tidyM xs)) (H.del o h)) inv site (.row el (.st 0) (tidyM xs))
    (fun i hi=>by
     rw [H.get_put_ne _ hi _]
     by_cases e:i=o
     ·subst e;exact .inr (H.get_del_same i h inv.nodup)
     ·exact .inl (H.get_del_ne e h))
    (H.get_put_same site _ _) (fun i hi=>Sg.set_ne σ v' hi) (fun i hi=>Sg.bs_ne σ v' hi) rfl
    (H.nodup_put site _ _ (H.nodup_del o h inv.nodup)) hgr.os hgr.tape hgr.output hgr.size
    (fun b hb hn=>hgr.block b hb fun e=>hn o (own_row hgg) (.inr hdel) (inv.mem hgg rfl (hrow b e.symm)))
    (fun b hb=>by
     rw [Sg.bs_same,mem_blk,hblk] at hb
     exact ⟨.inl ⟨o,own_row hgg,inv.mem hgg rfl hb,.inr hdel⟩,Nat.lt_of_lt_of_le (live_lt inv (own_row hgg) (inv.mem hgg rfl hb)) hgr.size⟩)
    (fun _=>by rw [Sg.bs_same,Sg.set_same])
    (fun i y g hi hm=>absurd (H.ids_of_get g hm) hsite)
    hobj
   exact ⟨e1,e2,⟨by obtain ⟨a,l,c',hv⟩:=hsl;rw [hv];rfl,fun _=>(Sg.set_same _ _ _).symm⟩,
    fun b c hb r=>e3 b c (fun hi=>absurd (List.mem_cons_of_mem _ (List.mem_singleton.2 rfl)) ((hb site hi).2 rfl _)) r⟩
  rw [hcargs,hcv]
  rcases hown.2 with ⟨hv,h0⟩|⟨g,cap,cur,hv,hg0,hh,hle,hcm,hcsz,htk⟩
  ·have hx0:xs=[]:=List.eq_nil_of_length_eq_zero h0
   have he:tidyM xs=[]:=List.eq_nil_of_length_eq_zero (by have:=tidyM_le xs;omega)
   rw [hv]
   refine (hnone none 0 w).mono ?_
   rintro e w' ⟨rfl,rfl⟩
   refine ⟨_,σ.set site (.slice none 0 0),rfl,fin (.slice none 0 0) w' none ⟨_,_,_,rfl⟩ (by rw [hv]) ⟨rfl,rfl,rfl,Nat.le_refl _,fun _ _ _=>rfl⟩ (fun b hb=>by cases hb) ?_⟩
   rw [he]
   exact ⟨[],⟨by simp,.inl ⟨Sg.set_same _ _ _,rfl⟩⟩,trivial⟩
  ·have hnc:nCells (.st 0)=2:=rfl
   rw [hnc] at hcsz htk
   have hcell:∀j,j<xs.length*2→w.cell? ⟨g,0+j,none⟩=some ((Go.Sort.flatK encM 2 xs.toArray)[j]!):=fun j hj=>by
    have h1:cs[j]?=some ((encM xs[j/2]!)[j%2]!):=by rw [hcs,flat_get,if_pos hj]
    rw [←htk,List.getElem?_take,if_pos hj,Array.getElem?_toList] at h1
    rw [Go.Sort.get_flatK _ _ _ j (by simpa using hj)]
    show (match w.heap[g]? with|some (.cells c _ _)=>if (none:Option Nat).isSome then none else c[0+j]?|_=>none)=_
    rw [hh]
    simpa using h1
   have hH:Go.Sort.HoldsK encM 2 w g 0 xs.toArray:=fun j hj=>by
    have hj':j<xs.length*2:=by simpa using hj
    refine ⟨hcell j hj',?_⟩
    show World.frozen? w ⟨g,0+j,none⟩=false
    unfold World.frozen?
    rw [hh];simp
   have hblk:blk (σ.val o)=some g:=by rw [hv];rfl
   have hglt:=live_lt inv (own_row hgg) (inv.mem hgg rfl hblk)
   have htl:=tidyM_le xs
   rw [hv]
   refine (htidy g 0 cap xs w hH hglt (by omega) hle).mono ?_
   rintro e w' ⟨rfl,n,os,rfl⟩
   refine ⟨_,σ.set site (.slice (some ⟨g,0,none⟩) (tidyM xs).length cap),rfl,fin _ _ (some g) ⟨_,_,_,rfl⟩ (by rw [hblk];rfl) (grownBy_sortedM w g n _ os) (fun b hb=>by obtain rfl:=Option.some.inj hb;exact hblk) ?_⟩
   have hh':(sortWorldK encM 2 w g 0 n (restM xs).toArray os).heap[g]?=some (.cells (Go.Sort.putCells id 0 (Go.Sort.flatK encM 2 (restM xs).toArray) cur) el (0,0)):=by
    show (Go.Sort.grow (Go.Sort.putRow id (Go.Sort.ahead w n) g 0 (Go.Sort.flatK encM 2 (restM xs).toArray)) os).heap[g]?=_
    rw [Go.Sort.heap_grow_old _ _ (by show g<(w.heap.modify g _).size;rw [Array.size_modify];exact hglt)]
    show (w.heap.modify g _)[g]?=_
    rw [Array.getElem?_modify,if_pos rfl,hh];rfl
   refine ⟨(tidyM xs).flatMap encM,?_,moves_rep _⟩
   refine ⟨by rw [flat_len,hnc],.inr ⟨g,cap,Go.Sort.putCells id 0 (Go.Sort.flatK encM 2 (restM xs).toArray) cur,Sg.set_same _ _ _,hg0,hh',Nat.le_trans htl hle,hcm,by rw [hnc];unfold Go.Sort.putCells;rw [Array.size_mapIdx];exact hcsz,?_⟩⟩
   have hfl:(Go.Sort.flatK encM 2 (restM xs).toArray).toList=(tidyM xs).flatMap encM++(List.replicate (xs.length-(tidyM xs).length) (⟨0,0⟩:Move)).flatMap encM:=by
    rw [flat_list];unfold restM;rw [List.flatMap_append]
   have hfs:(tidyM xs).flatMap encM=((Go.Sort.flatK encM 2 (restM xs).toArray).toList).take ((tidyM xs).length*2):=by
    rw [hfl,List.take_append_of_le_length (by rw [flat_len];exact Nat.le_refl _),List.take_of_length_le (by rw [flat_len];exact Nat.le_refl _)]
   rw [hnc,hfs]
   apply List.ext_getElem?
   intro j
   rw [List.getElem?_take,List.getElem?_take]
   by_cases hj:j<(tidyM xs).length*2
   ·have hj2:j<(restM xs).length*2:=by rw [restM_length];omega
    rw [if_pos hj,if_pos hj,Array.getElem?_toList,Array.getElem?_toList]
    unfold Go.Sort.putCells
    rw [Array.getElem?_mapIdx,Array.getElem?_eq_getElem (by rw [restM_length] at hj2;omega),Array.getElem?_eq_getElem (by simpa using hj2)]
    simp [hj2]
   ·rw [if_neg hj,if_neg hj]
 ·intro y hy;cases hy
end Go.Proofs.YtfdcjocallblcaaGreatDoor.Ev
