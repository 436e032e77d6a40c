/- slices.Compact at []int on a row of the caller's own: what it tells. Condition: the contract. -/
import Derived.Test.YtfdcjocallblcaaGreatDoorEvTidy
namespace Go.Proofs.YtfdcjocallblcaaGreatDoor.Ev
open Go
theorem compactI_le (xs:List Int):(Go.Lib.compact xs).length≤xs.length:=by
 unfold Go.Lib.compact Go.Lib.compactUpTo
 rw [List.length_map]
 exact Nat.le_trans (List.length_filter_le _ _) (by simp)
def restI (xs:List Int):List Int:=Go.Lib.compact xs++List.replicate (xs.length-(Go.Lib.compact xs).length) 0
theorem restI_length (xs:List Int):(restI xs).length=xs.length:=by
 unfold restI;have:=compactI_le xs;simp;omega
def compactEnt (args:List AV) (vw:View) (site:Nat):Ans:=match sortArg vw args with
 |some d=>⟨Unit,fsort d.2.2,fun _=>(.row site,[(d.1,none),(site,some (.row d.2.1 i64 (Go.Lib.compact d.2.2)))],[])⟩
 |none=>Ans.no
theorem grownBy_put (w:World) (b n:Nat) (d:Array Int):w.grownBy (Go.Sort.putRow (Value.int .i64) (Go.Sort.ahead w n) b 0 d) (some b):=by
 refine ⟨rfl,rfl,rfl,?_,fun k hk hne=>?_⟩
 ·show w.heap.size≤(w.heap.modify b _).size
  rw [Array.size_modify];exact Nat.le_refl _
 ·show (w.heap.modify b _)[k]?=_
  rw [Array.getElem?_modify,if_neg (fun e=>hne (by rw [e]))]
theorem compact_ok {P:Program} {k:Nat} (hc:Callable P k)
  (hcom:∀(blk off cap:Nat) (zs:List Int) (w:World),Go.Sort.Holds (Value.int .i64) w blk off zs.toArray→zs.length≤9223372036854775807→zs.length≤cap→
   Calls P k #[.slice (some ⟨blk,off,none⟩) zs.length cap] w fun e w'=>e=.returned (.slice (some ⟨blk,off,none⟩) (Go.Lib.compact zs).length cap)∧∃q,w'=Go.Sort.putRow (Value.int .i64) (Go.Sort.ahead w q) blk off (restI zs).toArray)
  (hnone:∀(a:Option Addr) (cap:Nat) (w:World),Calls P k #[.slice a 0 cap] w fun e w'=>e=.returned (.slice a 0 cap)∧w'=w):EntOk P k compactEnt:=by
 intro args vw site h
 unfold compactEnt
 split
 ·rename_i d hd
  obtain ⟨o,el,xs⟩:=d
  obtain ⟨rfl,hg⟩:=sortArg_some hd
  intro y hy hs
  refine ⟨hc,?_⟩
  intro hsite σ w cargs inv r
  have hsite:=(hsite ⟨_,List.mem_cons_of_mem _ (List.mem_singleton.2 rfl)⟩).1
  have hlen:xs.length≤lim:=by
   have hy':fsort xs=some y:=hy
   unfold fsort at hy'
   exact of_decide_eq_true (cond_some hy').1
  have hll:lim=1099511627776:=rfl
  have hgg:=hs _ _ hg
  match hca:cargs.toList,r with
  |[c],r=>
  have hcv:c=σ.val o:=r.1.2 (live_of hgg)
  have hcargs:cargs=#[c]:=by rw [←Array.toArray_toList (xs:=cargs),hca]
  obtain ⟨cs,hown,hrep⟩:=inv.objs _ _ hgg
  have hcs:=ints_cells xs cs hrep
  have hne:o≠site:=fun e=>hsite (by rw [←e];exact H.ids_of_mem (by
   rcases Classical.em (o∈h.map (·.1)) with q|q
   ·exact q
   ·rw [H.get_none_of_not_mem o h q] at hgg;cases hgg))
  have hdel:H.get o (H.put site (.row el i64 (Go.Lib.compact xs)) (H.del o h))=none:=by
   rw [H.get_put_ne _ hne _];exact H.get_del_same o h inv.nodup
  have fin:∀(v':Value) (w':World) (row:Option Nat),(∃a l c',v'=.slice a l c')→blk v'=blk (σ.val o)→w.grownBy w' row→(∀b,row=some b→blk (σ.val o)=some b)→ObjRep (σ.set site v') (H.put site (.row el i64 (Go.Lib.compact xs)) (H.del o h)) w' site (.row el i64 (Go.Lib.compact xs))→
    Post σ h w site (.row site) [(o,none),(site,some (.row el i64 (Go.Lib.compact xs)))] [] (σ.set site v') w' v':=by
   intro v' w' row hsl hblk hgr hrow hobj
   obtain ⟨e1,e2,e3⟩:=changeG (σ':=σ.set site v') (h':=H.put site (.row el i64 (Go.Lib.compact xs)) (H.del o h)) inv site (.row el i64 (Go.Lib.compact xs))
    (fun i hi=>by
     rw [H.get_put_ne _ hi _]
     by_cases e:i=o
     ·subst e;exact .inr (H.get_del_same i h inv.nodup)
     ·exact .inl (H.get_del_ne e h))
    (H.get_put_same site _ _) (fun i hi=>Sg.set_ne σ v' hi) (fun i hi=>Sg.bs_ne σ v' hi) rfl
    (H.nodup_put site _ _ (H.nodup_del o h inv.nodup)) hgr.os hgr.tape hgr.output hgr.size
    (fun b hb hn=>hgr.block b hb fun e=>hn o (own_row hgg) (.inr hdel) (inv.mem hgg rfl (hrow b e.symm)))
    (fun b hb=>by
     rw [Sg.bs_same,mem_blk,hblk] at hb
     exact ⟨.inl ⟨o,own_row hgg,inv.mem hgg rfl hb,.inr hdel⟩,Nat.lt_of_lt_of_le (live_lt inv (own_row hgg) (inv.mem hgg rfl hb)) hgr.size⟩)
    (fun _=>by rw [Sg.bs_same,Sg.set_same])
    (fun i y g hi hm=>absurd (H.ids_of_get g hm) hsite)
    hobj
   exact ⟨e1,e2,⟨by obtain ⟨a,l,c',hv⟩:=hsl;rw [hv];rfl,fun _=>(Sg.set_same _ _ _).symm⟩,
    fun b c hb r=>e3 b c (fun hi=>absurd (List.mem_cons_of_mem _ (List.mem_singleton.2 rfl)) ((hb site hi).2 rfl _)) r⟩
  rw [hcargs,hcv]
  rcases hown.2 with ⟨hv,h0⟩|⟨g,cap,cur,hv,hg0,hh,hle,hcm,hcsz,htk⟩
  ·have hx0:xs=[]:=List.eq_nil_of_length_eq_zero h0
   have he:Go.Lib.compact xs=[]:=List.eq_nil_of_length_eq_zero (by have:=compactI_le xs;omega)
   rw [hv]
   refine (hnone none 0 w).mono ?_
   rintro e w' ⟨rfl,rfl⟩
   refine ⟨_,σ.set site (.slice none 0 0),rfl,fin (.slice none 0 0) w' none ⟨_,_,_,rfl⟩ (by rw [hv]) ⟨rfl,rfl,rfl,Nat.le_refl _,fun _ _ _=>rfl⟩ (fun b hb=>by cases hb) ?_⟩
   rw [he]
   exact ⟨[],⟨by simp,.inl ⟨Sg.set_same _ _ _,rfl⟩⟩,trivial⟩
  ·have hnc:nCells i64=1:=rfl
   rw [hnc,Nat.mul_one] at hcsz htk
   have hcell:∀j,j<xs.length→w.cell? ⟨g,0+j,none⟩=some (.int .i64 (xs[j]!)):=fun j hj=>by
    have h1:cs[j]?=some (.int .i64 (xs[j]!)):=by
     rw [hcs,List.getElem?_map,List.getElem?_eq_getElem hj,getElem!_pos xs j hj];rfl
    rw [←htk,List.getElem?_take,if_pos hj,Array.getElem?_toList] at h1
    show (match w.heap[g]? with|some (.cells c _ _)=>if (none:Option Nat).isSome then none else c[0+j]?|_=>none)=_
    rw [hh]
    simpa using h1
   have hH:Go.Sort.Holds (Value.int .i64) w g 0 xs.toArray:=fun j hj=>by
    have hj':j<xs.length:=by simpa using hj
    refine ⟨?_,?_⟩
    ·rw [hcell j hj'];simp [getElem!_pos,hj']
    ·show World.frozen? w ⟨g,0+j,none⟩=false
     unfold World.frozen?
     rw [hh];simp
   have hblk:blk (σ.val o)=some g:=by rw [hv];rfl
   have hglt:=live_lt inv (own_row hgg) (inv.mem hgg rfl hblk)
   have htl:=compactI_le xs
   rw [hv]
   refine (hcom g 0 cap xs w hH (by omega) hle).mono ?_
   rintro e w' ⟨rfl,n,rfl⟩
   refine ⟨_,σ.set site (.slice (some ⟨g,0,none⟩) (Go.Lib.compact xs).length cap),rfl,fin _ _ (some g) ⟨_,_,_,rfl⟩ (by rw [hblk];rfl) (grownBy_put w g n _) (fun b hb=>by obtain rfl:=Option.some.inj hb;exact hblk) ?_⟩
   have hh':(Go.Sort.putRow (Value.int .i64) (Go.Sort.ahead w n) g 0 (restI xs).toArray).heap[g]?=some (.cells (Go.Sort.putCells (Value.int .i64) 0 (restI xs).toArray cur) el (0,0)):=by
    show (w.heap.modify g _)[g]?=_
    rw [Array.getElem?_modify,if_pos rfl,hh];rfl
   refine ⟨(Go.Lib.compact xs).map (Value.int .i64),?_,ints_rep _⟩
   refine ⟨by rw [List.length_map,hnc,Nat.mul_one],.inr ⟨g,cap,Go.Sort.putCells (Value.int .i64) 0 (restI xs).toArray cur,Sg.set_same _ _ _,hg0,hh',Nat.le_trans htl hle,hcm,by rw [hnc,Nat.mul_one];unfold Go.Sort.putCells;rw [Array.size_mapIdx];exact hcsz,?_⟩⟩
   rw [hnc,Nat.mul_one]
   apply List.ext_getElem?
   intro j
   rw [List.getElem?_take]
   by_cases hj:j<(Go.Lib.compact xs).length
   ·have hj2:j<(restI xs).length:=by rw [restI_length];omega
    rw [if_pos hj,List.getElem?_map,Array.getElem?_toList]
    unfold Go.Sort.putCells
    rw [Array.getElem?_mapIdx,Array.getElem?_eq_getElem (by rw [restI_length] at hj2;omega),List.getElem?_eq_getElem hj]
    have hr:(restI xs)[j]! =(Go.Lib.compact xs)[j]:=by
     rw [getElem!_pos (restI xs) j hj2]
     exact List.getElem_append_left hj
    simp [hj2]
    rw [←hr,getElem!_pos (restI xs) j hj2]
   ·rw [if_neg hj,List.getElem?_map,List.getElem?_eq_none (by omega)];rfl
 ·intro y hy;cases hy
end Go.Proofs.YtfdcjocallblcaaGreatDoor.Ev
