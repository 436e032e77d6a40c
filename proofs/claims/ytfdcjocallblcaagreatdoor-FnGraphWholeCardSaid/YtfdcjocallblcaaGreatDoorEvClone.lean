/- slices.Clone at []int: what it tells, out of the library's contract. Condition: the contract. -/
import Derived.Test.YtfdcjocallblcaaGreatDoorEvSort
namespace Go.Proofs.YtfdcjocallblcaaGreatDoor.Ev
open Go
def fclone (xs:List Int):Option Unit:=bif decide (xs.length≤lim) then some () else none
def cloneArg (vw:View):List AV→Option (List Int)
 |p::r=>match r with
  |[]=>elemsN i64 vw p
  |_=>none
 |[]=>none
theorem cloneArg_some {vw:View} {args:List AV} {xs:List Int} (e:cloneArg vw args=some xs):∃p,args=[p]∧elemsN i64 vw p=some xs:=by
 unfold cloneArg at e
 split at e
 ·rename_i p r
  split at e
  ·exact ⟨p,rfl,e⟩
  ·cases e
 ·cases e
def cloneEnt (el:Nat) (args:List AV) (vw:View) (site:Nat):Ans:=match cloneArg vw args with
 |some xs=>⟨Unit,fclone xs,fun _=>(.row site,[(site,some (.row el i64 xs))],[])⟩
 |none=>Ans.no
theorem clone_ok {P:Program} {k el:Nat} (hc:Callable P k)
  (hclone:∀(b off n c:Nat) (zs:List Int) (w:World),n≤zs.length→n*8≤140737488355328→(∀j,j<zs.length→w.cell? ⟨b,off+j,none⟩=some (.int .i64 (zs.getD j 0)))→
   Calls P k #[.slice (some ⟨b,off,none⟩) n c] w fun e w'=>∃v',e=.returned v'∧w'.ownsRow w.heap.size el 1 v' n ((zs.take n).map (Value.int .i64))∧w.grownBy w' none)
  (hzero:∀(a:Addr) (c:Nat) (w:World),Calls P k #[.slice (some a) 0 c] w fun e w'=>∃v',e=.returned v'∧w'.ownsRow w.heap.size el 1 v' 0 []∧w.grownBy w' none)
  (hnil:∀(c:Nat) (w:World),Calls P k #[.slice none 0 c] w fun e w'=>e=.returned (.slice none 0 0)∧w'=w):EntOk P k (cloneEnt el):=by
 intro args vw site h
 unfold cloneEnt
 split
 ·rename_i xs hd
  obtain ⟨p,rfl,hel⟩:=cloneArg_some hd
  intro y hy hs
  refine ⟨hc,?_⟩
  intro hsite σ w cargs inv r
  have hsite:=hsite ⟨_,List.mem_singleton.2 rfl⟩
  have hlen:xs.length≤lim:=by
   have hy':fclone xs=some y:=hy
   unfold fclone at hy'
   exact of_decide_eq_true (cond_some hy').1
  have hll:lim=1099511627776:=rfl
  match hca:cargs.toList,r with
  |[c],r=>
  have hcargs:cargs=#[c]:=by rw [←Array.toArray_toList (xs:=cargs),hca]
  have src:=src_cells (k:=i64) (by decide) hs inv hel r.1
  have fin:∀(cv:Value) (w':World),w'.ownsRow w.heap.size el 1 cv xs.length (xs.map (Value.int .i64))→w.grownBy w' none→
    ∃cv' σ',Ending.returned cv=.returned cv'∧Post σ h w site (.row site) [(site,some (.row el i64 xs))] [] σ' w' cv':=by
   intro cv w' hown hg
   have hown0:w'.ownsRow 0 el (nCells i64) cv xs.length (xs.map (Value.int .i64)):=by
    refine ⟨hown.1,?_⟩
    rcases hown.2 with q|⟨g,cap,cur,h1,h2,h3⟩
    ·exact .inl q
    ·exact .inr ⟨g,cap,cur,h1,Nat.zero_le _,h3⟩
   have hbb:∀b,blk cv=some b→w.heap.size≤b∧b<w'.heap.size:=by
    intro b hb
    rcases hown.2 with ⟨q,_⟩|⟨g,cap,cur,h1,h2,h3,_⟩
    ·rw [q] at hb;cases hb
    ·rw [h1] at hb
     obtain rfl:=Option.some.inj hb
     refine ⟨h2,?_⟩
     rcases Nat.lt_or_ge g w'.heap.size with q|q
     ·exact q
     ·rw [Array.getElem?_eq_none q] at h3;cases h3
   obtain ⟨av,cc,hcv⟩:=own_slice hown0
   obtain ⟨e1,e2,e3⟩:=new_obj (w':=w') inv hsite.1 (.row el i64 xs) cv hg hbb ⟨_,by rw [Sg.set_same];exact hown0,ints_rep _⟩
   refine ⟨cv,σ.set site cv,rfl,e1,e2,⟨by rw [hcv];rfl,fun _=>(Sg.set_same _ _ _).symm⟩,?_⟩
   intro b c hbn r
   exact e3 b c (fun hi=>(hbn site hi).2 rfl _ (List.mem_singleton.2 rfl)) r
  rw [hcargs]
  rcases src with ⟨rfl,a,cc,rfl⟩|⟨ad,cc,news,rfl,hnl,hrep,hcell⟩
  ·cases a with
   |none=>
    refine (hnil cc w).mono ?_
    rintro e w' ⟨rfl,rfl⟩
    exact fin _ _ ⟨rfl,.inl ⟨rfl,rfl⟩⟩ ⟨rfl,rfl,rfl,Nat.le_refl _,fun _ _ _=>rfl⟩
   |some a=>
    refine (hzero a cc w).mono ?_
    rintro e w' ⟨v',rfl,hown,hg⟩
    exact fin _ _ hown hg
  ·have hnews:=ints_cells xs news hrep
   cases hxs:xs with
   |nil=>
    rw [hxs] at fin
    refine (hzero ad cc w).mono ?_
    rintro e w' ⟨v',rfl,hown,hg⟩
    exact fin _ _ hown hg
   |cons x0 xr=>
    rw [←hxs]
    have had:∃b off,ad=⟨b,off,none⟩:=by
     have h0:=hcell 0 (.int .i64 x0) (by rw [hnews,hxs];rfl)
     obtain ⟨b,off,q⟩:=ad
     cases q with
     |none=>exact ⟨b,off,rfl⟩
     |some q=>
      simp only [Addr.add,World.cell?] at h0
      split at h0<;>simp at h0
    obtain ⟨b,off,rfl⟩:=had
    refine (hclone b off xs.length cc xs w (Nat.le_refl _) (by omega) (fun j hj=>?_)).mono ?_
    ·have h0:=hcell j (.int .i64 (xs.getD j 0)) (by rw [hnews,List.getElem?_map,List.getElem?_eq_getElem hj];simp [List.getD,List.getElem?_eq_getElem hj])
     by_cases hj0:j=0
     ·subst hj0;exact h0
     ·simp only [Addr.add,hj0,if_false] at h0;exact h0
    ·rintro e w' ⟨v',rfl,hown,hg⟩
     rw [List.take_of_length_le (Nat.le_refl _)] at hown
     exact fin _ _ hown hg
 ·intro y hy;cases hy
end Go.Proofs.YtfdcjocallblcaaGreatDoor.Ev
