/- Shapes of arguments in which boxes of the caller's are handed on, to be written by the callee: how such arguments stand in the callee's own view. Conditions: those that each states. -/
import Derived.Test.YtfdcjocallblcaaGreatDoorEvYa
namespace Go.Proofs.YtfdcjocallblcaaGreatDoor.Ev
open Go
inductive ShM where
 |sh (s:Sh)|mut (i:Nat)|mmp (i:Nat)|fn (f:Nat) (cs:List ShM)
mutual
@[reducible] def ShM.den:ShM→Type
 |.sh s=>s.den
 |.mut _=>Unit
 |.mmp _=>Unit
 |.fn _ cs=>ShMs.den cs
@[reducible] def ShMs.den:List ShM→Type
 |[]=>Unit
 |s::r=>ShM.den s×ShMs.den r
end
mutual
def shmAV:(s:ShM)→ShM.den s→AV
 |.sh s,d=>shAV s d
 |.mut i,_=>.ptr i 0
 |.mmp i,_=>.mp i
 |.fn f cs,d=>.fn f (shmAVs cs d)
def shmAVs:(cs:List ShM)→ShMs.den cs→List AV
 |[],_=>[]
 |s::r,d=>shmAV s d.1::shmAVs r d.2
end
mutual
def shmC (os:List Nat):(s:ShM)→View→AV→Option (ShM.den s×Upd)
 |.sh s,vw,v=>match shC s vw v with
  |some (x,u)=>bif u.any (fun p=>os.contains p.1) then none else some (x,u)
  |none=>none
 |.mut i,_,v=>match v with
  |.ptr o off=>bif Nat.beq off 0&&os[i]?==some o then some ((),[]) else none
  |_=>none
 |.mmp i,_,v=>match v with
  |.mp o=>bif os[i]?==some o then some ((),[]) else none
  |_=>none
 |.fn f cs,vw,v=>match v with
  |.fn f' vs=>bif Nat.beq f' f then shmsC os cs vw vs else none
  |_=>none
def shmsC (os:List Nat):(cs:List ShM)→View→List AV→Option (ShMs.den cs×Upd)
 |[],_,vs=>match vs with
  |[]=>some ((),[])
  |_=>none
 |s::r,vw,vs=>match vs with
  |v::vs=>match shmC os s vw v with
   |some (x,u)=>match shmsC os r (vwDel u vw) vs with
    |some (xs,us)=>some ((x,xs),u++us)
    |none=>none
   |none=>none
  |[]=>none
end
def sgOf (os:List Nat) (σ:Sg):Sg:=⟨fun i=>σ.val (os.getD i (os.getD 0 0)),σ.fz,fun i=>σ.bs (os.getD i (os.getD 0 0))⟩
mutual
theorem shmC_sound {os:List Nat} {h0:H}:∀(s:ShM) {σ:Sg} {h:H} {w:World} {vw:View} (v:AV) (d:ShM.den s) (u:Upd) (c:Value),shmC os s vw v=some (d,u)→(∀o∈os,∃x,H.get o h=some x)→Shows vw h→Inv σ h w→RepA σ h w v c→
  (∀o∈os,H.get o (H.apply h u)=H.get o h)∧∃fz',Coed σ h w u fz'∧RepA (sgOf os ⟨σ.val,fz',σ.bs⟩) h0 w (shmAV s d) c
 |.sh s,σ,h,w,vw,v,d,u,c,e,ho,hs,inv,r=>by
  unfold shmC at e
  split at e
  ·rename_i x u' h1
   replace e:=cond_none e
   obtain ⟨hno,e⟩:=e
   obtain ⟨rfl,rfl⟩:=Prod.mk.inj (Option.some.inj e)
   obtain ⟨fz',co,hr⟩:=shC_sound s v x u' c h1 hs inv r
   refine ⟨fun o hm=>get_dels co.dels h o ?_,fz',co,repA_noids (σ:=⟨σ.val,fz',σ.bs⟩) (σ':=sgOf os ⟨σ.val,fz',σ.bs⟩) (h:=[]) (h':=h0) (fun _ h=>h) (fun _ _=>rfl) (shAV_ids s x) hr⟩
   rw [List.any_eq_false] at hno⊢
   intro p hp hc
   refine hno p hp ?_
   rw [List.contains_iff_mem,nbeq_eq.1 hc]
   exact hm
  ·cases e
 |.mut i,σ,h,w,vw,v,d,u,c,e,ho,hs,inv,r=>by
  unfold shmC at e
  split at e
  ·rename_i o off
   replace e:=cond_some e
   obtain ⟨hb,e⟩:=e
   rw [Bool.and_eq_true,beq_iff_eq] at hb
   obtain ⟨hb1,hb2⟩:=hb
   obtain rfl:=nbeq_eq.1 hb1
   obtain ⟨-,rfl⟩:=Prod.mk.inj (Option.some.inj e)
   have hmem:o∈os:=List.mem_of_getElem? hb2
   have hget:os.getD i (os.getD 0 0)=o:=by rw [List.getD_eq_getElem?_getD,hb2];rfl
   refine ⟨fun _ _=>rfl,σ.fz,Coed.refl inv,r.1,fun _=>?_⟩
   obtain ⟨cs,hcs⟩:=ho o hmem
   obtain ⟨b,h1,h2⟩:=r.2 (live_of hcs)
   exact ⟨b,by show σ.val (os.getD i (os.getD 0 0))=_;rw [hget];exact h1,h2⟩
  ·cases e
 |.mmp i,σ,h,w,vw,v,d,u,c,e,ho,hs,inv,r=>by
  unfold shmC at e
  split at e
  ·rename_i o
   replace e:=cond_some e
   obtain ⟨hb,e⟩:=e
   rw [beq_iff_eq] at hb
   obtain ⟨-,rfl⟩:=Prod.mk.inj (Option.some.inj e)
   have hmem:o∈os:=List.mem_of_getElem? hb
   have hget:os.getD i (os.getD 0 0)=o:=by rw [List.getD_eq_getElem?_getD,hb];rfl
   refine ⟨fun _ _=>rfl,σ.fz,Coed.refl inv,r.1,fun _=>?_⟩
   obtain ⟨cs,hcs⟩:=ho o hmem
   show c=σ.val (os.getD i (os.getD 0 0))
   rw [hget]
   exact r.2 (live_of hcs)
  ·cases e
 |.fn f cs,σ,h,w,vw,v,d,u,c,e,ho,hs,inv,r=>by
  unfold shmC at e
  split at e
  ·rename_i f' vs
   replace e:=cond_some e
   obtain ⟨hb,e⟩:=e
   obtain rfl:=nbeq_eq.1 hb
   obtain ⟨cv,hcv,hr⟩:=r
   obtain ⟨hk,fz',co,hrs⟩:=shmsC_sound cs vs d u cv.toList e ho hs inv hr
   exact ⟨hk,fz',co,cv,hcv,hrs⟩
  ·cases e
theorem shmsC_sound {os:List Nat} {h0:H}:∀(ss:List ShM) {σ:Sg} {h:H} {w:World} {vw:View} (vs:List AV) (d:ShMs.den ss) (u:Upd) (cs:List Value),shmsC os ss vw vs=some (d,u)→(∀o∈os,∃x,H.get o h=some x)→Shows vw h→Inv σ h w→RepAs σ h w vs cs→
  (∀o∈os,H.get o (H.apply h u)=H.get o h)∧∃fz',Coed σ h w u fz'∧RepAs (sgOf os ⟨σ.val,fz',σ.bs⟩) h0 w (shmAVs ss d) cs
 |[],σ,h,w,vw,vs,d,u,cs,e,ho,hs,inv,r=>by
  unfold shmsC at e
  split at e
  ·obtain ⟨-,rfl⟩:=Prod.mk.inj (Option.some.inj e)
   match cs,r with
   |[],_=>exact ⟨fun _ _=>rfl,σ.fz,Coed.refl inv,trivial⟩
  ·cases e
 |s::ss,σ,h,w,vw,vs,d,u,cs,e,ho,hs,inv,r=>by
  unfold shmsC at e
  split at e
  ·rename_i v vs'
   split at e
   ·rename_i x u1 h1
    split at e
    ·rename_i xs u2 h2
     obtain ⟨rfl,rfl⟩:=Prod.mk.inj (Option.some.inj e)
     match cs,r with
     |c::cs,r=>
      obtain ⟨k1,f1,c1,r1⟩:=shmC_sound (h0:=h0) s v x u1 c h1 ho hs inv r.1
      have r2:RepAs ⟨σ.val,f1,σ.bs⟩ (H.apply h u1) w vs' cs:=RepAs.mk r.2.length fun i p v hp hv=>c1.keep _ _ (r.2.at i p v hp hv)
      have ho2:∀o∈os,∃x,H.get o (H.apply h u1)=some x:=fun o hm=>by rw [k1 o hm];exact ho o hm
      obtain ⟨k2,f2,c2,r3⟩:=shmsC_sound (h0:=h0) ss vs' xs u2 cs h2 ho2 (hs.dels c1.dels) c1.inv r2
      refine ⟨fun o hm=>?_,f2,c1.trans c2,?_,r3⟩
      ·rw [apply_append,k2 o hm,k1 o hm]
      ·exact RepA.mono (σ:=sgOf os ⟨σ.val,f1,σ.bs⟩) (σ':=sgOf os ⟨σ.val,f2,σ.bs⟩) c2.fz (fun _ _=>rfl) _ _ (fun i _=>sameO_eq rfl rfl) r1
    ·cases e
   ·cases e
  ·cases e
end
section
variable {E : Env} {dep : Nat}
end
end Go.Proofs.YtfdcjocallblcaaGreatDoor.Ev
