/- What functions tell, out of their bodies: functions that write a box of the caller's. Conditions as in the text before. -/
import Derived.Test.YtfdcjocallblcaaGreatDoorEvV
namespace Go.Proofs.YtfdcjocallblcaaGreatDoor.Ev
open Go
theorem finM_some {R:Type} {rs:RS} {ts:List Ty} {κ:AV→Dens ts→Option R} {v:AV} {t:T} {h:H} {r:R} (e:finM rs ts κ v t h=some r):
  ∃cs d v',t=[.ptr 0 0]∧H.get 0 h=some (.box cs)∧densOf ts cs=some d∧coeRes (getV (H.del 0 h)) rs v=some v'∧κ v' d=some r:=by
 unfold finM at e
 split at e
 ·split at e
  ·rename_i o off
   obtain ⟨hb,e⟩:=cond_some e
   simp only [Bool.and_eq_true] at hb
   obtain rfl:=nbeq_eq.1 hb.1
   obtain rfl:=nbeq_eq.1 hb.2
   split at e
   ·rename_i cs hg
    split at e
    ·rename_i d hd
     split at e
     ·rename_i v' hv
      exact ⟨cs,d,v',rfl,hg,hd,hv,e⟩
     ·cases e
    ·cases e
   ·cases e
  ·cases e
 ·cases e
theorem del_less {h:H} (n:NoD h) (o:Nat):Less (H.del o h) h:=
 ⟨H.nodup_del o h n,fun i=>by
  by_cases e:i=o
  ·subst e;exact .inl (H.get_del_same i h n)
  ·exact .inr (H.get_del_ne e h)⟩
theorem obj_move {σ σ':Sg} {h h':H} {w:World} {o o':Nat} {x:Obj} (hids:x.ids=[]) (r:ObjRep σ h w o x) (hv:σ'.val o'=σ.val o) (hb:σ'.bs o'=σ.bs o) (hf:∀b,σ.fz b→σ'.fz b):ObjRep σ' h' w o' x:=by
 cases x with
 |box cs=>
  obtain ⟨b,vs,ty,q1,q2,q3⟩:=r
  exact ⟨b,vs,ty,by rw [hv];exact q1,q2,repAs_noids hf (fun _ _=>rfl) hids q3⟩
 |row el t xs=>
  obtain ⟨cs,q1,q2⟩:=r
  exact ⟨cs,by rw [hv];exact q1,RepPs.mono hf (fun _ _=>rfl) q2⟩
 |map=>exact map_mono r hv hf (fun _ _=>rfl) fun _ _=>rfl
 |cel=>exact cel_mono r hv hf (fun _ _=>rfl)
 |ice t xs=>
  show RepP _ w _ (σ'.val o')
  rw [hv];exact RepP.mono hf (fun _ _=>rfl) r
 |deep m t xs q=>
  obtain ⟨cs,bss,h1,h2,h3,h4,h5,h6⟩:=r
  refine ⟨cs,bss,by rw [hv];exact h1,h2,fun p pv c bs hp hc hb=>?_,by rw [hb,hv];exact h4,by rw [hb];exact h5,h6⟩
  have h7:=h3 p pv c bs hp hc hb
  cases hq:holeAt t q p with
  |none=>rw [hq] at h7;exact h7
  |some v=>
   rw [hq] at h7
   refine ⟨h7.1,h7.2.1,repA_noids hf (fun _ _=>rfl) ?_ h7.2.2⟩
   unfold holeAt at hq
   split at hq
   ·split at hq
    ·obtain rfl:=Option.some.inj hq;exact hids
    ·cases hq
   ·cases hq
section
variable {E : Env} {dep : Nat}
end
section
variable {E : Env} {dep : Nat}
end
end Go.Proofs.YtfdcjocallblcaaGreatDoor.Ev
