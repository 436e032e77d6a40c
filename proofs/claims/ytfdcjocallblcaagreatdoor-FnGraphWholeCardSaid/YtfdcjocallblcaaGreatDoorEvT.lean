/- Functions stand for the machine's. Conditions: what functions tell (Φ) is sound; the program's regions that draw are carried out in any order; no function bears a reserved name. -/
import Derived.Test.YtfdcjocallblcaaGreatDoorEvS
namespace Go.Proofs.YtfdcjocallblcaaGreatDoor.Ev
open Go
section
variable {R : Type} {E : Env} {callI : CallI R} {dep : Nat}
theorem undefs_rep {σ:Sg} {h:H} {w:World}:∀n:Nat,RepAs σ h w (List.replicate n .und) (List.replicate n undef)
 |0=>trivial
 |n+1=>⟨rfl,undefs_rep n⟩
def resG (tmps:Array Value):ResultVar→Sem Value
 |.tmp t=>pure (tmps.getD t undef)
 |.cell a t=>do loadVar t (←asAddr (tmps.getD a undef))
theorem results_eq (f:Func) (tmps:Array Value):results f tmps=(do
  let vs ←f.results.mapM (resG tmps)
  pure (if h:vs.size=1 then vs[0] else .tuple vs)):=rfl
theorem res1_rep {σ:Sg} {h:H} {w:World} {nt:Nat} {t:T} {v:AV} {out:List Value} {a:Act} {r:ResultVar} (inv:Inv σ h w) (hr:(match r with|.tmp i=>Nat.blt i nt|.cell i _=>Nat.blt i nt)=true) (e:res1 E t h r=some v) (rel:Rel σ h w nt t out a):
  ∃cv,(resG a.tmps r).run E.P w=.ok cv w∧RepA σ h w v cv:=by
 have slot:∀i,i<nt→RepA σ h w (t.at i) (a.tmps.getD i undef):=by
  intro i hi
  obtain ⟨c,hc,hcr⟩:=rel.slot hi
  rw [Array.getD_eq_getD_getElem?,hc];exact hcr
 cases r with
 |tmp i=>
  obtain rfl:=Option.some.inj e
  exact ⟨_,rfl,slot i (Nat.le_of_ble_eq_true hr)⟩
 |cell i ty=>
  have hs:=slot i (Nat.le_of_ble_eq_true hr)
  simp only [res1] at e
  split at e
  ·rename_i o off hat
   split at e
   ·rename_i cs hg
    rw [hat] at hs
    obtain ⟨b,hb,hv⟩:=hs.2 (live_of hg)
    obtain ⟨b',cvs,ty',hb',hh,hrr⟩:=inv.objs _ _ hg
    rw [hb] at hb'
    obtain rfl:b=b':=by simpa using hb'
    have hcell:∀j c,cvs.toList[j]?=some c→w.cell? ⟨b,0+j,none⟩=some c:=by
     intro j c hj
     rw [Nat.zero_add,cell_of_row w b j cvs ty' (0,0) hh]
     simpa using hj
    obtain ⟨cv,hrun,hrep⟩:=load_part e hrr hcell
    rw [Nat.zero_add] at hrun
    exact ⟨cv,by simp [resG,hv,asAddr,hrun],hrep⟩
   ·cases e
  ·cases e
theorem res2_some {x:Option AV} {r:Option (List AV)} {l:List AV} (e:res2 x r=some l):∃v l',x=some v∧r=some l'∧l=v::l':=by
 unfold res2 at e
 split at e
 ·split at e
  ·obtain rfl:=Option.some.inj e
   exact ⟨_,_,rfl,rfl,rfl⟩
  ·cases e
 ·cases e
theorem results_rep {σ:Sg} {h:H} {w:World} {f:Func} {t:T} {v:AV} {out:List Value} {a:Act} (inv:Inv σ h w) (hr:resOk f.ntmps f=true) (e:resOf E f t h=some v) (rel:Rel σ h w f.ntmps t out a):
  ∃cv,(results f a.tmps).run E.P w=.ok cv w∧RepA σ h w v cv:=by
 have one:∀r v,r∈f.results.toList→res1 E t h r=some v→_:=fun r v hm e=>res1_rep (a:=a) inv (List.all_eq_true.1 hr r hm) e rel
 unfold resOf at e
 split at e
 ·rename_i r hl
  have hres:f.results=#[r]:=by rw [←Array.toArray_toList (xs:=f.results),hl]
  obtain ⟨cv,h1,h2⟩:=one r v (by rw [hl];simp) e
  exact ⟨cv,by rw [results_eq];simp [hres,h1],h2⟩
 ·rename_i hl
  obtain rfl:=Option.some.inj e
  have hres:f.results=#[]:=by rw [←Array.toArray_toList (xs:=f.results),hl]
  exact ⟨.tuple #[],by simp [results,hres],_,rfl,trivial⟩
 ·rename_i r s hl
  have hres:f.results=#[r,s]:=by rw [←Array.toArray_toList (xs:=f.results),hl]
  split at e
  ·rename_i l he
   obtain rfl:=Option.some.inj e
   obtain ⟨v1,l1,e1,he1,rfl⟩:=res2_some he
   obtain ⟨v2,l2,e2,he2,rfl⟩:=res2_some he1
   obtain rfl:=Option.some.inj he2
   obtain ⟨c1,h1,k1⟩:=one r v1 (by rw [hl];simp) e1
   obtain ⟨c2,h2,k2⟩:=one s v2 (by rw [hl];simp) e2
   exact ⟨.tuple #[c1,c2],by rw [results_eq];simp [hres,h1,h2],_,rfl,k1,k2,trivial⟩
  ·cases e
 ·rename_i r s u hl
  have hres:f.results=#[r,s,u]:=by rw [←Array.toArray_toList (xs:=f.results),hl]
  split at e
  ·rename_i l he
   obtain rfl:=Option.some.inj e
   obtain ⟨v1,l1,e1,he1,rfl⟩:=res2_some he
   obtain ⟨v2,l2,e2,he2,rfl⟩:=res2_some he1
   obtain ⟨v3,l3,e3,he3,rfl⟩:=res2_some he2
   obtain rfl:=Option.some.inj he3
   obtain ⟨c1,h1,k1⟩:=one r v1 (by rw [hl];simp) e1
   obtain ⟨c2,h2,k2⟩:=one s v2 (by rw [hl];simp) e2
   obtain ⟨c3,h3,k3⟩:=one u v3 (by rw [hl];simp) e3
   exact ⟨.tuple #[c1,c2,c3],by rw [results_eq];simp [hres,h1,h2,h3],_,rfl,k1,k2,k3,trivial⟩
  ·cases e
 ·cases e
theorem body_some {E:Env} {callI:CallI R} {dep k:Nat} {f:Func} {args:List AV} {t:T} {h:H} {κ:AV→T→H→Option R} {r:R} (e:evBody E callI dep k f args t h κ=some r):∃c,f.body=some c:=by
 unfold evBody at e
 obtain ⟨-,e⟩:=cond_some e
 cases hb:f.body with
 |some c=>exact ⟨c,rfl⟩
 |none=>
  unfold codeOf at e
  rw [hb] at e
  simp [evC] at e
theorem body_sound (hΦ:SoundΦ E) (hP:OkP E.P) (hI:CallISound E.P callI) {k:Nat} {f:Func} (hf:E.P.funcs[k]?=some f) {args:List AV} {t:T} {h:H} {κ:AV→T→H→Option R} {r:R}
  (e:evBody E callI dep k f args t h κ=some r) {σ:Sg} {w:World} {cargs:Array Value} {vals:List Value} (inv:Inv σ h w) (ra:RepAs σ h w args cargs.toList) (rt:RepAs σ h w t vals):
  Callable E.P k∧Calls E.P k cargs w fun e w'=>∃cv σ' v t' h',e=.returned cv∧κ v t' h'=some r∧Ext σ h w σ' h' w'∧Inv σ' h' w'∧RepA σ' h' w' v cv∧RepAs σ' h' w' t' vals:=by
 obtain ⟨c,hc⟩:=body_some e
 refine ⟨⟨f,hf,hP.names k f hf,by rw [hc];rfl⟩,?_⟩
 unfold evBody at e
 obtain ⟨hok,e⟩:=cond_some e
 simp only [Bool.and_eq_true] at hok
 have hlen:args.length≤f.ntmps:=Nat.le_of_ble_eq_true hok.1.1
 have hco:codeOf f=c:=by unfold codeOf;rw [hc]
 rw [hco] at e hok
 have hla:args.length=cargs.size:=by rw [ra.len,Array.length_toList]
 refine calls_of_wp hf hc ?_
 have rel:Rel σ h w f.ntmps (bodyT f args++t) vals {tmps:=cargs++Array.replicate (f.ntmps-cargs.size) undef,defers:=[]}:=by
  refine ⟨?_,by simp;omega,rfl⟩
  unfold bodyT
  rw [Array.toList_append,Array.toList_replicate,hla]
  exact (ra.app (undefs_rep _)).app rt
 refine code_sound hΦ hP hI c hok.1.2 _ h _ r σ w _ e inv rel _ ?_
 intro e' σ' t' h' w' a' hk hext hinv hrel
 have fin:(match resOf E f t' h' with|some v=>κ v (t'.drop f.ntmps) (retH dep v h')|none=>none)=some r→a'.defers=[]∧∃v,(results f a'.tmps).run E.P w'=.ok v w'∧∃cv σ' v' t' h',Ending.returned v=.returned cv∧κ v' t' h'=some r∧Ext σ h w σ' h' w'∧Inv σ' h' w'∧RepA σ' h' w' v' cv∧RepAs σ' h' w' t' vals:=by
  intro hk
  split at hk
  ·rename_i v hv
   obtain ⟨cv,hrun,hrep⟩:=results_rep (E:=E) hinv hok.2 hv hrel
   have hless:=retH_less dep v hinv.nodup
   refine ⟨hrel.defers,cv,hrun,cv,σ',v,_,_,rfl,hk,hext.trans hless.ext,hless.inv hinv,hless.rep hrep,hless.reps ?_⟩
   have h1:=hrel.slots.drop f.ntmps
   rw [List.drop_left' (by rw [Array.length_toList];exact hrel.size)] at h1
   exact h1
  ·cases hk
 cases e' with
 |normal=>exact fin hk
 |ret=>exact fin hk
 |exit i=>simp [finK] at hk
theorem callI_sound (hΦ:SoundΦ E) (hP:OkP E.P):∀(d dep:Nat),CallISound (R:=R) E.P (evCallI E d dep)
 |0,_=>fun f args t h κ r e=>by cases e
 |d+1,dep=>fun f args t h κ r e σ w cargs vals inv ra rt=>by
  simp only [evCallI] at e
  split at e
  ·rename_i fn hf
   exact body_sound hΦ hP (callI_sound hΦ hP d (dep+1000)) hf e inv ra rt
  ·cases e
theorem live_lt {σ:Sg} {h:H} {w:World} (inv:Inv σ h w) {o:Nat} (l:Own h o) {b:Nat} (e:b∈σ.bs o):b<w.heap.size:=inv.bslt o l b e
end
end Go.Proofs.YtfdcjocallblcaaGreatDoor.Ev
