/- What functions tell, out of their bodies: functions of data, whose result is data or a row of the caller's own. Conditions as in the text before. -/
import Derived.Test.YtfdcjocallblcaaGreatDoorEvU
namespace Go.Proofs.YtfdcjocallblcaaGreatDoor.Ev
open Go
section
variable {σ : Sg} {h : H} {w w' : World}
theorem data_post {u:Upd} {fz':Nat→Prop} (inv:Inv σ h w) (co:Coed σ h w u fz') {σ₁:Sg} {h₁:H} (e:Ext ⟨σ.val,fz',σ.bs⟩ [] w σ₁ h₁ w') (inv₁:Inv σ₁ h₁ w') {F:Nat→Prop} (hF:∀b,σ₁.fz b→F b)
  (hF':∀b,F b→σ₁.fz b∨∃o,Own h₁ o∧b∈σ₁.bs o) (hlt:∀b,F b→b<w'.heap.size):
  Ext σ h w ⟨σ.val,F,σ.bs⟩ (H.apply h u) w'∧Inv ⟨σ.val,F,σ.bs⟩ (H.apply h u) w'∧(∀a c,RepA σ h w a c→RepA ⟨σ.val,F,σ.bs⟩ (H.apply h u) w' a c)∧∀b,F b→fz' b∨w.heap.size≤b:=by
 have hg:=grown_of_ext e
 have hnew:∀b,F b→fz' b∨w.heap.size≤b:=by
  intro b hb
  rcases hF' b hb with hb|⟨o,l,eb⟩
  ·rcases e.fznew b hb with hb|⟨o,l,-⟩|hb
   ·exact .inl hb
   ·exact (nil_own l).elim
   ·exact .inr hb
  ·rcases e.live o b l eb with ⟨o',l',-⟩|hb
   ·exact (nil_own l').elim
   ·exact .inr hb
 have fzF:∀b,fz' b→F b:=fun b hb=>hF b (e.fz b hb)
 have hinv:=inv_grown co.inv hg
 refine ⟨co.ext.trans ⟨hg.os,hg.tape,hg.output,hg.size,fzF,fun b hb _=>hg.block b hb (by simp),fun b hb=>?_,fun o b l e=>.inl ⟨o,l,e⟩⟩,⟨fun o x g=>?_,fun o l b hb hf=>?_,hinv.inj,hlt,hinv.nodup,hinv.bsok,hinv.bslt⟩,fun a c r=>?_,hnew⟩
 ·rcases hnew b hb with hb|hb
  ·exact .inl hb
  ·exact .inr (.inr hb)
 ·have h1:=hinv.objs o x g
  cases x with
  |box cs=>
   obtain ⟨b,vs,ty,h2,h3,h4⟩:=h1
   exact ⟨b,vs,ty,h2,h3,RepAs.mono (σ:=⟨σ.val,fz',σ.bs⟩) (σ':=⟨σ.val,F,σ.bs⟩) fzF (fun _ _=>rfl) _ _ (fun i _=>sameO_eq rfl rfl) h4⟩
  |row el t xs=>
   obtain ⟨cs,h2,h3⟩:=h1
   exact ⟨cs,h2,RepPs.mono fzF (fun _ _=>rfl) h3⟩
  |map _ _ _=>exact map_mono h1 rfl fzF (fun _ _=>rfl) fun _ _=>rfl
  |cel _ _=>exact cel_mono h1 rfl fzF (fun _ _=>rfl)
  |ice t xs=>exact RepP.mono fzF (fun _ _=>rfl) h1
  |deep m t xs q=>exact deep_mono h1 rfl rfl (fun _ _=>rfl) fun i off v c _ r=>RepA.mono (σ:=⟨σ.val,fz',σ.bs⟩) (σ':=⟨σ.val,F,σ.bs⟩) fzF (fun _ _=>rfl) v c (fun i _=>sameO_eq rfl rfl) r
 ·rcases hnew b hf with hf|hf
  ·exact co.inv.nofz o l b hb hf
  ·have:=live_lt co.inv l hb
   omega
 ·have h1:=keep_grown co.inv hg (co.keep a c r)
  exact RepA.mono (σ:=⟨σ.val,fz',σ.bs⟩) (σ':=⟨σ.val,F,σ.bs⟩) fzF (fun _ _=>rfl) a c (fun i _=>sameO_eq rfl rfl) h1
end
section
variable {E : Env} {dep : Nat}
theorem call_data {α:Type} {callI:CallI α} {κ:AV→Option α} {y:α} (hΦ:SoundΦ E) (hP:OkP E.P) (hI:CallISound E.P callI) {k:Nat} {f:Func} (hf:E.P.funcs[k]?=some f) {vw:View} {h:H} (hs:Shows vw h) {ts:List Ty} {args:List AV} {d:Dens ts} {u:Upd} (ha:coeD ts vw args=some (d,u))
  {v':AV} {rs:RS} (e:evBody E callI dep k f (avs ts d) [] [] (finC rs κ)=some y) (hκ:∀v₂,κ v₂=some y→v₂=v') (site:Nat):Callable E.P k∧CallSim E.P k args site h v' u []:=by
 refine ⟨⟨f,hf,hP.names k f hf,by obtain ⟨c,hc⟩:=body_some e;rw [hc];rfl⟩,?_⟩
 intro _ σ w cargs inv r
 obtain ⟨l,hl,hd⟩:=coeD_some ha
 obtain ⟨fz',co,r0,hn⟩:=coeArgs_sound hl hs inv r
 have r0:RepAs ⟨σ.val,fz',σ.bs⟩ [] w (avs ts d) cargs.toList:=repAs_noids (fun _ h=>h) (fun _ _=>rfl) (avs_ids _ _) (densOf_rep hd r0)
 have h2:=(body_sound hΦ hP hI hf e (σ:=⟨σ.val,fz',σ.bs⟩) (nil_inv co.inv.fzlt) r0 (vals:=[]) trivial).2
 refine h2.mono ?_
 rintro e' w' ⟨cv,σ₁,v₁,t₁,h₁,rfl,hk,hext,hinv,hrep,-⟩
 obtain ⟨v₂,hv,hk⟩:=finC_some hk
 obtain rfl:=hκ _ hk
 obtain ⟨F,f1,f2,f3,-,f4⟩:=coeRes_sound hinv hv hrep
 obtain ⟨g1,g2,g3,-⟩:=data_post inv co hext hinv f1 f2 f3
 exact ⟨cv,⟨σ.val,F,σ.bs⟩,rfl,g1,g2,f4 _ _ _,fun a c _ r=>g3 a c r⟩
end
def EntOk (P:Program) (k:Nat) (e:List AV→View→Nat→Ans):Prop:=
 ∀(args:List AV) (vw:View) (site:Nat) (h:H) (y:(e args vw site).α),(e args vw site).x=some y→Shows vw h→
  Callable P k∧CallSim P k args site h ((e args vw site).g y).1 ((e args vw site).g y).2.1 ((e args vw site).g y).2.2
def TellsOk (P:Program) (Φ:Tells):Prop:=∀k,EntOk P k (Φ k)
theorem no_ok (P:Program):TellsOk P noTells:=fun k args vw site h y hx=>nomatch hx
theorem addT_ok {P:Program} {Φ:Tells} {k:Nat} {e:List AV→View→Nat→Ans} (h1:TellsOk P Φ) (h2:EntOk P k e):TellsOk P (addT Φ k e):=by
 intro f args vw site h
 unfold addT
 cases hb:Nat.beq f k
 ·exact h1 f args vw site h
 ·obtain rfl:=nbeq_eq.1 hb
  exact h2 args vw site h
theorem sound_of {E:Env} (h:TellsOk E.P E.Φ):SoundΦ E:=fun f args vw site hh y hx hs=>h f args vw site hh y hx hs
end Go.Proofs.YtfdcjocallblcaaGreatDoor.Ev
