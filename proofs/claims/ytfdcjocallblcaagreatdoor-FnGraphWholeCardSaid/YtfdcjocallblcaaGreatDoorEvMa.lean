/- Rows that are owned whole: cells, parts that are taken in. No conditions. -/
import Derived.Test.YtfdcjocallblcaaGreatDoorEvM
namespace Go.Proofs.YtfdcjocallblcaaGreatDoor.Ev
open Go
theorem toTy_tv {t t':Ty} {x:t'.den} {z:t.den} (e:toTy t (.tv t' x)=some z):∃h:t'=t,z=h▸x:=by
 unfold toTy at e
 dsimp only at e
 split at e
 ·rename_i h;exact ⟨h,(Option.some.inj e).symm⟩
 ·cases e
theorem toTy_nil {t:Ty} {z:t.den} (e:toTy t .nil=some z):∃k,∃h:t=.sl k,(h▸z:(Ty.sl k).den)=([]:List k.den):=by
 unfold toTy at e
 dsimp only at e
 split at e
 ·exact ⟨_,rfl,(Option.some.inj e).symm⟩
 ·cases e
def CellOk (i:Nat) (y:stDen i) (j:Nat) (a:AV):Prop:=∃(z:(cellTy (.st i) j).den) (p:PV),toTy (cellTy (.st i) j) a=some z∧isSt (cellTy (.st i) j)=false∧enc (cellTy (.st i) j) z=[p]∧(enc (.st i) y)[j]?=some p
theorem mkSt_cells:∀{i:Nat} {l:List AV} {y:stDen i},mkSt i l=some y→l.length=(fieldTys i).length∧∀(j:Nat) (a:AV),l[j]?=some a→CellOk i y j a
 |0,[a,b],y,e=>by
  simp only [mkSt] at e
  split at e<;>try contradiction
  rename_i a' ha
  split at e<;>try contradiction
  rename_i b' hb
  obtain rfl:=Option.some.inj e
  refine ⟨rfl,fun j v hv=>?_⟩
  match j,hv with
  |0,hv=>obtain rfl:=Option.some.inj hv;exact ⟨a',_,ha,rfl,rfl,rfl⟩
  |1,hv=>obtain rfl:=Option.some.inj hv;exact ⟨b',_,hb,rfl,rfl,rfl⟩
  |n+2,hv=>cases hv
 |0,[],y,e=>by simp [mkSt] at e
 |0,[_],y,e=>by simp [mkSt] at e
 |0,_::_::_::_,y,e=>by simp [mkSt] at e
 |1,[a,b,c],y,e=>by
  simp only [mkSt] at e
  split at e<;>try contradiction
  rename_i a' ha
  split at e<;>try contradiction
  rename_i b' hb
  split at e<;>try contradiction
  rename_i c' hc
  obtain rfl:=Option.some.inj e
  refine ⟨rfl,fun j v hv=>?_⟩
  match j,hv with
  |0,hv=>obtain rfl:=Option.some.inj hv;exact ⟨a',_,ha,rfl,rfl,rfl⟩
  |1,hv=>obtain rfl:=Option.some.inj hv;exact ⟨b',_,hb,rfl,rfl,rfl⟩
  |2,hv=>obtain rfl:=Option.some.inj hv;exact ⟨c',.sl (encTrees c'),hc,rfl,by rw [encTrees_eq];rfl,rfl⟩
  |n+3,hv=>cases hv
 |1,[],y,e=>by simp [mkSt] at e
 |1,[_],y,e=>by simp [mkSt] at e
 |1,[_,_],y,e=>by simp [mkSt] at e
 |1,_::_::_::_::_,y,e=>by simp [mkSt] at e
 |2,[a],y,e=>by
  simp only [mkSt] at e
  split at e<;>try contradiction
  rename_i a' ha
  obtain rfl:=Option.some.inj e
  refine ⟨rfl,fun j v hv=>?_⟩
  match j,hv with
  |0,hv=>obtain rfl:=Option.some.inj hv;exact ⟨a',_,ha,rfl,rfl,rfl⟩
  |n+1,hv=>cases hv
 |2,[],y,e=>by simp [mkSt] at e
 |2,_::_::_,y,e=>by simp [mkSt] at e
 |3,[a,b,c,d],y,e=>by
  simp only [mkSt] at e
  split at e<;>try contradiction
  rename_i a' ha
  split at e<;>try contradiction
  rename_i b' hb
  split at e<;>try contradiction
  rename_i c' hc
  split at e<;>try contradiction
  rename_i d' hd
  obtain rfl:=Option.some.inj e
  refine ⟨rfl,fun j v hv=>?_⟩
  match j,hv with
  |0,hv=>obtain rfl:=Option.some.inj hv;exact ⟨a',_,ha,rfl,rfl,rfl⟩
  |1,hv=>obtain rfl:=Option.some.inj hv;exact ⟨b',_,hb,rfl,rfl,rfl⟩
  |2,hv=>obtain rfl:=Option.some.inj hv;exact ⟨c',_,hc,rfl,rfl,rfl⟩
  |3,hv=>obtain rfl:=Option.some.inj hv;exact ⟨d',.sl (encTrees d'),hd,rfl,by rw [encTrees_eq];rfl,rfl⟩
  |n+4,hv=>cases hv
 |3,[],y,e=>by simp [mkSt] at e
 |3,[_],y,e=>by simp [mkSt] at e
 |3,[_,_],y,e=>by simp [mkSt] at e
 |3,[_,_,_],y,e=>by simp [mkSt] at e
 |3,_::_::_::_::_::_,y,e=>by simp [mkSt] at e
 |4,[a,b,c],y,e=>by
  simp only [mkSt] at e
  split at e<;>try contradiction
  rename_i a' ha
  split at e<;>try contradiction
  rename_i b' hb
  split at e<;>try contradiction
  rename_i c' hc
  obtain rfl:=Option.some.inj e
  refine ⟨rfl,fun j v hv=>?_⟩
  match j,hv with
  |0,hv=>obtain rfl:=Option.some.inj hv;exact ⟨a',_,ha,rfl,rfl,rfl⟩
  |1,hv=>obtain rfl:=Option.some.inj hv;exact ⟨b',_,hb,rfl,rfl,rfl⟩
  |2,hv=>obtain rfl:=Option.some.inj hv;exact ⟨c',_,hc,rfl,rfl,rfl⟩
  |n+3,hv=>cases hv
 |4,[],y,e=>by simp [mkSt] at e
 |4,[_],y,e=>by simp [mkSt] at e
 |4,[_,_],y,e=>by simp [mkSt] at e
 |4,_::_::_::_::_,y,e=>by simp [mkSt] at e
 |5,[a,b,c],y,e=>by
  simp only [mkSt] at e
  split at e<;>try contradiction
  rename_i a' ha
  split at e<;>try contradiction
  rename_i b' hb
  split at e<;>try contradiction
  rename_i c' hc
  obtain rfl:=Option.some.inj e
  refine ⟨rfl,fun j v hv=>?_⟩
  match j,hv with
  |0,hv=>obtain rfl:=Option.some.inj hv;exact ⟨a',_,ha,rfl,rfl,rfl⟩
  |1,hv=>obtain rfl:=Option.some.inj hv;exact ⟨b',_,hb,rfl,rfl,rfl⟩
  |2,hv=>obtain rfl:=Option.some.inj hv;exact ⟨c',_,hc,rfl,rfl,rfl⟩
  |n+3,hv=>cases hv
 |5,[],y,e=>by simp [mkSt] at e
 |5,[_],y,e=>by simp [mkSt] at e
 |5,[_,_],y,e=>by simp [mkSt] at e
 |5,_::_::_::_::_,y,e=>by simp [mkSt] at e
 |n+6,l,y,e=>by simp [mkSt] at e
theorem cellsAV_at:∀{i:Nat} {x:stDen i} {j:Nat} {a:AV},(cellsAV (.st i) x)[j]?=some a→CellOk i x j a
 |0,x,0,a,e=>by obtain rfl:=Option.some.inj e;exact ⟨x.act,_,rfl,rfl,rfl,rfl⟩
 |0,x,1,a,e=>by obtain rfl:=Option.some.inj e;exact ⟨x.to,_,rfl,rfl,rfl,rfl⟩
 |0,x,n+2,a,e=>by cases e
 |1,.mk o n c,0,a,e=>by obtain rfl:=Option.some.inj e;exact ⟨o,_,rfl,rfl,rfl,rfl⟩
 |1,.mk o n c,1,a,e=>by obtain rfl:=Option.some.inj e;exact ⟨n,_,rfl,rfl,rfl,rfl⟩
 |1,.mk o n c,2,a,e=>by obtain rfl:=Option.some.inj e;exact ⟨c,.sl (encTrees c),rfl,rfl,by rw [encTrees_eq];rfl,rfl⟩
 |1,x,n+3,a,e=>by cases e
 |2,x,0,a,e=>by obtain rfl:=Option.some.inj e;exact ⟨x.moves,_,rfl,rfl,rfl,rfl⟩
 |2,x,n+1,a,e=>by cases e
 |3,⟨s,.mk o n c⟩,0,a,e=>by obtain rfl:=Option.some.inj e;exact ⟨s,_,rfl,rfl,rfl,rfl⟩
 |3,⟨s,.mk o n c⟩,1,a,e=>by obtain rfl:=Option.some.inj e;exact ⟨o,_,rfl,rfl,rfl,rfl⟩
 |3,⟨s,.mk o n c⟩,2,a,e=>by obtain rfl:=Option.some.inj e;exact ⟨n,_,rfl,rfl,rfl,rfl⟩
 |3,⟨s,.mk o n c⟩,3,a,e=>by obtain rfl:=Option.some.inj e;exact ⟨c,.sl (encTrees c),rfl,rfl,by rw [encTrees_eq];rfl,rfl⟩
 |3,x,n+4,a,e=>by cases e
 |4,x,0,a,e=>by obtain rfl:=Option.some.inj e;exact ⟨x.a,_,rfl,rfl,rfl,rfl⟩
 |4,x,1,a,e=>by obtain rfl:=Option.some.inj e;exact ⟨x.b,_,rfl,rfl,rfl,rfl⟩
 |4,x,2,a,e=>by obtain rfl:=Option.some.inj e;exact ⟨x.w,_,rfl,rfl,rfl,rfl⟩
 |4,x,n+3,a,e=>by cases e
 |5,x,0,a,e=>by obtain rfl:=Option.some.inj e;exact ⟨x.w,_,rfl,rfl,rfl,rfl⟩
 |5,x,1,a,e=>by obtain rfl:=Option.some.inj e;exact ⟨x.a,_,rfl,rfl,rfl,rfl⟩
 |5,x,2,a,e=>by obtain rfl:=Option.some.inj e;exact ⟨x.b,_,rfl,rfl,rfl,rfl⟩
 |5,x,n+3,a,e=>by cases e
 |n+6,x,j,a,e=>by cases e
theorem cellsAV_len:∀(i:Nat) (x:stDen i),(cellsAV (.st i) x).length=(fieldTys i).length
 |0,_=>rfl|1,_=>rfl|2,_=>rfl|3,_=>rfl|4,_=>rfl|5,_=>rfl|_+6,_=>rfl
theorem putCells_enc {t:Ty} {x y:t.den} {off:Nat} {al:List AV} (e:putCells t x off al=some y) (hle:off+al.length≤nCells t):
  (∀(j:Nat) (a:AV),al[j]?=some a→∃(z:(cellTy t (off+j)).den) (p:PV),toTy (cellTy t (off+j)) a=some z∧enc (cellTy t (off+j)) z=[p]∧(enc t y)[off+j]?=some p)∧
  (∀j,j<off∨off+al.length≤j→(enc t y)[j]?=(enc t x)[j]?):=by
 have scal:∀{t:Ty} {x y:t.den},isSt t=false→(bif Nat.beq off 0 then (match al with|[v]=>toTy t v|_=>none) else none)=some y→off+al.length≤nCells t→
   (∀(j:Nat) (a:AV),al[j]?=some a→∃(z:(cellTy t (off+j)).den) (p:PV),toTy (cellTy t (off+j)) a=some z∧enc (cellTy t (off+j)) z=[p]∧(enc t y)[off+j]?=some p)∧
   (∀j,j<off∨off+al.length≤j→(enc t y)[j]?=(enc t x)[j]?):=by
  intro t x y hst e hle
  obtain ⟨h0,e⟩:=cond_some e
  have h0:=nbeq_eq.1 h0
  subst h0
  split at e
  ·rename_i v
   have hct:cellTy t 0=t:=by cases t<;>first|rfl|cases hst
   refine ⟨fun j a ha=>?_,fun j hj=>?_⟩
   ·match j,ha with
    |0,ha=>
     obtain rfl:=Option.some.inj ha
     rw [Nat.zero_add]
     have hlen:=enc_length t y
     have h1:nCells t=1:=by cases t<;>first|rfl|cases hst
     rw [h1] at hlen
     match hq:enc t y,hlen with
     |[p],_=>
      rw [hct]
      exact ⟨y,p,e,hq,rfl⟩
    |n+1,ha=>cases ha
   ·have h1:nCells t=1:=by cases t<;>first|rfl|cases hst
    rw [List.getElem?_eq_none (by rw [enc_length,h1];simp at hj;omega),List.getElem?_eq_none (by rw [enc_length,h1];simp at hj;omega)]
  ·cases e
 cases t with
 |st i=>
  replace e:mkSt i (((cellsAV (.st i) x).take off)++al++(cellsAV (.st i) x).drop (off+al.length))=some y:=e
  obtain ⟨h1,h2⟩:=mkSt_cells e
  have hn:nCells (.st i)=(fieldTys i).length:=rfl
  have hcl:=cellsAV_len i x
  have ht:((cellsAV (.st i) x).take off).length=off:=by rw [List.length_take,hcl];omega
  refine ⟨fun j a ha=>?_,fun j hj=>?_⟩
  ·have hj:=(List.getElem?_eq_some_iff.1 ha).1
   obtain ⟨z,p,k1,-,k2,k3⟩:=h2 (off+j) a (by
    rw [List.getElem?_append_left (by rw [List.length_append,ht];omega),List.getElem?_append_right (by omega),ht,Nat.add_sub_cancel_left];exact ha)
   exact ⟨z,p,k1,k2,k3⟩
  ·have key:∀a,(cellsAV (.st i) x)[j]?=some a→(List.take off (cellsAV (.st i) x)++al++List.drop (off+al.length) (cellsAV (.st i) x))[j]?=some a:=by
    intro a ha
    rcases hj with hj|hj
    ·rw [List.append_assoc,List.getElem?_append_left (by rw [ht];exact hj),List.getElem?_take,if_pos hj];exact ha
    ·rw [List.getElem?_append_right (by rw [List.length_append,ht];omega),List.length_append,ht,List.getElem?_drop]
     rw [show off+al.length+(j-(off+al.length))=j by omega];exact ha
   cases hc:(cellsAV (.st i) x)[j]? with
   |none=>
    have hge:(fieldTys i).length≤j:=by rw [←hcl];exact List.getElem?_eq_none_iff.1 hc
    rw [List.getElem?_eq_none (by rw [enc_length,hn];exact hge),List.getElem?_eq_none (by rw [enc_length,hn];exact hge)]
   |some a=>
    obtain ⟨z,p,k1,-,k2,k3⟩:=h2 j a (key a hc)
    obtain ⟨z',p',q1,-,q2,q3⟩:=cellsAV_at hc
    rw [k1] at q1
    obtain rfl:=Option.some.inj q1
    rw [k2] at q2
    obtain rfl:p=p':=by simpa using q2
    rw [k3,q3]
 |_=>exact scal rfl e hle
theorem enc_flat:∀{t:Ty} (_:memT t=false) (x:t.den),∀p∈enc t x,∀es,p≠.sl es
 |.bool,_,x,p,hp,es=>by simp [enc] at hp;subst hp;simp
 |.int _,_,x,p,hp,es=>by simp [enc] at hp;subst hp;simp
 |.str,_,x,p,hp,es=>by simp [enc] at hp;subst hp;simp
 |.sl _,h,x,p,hp,es=>by cases h
 |.st 0,_,x,p,hp,es=>by simp [enc] at hp;rcases hp with rfl|rfl<;>simp
 |.st 1,h,x,p,hp,es=>by cases h
 |.st 2,h,x,p,hp,es=>by cases h
 |.st 3,h,x,p,hp,es=>by cases h
 |.st 4,h,x,p,hp,es=>by cases h
 |.st 5,h,x,p,hp,es=>by cases h
 |.st (_+6),_,x,p,hp,es=>by simp [enc] at hp
theorem RepP.own {fz:Nat→Prop} {w:World} {m:Nat} {t:Ty} {p:PV} {c:Value} (r:RepP fz w p c) (h:∀es,p≠.sl es):RepO m w t p c []:=by
 cases r with
 |bool b=>exact .bool t b
 |int k n=>exact .int t k n
 |str s=>exact .str t s
 |sl0=>exact absurd rfl (h _)
 |sl es=>exact absurd rfl (h es)
section
variable {σ : Sg} {h : H} {w : World}
theorem bs_nodup1 (inv:Inv σ h w) {s:Nat} (l:Own h s):(σ.bs s).Nodup:=by
 obtain ⟨x,g,hx⟩:=l
 have key:x.isDeep=false→(σ.bs s).Nodup:=fun d=>by
  rw [inv.bsok s x g d];cases blk (σ.val s)<;>simp
 cases x with
 |box _=>exact key rfl
 |row _ _ _=>exact key rfl
 |map _ _ _=>exact key rfl
 |cel _ _=>cases hx
 |ice _ _=>cases hx
 |deep m t xs q=>obtain ⟨cs,bss,-,-,-,-,k,-⟩:=inv.objs s _ g;exact k
theorem bs_nodup (inv:Inv σ h w):∀{l:List Nat},l.Nodup→(∀s∈l,Own h s)→(l.flatMap σ.bs).Nodup
 |[],_,_=>by simp
 |s::r,n,o=>by
  simp only [List.nodup_cons] at n
  rw [List.flatMap_cons,List.nodup_append]
  refine ⟨bs_nodup1 inv (o s (by simp)),bs_nodup inv n.2 (fun i hi=>o i (by simp [hi])),fun a ha b hb e=>?_⟩
  subst e
  obtain ⟨s',hs',hb'⟩:=List.mem_flatMap.1 hb
  exact inv.inj s s' (o s (by simp)) (o s' (by simp [hs'])) (fun e=>n.1 (e▸hs')) a ha hb'
theorem row_own {m:Nat} {s el:Nat} {e:Ty} {ys:List e.den} (inv:Inv σ h w) (g:H.get s h=some (.row el e ys)) (he:el=tidOf m e) (hm:memT e=false):RepO m w (.sl e) (.sl (ys.map (enc e))) (σ.val s) (σ.bs s):=by
 obtain ⟨cs,hown,hrep⟩:=inv.objs s _ g
 subst he
 have:=RepO.sl (m:=m) e (ys.map (enc e)) (σ.val s) cs (List.replicate cs.length []) (by rw [List.length_map];exact hown) (fun x hx=>by obtain ⟨y,-,rfl⟩:=List.mem_map.1 hx;exact enc_length e y) (by simp) (fun p pv c bs hp hc hb=>by
  rw [←List.flatMap_def] at hp
  have hb':bs=[]:=by
   rw [List.getElem?_replicate] at hb
   split at hb
   ·exact (Option.some.inj hb).symm
   ·cases hb
  subst hb'
  refine RepP.own (hrep.at p pv c hp hc) fun es=>?_
  obtain ⟨y,-,hy⟩:=List.mem_flatMap.1 (List.mem_of_getElem? hp)
  exact enc_flat hm y pv hy es)
 rw [inv.bsok s _ g rfl]
 have hf:(List.replicate cs.length ([]:List Nat)).flatten=[]:=by simp
 rw [hf,List.append_nil] at this
 exact this
theorem deep_own {m:Nat} {s:Nat} {e:Ty} {ys:List e.den} (inv:Inv σ h w) (g:H.get s h=some (.deep m e ys none)):RepO m w (.sl e) (.sl (ys.map (enc e))) (σ.val s) (σ.bs s):=by
 obtain ⟨cs,bss,h1,h2,h3,h4,-⟩:=inv.objs s _ g
 rw [h4]
 exact .sl e (ys.map (enc e)) (σ.val s) cs bss (by rw [List.length_map];exact h1) (fun x hx=>by obtain ⟨y,-,rfl⟩:=List.mem_map.1 hx;exact enc_length e y) h2 (fun p pv c bs hp hc hb=>by
  rw [←List.flatMap_def] at hp
  exact h3 p pv c bs hp hc hb)
theorem absorb1_rep {m:Nat} {vw:View} {v a:AV} {l:List Nat} {c:Value} (e:absorb1 m vw v=some (a,l)) (hs:Shows vw h) (inv:Inv σ h w) (r:RepA σ h w v c):
  (∀t z p,toTy t a=some z→enc t z=[p]→RepO m w t p c (l.flatMap σ.bs))∧l.Nodup∧(∀s∈l,(∃x,vw s=some x)∧Own h s):=by
 unfold absorb1 at e
 split at e
 ·rename_i t' x
  obtain ⟨hf,e⟩:=cond_some e
  obtain ⟨rfl,rfl⟩:=Prod.mk.inj (Option.some.inj e)
  refine ⟨fun t z p hz hp=>?_,by simp,fun s hs=>by simp at hs⟩
  obtain ⟨rfl,rfl⟩:=toTy_tv hz
  cases t' with
  |bool=>simp [enc] at hp;subst hp;rw [repT_bool r];exact .bool _ _
  |int k=>simp [enc] at hp;subst hp;rw [repT_int r];exact .int _ _ _
  |str=>simp [enc] at hp;subst hp;rw [repT_str r];exact .str _ _
  |_=>cases hf
 ·obtain ⟨rfl,rfl⟩:=Prod.mk.inj (Option.some.inj e)
  refine ⟨fun t z p hz hp=>?_,by simp,fun s hs=>by simp at hs⟩
  obtain ⟨k,rfl,hz⟩:=toTy_nil hz
  have hz:z=([]:List k.den):=hz
  subst hz
  obtain rfl:p=.sl []:=by simpa [enc] using hp.symm
  have r:c=.slice none 0 0:=r
  subst r
  have:=RepO.sl (m:=m) (w:=w) k [] (.slice none 0 0) [] [] (World.ownsRow_nil w 0 (tidOf m k) (nCells k)) (by simp) rfl (fun p pv c bs hp=>by simp at hp)
  exact this
 ·rename_i s
  have fin:∀{e':Ty} {ys:List e'.den},RepO m w (.sl e') (.sl (ys.map (enc e'))) c (σ.bs s)→∀t z p,toTy t (.tv (.sl e') ys)=some z→enc t z=[p]→RepO m w t p c ([s].flatMap σ.bs):=by
   intro e' ys k t z p hz hp
   obtain ⟨rfl,rfl⟩:=toTy_tv hz
   have hp':p=.sl (List.map (enc e') z):=by simpa [enc] using hp.symm
   subst hp'
   simpa using k
  split at e
  ·rename_i el e' ys hg
   obtain ⟨hb,e⟩:=cond_some e
   obtain ⟨rfl,rfl⟩:=Prod.mk.inj (Option.some.inj e)
   simp only [Bool.and_eq_true,Bool.not_eq_true'] at hb
   have hgg:=hs _ _ hg
   have hc:c=σ.val s:=r.2 (live_of hgg)
   refine ⟨fin (by rw [hc];exact row_own inv hgg (nbeq_eq.1 hb.1) hb.2),by simp,fun i hi=>?_⟩
   obtain rfl:=List.mem_singleton.1 hi
   exact ⟨⟨_,hg⟩,own_row hgg⟩
  ·rename_i m' e' ys hg
   obtain ⟨hb,e2⟩:=cond_some e
   clear e
   obtain ⟨rfl,rfl⟩:=Prod.mk.inj (Option.some.inj e2)
   obtain rfl:=nbeq_eq.1 hb
   have hgg:=hs _ _ hg
   have hc:c=σ.val s:=r.2 (live_of hgg)
   refine ⟨fin (by rw [hc];exact deep_own inv hgg),by simp,fun i hi=>?_⟩
   obtain rfl:=List.mem_singleton.1 hi
   exact ⟨⟨_,hg⟩,own_deep hgg⟩
  ·cases e
 ·cases e
theorem vwDel_some {u:Upd} {vw:View} {s:Nat} {x:Obj} (e:vwDel u vw s=some x):vw s=some x∧u.any (fun p=>Nat.beq p.1 s)=false:=by
 unfold vwDel at e
 cases hc:u.any (fun p=>Nat.beq p.1 s) with
 |true=>rw [hc] at e;cases e
 |false=>rw [hc] at e;exact ⟨e,rfl⟩
theorem Shows.less {vw:View} (hs:Shows vw h) (u:Upd):Shows (vwDel u vw) h:=fun q y e=>hs q y (vwDel_some e).1
theorem delU_any {l:List Nat} {s:Nat} (e:(delU l).any (fun p=>Nat.beq p.1 s)=false):s∉l:=by
 intro hm
 have:(delU l).any (fun p=>Nat.beq p.1 s)=true:=List.any_eq_true.2 ⟨(s,none),List.mem_map.2 ⟨s,hm,rfl⟩,Nat.beq_refl s⟩
 rw [this] at e;cases e
theorem absorbL_rep (inv:Inv σ h w) {m:Nat}:∀{vs:List AV} {vw:View} {al:List AV} {l:List Nat} {cvs:List Value},absorbL m vw vs=some (al,l)→Shows vw h→RepAs σ h w vs cvs→
  ∃bss:List (List Nat),bss.length=cvs.length∧al.length=cvs.length∧(∀(j:Nat) (a:AV) (c:Value) (bs:List Nat),al[j]?=some a→cvs[j]?=some c→bss[j]?=some bs→∀t z p,toTy t a=some z→enc t z=[p]→RepO m w t p c bs)∧
   bss.flatten=l.flatMap σ.bs∧l.Nodup∧(∀s∈l,(∃x,vw s=some x)∧Own h s)
 |[],vw,_,_,[],e,hs,r=>by
  simp only [absorbL] at e
  obtain ⟨rfl,rfl⟩:=Prod.mk.inj (Option.some.inj e)
  exact ⟨[],rfl,rfl,fun j a c bs h=>by simp at h,rfl,by simp,fun s hs=>by simp at hs⟩
 |v::r,vw,_,_,c::cvs,e,hs,rr=>by
  simp only [absorbL] at e
  split at e
  ·rename_i a l1 h1
   split at e
   ·rename_i al l2 h2
    obtain ⟨rfl,rfl⟩:=Prod.mk.inj (Option.some.inj e)
    obtain ⟨k1,k2,k3⟩:=absorb1_rep h1 hs inv rr.1
    obtain ⟨bss,b1,b2,b3,b4,b5,b6⟩:=absorbL_rep inv h2 (hs.less _) rr.2
    refine ⟨l1.flatMap σ.bs::bss,by simp [b1],by simp [b2],fun j a' c' bs ha hc hb=>?_,by simp [b4],?_,fun s hs=>?_⟩
    ·match j,ha,hc,hb with
     |0,ha,hc,hb=>obtain rfl:=Option.some.inj ha;obtain rfl:=Option.some.inj hc;obtain rfl:=Option.some.inj hb;exact k1
     |j+1,ha,hc,hb=>exact b3 j a' c' bs ha hc hb
    ·rw [List.nodup_append]
     refine ⟨k2,b5,fun x hx y hy e=>?_⟩
     subst e
     obtain ⟨⟨z,hz⟩,-⟩:=b6 x hy
     exact delU_any (vwDel_some hz).2 hx
    ·rcases List.mem_append.1 hs with hs|hs
     ·exact k3 s hs
     ·obtain ⟨⟨z,hz⟩,ho⟩:=b6 s hs
      exact ⟨⟨z,(vwDel_some hz).1⟩,ho⟩
   ·cases e
  ·cases e
 |[],_,_,_,_::_,_,_,r=>r.elim
 |_::_,_,_,_,[],_,_,r=>r.elim
theorem delL_get {l:List Nat}:∀{h:H},(h.map (·.1)).Nodup→∀o,H.get o (delL l h)=if o∈l then none else H.get o h:=by
 induction l with
 |nil=>intro h _ o;simp [delL]
 |cons s r ih=>
  intro h n o
  simp only [delL]
  rw [ih (H.nodup_del s h n)]
  by_cases e:o=s
  ·subst e;rw [H.get_del_same o h n];simp
  ·rw [H.get_del_ne e];simp [e]
theorem delL_nod {l:List Nat}:∀{h:H},(h.map (·.1)).Nodup→((delL l h).map (·.1)).Nodup:=by
 induction l with
 |nil=>intro h n;exact n
 |cons s r ih=>intro h n;exact ih (H.nodup_del s h n)
theorem apply_delU {l:List Nat}:∀(h:H),H.apply h (delU l)=delL l h:=by
 induction l with
 |nil=>intro h;rfl
 |cons s r ih=>intro h;exact ih _
theorem absorb_change {w':World} (inv:Inv σ h w) (o0:Nat) (obj':Obj) (ls:List Nat) (nv:Value) (bs':List Nat) (h0:o0∉ls) (row:Option Nat) (hg:w.grownBy w' row)
  (hrow:∀b,row=some b→Own h o0∧b∈σ.bs o0) (hblk:∀b∈bs',(Own h o0∧b∈σ.bs o0)∨(∃s∈ls,Own h s∧b∈σ.bs s)∨(w.heap.size≤b∧b<w'.heap.size)) (hbs0:obj'.isDeep=false→bs'=(blk nv).toList)
  (hmen:∀o x,H.get o h=some x→o≠o0→o0∈x.ids→SameO σ (σ.setB o0 nv bs') h (H.put o0 obj' (delL ls h)) o0)
  (hobj:ObjRep (σ.setB o0 nv bs') (H.put o0 obj' (delL ls h)) w' o0 obj'):
  Ext σ h w (σ.setB o0 nv bs') (H.put o0 obj' (delL ls h)) w'∧Inv (σ.setB o0 nv bs') (H.put o0 obj' (delL ls h)) w'∧
   (∀a c,(o0∈AV.ids a→SameO σ (σ.setB o0 nv bs') h (H.put o0 obj' (delL ls h)) o0)→RepA σ h w a c→RepA (σ.setB o0 nv bs') (H.put o0 obj' (delL ls h)) w' a c):=by
 have hget:∀o,o≠o0→H.get o (H.put o0 obj' (delL ls h))=if o∈ls then none else H.get o h:=fun o ho=>by rw [H.get_put_ne _ ho,delL_get inv.nodup]
 refine changeG inv o0 obj' (fun o ho=>?_) (H.get_put_same _ _ _) (fun o ho=>Sg.setB_ne σ nv bs' ho) (fun o ho=>Sg.bsB_ne σ nv bs' ho) rfl (H.nodup_put _ _ _ (delL_nod inv.nodup)) hg.os hg.tape hg.output hg.size
  (fun b hb hn=>hg.block b hb fun e=>hn o0 (hrow b e.symm).1 (.inl rfl) (hrow b e.symm).2) (fun b hb=>?_) (fun d=>by rw [Sg.bsB_same,Sg.setB_same];exact hbs0 d) hmen hobj
 ·rw [hget o ho]
  by_cases e:o∈ls
  ·rw [if_pos e];exact .inr rfl
  ·rw [if_neg e];exact .inl rfl
 ·rw [Sg.bsB_same] at hb
  rcases hblk b hb with ⟨q1,q2⟩|⟨s,q1,q2,q3⟩|⟨q1,q2⟩
  ·exact ⟨.inl ⟨o0,q1,q2,.inl rfl⟩,Nat.lt_of_lt_of_le (inv.bslt o0 q1 b q2) hg.size⟩
  ·have hne:s≠o0:=fun e=>h0 (e▸q1)
   exact ⟨.inl ⟨s,q2,q3,.inr (by rw [hget s hne,if_pos q1])⟩,Nat.lt_of_lt_of_le (inv.bslt s q2 b q3) hg.size⟩
  ·exact ⟨.inr q1,q2⟩
end
end Go.Proofs.YtfdcjocallblcaaGreatDoor.Ev
