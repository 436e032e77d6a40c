/- One operation of the evaluator stands for the machine's: make, append, stores into rows, literals of structs, calls. Condition: what functions tell is sound. -/
import Derived.Test.YtfdcjocallblcaaGreatDoorEvJ
namespace Go.Proofs.YtfdcjocallblcaaGreatDoor.Ev
open Go
theorem zero1_rep {σ:Sg} {h:H} {w:World} {t:Ty} {a:AV} {v:Value} (e:zero1 t a=true) (r:RepA σ h w a v):∃p,enc t t.dflt=[p]∧RepP σ.fz w p v:=by
 unfold zero1 at e
 split at e
 ·simp only [Bool.and_eq_true] at e
  obtain rfl:=of_decide_eq_true e.1
  rename_i n
  have hn:n=(0:Int):=eq_of_beq e.2
  refine ⟨.int _ 0,rfl,?_⟩
  have:=r.1
  rw [hn] at this
  exact this
 ·rename_i b
  have hb:b=false:=by simpa using e
  refine ⟨.bool false,rfl,?_⟩
  have:=r.1
  rw [hb] at this
  exact this
 ·rename_i s
  have hs:=nbeq_eq.1 e
  refine ⟨.str ByteArray.empty,rfl,?_⟩
  have:=r.1
  have he:s=ByteArray.empty:=by
   apply ByteArray.ext
   apply Array.eq_empty_of_size_eq_zero
   exact hs
  rw [he] at this
  exact this
 ·have r:v=.slice none 0 0:=r
  subst r
  exact ⟨.sl [],rfl,.sl0 none 0⟩
 ·cases e
theorem zeros_rep {σ:Sg} {h:H} {w:World}:∀{ts:List Ty} {al:List AV} {vs:List Value},zeros ts al=true→RepAs σ h w al vs→RepPs σ.fz w (ts.flatMap fun t=>enc t t.dflt) vs
 |[],[],[],_,_=>trivial
 |t::ts,a::as',v::vs,e,r=>by
  simp only [zeros,Bool.and_eq_true] at e
  obtain ⟨p,hp,hr⟩:=zero1_rep e.1 r.1
  have:=zeros_rep e.2 r.2
  rw [List.flatMap_cons,hp]
  exact ⟨hr,this⟩
 |[],_::_,_,e,_=>by simp [zeros] at e
 |_::_,[],_,e,_=>by simp [zeros] at e
 |[],[],_::_,_,r=>r.elim
 |_::_,_::_,[],_,r=>r.elim
theorem zeroOk_rep {σ:Sg} {h:H} {w:World} {k:Ty} {al:List AV} {vs:List Value} (e:zeroOk k al=true) (r:RepAs σ h w al vs):RepPs σ.fz w (enc k k.dflt) vs:=by
 cases k with
 |st i=>
  have:=zeros_rep (ts:=fieldTys i) e r
  rcases i with _|_|_|_|_|_|i<;>exact this
 |_=>
  have:=zeros_rep e r
  simpa using this
theorem flatRep_get {α β:Type} (f:α→List β) (s:Nat) (d:α) (hs:(f d).length=s) (hp:0<s):∀(m i:Nat),i<m*s→((List.replicate m d).flatMap f)[i]?=(f d)[i%s]?
 |0,i,hi=>by simp at hi
 |m+1,i,hi=>by
  rw [List.replicate_succ,List.flatMap_cons]
  by_cases h:i<s
  ·rw [List.getElem?_append_left (by omega),Nat.mod_eq_of_lt h]
  ·rw [List.getElem?_append_right (by omega),hs,flatRep_get f s d hs hp m (i-s) (by rw [Nat.add_mul] at hi;omega)]
   rw [Nat.mod_eq_sub_mod (by omega:i≥s)]
theorem made_rep {fz:Nat→Prop} {w:World} {k:Ty} {z:Array Value} (hz:RepPs fz w (enc k k.dflt) z.toList) (hpos:1≤nCells k) (m:Nat):
  RepPs fz w ((List.replicate m k.dflt).flatMap (enc k)) (madeCells z (m*nCells k)).toList:=by
 have hzl:z.size=nCells k:=by rw [←Array.length_toList,←hz.length,enc_length]
 refine RepPs.mk ?_ fun i p v hp hv=>?_
 ·rw [flatMap_length (enc k) (nCells k) _ (fun x _=>enc_length k x),List.length_replicate,Array.length_toList,size_madeCells]
 ·rw [Array.getElem?_toList] at hv
  have hi:i<m*nCells k:=by
   have:=(Array.getElem?_eq_some_iff.1 hv).1
   rwa [size_madeCells] at this
  rw [flatRep_get (enc k) (nCells k) _ (enc_length k _) hpos m i hi] at hp
  have hmod:i%nCells k<z.size:=by rw [hzl];exact Nat.mod_lt _ hpos
  have hv':v=z[i%nCells k]:=by
   unfold madeCells at hv
   rw [Array.getElem?_map,Array.getElem?_range,if_pos hi] at hv
   simp only [Option.map_some,Option.some.injEq] at hv
   rw [←hv,hzl,getElem!_pos z (i%nCells k) hmod]
  refine hz.at (i%nCells k) p v hp ?_
  rw [Array.getElem?_toList,hv',Array.getElem?_eq_getElem hmod]
section
variable {E : Env} {o : Oper} {site : Nat} {vs : List AV} {h : H} {vw : View} {v : AV} {u : Upd} {ks : List Nat}
theorem sim_make {t:TypeId} {l c:Operand} {p q:AV} (ho:o.op=.makeSlice t l c)
  (hD:∀(m:Nat) (k:Ty) (n:Nat),deepM E t k=some m→elFits E t k=true→l=c→n≤lim→p=.tv i64 (n:Int)→Sim E.P o site [p,q] h (.row site) [(site,some (.deep m k (List.replicate n k.dflt) none))] []) (e:evMake E t l c site p pk=some (v,u,ks)):Sim E.P o site [p,q] h v u ks:=by
 unfold evMake at e
 split at e
 ·rename_i k hk
  replace e:=cond_some e
  obtain ⟨hf,e⟩:=e
  simp only [Bool.and_eq_true] at hf
  obtain ⟨hf,hlc⟩:=hf
  have hlc:l=c:=by
   unfold sameOpd at hlc
   split at hlc
   ·rw [nbeq_eq.1 hlc]
   ·simp only [Bool.and_eq_true] at hlc
    rw [of_decide_eq_true hlc.1,of_decide_eq_true hlc.2]
   ·cases hlc
  subst hlc
  have hff:=hf
  obtain ⟨el,inf,z,ht,hinf,hsz,hpos,hag,hby,-,hz,hzs,hzo⟩:=elFits_some hf
  split at e
  ·rename_i n
   replace e:=cond_some e
   obtain ⟨hb,e⟩:=e
   simp only [Bool.and_eq_true] at hb
   have h0:(0:Int)≤n:=of_decide_eq_true hb.1
   have h1:n≤((lim:Nat):Int):=of_decide_eq_true hb.2
   split at e
   ·rename_i m hm
    cases e
    obtain ⟨n0,rfl⟩:=Int.eq_ofNat_of_zero_le h0
    exact hD m k n0 hm hff rfl (Int.ofNat_le.1 h1) rfl
   cases e
   refine sim_newRow (u:=[]) (e:=elD E t) hpos (fun σ w a inv r=>?_)
   rw [elD_of ht]
   simp only [ho,Op.operands,List.map_cons,List.map_nil] at r
   have hn:=repT_int r.1
   obtain ⟨m,rfl⟩:=Int.eq_ofNat_of_zero_le h0
   have hm:m≤lim:=Int.ofNat_le.1 h1
   have hbytes:(inf.bytes:Int)*(m:Int)≤281474976710656:=by
    have:inf.bytes*m≤128*lim:=Nat.mul_le_mul hby hm
    have h2:(128*lim:Nat)≤281474976710656:=by decide
    have h3:((inf.bytes*m:Nat):Int)≤281474976710656:=by omega
    rwa [Int.natCast_mul] at h3
   have hrun:=run_make (P:=E.P) w t el inf z ht hinf hz .i64 .i64 m m (by omega) (Int.le_refl _) hbytes (by unfold lim at hm;omega)
   rw [Int.toNat_natCast,hsz] at hrun
   refine ⟨σ.fz,w.alloc (.cells (madeCells z.cells (m*nCells k)) el),.slice (some ⟨w.heap.size,0,none⟩) m m,(madeCells z.cells (m*nCells k)).toList,?_,Coed.refl inv,World.grownBy_alloc w _ none,fun b hb=>by simp [blk] at hb;omega,?_,?_⟩
   ·simp only [execOp,ho,hn]
    simp [hrun]
   ·have hl:(List.replicate (Int.toNat (m:Int)) k.dflt).length=m:=by simp
    rw [hl]
    refine ⟨by rw [Array.length_toList,size_madeCells],.inr ⟨w.heap.size,m,_,rfl,Nat.zero_le _,heap_alloc_new w _,Nat.le_refl _,by unfold maxLen;unfold lim at hm;omega,size_madeCells _ _,?_⟩⟩
    rw [List.take_of_length_le (by rw [Array.length_toList,size_madeCells];exact Nat.le_refl _)]
   ·have:=made_rep (fz:=σ.fz) (w:=w) (k:=k) (z:=z.cells) (zeroOk_rep (h:=h) hzo (valAVs_rep _)) hpos m
    simpa using this
  ·cases e
 ·cases e
end
end Go.Proofs.YtfdcjocallblcaaGreatDoor.Ev
