/- What abstract values stand for in memory, and that this lasts. No conditions; the relation and its lemmas. -/
import Derived.Test.YtfdcjocallblcaaGreatDoorEvA
import Derived.Laws.AppendOwn
import Derived.Below
namespace Go.Proofs.YtfdcjocallblcaaGreatDoor.Ev
open Go
inductive PV where
 |bool (b:Bool)|int (k:IntKind) (n:Int)|str (s:ByteArray)|sl (es:List (List PV))
mutual
def encTree:Tree→List PV
 |.mk o n ps=>[.int .i64 o,.int .i64 n,.sl (encTrees ps)]
def encTrees:List Tree→List (List PV)
 |[]=>[]
 |t::r=>encTree t::encTrees r
end
theorem encTrees_eq (l:List Tree):encTrees l=l.map encTree:=by
 induction l with
 |nil=>rfl
 |cons t r ih=>simp [encTrees,ih]
def enc:(t:Ty)→t.den→List PV
 |.bool,b=>[.bool b]
 |.int k,n=>[.int k n]
 |.str,s=>[.str s]
 |.sl t,xs=>[.sl (List.map (enc t) xs)]
 |.st 0,m=>[.int .i64 (Move.act m),.int .i64 (Move.to m)]
 |.st 1,x=>encTree x
 |.st 2,g=>[.sl (List.map (fun r=>[.sl (List.map (fun m:Move=>[.int .i64 m.act,.int .i64 m.to]) r)]) (Graph.moves g))]
 |.st 3,s=>.int .i64 (Step.act s)::encTree (Step.thn s)
 |.st 4,d=>[.sl (List.map (fun n=>[.int .i64 n]) (Duo.a d)),.sl (List.map (fun n=>[.int .i64 n]) (Duo.b d)),.sl (List.map (fun n=>[.int .i64 n]) (Duo.w d))]
 |.st 5,d=>[.sl (List.map (fun n=>[.int .i64 n]) (Pair.w d)),.sl (List.map (fun n=>[.bool n]) (Pair.a d)),.sl (List.map (fun n=>[.bool n]) (Pair.b d))]
 |.st (_+6),_=>[]
theorem encTree_length (t:Tree):(encTree t).length=3:=by cases t;rfl
theorem enc_length:∀(t:Ty) (x:t.den),(enc t x).length=nCells t
 |.bool,_=>rfl|.int _,_=>rfl|.str,_=>rfl|.sl _,_=>rfl
 |.st 0,_=>rfl|.st 1,x=>encTree_length x|.st 2,_=>rfl
 |.st 3,s=>by simp [enc,encTree_length,nCells,fieldTys]
 |.st 4,_=>rfl|.st 5,_=>rfl|.st (_+6),_=>rfl
inductive RepP (fz:Nat→Prop) (w:World):PV→Value→Prop
 |bool (b:Bool):RepP fz w (.bool b) (.bool b)
 |int (k:IntKind) (n:Int):RepP fz w (.int k n) (.int k n)
 |str (s:ByteArray):RepP fz w (.str s) (.string s)
 |sl0 (a:Option Addr) (c:Nat):RepP fz w (.sl []) (.slice a 0 c)
 |sl (es:List (List PV)) (b o z cap:Nat) (c:Nat→Nat→Value) (hcap:es.length≤cap) (hfz:fz b) (hz:∀e∈es,e.length=z)
   (hc:∀i j,i<es.length→j<z→w.cell? ⟨b,o+i*z+j,none⟩=some (c i j))
   (hr:∀i (hi:i<es.length) j (hj:j<(es[i]).length),RepP fz w ((es[i])[j]) (c i j)):
   RepP fz w (.sl es) (.slice (some ⟨b,o,none⟩) es.length cap)
theorem RepP.mono {fz fz':Nat→Prop} {w w':World} (h1:∀b,fz b→fz' b) (h2:∀b,fz b→w'.heap[b]?=w.heap[b]?) {p:PV} {v:Value} (h:RepP fz w p v):RepP fz' w' p v:=by
 induction h with
 |bool b=>exact .bool b
 |int k n=>exact .int k n
 |str s=>exact .str s
 |sl0 a c=>exact .sl0 a c
 |sl es b o z cap c hcap hfz hz hc hr ih=>
  exact .sl es b o z cap c hcap (h1 b hfz) hz (fun i j hi hj=>(World.cell?_of_block (h2 b hfz)).trans (hc i j hi hj)) ih
theorem RepP.oneCell {fz:Nat→Prop} {w:World} {p:PV} {v:Value} (h:RepP fz w p v):v.oneCell'=true:=by
 cases h<;>rfl
def RepPs (fz:Nat→Prop) (w:World):List PV→List Value→Prop
 |[],[]=>True
 |p::ps,v::vs=>RepP fz w p v∧RepPs fz w ps vs
 |_,_=>False
theorem RepPs.mono {fz fz':Nat→Prop} {w w':World} (h1:∀b,fz b→fz' b) (h2:∀b,fz b→w'.heap[b]?=w.heap[b]?):∀{p:List PV} {v:List Value},RepPs fz w p v→RepPs fz' w' p v
 |[],[],_=>trivial
 |_::_,_::_,h=>⟨h.1.mono h1 h2,RepPs.mono h1 h2 h.2⟩
 |[],_::_,h=>h.elim
 |_::_,[],h=>h.elim
def RepT (fz:Nat→Prop) (w:World) (t:Ty) (x:t.den) (v:Value):Prop:=
 match t with
 |.st i=>∃cs:Array Value,v=.agg cs∧RepPs fz w (enc (.st i) x) cs.toList
 |t=>RepPs fz w (enc t x) [v]
theorem RepT.mono {fz fz':Nat→Prop} {w w':World} (h1:∀b,fz b→fz' b) (h2:∀b,fz b→w'.heap[b]?=w.heap[b]?) {t:Ty} {x:t.den} {v:Value} (h:RepT fz w t x v):RepT fz' w' t x v:=by
 cases t with
 |st i=>obtain ⟨cs,rfl,hc⟩:=h;exact ⟨cs,rfl,RepPs.mono h1 h2 hc⟩
 |_=>exact RepPs.mono h1 h2 h
structure Sg where
 val:Nat→Value
 fz:Nat→Prop
 bs:Nat→List Nat
def Live (h:H) (o:Nat):Prop:=H.get o h≠none
def Obj.isIce:Obj→Bool
 |.ice _ _=>true
 |.cel _ _=>true
 |_=>false
def Own (h:H) (o:Nat):Prop:=∃x,H.get o h=some x∧x.isIce=false
theorem Own.live {h:H} {o:Nat} (l:Own h o):Live h o:=by obtain ⟨x,g,-⟩:=l;unfold Live;rw [g];simp
theorem own_box {h:H} {o:Nat} {cs:List AV} (g:H.get o h=some (.box cs)):Own h o:=⟨_,g,rfl⟩
theorem own_row {h:H} {o el:Nat} {t:Ty} {xs:List t.den} (g:H.get o h=some (.row el t xs)):Own h o:=⟨_,g,rfl⟩
theorem own_eq {h h':H} {o:Nat} (e:H.get o h'=H.get o h):Own h' o↔Own h o:=by unfold Own;rw [e]
def Obj.info:Obj→Option (Ty×Nat)
 |.row _ t xs=>some (t,xs.length)
 |.deep _ t xs _=>some (t,xs.length)
 |_=>none
mutual
def RepA (σ:Sg) (h:H) (w:World):AV→Value→Prop
 |.any,_=>True
 |.und,v=>v=undef
 |.nil,v=>v=.slice none 0 0
 |.tv t x,v=>RepT σ.fz w t x v
 |.ptr o off,v=>v.oneCell'=true∧(Live h o→∃b,σ.val o=.pointer (some ⟨b,0,none⟩)∧v=.pointer (some ⟨b,off,none⟩))
 |.pel o i off,v=>v.oneCell'=true∧∀x t l,H.get o h=some x→x.info=some (t,l)→i<l∧∃b n c,σ.val o=.slice (some ⟨b,0,none⟩) n c∧v=.pointer (some ⟨b,i*nCells t+off,none⟩)
 |.imp t x off,v=>∃b o0,v=.pointer (some ⟨b,o0+off,none⟩)∧σ.fz b∧∃cs:List Value,RepPs σ.fz w (enc t x) cs∧∀j c,cs[j]?=some c→w.cell? ⟨b,o0+j,none⟩=some c
 |.row o,v=>v.oneCell'=true∧(Live h o→v=σ.val o)
 |.sub _ _ _,_=>False
 |.mp o,v=>v.oneCell'=true∧(Live h o→v=σ.val o)
 |.fn f cs,v=>∃cv:Array Value,v=.func (.func f) #[] cv∧RepAs σ h w cs cv.toList
 |.imf f cs,v=>∃(b o0:Nat) (cv:Array Value),v=.pointer (some ⟨b,o0,none⟩)∧σ.fz b∧w.cell? ⟨b,o0,none⟩=some (.func (.func f) #[] cv)∧RepAs σ h w cs cv.toList
 |.agg cs,v=>∃cv:Array Value,v=.agg cv∧RepAs σ h w cs cv.toList
 |.tup cs,v=>∃cv:Array Value,v=.tuple cv∧RepAs σ h w cs cv.toList
def RepAs (σ:Sg) (h:H) (w:World):List AV→List Value→Prop
 |[],[]=>True
 |a::l,v::vs=>RepA σ h w a v∧RepAs σ h w l vs
 |_,_=>False
end
def SameO (σ σ':Sg) (h h':H) (o:Nat):Prop:=
 H.get o h'=none∨(Live h o∧σ'.val o=σ.val o∧∀x' q,H.get o h'=some x'→x'.info=some q→∃x,H.get o h=some x∧x.info=some q)
mutual
theorem RepA.mono {σ σ':Sg} {h h':H} {w w':World} (h1:∀b,σ.fz b→σ'.fz b) (h2:∀b,σ.fz b→w'.heap[b]?=w.heap[b]?):∀(a:AV) (v:Value),(∀o∈a.ids,SameO σ σ' h h' o)→RepA σ h w a v→RepA σ' h' w' a v
 |.any,_,_,_=>trivial
 |.und,_,_,r=>r
 |.nil,_,_,r=>r
 |.tv _ _,_,_,r=>RepT.mono h1 h2 r
 |.ptr o off,v,s,r=>by
  refine ⟨r.1,fun l=>?_⟩
  rcases s o (by simp [AV.ids]) with s|⟨l',s,-⟩
  ·exact absurd s l
  ·rw [s];exact r.2 l'
 |.pel o i off,v,s,r=>by
  refine ⟨r.1,fun x t l g hx=>?_⟩
  rcases s o (by simp [AV.ids]) with s|⟨l',s,k⟩
  ·rw [s] at g;cases g
  ·obtain ⟨x',g',hl⟩:=k x _ g hx
   rw [s];exact r.2 x' t l g' hl
 |.imp t x off,v,_,r=>by
  obtain ⟨b,o0,hv,hf,cs,hc,hcell⟩:=r
  exact ⟨b,o0,hv,h1 b hf,cs,RepPs.mono h1 h2 hc,fun j c hj=>(World.cell?_of_block (h2 b hf)).trans (hcell j c hj)⟩
 |.row o,v,s,r=>by
  refine ⟨r.1,fun l=>?_⟩
  rcases s o (by simp [AV.ids]) with s|⟨l',s,-⟩
  ·exact absurd s l
  ·rw [s];exact r.2 l'
 |.sub _ _ _,_,_,r=>r
 |.mp o,v,s,r=>by
  refine ⟨r.1,fun l=>?_⟩
  rcases s o (by simp [AV.ids]) with s|⟨l',s,-⟩
  ·exact absurd s l
  ·rw [s];exact r.2 l'
 |.fn f cs,v,s,r=>by
  obtain ⟨cv,hv,hc⟩:=r
  exact ⟨cv,hv,RepAs.mono h1 h2 cs _ s hc⟩
 |.imf f cs,v,s,r=>by
  obtain ⟨b,o0,cv,hv,hf,hw,hc⟩:=r
  exact ⟨b,o0,cv,hv,h1 b hf,(World.cell?_of_block (h2 b hf)).trans hw,RepAs.mono h1 h2 cs _ s hc⟩
 |.agg cs,v,s,r=>by
  obtain ⟨cv,hv,hc⟩:=r
  exact ⟨cv,hv,RepAs.mono h1 h2 cs _ s hc⟩
 |.tup cs,v,s,r=>by
  obtain ⟨cv,hv,hc⟩:=r
  exact ⟨cv,hv,RepAs.mono h1 h2 cs _ s hc⟩
theorem RepAs.mono {σ σ':Sg} {h h':H} {w w':World} (h1:∀b,σ.fz b→σ'.fz b) (h2:∀b,σ.fz b→w'.heap[b]?=w.heap[b]?):∀(a:List AV) (v:List Value),(∀o∈AV.idsL a,SameO σ σ' h h' o)→RepAs σ h w a v→RepAs σ' h' w' a v
 |[],[],_,r=>r
 |a::l,v::vs,s,r=>⟨RepA.mono h1 h2 a v (fun o ho=>s o (by simp [AV.idsL,ho])) r.1,RepAs.mono h1 h2 l vs (fun o ho=>s o (by simp [AV.idsL,ho])) r.2⟩
 |[],_::_,_,r=>r.elim
 |_::_,[],_,r=>r.elim
end
mutual
theorem RepA.kill {σ:Sg} {h:H} {w:World} (k:Nat):∀(a:AV) (v:Value),RepA σ h w a v→RepA σ h w (a.kill k) v
 |.any,_,r=>r|.und,_,r=>r|.nil,_,r=>r|.tv _ _,_,r=>r|.imp _ _ _,_,r=>r
 |.ptr o off,v,r=>by simp only [AV.kill];cases Nat.beq o k<;>first|exact r|trivial
 |.pel o i off,v,r=>by simp only [AV.kill];cases Nat.beq o k<;>first|exact r|trivial
 |.row o,v,r=>by simp only [AV.kill];cases Nat.beq o k<;>first|exact r|trivial
 |.sub _ _ _,_,r=>r.elim
 |.mp o,v,r=>by simp only [AV.kill];cases Nat.beq o k<;>first|exact r|trivial
 |.fn f cs,v,r=>by obtain ⟨cv,hv,hc⟩:=r;exact ⟨cv,hv,RepAs.kill k cs _ hc⟩
 |.imf f cs,v,r=>by obtain ⟨b,o0,cv,hv,hf,hw,hc⟩:=r;exact ⟨b,o0,cv,hv,hf,hw,RepAs.kill k cs _ hc⟩
 |.agg cs,v,r=>by obtain ⟨cv,hv,hc⟩:=r;exact ⟨cv,hv,RepAs.kill k cs _ hc⟩
 |.tup cs,v,r=>by obtain ⟨cv,hv,hc⟩:=r;exact ⟨cv,hv,RepAs.kill k cs _ hc⟩
theorem RepAs.kill {σ:Sg} {h:H} {w:World} (k:Nat):∀(a:List AV) (v:List Value),RepAs σ h w a v→RepAs σ h w (AV.killL k a) v
 |[],[],r=>r
 |a::l,v::vs,r=>⟨RepA.kill k a v r.1,RepAs.kill k l vs r.2⟩
 |[],_::_,r=>r.elim
 |_::_,[],r=>r.elim
end
theorem nbeq_eq {a b:Nat}:Nat.beq a b=true↔a=b:=⟨Nat.eq_of_beq_eq_true,fun h=>by subst h;exact Nat.beq_refl a⟩
theorem nbeq_ne {a b:Nat}:Nat.beq a b=false↔a≠b:=by
 rw [←Bool.not_eq_true,nbeq_eq]
mutual
theorem AV.ids_kill (k:Nat):∀(a:AV),∀o∈(a.kill k).ids,o∈a.ids∧o≠k
 |.any=>by simp [AV.kill,AV.ids]|.und=>by simp [AV.kill,AV.ids]|.nil=>by simp [AV.kill,AV.ids]|.tv _ _=>by simp [AV.kill,AV.ids]|.imp _ _ _=>by simp [AV.kill,AV.ids]
 |.ptr o off=>by simp only [AV.kill];cases e:Nat.beq o k<;>simp [AV.ids];exact nbeq_ne.1 e
 |.pel o i off=>by simp only [AV.kill];cases e:Nat.beq o k<;>simp [AV.ids];exact nbeq_ne.1 e
 |.row o=>by simp only [AV.kill];cases e:Nat.beq o k<;>simp [AV.ids];exact nbeq_ne.1 e
 |.sub o _ _=>by simp only [AV.kill];cases e:Nat.beq o k<;>simp [AV.ids];exact nbeq_ne.1 e
 |.mp o=>by simp only [AV.kill];cases e:Nat.beq o k<;>simp [AV.ids];exact nbeq_ne.1 e
 |.fn f cs=>AV.idsL_kill k cs
 |.imf f cs=>AV.idsL_kill k cs
 |.agg cs=>AV.idsL_kill k cs
 |.tup cs=>AV.idsL_kill k cs
theorem AV.idsL_kill (k:Nat):∀(a:List AV),∀o∈AV.idsL (AV.killL k a),o∈AV.idsL a∧o≠k
 |[]=>by simp [AV.killL,AV.idsL]
 |a::l=>by
  intro o ho
  simp only [AV.killL,AV.idsL,List.mem_append] at ho⊢
  rcases ho with ho|ho
  ·have:=AV.ids_kill k a o ho;exact ⟨.inl this.1,this.2⟩
  ·have:=AV.idsL_kill k l o ho;exact ⟨.inr this.1,this.2⟩
end
def blk:Value→Option Nat
 |.pointer (some a)=>some a.block
 |.slice (some a) _ _=>some a.block
 |.map r=>r
 |_=>none
inductive RepO (m:Nat) (w:World):Ty→PV→Value→List Nat→Prop
 |bool (t:Ty) (b:Bool):RepO m w t (.bool b) (.bool b) []
 |int (t:Ty) (k:IntKind) (n:Int):RepO m w t (.int k n) (.int k n) []
 |str (t:Ty) (s:ByteArray):RepO m w t (.str s) (.string s) []
 |sl (t:Ty) (es:List (List PV)) (v:Value) (cs:List Value) (bss:List (List Nat)) (hown:w.ownsRow 0 (tidOf m t) (nCells t) v es.length cs)
   (hz:∀e∈es,e.length=nCells t) (hb:bss.length=cs.length)
   (hr:∀(p:Nat) (pv:PV) (c:Value) (bs:List Nat),es.flatten[p]?=some pv→cs[p]?=some c→bss[p]?=some bs→RepO m w (cellTy t (p%nCells t)) pv c bs):
   RepO m w (.sl t) (.sl es) v ((blk v).toList++bss.flatten)
def holeAt (t:Ty) (hole:Option (Nat×Nat×AV)) (p:Nat):Option AV:=match hole with
 |some (i,off,v)=>if p=i*nCells t+off then some v else none
 |none=>none
def keyV:(k:Ty)→k.den→Value
 |.int q,n=>.int q n
 |.str,s=>.string s
 |_,_=>undef
def MapRep (fz:Nat→Prop) (w:World) (k v:Ty):List (k.den×v.den)→List MapEntry→Prop
 |[],[]=>True
 |e::es,m::ms=>m.key=keyV k e.1∧RepT fz w v e.2 m.val∧MapRep fz w k v es ms
 |_,_=>False
theorem MapRep.mono {fz fz':Nat→Prop} {w w':World} {k v:Ty} (h1:∀b,fz b→fz' b) (h2:∀b,fz b→w'.heap[b]?=w.heap[b]?):∀{es:List (k.den×v.den)} {ms:List MapEntry},MapRep fz w k v es ms→MapRep fz' w' k v es ms
 |[],[],_=>trivial
 |_::_,_::_,h=>⟨h.1,RepT.mono h1 h2 h.2.1,MapRep.mono h1 h2 h.2.2⟩
 |[],_::_,h=>h.elim
 |_::_,[],h=>h.elim
def ObjRep (σ:Sg) (h:H) (w:World) (o:Nat):Obj→Prop
 |.box cs=>∃b vs ty,σ.val o=.pointer (some ⟨b,0,none⟩)∧w.heap[b]?=some (.cells vs ty (0,0))∧RepAs σ h w cs vs.toList
 |.row e t xs=>∃cs,w.ownsRow 0 e (nCells t) (σ.val o) xs.length cs∧RepPs σ.fz w (xs.flatMap (enc t)) cs
 |.map k v es=>∃b arr clock,σ.val o=.map (some b)∧w.heap[b]?=some (.map arr clock)∧MapRep σ.fz w k v es arr.toList
 |.ice t xs=>RepP σ.fz w (.sl (xs.map (enc t))) (σ.val o)
 |.cel t x=>∃b v,σ.val o=.pointer (some ⟨b,0,none⟩)∧σ.fz b∧w.cell? ⟨b,0,none⟩=some v∧RepPs σ.fz w (enc t x) [v]
 |.deep m t xs hole=>∃(cs:List Value) (bss:List (List Nat)),w.ownsRow 0 (tidOf m t) (nCells t) (σ.val o) xs.length cs∧bss.length=cs.length∧
   (∀(p:Nat) (pv:PV) (c:Value) (bs:List Nat),(xs.flatMap (enc t))[p]?=some pv→cs[p]?=some c→bss[p]?=some bs→
    match holeAt t hole p with
    |none=>RepO m w (cellTy t (p%nCells t)) pv c bs
    |some v=>bs=[]∧c.oneCell'=true∧RepA σ h w v c)∧
   σ.bs o=(blk (σ.val o)).toList++bss.flatten∧(σ.bs o).Nodup∧(∀i off v,hole=some (i,off,v)→i<xs.length)
def Obj.isDeep:Obj→Bool
 |.deep _ _ _ _=>true
 |.ice _ _=>true
 |.cel _ _=>true
 |_=>false
theorem own_deep {h:H} {o m:Nat} {t:Ty} {xs:List t.den} {q:Option (Nat×Nat×AV)} (g:H.get o h=some (.deep m t xs q)):Own h o:=⟨_,g,rfl⟩
structure Inv (σ:Sg) (h:H) (w:World):Prop where
 objs:∀o x,H.get o h=some x→ObjRep σ h w o x
 nofz:∀o,Own h o→∀b,b∈σ.bs o→¬σ.fz b
 inj:∀o o',Own h o→Own h o'→o≠o'→∀b,b∈σ.bs o→b∉σ.bs o'
 fzlt:∀b,σ.fz b→b<w.heap.size
 nodup:(h.map (·.1)).Nodup
 bsok:∀o x,H.get o h=some x→x.isDeep=false→σ.bs o=(blk (σ.val o)).toList
 bslt:∀o,Own h o→∀b,b∈σ.bs o→b<w.heap.size
theorem Inv.mem {σ:Sg} {h:H} {w:World} (inv:Inv σ h w) {o:Nat} {x:Obj} (g:H.get o h=some x) (d:x.isDeep=false) {b:Nat} (e:blk (σ.val o)=some b):b∈σ.bs o:=by
 rw [inv.bsok o x g d,e];exact List.mem_singleton.2 rfl
theorem Inv.blk {σ:Sg} {h:H} {w:World} (inv:Inv σ h w) {o:Nat} {x:Obj} (g:H.get o h=some x) (d:x.isDeep=false) {b:Nat} (m:b∈σ.bs o):blk (σ.val o)=some b:=by
 rw [inv.bsok o x g d] at m
 cases e:Ev.blk (σ.val o) with
 |none=>rw [e] at m;simp at m
 |some c=>rw [e] at m;simp at m;rw [m]
theorem owns_same {w w':World} {e z n:Nat} {v:Value} {cs:List Value} (ho:w.ownsRow 0 e z v n cs) (hs:∀b,blk v=some b→w'.heap[b]?=w.heap[b]?):w'.ownsRow 0 e z v n cs:=by
 refine ⟨ho.1,?_⟩
 rcases ho.2 with h|⟨g,cap,cur,hv,h0,hh,h1,h2,h3,h4⟩
 ·exact .inl h
 ·exact .inr ⟨g,cap,cur,hv,h0,by rw [hs g (by rw [hv];rfl)];exact hh,h1,h2,h3,h4⟩
theorem RepO.mono {m:Nat} {w w':World} {t:Ty} {p:PV} {v:Value} {bs:List Nat} (r:RepO m w t p v bs):(∀b∈bs,w'.heap[b]?=w.heap[b]?)→RepO m w' t p v bs:=by
 induction r with
 |bool t b=>exact fun _=>.bool t b
 |int t k n=>exact fun _=>.int t k n
 |str t s=>exact fun _=>.str t s
 |sl t es v cs bss hown hz hb hr ih=>
  intro hs
  refine .sl t es v cs bss (owns_same hown fun b hb=>hs b (List.mem_append_left _ (by rw [hb];simp))) hz hb fun p pv c bs h1 h2 h3=>ih p pv c bs h1 h2 h3 fun b hb=>hs b (List.mem_append_right _ (List.mem_flatten.2 ⟨bs,List.mem_of_getElem? h3,hb⟩))
theorem RepO.oneCell {m:Nat} {w:World} {t:Ty} {p:PV} {v:Value} {bs:List Nat} (r:RepO m w t p v bs):v.oneCell'=true:=by
 cases r with
 |sl t es v cs bss hown=>
  rcases hown.2 with ⟨h,-⟩|⟨g,cap,cur,h,-⟩<;>(rw [h];rfl)
 |_=>rfl
theorem deep_mono {σ σ':Sg} {h h':H} {w w':World} {o m:Nat} {t:Ty} {xs:List t.den} {hole:Option (Nat×Nat×AV)} (r:ObjRep σ h w o (.deep m t xs hole)) (hv:σ'.val o=σ.val o) (hbs:σ'.bs o=σ.bs o)
  (hs:∀b∈σ.bs o,w'.heap[b]?=w.heap[b]?) (hh:∀i off v c,hole=some (i,off,v)→RepA σ h w v c→RepA σ' h' w' v c):ObjRep σ' h' w' o (.deep m t xs hole):=by
 obtain ⟨cs,bss,h1,h2,h3,h4,h5,h5'⟩:=r
 refine ⟨cs,bss,by rw [hv];exact owns_same h1 fun b hb=>hs b (by rw [h4];exact List.mem_append_left _ (by rw [hb];simp)),h2,fun p pv c bs hp hc hb=>?_,by rw [hbs,hv];exact h4,by rw [hbs];exact h5,h5'⟩
 have h6:=h3 p pv c bs hp hc hb
 cases hq:holeAt t hole p with
 |none=>
  rw [hq] at h6
  exact RepO.mono h6 fun b hb'=>hs b (by rw [h4];exact List.mem_append_right _ (List.mem_flatten.2 ⟨bs,List.mem_of_getElem? hb,hb'⟩))
 |some v=>
  rw [hq] at h6
  obtain ⟨k1,k2,k3⟩:=h6
  refine ⟨k1,k2,?_⟩
  unfold holeAt at hq
  split at hq
  ·rename_i i off v'
   split at hq
   ·obtain rfl:=Option.some.inj hq
    exact hh i off _ c rfl k3
   ·cases hq
  ·cases hq
theorem map_mono {σ σ':Sg} {h h':H} {w w':World} {o o':Nat} {k v:Ty} {es:List (k.den×v.den)} (r:ObjRep σ h w o (.map k v es)) (hv:σ'.val o'=σ.val o) (h1:∀b,σ.fz b→σ'.fz b)
  (h2:∀b,σ.fz b→w'.heap[b]?=w.heap[b]?) (hs:∀b,blk (σ.val o)=some b→w'.heap[b]?=w.heap[b]?):ObjRep σ' h' w' o' (.map k v es):=by
 obtain ⟨b,arr,clock,q1,q2,q3⟩:=r
 exact ⟨b,arr,clock,by rw [hv];exact q1,by rw [hs b (by rw [q1];rfl)];exact q2,MapRep.mono h1 h2 q3⟩
theorem cel_mono {σ σ':Sg} {h h':H} {w w':World} {o o':Nat} {t:Ty} {x:t.den} (r:ObjRep σ h w o (.cel t x)) (hv:σ'.val o'=σ.val o) (h1:∀b,σ.fz b→σ'.fz b)
  (h2:∀b,σ.fz b→w'.heap[b]?=w.heap[b]?):ObjRep σ' h' w' o' (.cel t x):=by
 obtain ⟨b,v,q1,q2,q3,q4⟩:=r
 exact ⟨b,v,by rw [hv];exact q1,h1 b q2,(World.cell?_of_block (h2 b q2)).trans q3,RepPs.mono h1 h2 q4⟩
theorem cel_imp {σ:Sg} {h:H} {w:World} {o off:Nat} {t:Ty} {x:t.den} {v:Value} (r:ObjRep σ h w o (.cel t x)) (hv:∃b,σ.val o=.pointer (some ⟨b,0,none⟩)∧v=.pointer (some ⟨b,off,none⟩)):RepA σ h w (.imp t x off) v:=by
 obtain ⟨b,c,q1,q2,q3,q4⟩:=r
 obtain ⟨b',h1,h2⟩:=hv
 rw [q1] at h1
 obtain rfl:b=b':=by simpa using h1
 refine ⟨b,0,by rw [h2,Nat.zero_add],q2,[c],q4,fun j d hj=>?_⟩
 match j,hj with
 |0,hj=>
  obtain rfl:=Option.some.inj hj
  exact q3
structure Ext (σ:Sg) (h:H) (w:World) (σ':Sg) (h':H) (w':World):Prop where
 os:w'.os=w.os
 tape:w'.tape=w.tape
 output:w'.output=w.output
 size:w.heap.size≤w'.heap.size
 fz:∀b,σ.fz b→σ'.fz b
 blocks:∀b,b<w.heap.size→(∀o,Own h o→b∉σ.bs o)→w'.heap[b]?=w.heap[b]?
 fznew:∀b,σ'.fz b→σ.fz b∨(∃o,Own h o∧b∈σ.bs o)∨w.heap.size≤b
 live:∀o b,Own h' o→b∈σ'.bs o→(∃o',Own h o'∧b∈σ.bs o')∨w.heap.size≤b
theorem Ext.refl (σ:Sg) (h:H) (w:World):Ext σ h w σ h w:=
 ⟨rfl,rfl,rfl,Nat.le_refl _,fun _ h=>h,fun _ _ _=>rfl,fun _ h=>.inl h,fun o b l e=>.inl ⟨o,l,e⟩⟩
theorem Ext.trans {σ σ' σ'':Sg} {h h' h'':H} {w w' w'':World} (e:Ext σ h w σ' h' w') (k:Ext σ' h' w' σ'' h'' w''):Ext σ h w σ'' h'' w'' where
 os:=k.os.trans e.os
 tape:=k.tape.trans e.tape
 output:=k.output.trans e.output
 size:=Nat.le_trans e.size k.size
 fz b hb:=k.fz b (e.fz b hb)
 blocks b hb hn:=by
  rw [k.blocks b (Nat.lt_of_lt_of_le hb e.size) ?_,e.blocks b hb hn]
  intro o l eb
  rcases e.live o b l eb with ⟨o',l',eb'⟩|h
  ·exact hn o' l' eb'
  ·omega
 fznew b hb:=by
  rcases k.fznew b hb with h|⟨o,l,eb⟩|h
  ·exact e.fznew b h
  ·rcases e.live o b l eb with h|h
   ·exact .inr (.inl h)
   ·exact .inr (.inr h)
  ·exact .inr (.inr (Nat.le_trans e.size h))
 live o b l eb:=by
  rcases k.live o b l eb with ⟨o',l',eb'⟩|h
  ·exact e.live o' b l' eb'
  ·exact .inr (Nat.le_trans e.size h)
theorem H.get_put_same (o:Nat) (x:Obj):∀h:H,H.get o (H.put o x h)=some x
 |[]=>by simp [H.put,H.get]
 |(i,y)::r=>by
  simp only [H.put]
  cases e:Nat.beq i o
  ·simp only [cond_false,H.get,e];exact H.get_put_same o x r
  ·simp only [cond_true,H.get,e]
theorem H.get_put_ne {o o':Nat} (x:Obj) (hne:o'≠o):∀h:H,H.get o' (H.put o x h)=H.get o' h
 |[]=>by simp [H.put,H.get,nbeq_ne.2 (Ne.symm hne)]
 |(i,y)::r=>by
  simp only [H.put]
  cases e:Nat.beq i o
  ·simp only [cond_false,H.get,H.get_put_ne x hne r]
  ·have:i=o:=nbeq_eq.1 e
   subst this
   simp only [cond_true,H.get,nbeq_ne.2 (Ne.symm hne),cond_false]
theorem H.get_none_of_not_mem (o:Nat):∀h:H,o∉h.map (·.1)→H.get o h=none
 |[],_=>rfl
 |(i,y)::r,hn=>by
  simp only [List.map_cons,List.mem_cons,not_or] at hn
  simp only [H.get,nbeq_ne.2 (Ne.symm hn.1),cond_false]
  exact H.get_none_of_not_mem o r hn.2
theorem H.mem_of_get {o:Nat} {x:Obj} {h:H} (g:H.get o h=some x):o∈h.map (·.1):=by
 by_cases hm:o∈h.map (·.1)
 ·exact hm
 ·rw [H.get_none_of_not_mem o h hm] at g;cases g
theorem H.get_del_ne {o o':Nat} (hne:o'≠o):∀h:H,H.get o' (H.del o h)=H.get o' h
 |[]=>rfl
 |(i,y)::r=>by
  simp only [H.del]
  cases e:Nat.beq i o
  ·simp only [cond_false,H.get,H.get_del_ne hne r]
  ·have:i=o:=nbeq_eq.1 e
   subst this
   simp only [cond_true,H.get,nbeq_ne.2 (Ne.symm hne),cond_false]
theorem H.get_del_same (o:Nat):∀h:H,(h.map (·.1)).Nodup→H.get o (H.del o h)=none
 |[],_=>rfl
 |(i,y)::r,hn=>by
  simp only [List.map_cons,List.nodup_cons] at hn
  simp only [H.del]
  cases e:Nat.beq i o
  ·simp only [cond_false,H.get,e];exact H.get_del_same o r hn.2
  ·have:i=o:=nbeq_eq.1 e
   subst this
   simp only [cond_true];exact H.get_none_of_not_mem i r hn.1
theorem H.keys_put (o:Nat) (x:Obj):∀h:H,∀k,k∈(H.put o x h).map (·.1)↔k∈h.map (·.1)∨k=o
 |[],k=>by simp [H.put]
 |(i,y)::r,k=>by
  simp only [H.put]
  cases e:Nat.beq i o
  ·simp only [cond_false,List.map_cons,List.mem_cons,H.keys_put o x r k,or_assoc]
  ·have:i=o:=nbeq_eq.1 e
   subst this
   simp only [cond_true,List.map_cons,List.mem_cons]
   constructor
   ·rintro (h|h)
    ·exact .inl (.inl h)
    ·exact .inl (.inr h)
   ·rintro ((h|h)|h)
    ·exact .inl h
    ·exact .inr h
    ·exact .inl h
theorem H.nodup_put (o:Nat) (x:Obj):∀h:H,(h.map (·.1)).Nodup→((H.put o x h).map (·.1)).Nodup
 |[],_=>by simp [H.put]
 |(i,y)::r,hn=>by
  simp only [List.map_cons,List.nodup_cons] at hn
  simp only [H.put]
  cases e:Nat.beq i o
  ·simp only [cond_false,List.map_cons,List.nodup_cons]
   refine ⟨fun hm=>?_,H.nodup_put o x r hn.2⟩
   rcases (H.keys_put o x r i).1 hm with h|h
   ·exact hn.1 h
   ·exact nbeq_ne.1 e h
  ·simp only [cond_true,List.map_cons,List.nodup_cons];exact hn
theorem H.keys_del (o:Nat):∀h:H,∀k,k∈(H.del o h).map (·.1)→k∈h.map (·.1)
 |[],k=>by simp [H.del]
 |(i,y)::r,k=>by
  simp only [H.del]
  cases e:Nat.beq i o
  ·simp only [cond_false,List.map_cons,List.mem_cons]
   rintro (h|h)
   ·exact .inl h
   ·exact .inr (H.keys_del o r k h)
  ·simp only [cond_true,List.map_cons,List.mem_cons];exact .inr
theorem H.nodup_del (o:Nat):∀h:H,(h.map (·.1)).Nodup→((H.del o h).map (·.1)).Nodup
 |[],_=>by simp [H.del]
 |(i,y)::r,hn=>by
  simp only [List.map_cons,List.nodup_cons] at hn
  simp only [H.del]
  cases e:Nat.beq i o
  ·simp only [cond_false,List.map_cons,List.nodup_cons]
   exact ⟨fun hm=>hn.1 (H.keys_del o r i hm),H.nodup_del o r hn.2⟩
  ·simp only [cond_true];exact hn.2
theorem H.get_kill (k o:Nat):∀h:H,H.get o (H.kill k h)=(H.get o h).map (Obj.kill k)
 |[]=>rfl
 |(i,y)::r=>by
  simp only [H.kill,H.get]
  cases Nat.beq i o
  ·simp only [cond_false];exact H.get_kill k o r
  ·rfl
theorem H.keys_kill (k:Nat):∀h:H,(H.kill k h).map (·.1)=h.map (·.1)
 |[]=>rfl
 |(i,y)::r=>by simp [H.kill,H.keys_kill k r]
theorem H.ids_of_get {o i:Nat} {x:Obj}:∀{h:H},H.get o h=some x→i∈x.ids→i∈H.ids h
 |(j,y)::r,g,hi=>by
  simp only [H.get] at g
  simp only [H.ids,List.mem_cons,List.mem_append]
  cases e:Nat.beq j o
  ·rw [e] at g;exact .inr (.inr (H.ids_of_get g hi))
  ·rw [e] at g;obtain rfl:=Option.some.inj g;exact .inr (.inl hi)
theorem H.ids_of_mem {o:Nat}:∀{h:H},o∈h.map (·.1)→o∈H.ids h
 |(j,y)::r,hm=>by
  simp only [List.map_cons,List.mem_cons] at hm
  simp only [H.ids,List.mem_cons,List.mem_append]
  rcases hm with h|h
  ·exact .inl h
  ·exact .inr (.inr (H.ids_of_mem h))
end Go.Proofs.YtfdcjocallblcaaGreatDoor.Ev
