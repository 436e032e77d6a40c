/- The evaluator: Go code evaluated over abstract values. No conditions; definitions alone. -/
import Derived.Test.YtfdcjocallblcaaGreatDoorProg
import Derived.KernelRfl
import Derived.Orders
import Derived.Laws.BytesArg
namespace Go.Proofs.YtfdcjocallblcaaGreatDoor.Ev
open Go
structure Move where
 act:Int
 to:Int
 deriving DecidableEq,Inhabited
inductive Tree where
 |mk (op n:Int) (parts:List Tree)
 deriving Inhabited
def Tree.op:Tree→Int|.mk o _ _=>o
def Tree.n:Tree→Int|.mk _ n _=>n
def Tree.parts:Tree→List Tree|.mk _ _ p=>p
structure Graph where
 moves:List (List Move)
structure Step where
 act:Int
 thn:Tree
structure Duo where
 a:List Int
 b:List Int
 w:List Int
structure Pair where
 w:List Int
 a:List Bool
 b:List Bool
inductive Ty where
 |bool|int (k:IntKind)|str|sl (t:Ty)|st (i:Nat)
 deriving DecidableEq
@[reducible] def stDen:Nat→Type
 |0=>Move|1=>Tree|2=>Graph|3=>Step|4=>Duo|5=>Pair|_=>Unit
@[reducible] def Ty.den:Ty→Type
 |.bool=>Bool|.int _=>Int|.str=>ByteArray|.sl t=>List t.den|.st i=>stDen i
def Ty.dflt:(t:Ty)→t.den
 |.bool=>false|.int _=>(0:Int)|.str=>ByteArray.empty|.sl _=>[]
 |.st 0=>(⟨0,0⟩:Move)|.st 1=>Tree.mk 0 0 []|.st 2=>(⟨[]⟩:Graph)|.st 3=>(⟨0,.mk 0 0 []⟩:Step)
 |.st 4=>(⟨[],[],[]⟩:Duo)|.st 5=>(⟨[],[],[]⟩:Pair)|.st (_+6)=>()
abbrev i64:Ty:=.int .i64
def fieldTys:Nat→List Ty
 |0=>[i64,i64]|1=>[i64,i64,.sl (.st 1)]|2=>[.sl (.sl (.st 0))]|3=>[i64,i64,i64,.sl (.st 1)]
 |4=>[.sl i64,.sl i64,.sl i64]|5=>[.sl i64,.sl .bool,.sl .bool]|_=>[]
inductive AV where
 |any
 |und
 |nil
 |tv (t:Ty) (x:t.den)
 |ptr (o off:Nat)
 |pel (o i off:Nat)
 |imp (t:Ty) (x:t.den) (off:Nat)
 |row (o:Nat)
 |sub (o lo n:Nat)
 |mp (o:Nat)
 |fn (f:Nat) (caps:List AV)
 |imf (f:Nat) (caps:List AV)
 |agg (cs:List AV)
 |tup (vs:List AV)
inductive Obj where
 |box (cs:List AV)
 |row (el:Nat) (t:Ty) (xs:List t.den)
 |map (k v:Ty) (es:List (k.den×v.den))
 |ice (t:Ty) (xs:List t.den)
 |cel (t:Ty) (x:t.den)
 |deep (m:Nat) (t:Ty) (xs:List t.den) (hole:Option (Nat×Nat×AV))
abbrev H:=List (Nat×Obj)
def H.get (o:Nat):H→Option Obj
 |[]=>none
 |(i,x)::r=>bif Nat.beq i o then some x else H.get o r
def H.put (o:Nat) (x:Obj):H→H
 |[]=>[(o,x)]
 |(i,y)::r=>bif Nat.beq i o then (i,x)::r else (i,y)::H.put o x r
def H.del (o:Nat):H→H
 |[]=>[]
 |(i,y)::r=>bif Nat.beq i o then r else (i,y)::H.del o r
def H.apply (h:H):List (Nat×Option Obj)→H
 |[]=>h
 |(o,some x)::r=>H.apply (H.put o x h) r
 |(o,none)::r=>H.apply (H.del o h) r
abbrev T:=List AV
def T.at (t:T) (i:Nat):AV:=t.getD i .any
def T.put (t:T) (d:Option Nat) (v:AV):T:=match d with|some i=>t.set i v|none=>t
mutual
def AV.ids:AV→List Nat
 |.ptr o _=>[o]|.pel o _ _=>[o]|.row o=>[o]|.sub o _ _=>[o]|.mp o=>[o]
 |.fn _ cs=>AV.idsL cs|.imf _ cs=>AV.idsL cs|.agg cs=>AV.idsL cs|.tup cs=>AV.idsL cs
 |_=>[]
def AV.idsL:List AV→List Nat
 |[]=>[]
 |v::r=>v.ids++AV.idsL r
end
mutual
def AV.kill (o:Nat):AV→AV
 |.ptr a b=>bif Nat.beq a o then .any else .ptr a b
 |.pel a b c=>bif Nat.beq a o then .any else .pel a b c
 |.row a=>bif Nat.beq a o then .any else .row a
 |.sub a b c=>bif Nat.beq a o then .any else .sub a b c
 |.mp a=>bif Nat.beq a o then .any else .mp a
 |.fn f cs=>.fn f (AV.killL o cs)
 |.imf f cs=>.imf f (AV.killL o cs)
 |.agg cs=>.agg (AV.killL o cs)
 |.tup cs=>.tup (AV.killL o cs)
 |v=>v
def AV.killL (o:Nat):List AV→List AV
 |[]=>[]
 |v::r=>v.kill o::AV.killL o r
end
def Obj.kill (o:Nat):Obj→Obj
 |.box cs=>.box (AV.killL o cs)
 |.deep m t xs (some (i,off,v))=>.deep m t xs (some (i,off,v.kill o))
 |x=>x
def H.kill (o:Nat):H→H
 |[]=>[]
 |(i,x)::r=>(i,x.kill o)::H.kill o r
def Obj.ids:Obj→List Nat
 |.box cs=>AV.idsL cs
 |.deep _ _ _ (some (_,_,v))=>v.ids
 |_=>[]
def H.ids:H→List Nat
 |[]=>[]
 |(i,x)::r=>i::(x.ids++H.ids r)
def flatT:Ty→Bool
 |.bool=>true|.int _=>true|.str=>true|_=>false
def tidOf (m:Nat):Ty→Nat
 |.st 0=>45
 |.st 1=>bif Nat.beq m 0 then 0 else 33
 |.sl (.st 0)=>43
 |.int .i64=>3
 |.bool=>4
 |.sl (.int .i64)=>22
 |.sl .bool=>62
 |_=>0
def cellTys:Ty→List Ty
 |.st i=>fieldTys i
 |t=>[t]
def cellTy (t:Ty) (j:Nat):Ty:=(cellTys t).getD j .bool
def isSl:Ty→Bool|.sl _=>true|_=>false
def memT (t:Ty):Bool:=(cellTys t).any isSl
def toTy (t:Ty):AV→Option t.den
 |.tv t' x=>if h:t'=t then some (h▸x) else none
 |.nil=>match t with
  |.sl _=>some []
  |_=>none
 |_=>none
def cellsAV:(t:Ty)→t.den→List AV
 |.st 0,x=>[.tv i64 (Move.act x),.tv i64 (Move.to x)]
 |.st 1,x=>[.tv i64 (Tree.op x),.tv i64 (Tree.n x),.tv (.sl (.st 1)) (Tree.parts x)]
 |.st 2,x=>[.tv (.sl (.sl (.st 0))) (Graph.moves x)]
 |.st 3,x=>[.tv i64 (Step.act x),.tv i64 (Step.thn x).op,.tv i64 (Step.thn x).n,.tv (.sl (.st 1)) (Step.thn x).parts]
 |.st 4,x=>[.tv (.sl i64) (Duo.a x),.tv (.sl i64) (Duo.b x),.tv (.sl i64) (Duo.w x)]
 |.st 5,x=>[.tv (.sl i64) (Pair.w x),.tv (.sl .bool) (Pair.a x),.tv (.sl .bool) (Pair.b x)]
 |.st (_+6),_=>[]
 |t,x=>[.tv t x]
def mkSt:(i:Nat)→List AV→Option (stDen i)
 |0,[a,b]=>match toTy i64 a with
  |some a=>match toTy i64 b with
   |some b=>some (⟨a,b⟩:Move)
   |none=>none
  |none=>none
 |1,[a,b,c]=>match toTy i64 a with
  |some a=>match toTy i64 b with
   |some b=>match toTy (.sl (.st 1)) c with
    |some c=>some (Tree.mk a b c)
    |none=>none
   |none=>none
  |none=>none
 |2,[a]=>match toTy (.sl (.sl (.st 0))) a with
  |some a=>some (⟨a⟩:Graph)
  |none=>none
 |3,[a,b,c,d]=>match toTy i64 a with
  |some a=>match toTy i64 b with
   |some b=>match toTy i64 c with
    |some c=>match toTy (.sl (.st 1)) d with
     |some d=>some (⟨a,.mk b c d⟩:Step)
     |none=>none
    |none=>none
   |none=>none
  |none=>none
 |4,[a,b,c]=>match toTy (.sl i64) a with
  |some a=>match toTy (.sl i64) b with
   |some b=>match toTy (.sl i64) c with
    |some c=>some (⟨a,b,c⟩:Duo)
    |none=>none
   |none=>none
  |none=>none
 |5,[a,b,c]=>match toTy (.sl i64) a with
  |some a=>match toTy (.sl .bool) b with
   |some b=>match toTy (.sl .bool) c with
    |some c=>some (⟨a,b,c⟩:Pair)
    |none=>none
   |none=>none
  |none=>none
 |_,_=>none
def anyNil:List AV→Bool
 |[]=>false
 |v::r=>match v with
  |.nil=>true
  |_=>anyNil r
def mkStN (i:Nat) (cs:List AV):Option (stDen i):=bif anyNil cs then none else mkSt i cs
theorem mkStN_some {i:Nat} {cs:List AV} {x:stDen i} (e:mkStN i cs=some x):mkSt i cs=some x:=by
 unfold mkStN at e
 cases h:anyNil cs
 ·rw [h] at e;exact e
 ·rw [h] at e;cases e
abbrev View:=Nat→Option Obj
abbrev Upd:=List (Nat×Option Obj)
def coeRow (t:Ty) (vw:View):AV→Option (t.den×Upd)
 |.row o=>match t with
  |.sl e=>match vw o with
   |some (.row _ e' xs)=>if h:e'=e then some (h▸xs,[(o,some (.ice e' xs))]) else none
   |some (.ice e' xs)=>if h:e'=e then some (h▸xs,[]) else none
   |some (.deep _ e' xs none)=>if h:e'=e then some (h▸xs,[(o,some (.ice e' xs))]) else none
   |_=>none
  |_=>none
 |v=>match toTy t v with
  |some x=>some (x,[])
  |none=>none
def vwDel (u:Upd) (vw:View):View:=fun i=>bif u.any (fun p=>Nat.beq p.1 i) then none else vw i
def coeCells (vw:View):List Ty→List AV→Option (List AV×Upd)
 |[],[]=>some ([],[])
 |t::ts,v::vs=>match coeRow t vw v with
  |some (x,u)=>match coeCells (vwDel u vw) ts vs with
   |some (xs,us)=>some (.tv t x::xs,u++us)
   |none=>none
  |none=>none
 |_,_=>none
def coe (t:Ty) (vw:View):AV→Option (t.den×Upd)
 |.agg cs=>match t with
  |.st i=>match coeCells vw (fieldTys i) cs with
   |some (xs,u)=>match mkSt i xs with
    |some x=>some (x,u)
    |none=>none
   |none=>none
  |_=>none
 |v=>coeRow t vw v
def coes (t:Ty) (vw:View):List AV→Option (List t.den×Upd)
 |[]=>some ([],[])
 |v::r=>match coe t vw v with
  |some (x,u)=>match coes t (vwDel u vw) r with
   |some (xs,us)=>some (x::xs,u++us)
   |none=>none
  |none=>none
def isCell:AV→Bool
 |.nil=>true|.ptr _ _=>true|.pel _ _ _=>true|.imp _ _ _=>true|.row _=>true|.mp _=>true|.fn _ _=>true
 |.tv t _=>match t with
  |.st _=>false
  |_=>true
 |_=>false
def explode:AV→Option (List AV)
 |.tv t x=>some (cellsAV t x)
 |.agg cs=>bif cs.all isCell then some cs else none
 |v=>bif isCell v then some [v] else none
def valAV:Value→AV
 |.int k n=>.tv (.int k) n
 |.bool b=>.tv .bool b
 |.string s=>.tv .str s
 |.slice a n c=>match a,n,c with
  |none,0,0=>.nil
  |_,_,_=>.any
 |.func f first caps=>match f with
  |.func f=>match first.toList,caps.toList with
   |[],[]=>.fn f []
   |_,_=>.any
  |_=>.any
 |_=>.any
def opd (t:T):Operand→AV
 |.tmp i=>t.at i
 |.const v=>valAV v
 |.func f=>.fn f []
 |.global _=>.any
def wi (n:Int):Int:=IntKind.i64.wrap n
def lim:Nat:=1099511627776
def szOf (P:Program) (t:TypeId):Nat:=match P.info? t with|some i=>i.size|none=>0
def bytesOf (P:Program) (t:TypeId):Nat:=match P.info? t with|some i=>i.bytes|none=>0
def fieldsOf (P:Program) (t:TypeId):Array Field:=match P.underlying t with|some (.struct fs)=>fs|_=>#[]
def elemOf (P:Program) (t:TypeId):Option TypeId:=match P.underlying t with|some (.slice e)=>some e|_=>none
def aggOf (P:Program) (t:TypeId):Option Bool:=match P.underlying t with|some (.struct _)=>some true|some (.array _ _)=>some true|some _=>some false|none=>none
def offOf (P:Program) (t:TypeId) (f:Nat):Option Nat:=match (fieldsOf P t)[f]? with
 |some f=>bif Nat.beq (szOf P f.type) 0 then none else some f.offset
 |none=>none
def nCells:Ty→Nat
 |.st i=>(fieldTys i).length
 |_=>1
def zeroAVs (P:Program) (t:TypeId):Option (List AV):=match P.info? t with
 |some i=>match i.zero with
  |some z=>bif Nat.beq z.cells.size i.size then some (z.cells.toList.map valAV) else none
  |none=>none
 |none=>none
def zero1:Ty→AV→Bool
 |.int k,.tv (.int k') n=>decide (k=k')&&(n==(0:Int))
 |.bool,.tv .bool b=>!b
 |.str,.tv .str s=>Nat.beq s.size 0
 |.sl _,.nil=>true
 |_,_=>false
def zeros:List Ty→List AV→Bool
 |[],[]=>true
 |t::ts,v::vs=>zero1 t v&&zeros ts vs
 |_,_=>false
def zeroOk:Ty→List AV→Bool
 |.st i,cs=>zeros (fieldTys i) cs
 |t,cs=>zeros [t] cs
def roCell (vw:View):AV→Option AV
 |.tv t x=>some (.tv t x)
 |.nil=>some .nil
 |.row o=>match vw o with
  |some (.row _ t xs)=>some (.tv (.sl t) xs)
  |some (.ice t xs)=>some (.tv (.sl t) xs)
  |some (.deep _ t xs none)=>some (.tv (.sl t) xs)
  |_=>none
 |_=>none
def isSt:Ty→Bool|.st _=>true|_=>false
def impOf (off:Nat):Option AV→Option AV
 |some (.tv t x)=>bif isSt t then none else some (.imp t x off)
 |_=>none
def ro0 (vw:View):AV→Option AV
 |.imp t x off=>some (.imp t x off)
 |.ptr o off=>match vw o with
  |some (.box [c])=>impOf off (roCell vw c)
  |_=>none
 |v=>roCell vw v
def roL0 (vw:View):List AV→Option (List AV)
 |[]=>some []
 |v::r=>match ro0 vw v with
  |some v=>match roL0 vw r with
   |some r=>some (v::r)
   |none=>none
  |none=>none
def fnOf (vw:View) (off:Nat):AV→Option AV
 |.fn f cs=>bif Nat.beq off 0 then (match roL0 vw cs with
  |some cs=>some (.imf f cs)
  |none=>none) else none
 |c=>impOf off (roCell vw c)
def impSt (off:Nat):Option (List AV)→Option AV
 |some cs=>match mkSt 0 cs with
  |some x=>some (.imp (.st 0) x off)
  |none=>match mkSt 1 cs with
   |some x=>some (.imp (.st 1) x off)
   |none=>match mkSt 3 cs with
    |some x=>some (.imp (.st 3) x off)
    |none=>none
 |none=>none
mutual
def ro (vw:View):AV→Option AV
 |.ptr o off=>match vw o with
  |some (.box [c])=>fnOf vw off c
  |some (.box (c::c'::r))=>impSt off (roL0 vw (c::c'::r))
  |some (.cel t x)=>bif isSt t then none else some (.imp t x off)
  |_=>none
 |.imp t x off=>some (.imp t x off)
 |.fn f cs=>match roL vw cs with
  |some cs=>some (.fn f cs)
  |none=>none
 |.imf f cs=>match roL vw cs with
  |some cs=>some (.imf f cs)
  |none=>none
 |.agg cs=>match roL vw cs with
  |some cs=>some (.agg cs)
  |none=>none
 |v=>roCell vw v
def roL (vw:View):List AV→Option (List AV)
 |[]=>some []
 |v::r=>match ro vw v with
  |some v=>match roL vw r with
   |some r=>some (v::r)
   |none=>none
  |none=>none
end
inductive PK where
 |dat (t:Ty)|as
def asPK:PK→AV→Option AV
 |.as,v=>some v
 |.dat t,v=>match v with
  |.agg cs=>match t with
   |.st i=>match mkSt i cs with
    |some x=>some (.tv (.st i) x)
    |none=>none
   |_=>none
  |v=>match toTy t v with
   |some x=>some (.tv t x)
   |none=>none
def asPKs:List PK→List AV→Option (List AV)
 |[],[]=>some []
 |p::ps,v::vs=>match asPK p v with
  |some x=>match asPKs ps vs with
   |some xs=>some (x::xs)
   |none=>none
  |none=>none
 |_,_=>none
def roArgs (ps:List PK) (vw:View) (vs:List AV):Option (List AV):=match roL vw vs with
 |some xs=>asPKs ps xs
 |none=>none
@[reducible] def Dens:List Ty→Type
 |[]=>Unit
 |t::ts=>t.den×Dens ts
def avs:(ts:List Ty)→Dens ts→List AV
 |[],_=>[]
 |t::ts,d=>.tv t d.1::avs ts d.2
def densOf:(ts:List Ty)→List AV→Option (Dens ts)
 |[],[]=>some ()
 |t::ts,v::vs=>match toTy t v with
  |some x=>match densOf ts vs with
   |some d=>some (x,d)
   |none=>none
  |none=>none
 |[],_::_=>none
 |_::_,[]=>none
def roD (ts:List Ty) (vw:View) (vs:List AV):Option (Dens ts):=match roArgs (ts.map .dat) vw vs with
 |some l=>densOf ts l
 |none=>none
def flat1:AV→Bool
 |.tv t _=>flatT t
 |_=>false
def flat:AV→Bool
 |.tup l=>l.all flat1
 |v=>flat1 v
def coeArgs (vw:View):List Ty→List AV→Option (List AV×Upd)
 |[],[]=>some ([],[])
 |t::ts,v::vs=>match coe t vw v with
  |some (x,u)=>match coeArgs (vwDel u vw) ts vs with
   |some (xs,us)=>some (.tv t x::xs,u++us)
   |none=>none
  |none=>none
 |_,_=>none
def coeD (ts:List Ty) (vw:View) (vs:List AV):Option (Dens ts×Upd):=match coeArgs vw ts vs with
 |some (l,u)=>match densOf ts l with
  |some d=>some (d,u)
  |none=>none
 |none=>none
inductive RS where
 |one (t:Ty)|many (ts:List Ty)
def coeRes (vw:View):RS→AV→Option AV
 |.one t,v=>match coe t vw v with
  |some (x,_)=>some (.tv t x)
  |none=>none
 |.many ts,v=>match v with
  |.tup vs=>match coeArgs vw ts vs with
   |some (xs,_)=>some (.tup xs)
   |none=>none
  |_=>none
def flatRS:RS→Bool
 |.one t=>flatT t
 |.many ts=>ts.all flatT
def getV (h:H):View:=fun o=>H.get o h
def finC {R:Type} (rs:RS) (κ:AV→Option R):AV→T→H→Option R:=fun v _ h=>match coeRes (getV h) rs v with
 |some v=>κ v
 |none=>none
def finM {R:Type} (rs:RS) (ts:List Ty) (κ:AV→Dens ts→Option R):AV→T→H→Option R:=fun v t h=>match t with
 |[a]=>match a with
  |.ptr o off=>bif Nat.beq o 0&&Nat.beq off 0 then (match H.get 0 h with
   |some (.box cs)=>match densOf ts cs with
    |some d=>match coeRes (getV (H.del 0 h)) rs v with
     |some v=>κ v d
     |none=>none
    |none=>none
   |_=>none) else none
  |_=>none
 |_=>none
inductive RN where
 |row|agg (ts:List Ty)|tup (r:RN) (ts:List Ty)
def RN.ok:RN→Bool
 |.row=>true
 |.agg ts=>ts.all flatT
 |.tup r ts=>r.ok&&ts.all flatT
@[reducible] def RN.Den:RN→Type
 |.row=>Unit
 |.agg ts=>Dens ts
 |.tup r ts=>r.Den×Dens ts
def RN.av (site:Nat):(r:RN)→r.Den→AV
 |.row,_=>.row site
 |.agg ts,d=>.agg (avs ts d++[.row site])
 |.tup r ts,d=>.tup (RN.av site r d.1::avs ts d.2)
def splitLast:List AV→Option (List AV×AV)
 |[]=>none
 |[v]=>some ([],v)
 |v::r=>match splitLast r with
  |some (l,x)=>some (v::l,x)
  |none=>none
def RN.read:(r:RN)→AV→Option (r.Den×AV)
 |.row,v=>some ((),v)
 |.agg ts,v=>match v with
  |.agg cs=>match splitLast cs with
   |some (l,x)=>match densOf ts l with
    |some d=>some (d,x)
    |none=>none
   |none=>none
  |_=>none
 |.tup r ts,v=>match v with
  |.tup (v::l)=>match RN.read r v with
   |some (d,x)=>match densOf ts l with
    |some d'=>some ((d,d'),x)
    |none=>none
   |none=>none
  |_=>none
def newElems (q:Option Nat) (el:Nat) (k:Ty) (h:H):AV→Option (List k.den)
 |.nil=>some []
 |.row s=>match H.get s h with
  |some (.row el' k' xs)=>match q with
   |none=>if e:k'=k then bif Nat.beq el' el&&!memT k then some (e▸xs) else none else none
   |some _=>none
  |some (.deep m' k' xs none)=>match q with
   |some m=>if e:k'=k then bif Nat.beq m' m then some (e▸xs) else none else none
   |none=>none
  |_=>none
 |_=>none
def finN {R:Type} (rn:RN) (q:Option Nat) (el:Nat) (k:Ty) (κ:rn.Den→List k.den→Option R):AV→T→H→Option R:=fun v _ h=>match RN.read rn v with
 |some (d,x)=>match newElems q el k h x with
  |some xs=>κ d xs
  |none=>none
 |none=>none
def getO (q:Option Nat) (el:Nat) (k:Ty):Obj→Option (List k.den)
 |.row el' k' xs=>match q with
  |none=>if e:k'=k then bif Nat.beq el' el then some (e▸xs) else none else none
  |some _=>none
 |.deep m' k' xs none=>match q with
  |some m=>if e:k'=k then bif Nat.beq m' m then some (e▸xs) else none else none
  |none=>none
 |_=>none
def ownD (q:Option Nat) (el:Nat) (k:Ty) (tr:List Ty) (vw:View):List AV→Option (Nat×List k.den×Dens tr×Upd)
 |a::rest=>match a with
  |.row o=>match vw o with
   |some x=>match getO q el k x with
    |some xs=>match coeD tr vw rest with
     |some (d,u)=>bif u.any (fun p=>Nat.beq p.1 o) then none else some (o,xs,d,u)
     |none=>none
    |none=>none
   |none=>none
  |_=>none
 |[]=>none
structure Ans where
 α:Type
 x:Option α
 g:α→AV×Upd×List Nat
def Ans.no:Ans:=⟨Unit,none,fun _=>(.any,[],[])⟩
abbrev Tells:=Nat→List AV→View→Nat→Ans
def noTells:Tells:=fun _ _ _ _=>Ans.no
def addT (Φ:Tells) (k:Nat) (e:List AV→View→Nat→Ans):Tells:=fun f args vw s=>bif Nat.beq f k then e args vw s else Φ f args vw s
structure Env where
 P:Program
 ty:TypeId→Option Ty
 Φ:Nat→List AV→View→Nat→Ans
 inl:Nat→Bool
 live:Nat→Nat→List Nat×List Nat
 liveX:Nat→Nat→List Nat×List Nat
 L:Nat
 dp:Option Nat
 prom:Nat→Nat→List (Nat×Nat×Nat×Option Nat×Nat×Ty)
 heal:Nat→Nat→List Nat
 ren:Nat→Nat→List (Nat×Nat)
 fresh:Nat→Bool:=fun _=>false
 zd:Bool:=false
 cold:Nat→Bool:=fun _=>false
 ifc:Nat→Bool:=fun _=>false
section
variable (E : Env) {R : Type}
def elTy (t:TypeId):Option Ty:=match E.ty t with
 |some (.sl e)=>some e
 |_=>none
def fits (t:TypeId) (k:Ty):Bool:=Nat.beq (szOf E.P t) (nCells k)&&Nat.ble 1 (szOf E.P t)&&(match aggOf E.P t with
 |some b=>(match k with|.st _=>b|_=>!b)
 |none=>false)
def elFits (t:TypeId) (k:Ty):Bool:=match elemOf E.P t with
 |some e=>fits E e k&&decide (bytesOf E.P e≤128)&&Nat.ble 1 (bytesOf E.P e)&&(match zeroAVs E.P e with|some l=>Nat.beq l.length (nCells k)&&zeroOk k l|none=>false)
 |none=>false
def arrOf (P:Program) (t:TypeId):Option (Nat×TypeId):=match P.underlying t with
 |some (.array n e)=>some (n,e)
 |_=>none
def boolOf:AV→Option Bool
 |.tv .bool b=>some b
 |_=>none
def boolsOf:List AV→Option (List Bool)
 |[]=>some []
 |v::r=>match boolOf v with
  |some b=>match boolsOf r with
   |some l=>some (b::l)
   |none=>none
  |none=>none
def arrB:List AV→Option (List Bool)
 |a::b::r=>boolsOf (a::b::r)
 |_=>none
def putB (off:Nat) (v:Bool):Nat→List Bool→List AV
 |_,[]=>[]
 |j,x::r=>.tv .bool (bif Nat.beq off j then v else x)::putB off v (j+1) r
def atB (off:Nat) (xs:List Bool):Bool:=xs.getD off false
def boolT (P:Program) (t:TypeId):Bool:=match aggOf P t with
 |some b=>!b&&Nat.beq (szOf P t) 1
 |none=>false
def part (t:TypeId) (cs:List AV) (off:Nat):Option AV:=
 match aggOf E.P t with
 |some true=>match E.ty t with
  |some (.st i)=>bif fits E t (.st i)&&Nat.ble (off+szOf E.P t) cs.length then
    (match mkStN i ((cs.drop off).take (szOf E.P t)) with
    |some x=>some (.tv (.st i) x)
    |none=>some (.agg ((cs.drop off).take (szOf E.P t)))) else none
  |_=>none
 |some false=>cs[off]?
 |none=>none
def partOf (t:TypeId) (k:Ty) (x:k.den) (off:Nat):Option AV:=
 match E.ty t with
 |some k'=>bif Nat.beq off 0&&decide (k'=k)&&fits E t k then some (.tv k x) else part E t (cellsAV k x) off
 |none=>part E t (cellsAV k x) off
def elD (t:TypeId):TypeId:=match elemOf E.P t with|some e=>e|none=>0
def listAt {α:Type} (xs:List α) (d:α) (i:Nat):α:=xs.getD i d
def elems (vw:View):AV→Option ((t:Ty)×List t.den)
 |.tv (.sl t) xs=>some ⟨t,xs⟩
 |.row o=>match vw o with
  |some (.row _ t xs)=>some ⟨t,xs⟩
  |some (.ice t xs)=>some ⟨t,xs⟩
  |_=>none
 |_=>none
def putCells (t:Ty) (x:t.den) (off:Nat) (new:List AV):Option t.den:=match t with
 |.st i=>mkSt i (((cellsAV (.st i) x).take off)++new++(cellsAV (.st i) x).drop (off+new.length))
 |t=>bif Nat.beq off 0 then (match new with
  |[v]=>toTy t v
  |_=>none) else none
def absorb1 (m:Nat) (vw:View):AV→Option (AV×List Nat)
 |.tv t x=>bif flatT t then some (.tv t x,[]) else none
 |.nil=>some (.nil,[])
 |.row s=>match vw s with
  |some (.row el e ys)=>bif Nat.beq el (tidOf m e)&&!memT e then some (.tv (.sl e) ys,[s]) else none
  |some (.deep m' e ys none)=>bif Nat.beq m' m then some (.tv (.sl e) ys,[s]) else none
  |_=>none
 |_=>none
def delU (l:List Nat):Upd:=l.map fun s=>(s,none)
def absorbL (m:Nat) (vw:View):List AV→Option (List AV×List Nat)
 |[]=>some ([],[])
 |v::r=>match absorb1 m vw v with
  |some (a,l)=>match absorbL m (vwDel (delU l) vw) r with
   |some (al,ls)=>some (a::al,l++ls)
   |none=>none
  |none=>none
abbrev Kv (R:Type):=AV→Upd→List Nat→Option R
def on0 (vs:List AV) (f:Option R):Option R:=match vs with|[]=>f|_=>none
def on1 (vs:List AV) (f:AV→Option R):Option R:=match vs with|[x]=>f x|_=>none
def on2 (vs:List AV) (f:AV→AV→Option R):Option R:=match vs with|[x,y]=>f x y|_=>none
def on3 (vs:List AV) (f:AV→AV→AV→Option R):Option R:=match vs with|[x,y,z]=>f x y z|_=>none
def pure1 (x:Option AV) (κ:Kv R):Option R:=match x with|some v=>κ v [] []|none=>none
def evBox (site:Nat) (v:AV) (κ:Kv R):Option R:=match explode v with
 |some cs=>κ (.ptr site 0) [(site,some (.box cs))] []
 |none=>none
def evPick (c a b:AV) (κ:Kv R):Option R:=match c with
 |.tv .bool x=>bif x then κ a [] [] else κ b [] []
 |_=>none
def evNilCheck (vw:View) (v:AV) (κ:Kv R):Option R:=match v with
 |.ptr ob _=>match vw ob with
  |some _=>κ v [] []
  |none=>none
 |.imp _ _ _=>κ v [] []
 |.imf _ _=>κ v [] []
 |_=>none
def intBin (op:BinOp) (k:IntKind) (a b:Int) (κ:Kv R):Option R:=match op with
 |.add=>κ (.tv (.int k) (k.wrap (a+b))) [] []
 |.sub=>κ (.tv (.int k) (k.wrap (a-b))) [] []
 |.mul=>κ (.tv (.int k) (k.wrap (a*b))) [] []
 |.quo=>bif decide (b=0) then none else κ (.tv (.int k) (k.wrap (a.tdiv b))) [] []
 |.rem=>bif decide (b=0) then none else κ (.tv (.int k) (a.tmod b)) [] []
 |.xor=>κ (.tv (.int k) (k.wrap ((BitVec.ofInt k.bits a^^^BitVec.ofInt k.bits b).toNat))) [] []
 |.eql=>κ (.tv .bool (a==b)) [] []
 |.neq=>κ (.tv .bool (a !=b)) [] []
 |.lss=>κ (.tv .bool (decide (a<b))) [] []
 |.leq=>κ (.tv .bool (decide (a≤b))) [] []
 |.gtr=>κ (.tv .bool (decide (a>b))) [] []
 |.geq=>κ (.tv .bool (decide (a≥b))) [] []
 |_=>none
def strBin (op:BinOp) (a b:ByteArray) (κ:Kv R):Option R:=match op with
 |.add=>bif decide (a.size+b.size≤4611686018427387904) then κ (.tv .str (a++b)) [] [] else none
 |.eql=>κ (.tv .bool (a.toList==b.toList)) [] []
 |.neq=>κ (.tv .bool (!(a.toList==b.toList))) [] []
 |.lss=>κ (.tv .bool (Op.bytesLess a.toList b.toList)) [] []
 |_=>none
def isBoolB (P:Program) (t:TypeId):Bool:=match P.underlying t with|some .bool=>true|_=>false
def intB (P:Program) (t:TypeId):Bool:=match P.underlying t with|some (.int _)=>true|_=>false
def moveT (P:Program) (t:TypeId):Bool:=match P.underlying t with
 |some (.struct fs)=>match fs.toList with
  | [f, g] => Nat.beq f.offset 0 && Nat.beq g.offset 1 && !(f.name == "_") && !(g.name == "_") && intB P f.type && intB P g.type && !(P.stoodInHeld t) && !(P.eqGuardType P.depth t)
  |_=>false
 |_=>false
def isSliceB (P:Program) (t:TypeId):Bool:=match P.underlying t with
 |some (.slice _)=>true
 |_=>false
def Move.eqb (a b:Move):Bool:=a.act==b.act&&a.to==b.to
def evBin (op:BinOp) (t:TypeId) (x y:AV) (κ:Kv R):Option R:=match x with
 |.tv (.int k) a=>match y with
  |.tv (.int k') b=>bif decide (k=k') then intBin op k a b κ else none
  |_=>none
 |.tv .str a=>match y with
  |.tv .str b=>strBin op a b κ
  |_=>none
 |.tv .bool a=>match y with
  |.tv .bool b=>bif isBoolB E.P t then (match op with
   |.eql=>κ (.tv .bool (a==b)) [] []
   |.neq=>κ (.tv .bool (!(a==b))) [] []
   |_=>none) else none
  |_=>none
 |.tv (.st 0) a=>match y with
  |.tv (.st 0) b=>bif moveT E.P t then (match op with
   |.eql=>κ (.tv .bool (Move.eqb a b)) [] []
   |.neq=>κ (.tv .bool (!(Move.eqb a b))) [] []
   |_=>none) else none
  |_=>none
 |.tv (.sl _) xs=>match y with
  |.nil=>bif isSliceB E.P t&&decide (0<xs.length) then (match op with
   |.eql=>κ (.tv .bool false) [] []
   |.neq=>κ (.tv .bool true) [] []
   |_=>none) else none
  |_=>none
 |_=>none
def evUn (op:UnOp) (x:AV) (κ:Kv R):Option R:=match op with
 |.not=>match x with
  |.tv .bool b=>κ (.tv .bool (!b)) [] []
  |_=>none
 |.neg=>match x with
  |.tv (.int k) n=>κ (.tv (.int k) (k.wrap (0-n))) [] []
  |_=>none
 |_=>none
def intK (P:Program) (t:TypeId):Option IntKind:=match P.underlying t with
 |some (.int k)=>some k
 |_=>none
def evConv (src dst:TypeId) (x:AV) (κ:Kv R):Option R:=match x with
 |.tv (.int _) n=>match intK E.P src with
  |some _=>match intK E.P dst with
   |some k=>κ (.tv (.int k) (k.wrap n)) [] []
   |none=>none
  |none=>none
 |_=>none
def evFieldAddr (s:TypeId) (f:Nat) (vw:View) (x:AV) (κ:Kv R):Option R:=match offOf E.P s f with
 |some d=>match x with
  |.ptr ob off=>match vw ob with
   |some _=>κ (.ptr ob (off+d)) [] []
   |none=>none
  |.pel ob i off=>match vw ob with
   |some (.row _ _ _)=>κ (.pel ob i (off+d)) [] []
   |some (.deep _ _ _ _)=>κ (.pel ob i (off+d)) [] []
   |_=>none
  |.imp ty v off=>κ (.imp ty v (off+d)) [] []
  |_=>none
 |none=>none
def evField (s:TypeId) (f:Nat) (x:AV) (κ:Kv R):Option R:=match offOf E.P s f with
 |some d=>match (fieldsOf E.P s)[f]? with
  |some fl=>match x with
   |.tv (.st i) x=>pure1 (part E fl.type (cellsAV (.st i) x) d) κ
   |.agg cs=>pure1 (part E fl.type cs d) κ
   |_=>none
  |none=>none
 |none=>none
def kidObj (m:Nat) (e:Ty) (ys:List e.den):Obj:=bif memT e then .deep m e ys none else .row (tidOf m e) e ys
def evLoadD (t:TypeId) (site ob i off m:Nat) (k:Ty) (xs:List k.den) (κ:Kv R):Option R:=match aggOf E.P t with
 |some false=>match (cellsAV k (listAt xs k.dflt i))[off]? with
  |some (.tv (.sl e) ys)=>κ (.row site) [(site,some (kidObj m e ys)),(ob,some (.deep m k xs (some (i,off,.row site))))] []
  |some (.tv t' x)=>bif flatT t' then κ (.tv t' x) [] [] else none
  |_=>none
 |_=>none
def evLoadB (t:TypeId) (cs:List AV) (off:Nat) (κ:Kv R):Option R:=match arrB cs with
 |some xs=>match arrOf E.P t with
  |some _=>bif Nat.ble 1 (szOf E.P t)&&Nat.ble (off+szOf E.P t) cs.length then κ (.agg ((cs.drop off).take (szOf E.P t))) [] [] else none
  |none=>bif boolT E.P t then (bif Nat.blt off cs.length then κ (.tv .bool (atB off xs)) [] [] else none) else none
 |none=>pure1 (part E t cs off) κ
def evLoad (t:TypeId) (site:Nat) (vw:View) (x:AV) (κ:Kv R):Option R:=match x with
 |.ptr ob off=>match vw ob with
  |some (.box cs)=>evLoadB E t cs off κ
  |some (.cel k x)=>pure1 (partOf E t k x off) κ
  |_=>none
 |.pel ob i off=>match vw ob with
  |some (.row _ k xs)=>pure1 (partOf E t k (listAt xs k.dflt i) off) κ
  |some (.deep m k xs none)=>evLoadD E t site ob i off m k xs κ
  |_=>none
 |.imp k x off=>pure1 (partOf E t k x off) κ
 |.imf f cs=>pure1 (part E t [.fn f cs] 0) κ
 |_=>none
def evIndexArr (t:TypeId) (vw:View) (x i:AV) (κ:Kv R):Option R:=match arrOf E.P t with
 |some (n,e)=>bif boolT E.P e then (match i with
  |.tv (.int _) i=>match x with
   |.ptr ob off=>match vw ob with
    |some (.box _)=>bif decide (0≤i)&&decide (i<(n:Int)) then κ (.ptr ob (off+i.toNat)) [] [] else none
    |_=>none
   |_=>none
  |_=>none) else none
 |none=>none
def evIndex (t:TypeId) (x i:AV) (κ:Kv R):Option R:=match arrOf E.P t with
 |some (n,e)=>bif boolT E.P e then (match i with
  |.tv (.int _) i=>match x with
   |.agg cs=>match arrB cs with
    |some xs=>bif Nat.beq cs.length n then (bif decide (0≤i)&&decide (i<(n:Int)) then κ (.tv .bool (atB i.toNat xs)) [] [] else none) else none
    |none=>none
   |_=>none
  |_=>none) else none
 |none=>none
def evIndexAddr (t:TypeId) (vw:View) (x i:AV) (κ:Kv R):Option R:=match elTy E t with
 |some k=>bif elFits E t k then (match i with
  |.tv (.int _) i=>match x with
   |.tv (.sl k') xs=>if h:k'=k then bif decide (0≤i)&&decide (i<(xs.length:Int)) then κ (.imp k (listAt (h▸xs) k.dflt i.toNat) 0) [] [] else none else none
   |.row ob=>match vw ob with
    |some (.row _ k' xs)=>bif decide (k'=k) then bif decide (0≤i)&&decide (i<(xs.length:Int)) then κ (.pel ob i.toNat 0) [] [] else none else none
    |some (.ice k' xs)=>if h:k'=k then bif decide (0≤i)&&decide (i<(xs.length:Int)) then κ (.imp k (listAt (h▸xs) k.dflt i.toNat) 0) [] [] else none else none
    |some (.deep _ k' xs _)=>bif decide (k'=k) then bif decide (0≤i)&&decide (i<(xs.length:Int)) then κ (.pel ob i.toNat 0) [] [] else none else none
    |_=>none
   |_=>none
  |_=>none) else none
 |none=>evIndexArr E t vw x i κ
def setCells (cs:List AV) (off:Nat) (new:List AV):List AV:=cs.take off++new++cs.drop (off+new.length)
def holeOk (i off n:Nat):Option (Nat×Nat×AV)→Bool
 |none=>true
 |some (hi,hoff,_)=>Nat.beq hi i&&Nat.ble off hoff&&Nat.blt hoff (off+n)
def evStoreP (t:TypeId) (ob i off el:Nat) (k:Ty) (xs:List k.den) (v:AV) (κ:Kv R):Option R:=match v with
 |.tv t' x=>bif flatT t'&&Nat.beq (szOf E.P t) 1&&!memT k&&Nat.ble (off+1) (nCells k) then
   (match putCells k (listAt xs k.dflt i) off [.tv t' x] with
   |some y=>κ .und [(ob,some (.row el k (xs.set i y)))] []
   |none=>none) else none
 |_=>none
def evStoreD (t:TypeId) (vw:View) (ob i off m:Nat) (k:Ty) (xs:List k.den) (hole:Option (Nat×Nat×AV)) (v:AV) (κ:Kv R):Option R:=match explode v with
 |some new=>match absorbL m (vwDel [(ob,none)] vw) new with
  |some (al,ls)=>bif Nat.beq new.length (szOf E.P t)&&Nat.ble 1 (szOf E.P t)&&Nat.ble (off+szOf E.P t) (nCells k)&&holeOk i off new.length hole then
    (match putCells k (listAt xs k.dflt i) off al with
    |some y=>κ .und (delU ls++[(ob,some (.deep m k (xs.set i y) none))]) []
    |none=>none) else none
  |none=>none
 |none=>none
def storeB (t:TypeId) (cs:List AV) (off:Nat) (v:AV):Option (List AV):=match arrB cs with
 |some xs=>match boolOf v with
  |some b=>bif boolT E.P t then some (putB off b 0 xs) else none
  |none=>none
 |none=>none
def evStore (t:TypeId) (vw:View) (a v:AV) (κ:Kv R):Option R:=match a with
 |.ptr ob off=>match vw ob with
  |some (.box cs)=>match storeB E t cs off v with
   |some q=>bif Nat.blt off cs.length then κ .und [(ob,some (.box q))] [] else none
   |none=>match explode v with
   |some new=>bif Nat.beq new.length (szOf E.P t)&&Nat.ble 1 (szOf E.P t)&&Nat.ble (off+szOf E.P t) cs.length then
     κ .und [(ob,some (.box (setCells cs off new)))] [] else none
   |none=>none
  |_=>none
 |.pel ob i off=>match vw ob with
  |some (.row el k xs)=>match E.ty t with
   |some k'=>bif Nat.beq off 0&&decide (k'=k)&&fits E t k then
     (match coe k vw v with
     |some (x,u)=>bif u.any (fun p=>Nat.beq p.1 ob) then none else κ .und (u++[(ob,some (.row el k (xs.set i x)))]) []
     |none=>none)
    else evStoreP E t ob i off el k xs v κ
   |none=>none
  |some (.deep m k xs hole)=>evStoreD E t vw ob i off m k xs hole v κ
  |_=>none
 |_=>none
def fillAV (fs:Array Field) (cells:List AV):List Nat→List AV→Option (List AV)
 |[],[]=>some cells
 |i::is,v::vs=>match fs[i]? with
  |some f=>match explode v with
   |some new=>bif Nat.beq new.length (szOf E.P f.type)&&Nat.ble 1 (szOf E.P f.type)&&Nat.ble (f.offset+szOf E.P f.type) cells.length then
     fillAV fs (setCells cells f.offset new) is vs
    else none
   |none=>none
  |none=>none
 |_,_=>none
def isStruct (P:Program) (t:TypeId):Bool:=match P.underlying t with|some (.struct _)=>true|_=>false
def placed (P:Program) (t:TypeId):Bool:=isStruct P t&&(fieldsOf P t).toList.all fun f=>(P.info? f.type).isSome
def emptyB:List Nat→Bool
 |[]=>true
 |_=>false
def evBuild (t:TypeId) (is:List Nat) (vs:List AV) (κ:Kv R):Option R:=bif placed E.P t then (match zeroAVs E.P t with
 |some z=>match fillAV E (fieldsOf E.P t) z is vs with
  |some cs=>match E.ty t with
   |some k=>bif emptyB is&&memT k then κ (.agg cs) [] [] else pure1 (part E t cs 0) κ
   |none=>κ (.agg cs) [] []
  |none=>none
 |none=>none) else none
def evBuildA (t:TypeId) (e:TypeId) (is:List Nat) (vs:List AV) (κ:Kv R):Option R:=bif emptyB is&&boolT E.P e then on0 vs (match zeroAVs E.P t with
 |some z=>κ (.agg z) [] []
 |none=>none) else none
def coeK (t:TypeId) (vw:View) (κ:Kv R):Kv R:=fun v u ks=>bif E.zd then (match E.ty t with
 |some k=>match coe k vw v with
  |some d=>κ (.tv k d.1) d.2 []
  |none=>κ v u ks
 |none=>κ v u ks) else κ v u ks
def dpOf (q:Nat) (k:Ty):Option Nat:=bif Nat.ble 100 q then (match k with
 |.sl k'=>match k' with
  |.st i=>bif Nat.beq i 0 then some (q-100) else none
  |_=>none
 |_=>none) else some q
def deepM (t:TypeId) (k:Ty):Option Nat:=match E.dp with
 |some q=>match dpOf q k with
  |some m=>bif memT k&&Nat.beq (tidOf m k) (elD E t) then some m else none
  |none=>none
 |none=>none
def absorbs (m:Nat) (k:Ty) (vw:View):List AV→Option (List k.den×List Nat)
 |[]=>some ([],[])
 |v::r=>match explode v with
  |some cs=>match absorbL m vw cs with
   |some (al,l)=>bif Nat.beq cs.length (nCells k) then (match putCells k k.dflt 0 al with
    |some x=>match absorbs m k (vwDel (delU l) vw) r with
     |some (xs,ls)=>some (x::xs,l++ls)
     |none=>none
    |none=>none) else none
   |none=>none
  |none=>none
def evBuildSliceD (m:Nat) (k:Ty) (site:Nat) (vw:View) (vs:List AV) (κ:Kv R):Option R:=match absorbs m k vw vs with
 |some (xs,l)=>κ (.row site) (delU l++[(site,some (.deep m k xs none))]) []
 |none=>none
def evBuildSlice (t:TypeId) (n:Nat) (is:List Nat) (site:Nat) (vw:View) (vs:List AV) (κ:Kv R):Option R:=match elTy E t with
 |some k=>bif elFits E t k&&Nat.beq n vs.length&&Nat.ble n 1000&&decide (is=List.range n) then
   (match deepM E t k with
   |some m=>evBuildSliceD m k site vw vs κ
   |none=>match coes k vw vs with
   |some (xs,u)=>κ (.row site) (u++[(site,some (.row (elD E t) k xs))]) []
   |none=>none) else none
 |none=>none
def sameOpd:Operand→Operand→Bool
 |.tmp i,.tmp j=>Nat.beq i j
 |.const (.int k n),.const (.int k' n')=>decide (k=k')&&decide (n=n')
 |_,_=>false
def evMake (t:TypeId) (l c:Operand) (site:Nat) (n:AV) (κ:Kv R):Option R:=match elTy E t with
 |some k=>bif elFits E t k&&sameOpd l c then
   (match n with
   |.tv (.int .i64) n=>bif decide (0≤n)&&decide (n≤(lim:Int)) then (match deepM E t k with
    |some m=>κ (.row site) [(site,some (.deep m k (List.replicate n.toNat k.dflt) none))] []
    |none=>κ (.row site) [(site,some (.row (elD E t) k (List.replicate n.toNat k.dflt)))] []) else none
   |_=>none) else none
 |none=>none
def evExtract (i:Nat) (x:AV) (κ:Kv R):Option R:=match x with
 |.tup vs=>pure1 vs[i]? κ
 |_=>none
def evLenD (vw:View) (x:AV) (κ:Kv R):Option R:=match x with
 |.row o=>match vw o with
  |some (.deep _ _ xs none)=>κ (.tv i64 (xs.length:Int)) [] []
  |_=>none
 |_=>none
def evLen (t:TypeId) (vw:View) (x:AV) (κ:Kv R):Option R:=match x with
 |.tv .str s=>match E.P.underlying t with
  |some .string=>κ (.tv i64 (s.size:Int)) [] []
  |_=>none
 |.nil=>match elemOf E.P t with
  |some _=>κ (.tv i64 (0:Int)) [] []
  |none=>none
 |x=>match elemOf E.P t with
  |some _=>match elems vw x with
   |some ⟨_,xs⟩=>κ (.tv i64 (xs.length:Int)) [] []
   |none=>evLenD vw x κ
  |none=>none
def evMin (x y:AV) (κ:Kv R):Option R:=match x with
 |.tv (.int k) a=>match y with
  |.tv (.int k') b=>bif decide (k=k') then κ (.tv (.int k) (bif decide (b<a) then b else a)) [] [] else none
  |_=>none
 |_=>none
def evMax (x y:AV) (κ:Kv R):Option R:=match x with
 |.tv (.int k) a=>match y with
  |.tv (.int k') b=>bif decide (k=k') then κ (.tv (.int k) (bif decide (b>a) then b else a)) [] [] else none
  |_=>none
 |_=>none
def elemsN (k:Ty) (vw:View) (x:AV):Option (List k.den):=match x with
 |.nil=>some []
 |x=>match elems vw x with
  |some ⟨k',ys⟩=>if h:k'=k then some (h▸ys) else none
  |none=>none
def u8Slice (P:Program) (t:TypeId):Bool:=match P.underlying t with
 |some (.slice e)=>match P.underlying e with
  |some (.int .u8)=>true
  |_=>false
 |_=>false
def isStrT (P:Program) (t:TypeId):Bool:=match P.underlying t with|some .string=>true|_=>false
def evConvB (src:TypeId) (vw:View) (x:AV) (κ:Kv R):Option R:=bif u8Slice E.P src then (match elemsN (.int .u8) vw x with
 |some ys=>κ (.tv .str (strOfNums ys)) [] []
 |none=>none) else none
def deepElems (m:Nat) (k:Ty) (vw:View):AV→Option (Nat×List k.den)
 |.row o=>match vw o with
  |some (.deep m' k' ys none)=>if h:k'=k then bif Nat.beq m' m then some (o,h▸ys) else none else none
  |_=>none
 |_=>none
def ownDeep (t:TypeId) (k:Ty) (vw:View):AV→Option (Nat×Nat×List k.den)
 |.row o=>match vw o with
  |some (.deep m k' xs none)=>if h:k'=k then bif Nat.beq (tidOf m k) (elD E t) then some (o,m,h▸xs) else none else none
  |_=>none
 |_=>none
def evAppendD (o m:Nat) (k:Ty) (vw:View) (xs:List k.den) (x:AV) (κ:Kv R):Option R:=match deepElems m k (vwDel [(o,none)] vw) x with
 |some (o2,ys)=>bif decide (xs.length+ys.length≤lim) then κ (.row o) [(o2,none),(o,some (.deep m k (xs++ys) none))] [o] else none
 |none=>none
def evAppendR (t:TypeId) (site:Nat) (k:Ty) (vw:View) (s:AV) (ys:List k.den) (κ:Kv R):Option R:=match s with
 |.nil=>bif decide (ys.length≤lim) then κ (.row site) [(site,some (.row (elD E t) k ys))] [] else none
 |.row o=>match vw o with
  |some (.row el k'' xs)=>if h':k''=k then bif Nat.beq el (elD E t) then bif decide (xs.length+ys.length≤lim) then (bif E.fresh site then κ (.row site) [(o,none),(site,some (.row el k ((h'▸xs)++ys)))] [] else κ (.row o) [(o,some (.row el k ((h'▸xs)++ys)))] [o]) else none else none else none
  |_=>none
 |_=>none
def evAppend (t t':TypeId) (site:Nat) (vw:View) (s x:AV) (κ:Kv R):Option R:=match elTy E t with
 |some k=>bif elFits E t k&&Nat.beq t t' then
  (match ownDeep E t k vw s with
  |some (o,m,xs)=>evAppendD o m k vw xs x κ
  |none=>match elemsN k vw x with
   |some ys=>evAppendR E t site k vw s ys κ
   |none=>none) else none
 |none=>none
def evCall (site:Nat) (vw:View) (f:AV) (args:List AV) (κ:Kv R):Option R:=match f with
 |.fn f cs=>
  let an:=E.Φ f (args++cs) vw site
  an.x.bind fun v=>κ (an.g v).1 (an.g v).2.1 (an.g v).2.2
 |_=>none
def evBuiltin (b:Builtin) (ts:List TypeId) (site:Nat) (vw:View) (vs:List AV) (κ:Kv R):Option R:=match b with
 |.len=>match ts with
  |[t]=>on1 vs fun x=>evLen E t vw x κ
  |_=>none
 |.min=>on2 vs fun x y=>evMin x y κ
 |.max=>on2 vs fun x y=>evMax x y κ
 |.append=>match ts with
  |[t,t']=>on2 vs fun x y=>evAppend E t t' site vw x y κ
  |_=>none
 |_=>none
def slB (l h:Int) (n:Nat):Bool:=decide (0≤l)&&decide (l≤h)&&decide (h≤(n:Int))
def slX {α:Type} (xs:List α) (l h:Int):List α:=(xs.drop l.toNat).take (h.toNat-l.toNat)
def evSliceB (t:TypeId) (vw:View) (x:AV) (lo hi:Option Int) (κ:Kv R):Option R:=match x with
 |.tv .str s=>bif isStrT E.P t&&slB (lo.getD 0) (hi.getD (s.size:Int)) s.size then κ (.tv .str (s.extract (lo.getD 0).toNat (hi.getD (s.size:Int)).toNat)) [] [] else none
 |x=>match elTy E t with
  |some k=>bif elFits E t k then (match coeRow (.sl k) vw x with
   |some (xs,u)=>bif slB (lo.getD 0) (hi.getD (List.length xs:Int)) (List.length xs) then κ (.tv (.sl k) (slX xs (lo.getD 0) (hi.getD (List.length xs:Int)))) u [] else none
   |none=>none) else none
  |none=>none
def intO:AV→Option Int
 |.tv (.int _) n=>some n
 |_=>none
def evSlice (t:TypeId) (bl bh:Bool) (vw:View) (vs:List AV) (κ:Kv R):Option R:=match bl with
 |true=>match bh with
  |true=>on3 vs fun x l h=>match intO l with
   |some l=>match intO h with
    |some h=>evSliceB E t vw x (some l) (some h) κ
    |none=>none
   |none=>none
  |false=>on2 vs fun x l=>match intO l with
   |some l=>evSliceB E t vw x (some l) none κ
   |none=>none
 |false=>match bh with
  |true=>on2 vs fun x h=>match intO h with
   |some h=>evSliceB E t vw x none (some h) κ
   |none=>none
  |false=>on1 vs fun x=>evSliceB E t vw x none none κ
def keyEq:(k:Ty)→k.den→k.den→Bool
 |.int _,a,b=>(a:Int)==b
 |.str,a,b=>(a:ByteArray)==b
 |_,_,_=>false
def mapFind (k v:Ty) (x:k.den):List (k.den×v.den)→Option v.den
 |[]=>none
 |e::r=>bif keyEq k x e.1 then some e.2 else mapFind k v x r
def mapPut (k v:Ty) (x:k.den) (y:v.den):List (k.den×v.den)→List (k.den×v.den)
 |[]=>[(x,y)]
 |e::r=>bif keyEq k x e.1 then (x,y)::r else e::mapPut k v x y r
def keyOk (P:Program) (t:TypeId) (k:Ty):Bool:=match P.underlying t with
 |some (.int q)=>decide (k=.int q)
 |some .string=>decide (k=.str)
 |_=>false
def aggV:Value→Bool
 |.agg _=>true
 |_=>false
def zAgg (P:Program) (t:TypeId):Bool:=match P.info? t with
 |some i=>match i.zero with
  |some z=>aggV z
  |none=>false
 |none=>false
def valOk (t:TypeId) (v:Ty):Bool:=(match E.ty t with|some v'=>decide (v'=v)|none=>false)&&(match v with|.st _=>zAgg E.P t|_=>!(zAgg E.P t))&&
 (match zeroAVs E.P t with|some l=>Nat.beq l.length (nCells v)&&zeroOk v l|none=>false)
def mapOk (t:TypeId) (k v:Ty):Bool:=match E.P.underlying t with
 |some (.map kt et)=>keyOk E.P kt k&&valOk E et v
 |_=>false
def mapTys (t:TypeId):Option (Ty×Ty):=match E.P.underlying t with
 |some (.map kt et)=>match E.ty kt with
  |some k=>match E.ty et with
   |some v=>some (k,v)
   |none=>none
  |none=>none
 |_=>none
def hintOk:List AV→Bool
 |[]=>true
 |[v]=>match v with
  |.tv (.int _) _=>true
  |_=>false
 |_=>false
def evMakeMap (t:TypeId) (site:Nat) (vs:List AV) (κ:Kv R):Option R:=match mapTys E t with
 |some (k,v)=>bif mapOk E t k v&&hintOk vs then κ (.mp site) [(site,some (.map k v []))] [] else none
 |none=>none
def evLookup (t:TypeId) (ok:Bool) (vw:View) (m x:AV) (κ:Kv R):Option R:=match m with
 |.mp o=>match vw o with
  |some (.map k v es)=>bif mapOk E t k v then (match toTy k x with
   |some x=>match ok with
    |true=>κ (.tup [.tv v ((mapFind k v x es).getD v.dflt),.tv .bool (mapFind k v x es).isSome]) [] []
    |false=>κ (.tv v ((mapFind k v x es).getD v.dflt)) [] []
   |none=>none) else none
  |_=>none
 |_=>none
def evMapPut (t:TypeId) (vw:View) (m x y:AV) (κ:Kv R):Option R:=match m with
 |.mp o=>match vw o with
  |some (.map k v es)=>bif mapOk E t k v then (match toTy k x with
   |some x=>match coe v vw y with
    |some (y,u)=>bif u.any (fun p=>Nat.beq p.1 o) then none else κ .und (u++[(o,some (.map k v (mapPut k v x y es)))]) []
    |none=>none
   |none=>none) else none
  |_=>none
 |_=>none
def lastU (s:Nat):Upd→Option (Option Obj)
 |[]=>none
 |p::r=>match lastU s r with
  |some x=>some x
  |none=>bif Nat.beq p.1 s then some p.2 else none
def coldK (site:Nat) (κ:Kv R):Kv R:=fun v u ks=>bif E.cold site then (match ks with
 |[]=>match v with
  |.row o=>bif Nat.beq o site then (match lastU site u with
   |some (some (.row _ k xs))=>κ (.tv (.sl k) xs) (u++[(site,some (.ice k xs))]) []
   |_=>none) else none
  |_=>none
 |_=>none) else κ v u ks
def evVal (o:Oper) (site:Nat) (vs:List AV) (vw:View) (κ:Kv R):Option R:=
 match o.op with
 |.move _=>on1 vs fun v=>κ v [] []
 |.assign _=>on1 vs fun v=>κ v [] []
 |.pick _ _ _=>on3 vs fun c a b=>evPick c a b κ
 |.nilCheck _=>on1 vs fun v=>evNilCheck vw v κ
 |.box _ _=>on1 vs fun v=>evBox site v κ
 |.alloc t=>on0 vs (match zeroAVs E.P t with
  |some cs=>κ (.ptr site 0) [(site,some (.box cs))] []
  |none=>none)
 |.binOp op t _ _ _=>on2 vs fun x y=>evBin E op t x y κ
 |.unOp op _ _=>on1 vs fun x=>evUn op x κ
 |.convert src dst _=>on1 vs fun x=>bif isStrT E.P dst then evConvB E src vw x κ else evConv E src dst x κ
 |.fieldAddr s _ f=>on1 vs fun x=>evFieldAddr E s f vw x κ
 |.field s _ f=>on1 vs fun x=>evField E s f x κ
 |.load t _=>on1 vs fun x=>evLoad E t site vw x κ
 |.indexAddr t _ _=>on2 vs fun x i=>evIndexAddr E t vw x i κ
 |.index t _ _=>on2 vs fun x i=>evIndex E t x i κ
 |.store t _ _=>on2 vs fun a v=>evStore E t vw a v κ
 |.build t ps=>match arrOf E.P t with
  |some p=>evBuildA E t p.2 (ps.toList.map (·.1)) vs κ
  |none=>evBuild E t (ps.toList.map (·.1)) vs (coeK E t vw κ)
 |.buildSlice t n ps=>evBuildSlice E t n (ps.toList.map (·.1)) site vw vs (coldK E site κ)
 |.makeSlice t l c=>on2 vs fun n _=>evMake E t l c site n κ
 |.extract _ i=>on1 vs fun x=>evExtract i x κ
 |.makeFunc fn first _=>match fn with
  |.func f=>match first.toList with
   |[]=>κ (.fn f vs) [] []
   |_=>none
  |_=>none
 |.slice t _ lo hi mx=>match mx with
  |none=>evSlice E t lo.isSome hi.isSome vw vs κ
  |some _=>none
 |.makeMap t _=>evMakeMap E t site vs κ
 |.lookup t _ _ ok=>on2 vs fun m x=>evLookup E t ok vw m x κ
 |.mapUpdate t _ _ _=>on3 vs fun m x y=>evMapPut E t vw m x y κ
 |.insert t _ _ _=>on3 vs fun m x y=>evMapPut E t vw m x y κ
 |.call c=>match c.callee with
  |.builtin b=>evBuiltin E b c.argTypes.toList site vw vs (coldK E site κ)
  |.value _=>match vs with
   |f::args=>evCall E site vw f args κ
   |[]=>none
  |_=>none
 |_=>none
def killT (ks:List Nat) (t:T):T:=match ks with
 |[]=>t
 |k::r=>killT r (AV.killL k t)
def killH (ks:List Nat) (h:H):H:=match ks with
 |[]=>h
 |k::r=>killH r (H.kill k h)
def fresh (t:T) (h:H) (site:Nat) (u:Upd):Bool:=match u with
 |[]=>true
 |(o,_)::r=>(bif Nat.beq o site then !((AV.idsL t++H.ids h).any (Nat.beq o)) else true)&&fresh t h site r
def nextIds (h:H):List Nat→List Nat
 |[]=>[]
 |o::r=>(match H.get o h with|some x=>x.ids|none=>[])++nextIds h r
def reach (vs:List AV) (h:H):List Nat:=AV.idsL vs++nextIds h (AV.idsL vs)
def viewOf (vs:List AV) (h:H):View:=fun i=>bif (reach vs h).any (Nat.beq i) then H.get i h else none
def shallow:Op→Bool
 |.load _ _=>true
 |.fieldAddr _ _ _=>true
 |_=>false
def reachO (op:Op) (vs:List AV) (h:H):List Nat:=bif shallow op then AV.idsL vs else reach vs h
def viewO (op:Op) (vs:List AV) (h:H):View:=fun i=>bif (reachO op vs h).any (Nat.beq i) then H.get i h else none
def isInl (f:AV):Option (Nat×List AV):=match f with
 |.fn f cs=>bif E.inl f then some (f,cs) else none
 |_=>none
def inlOf (op:Op) (vs:List AV):Option (Nat×List AV):=match op with
 |.call c=>match c.callee with
  |.value _=>match vs with
   |f::args=>match isInl E f with
    |some (f,cs)=>some (f,args++cs)
    |none=>none
   |[]=>none
  |_=>none
 |_=>none
abbrev CallI (R:Type):=Nat→List AV→T→H→(AV→T→H→Option R)→Option R
def evOp (callI:CallI R) (dep:Nat) (o:Oper) (t:T) (h:H) (κ:T→H→Option R):Option R:=
 let vs:=o.op.operands.toList.map (opd t)
 match inlOf E o.op vs with
 |some (f,args)=>callI f args t h fun v t h=>κ (t.put o.dst v) h
 |none=>
  evVal E o (dep+o.dst.getD 999) vs (viewOf vs h) fun v u ks=>
   bif fresh t h (dep+o.dst.getD 999) u then κ ((killT ks t).put o.dst v) ((killH ks h).apply u) else none
def evOps (callI:CallI R) (dep:Nat) (ops:Array Oper):List Oper→T→H→(T→H→Option R)→Option R
 |[],t,h,κ=>κ t h
 |o::r,t,h,κ=>match o.guard with
  |none=>evOp E callI dep o t h fun t h=>evOps callI dep ops r t h κ
  |some (j,b)=>match (ops[j]?).bind (·.dst) with
   |none=>none
   |some d=>match t.at d with
    |.tv .bool x=>bif x then
      (bif b then evOp E callI dep o (t.put (some d) (.tv .bool true)) h fun t h=>evOps callI dep ops r t h κ else evOps callI dep ops r ((t.put (some d) (.tv .bool true)).put o.dst .und) h κ)
     else (bif b then evOps callI dep ops r ((t.put (some d) (.tv .bool false)).put o.dst .und) h κ else evOp E callI dep o (t.put (some d) (.tv .bool false)) h fun t h=>evOps callI dep ops r t h κ)
    |.und=>evOps callI dep ops r (t.put o.dst .und) h κ
    |_=>none
inductive PT where
 |leaf (t:T)|node (x:Bool) (a b:PT)
def pureOp:Op→Bool
 |.move _=>true|.assign _=>true|.load _ _=>true|.fieldAddr _ _ _=>true|.field _ _ _=>true|.unOp _ _ _=>true|.nilCheck _=>true
 |.binOp op _ _ _ _=>(match op with
  |.eql=>true|.neq=>true|.lss=>true|.leq=>true|.gtr=>true|.geq=>true|_=>false)
 |_=>false
def evPure1 (dep:Nat) (o:Oper) (t:T) (h:H):Option T:=bif pureOp o.op then
  (match evVal E o (dep+o.dst.getD 999) (o.op.operands.toList.map (opd t)) (viewOf (o.op.operands.toList.map (opd t)) h) (fun v u ks=>some (v,u,ks)) with
  |some p=>match p.2.1 with
   |[]=>match p.2.2 with
    |[]=>some (t.put o.dst p.1)
    |_=>none
   |_=>none
  |none=>none)
 else (match o.op with
  |.pick _ _ _=>match o.op.operands.toList.map (opd t) with
   |[c,a,b]=>match c with
    |.tv .bool x=>some (t.put o.dst (bif x then a else b))
    |_=>none
   |_=>none
  |_=>none)
def ptBoth (x:Bool) (a b:Option PT):Option PT:=match a with
 |some a=>match b with
  |some b=>some (.node x a b)
  |none=>none
 |none=>none
def thenP (x:Option T) (f:T→Option PT):Option PT:=match x with
 |some t=>f t
 |none=>none
def knownB (d:Nat):List (Nat×Bool)→Option Bool
 |[]=>none
 |p::r=>bif Nat.beq p.1 d then some p.2 else knownB d r
def evPureO (dep:Nat) (ops:Array Oper) (h:H):List Oper→T→List (Nat×Bool)→Option PT
 |[],t,_=>some (.leaf t)
 |o::r,t,kn=>match o.guard with
  |none=>thenP (evPure1 E dep o t h) fun t=>evPureO dep ops h r t kn
  |some (j,b)=>match (ops[j]?).bind (·.dst) with
   |none=>none
   |some d=>match t.at d with
    |.tv .bool x=>match knownB d kn with
     |some true=>bif x then (bif b then thenP (evPure1 E dep o (t.put (some d) (.tv .bool true)) h) fun t=>evPureO dep ops h r t kn else evPureO dep ops h r ((t.put (some d) (.tv .bool true)).put o.dst .und) kn) else none
     |some false=>bif x then none else (bif b then evPureO dep ops h r ((t.put (some d) (.tv .bool false)).put o.dst .und) kn else thenP (evPure1 E dep o (t.put (some d) (.tv .bool false)) h) fun t=>evPureO dep ops h r t kn)
     |none=>ptBoth x (bif b then thenP (evPure1 E dep o (t.put (some d) (.tv .bool true)) h) fun t=>evPureO dep ops h r t ((d,true)::kn) else evPureO dep ops h r ((t.put (some d) (.tv .bool true)).put o.dst .und) ((d,true)::kn))
       (bif b then evPureO dep ops h r ((t.put (some d) (.tv .bool false)).put o.dst .und) ((d,false)::kn) else thenP (evPure1 E dep o (t.put (some d) (.tv .bool false)) h) fun t=>evPureO dep ops h r t ((d,false)::kn))
    |.und=>evPureO dep ops h r (t.put o.dst .und) kn
    |_=>none
def pureOk (o:Oper):Bool:=pureOp o.op||(match o.op with|.pick _ _ _=>true|_=>false)
def pureC:Code→Bool
 |.skip=>true
 |.cond _ a b=>pureC a&&pureC b
 |.region _ ops draw=>!draw&&ops.toList.all pureOk
 |_=>false
def evPureC (dep:Nat):Code→T→H→Option PT
 |.skip,t,_=>some (.leaf t)
 |.cond c a b,t,h=>match opd t c with
  |.tv .bool x=>ptBoth x (evPureC dep a t h) (evPureC dep b t h)
  |_=>none
 |.region _ ops _,t,h=>evPureO E dep ops h ops.toList t []
 |_,_,_=>none
def mergeAV (x:Bool) (a b:AV):AV:=match a with
 |.tv .bool p=>match b with
  |.tv .bool q=>.tv .bool (bif x then p else q)
  |_=>.any
 |.tv (.int k) p=>match b with
  |.tv (.int k') q=>bif decide (k=k') then .tv (.int k) (bif x then (p:Int) else (q:Int)) else .any
  |_=>.any
 |_=>.any
def mergeT (w:List Nat) (x:Bool):Nat→T→T→T→T
 |_,[],_,_=>[]
 |i,v::r,ta,tb=>(bif w.any (Nat.beq i) then mergeAV x (ta.headD .any) (tb.headD .any) else v)::mergeT w x (i+1) r ta.tail tb.tail
def mergeP (w:List Nat) (t0:T):PT→T
 |.leaf t=>t
 |.node x a b=>mergeT w x 0 t0 (mergeP w t0 a) (mergeP w t0 b)
def dstL (o:Oper):List Nat:=match o.dst with
 |some d=>[d]
 |none=>[]
def dstsC:Code→List Nat
 |.cond _ a b=>dstsC a++dstsC b
 |.region _ ops _=>ops.toList.flatMap dstL
 |_=>[]
def evIf (dep f:Nat) (c:Code) (t:T) (h:H):Option T:=bif E.ifc f&&pureC c then (match evPureC E dep c t h with
 |some p=>some (mergeP (dstsC c) t p)
 |none=>none) else none
structure Rec where
 dst:Option Nat
 site:Nat
 reads:List Nat
 v:AV
 u:Upd
 ks:List Nat
def keysU (u:Upd):List Nat:=u.map (·.1)
def outU:Upd→List Nat
 |[]=>[]
 |(o,some x)::r=>o::(x.ids++outU r)
 |(o,none)::r=>o::outU r
def memN (i:Nat) (l:List Nat):Bool:=l.any (Nat.beq i)
def disj (a b:List Nat):Bool:=a.all fun i=>!memN i b
def isNil {α:Type}:List α→Bool
 |[]=>true
 |_=>false
def Rec.used (r:Rec):Bool:=memN r.site (keysU r.u)
def Rec.out (r:Rec):List Nat:=r.v.ids++outU r.u
def Rec.quiet (r:Rec):Bool:=isNil r.u&&isNil r.ks
def indep (x y:Rec):Bool:=isNil x.ks&&isNil y.ks&&disj (keysU x.u) (y.reads++keysU y.u)&&disj (keysU y.u) x.reads&&(bif x.used then !memN x.site y.out else true)
def bindsB (e:Edge):Bool:=match e.ground with|.textOnly _=>false|.gcOnly _=>false|_=>true
def unionN (a b:List Nat):List Nat:=a.foldr (fun i s=>bif memN i s then s else i::s) b
def pre1 (acc:List (List Nat)) (o:Oper):List Nat:=o.after.toList.foldr (fun e s=>bif bindsB e then unionN (e.on::acc.getD e.on []) s else s) []
def pres:List Oper→List (List Nat)→List (List Nat)
 |[],acc=>acc
 |o::r,acc=>pres r (acc++[pre1 acc o])
def orderOk (ops:Array Oper):Bool:=(List.range ops.size).all fun j=>match ops[j]? with
 |some y=>y.after.toList.all (fun e=>!bindsB e||Nat.blt e.on j)&&(List.range j).all fun i=>memN i ((pres ops.toList []).getD j [])||(match ops[i]? with
  |some x=>x.apart ops y
  |none=>false)
 |none=>false
def recsOk (ids0:List Nat) (ps:List (List Nat)) (rs:List Rec):Bool:=bif rs.all Rec.quiet then true else (List.range rs.length).all fun j=>match rs[j]? with
 |some y=>(bif y.used then !memN y.site ids0 else true)&&(List.range j).all fun i=>match rs[i]? with
  |some x=>(bif y.used then !memN y.site x.out else true)&&(memN i (ps.getD j [])||indep x y)
  |none=>false
 |none=>false
def evOpR (dep:Nat) (o:Oper) (t:T) (h:H) (κ:Rec→T→H→Option R):Option R:=
 let vs:=o.op.operands.toList.map (opd t)
 match inlOf E o.op vs with
 |some _=>none
 |none=>evVal E o (dep+o.dst.getD 999) vs (viewO o.op vs h) fun v u ks=>κ ⟨o.dst,dep+o.dst.getD 999,reachO o.op vs h,v,u,ks⟩ ((killT ks t).put o.dst v) ((killH ks h).apply u)
def evOpsR (dep:Nat) (ops:Array Oper):List Oper→T→H→List Rec→(List Rec→T→H→Option R)→Option R
 |[],t,h,acc,κ=>κ acc t h
 |o::r,t,h,acc,κ=>match o.guard with
  |none=>evOpR E dep o t h fun c t h=>evOpsR dep ops r t h (acc++[c]) κ
  |some (j,b)=>match (ops[j]?).bind (·.dst) with
   |none=>none
   |some d=>match t.at d with
    |.tv .bool x=>bif x then
      (bif b then evOpR E dep o (t.put (some d) (.tv .bool true)) h fun c t h=>evOpsR dep ops r t h (acc++[c]) κ
       else evOpsR dep ops r ((t.put (some d) (.tv .bool true)).put o.dst .und) h (acc++[⟨o.dst,0,[],.und,[],[]⟩]) κ)
     else (bif b then evOpsR dep ops r ((t.put (some d) (.tv .bool false)).put o.dst .und) h (acc++[⟨o.dst,0,[],.und,[],[]⟩]) κ
       else evOpR E dep o (t.put (some d) (.tv .bool false)) h fun c t h=>evOpsR dep ops r t h (acc++[c]) κ)
    |.und=>evOpsR dep ops r (t.put o.dst .und) h (acc++[⟨o.dst,0,[],.und,[],[]⟩]) κ
    |_=>none
def evAny (dep:Nat) (ops:Array Oper) (t:T) (h:H) (κ:T→H→Option R):Option R:=
 bif orderOk ops then evOpsR E dep ops ops.toList t h [] fun rs t' h'=>bif recsOk (AV.idsL t++H.ids h) (pres ops.toList []) rs then κ t' h' else none else none
inductive Ex where
 |normal|exit (id:Nat)|ret
def keepT (nt:Nat) (l:List Nat) (t:T):T:=((List.range nt).map fun i=>bif l.any (Nat.beq i) then t.at i else .any)++t.drop nt
def nodupN:List Nat→Bool
 |[]=>true
 |x::r=>!memN x r&&nodupN r
def keepO (dep:Nat) (h:H):List Nat→H
 |[]=>[]
 |o::r=>match H.get (dep+o) h with
  |some x=>(dep+o,x)::keepO dep h r
  |none=>keepO dep h r
def below (dep:Nat):H→H
 |[]=>[]
 |(i,x)::r=>bif Nat.blt i dep then (i,x)::below dep r else below dep r
def keepH (dep:Nat) (l:List Nat) (h:H):H:=bif nodupN l then below dep h++keepO dep h l else below dep h
def delL:List Nat→H→H
 |[],h=>h
 |s::r,h=>delL r (H.del s h)
def heal1 (h:H) (o:Nat):H:=match H.get o h with
 |some (.deep m t xs (some (i,off,v)))=>match absorb1 m (vwDel [(o,none)] (fun i=>H.get i h)) v with
  |some (a,l)=>match putCells t (listAt xs t.dflt i) off [a] with
   |some y=>bif Nat.ble (off+1) (nCells t) then H.put o (.deep m t (xs.set i y) none) (delL l h) else h
   |none=>h
  |none=>h
 |_=>h
def healL (dep:Nat) (h:H):List Nat→H
 |[]=>h
 |o::r=>healL dep (heal1 h o) r
mutual
def AV.ren (a b:Nat):AV→AV
 |.ptr o off=>.ptr (bif Nat.beq o b then a else o) off
 |.pel o i off=>.pel (bif Nat.beq o b then a else o) i off
 |.row o=>.row (bif Nat.beq o b then a else o)
 |.sub o l n=>.sub (bif Nat.beq o b then a else o) l n
 |.mp o=>.mp (bif Nat.beq o b then a else o)
 |.fn f cs=>.fn f (AV.renL a b cs)
 |.imf f cs=>.imf f (AV.renL a b cs)
 |.agg cs=>.agg (AV.renL a b cs)
 |.tup cs=>.tup (AV.renL a b cs)
 |v=>v
def AV.renL (a b:Nat):List AV→List AV
 |[]=>[]
 |v::r=>v.ren a b::AV.renL a b r
end
def Obj.ren (a b:Nat):Obj→Obj
 |.box cs=>.box (AV.renL a b cs)
 |x=>x
def Obj.holed:Obj→Bool
 |.deep _ _ _ (some _)=>true
 |_=>false
def H.ren (a b:Nat):H→H
 |[]=>[]
 |(i,x)::r=>(bif Nat.beq i b then a else i,x.ren a b)::H.ren a b r
def H.keys:H→List Nat
 |[]=>[]
 |(i,_)::r=>i::H.keys r
def H.noHole:H→Bool
 |[]=>true
 |(_,x)::r=>!x.holed&&H.noHole r
def renOk (a b:Nat) (t:T) (h:H):Bool:=memN b (H.keys h)&&!memN a (AV.idsL t)&&!memN a (H.ids (H.del a h))&&H.noHole h&&!Nat.beq a b
def ren1 (dep:Nat) (p:Nat×Nat) (s:T×H):T×H:=bif renOk (dep+p.1) (dep+p.2) s.1 s.2 then (AV.renL (dep+p.1) (dep+p.2) s.1,H.ren (dep+p.1) (dep+p.2) (H.del (dep+p.1) s.2)) else s
def renAll (dep:Nat):List (Nat×Nat)→T×H→T×H
 |[],s=>s
 |p::r,s=>renAll dep r (ren1 dep p s)
def backK (dep nt:Nat) (lt lo hl:List Nat) (rl:List (Nat×Nat)) (t:T) (h:H):T×H:=match rl with
 |[]=>(keepT nt lt t,keepH dep lo (healL dep h hl))
 |p::r=>((renAll dep (p::r) (keepT nt lt t,keepH dep (lo++(p::r).map (·.2)) (healL dep h hl))).1,keepH dep lo (renAll dep (p::r) (keepT nt lt t,keepH dep (lo++(p::r).map (·.2)) (healL dep h hl))).2)
def mkO (q:Option Nat) (el:Nat) (k:Ty) (xs:List k.den):Obj:=match q with
 |some m=>.deep m k xs none
 |none=>.row el k xs
def prom1 (dep:Nat) (t:T) (h:H) (q:Nat×Nat×Nat×Option Nat×Nat×Ty):H:=match H.get (dep+q.1) h with
 |some (.box cs)=>match cs[q.2.1]? with
  |some .nil=>bif memN (dep+q.2.2.1) (AV.idsL t++H.ids h) then h
    else H.put (dep+q.2.2.1) (mkO q.2.2.2.1 q.2.2.2.2.1 q.2.2.2.2.2 []) (H.put (dep+q.1) (.box (cs.set q.2.1 (.row (dep+q.2.2.1)))) h)
  |_=>h
 |_=>h
def promL (dep:Nat) (t:T) (h:H):List (Nat×Nat×Nat×Option Nat×Nat×Ty)→H
 |[]=>h
 |q::r=>promL dep t (prom1 dep t h q) r
abbrev Body (R:Type):=T→H→(Ex→T→H→Option R)→Option R
def stepK (κ:Ex→T→H→Option R) (rec:T→H→Option R):Ex→T→H→Option R:=fun e t h=>match e with
 |.normal=>rec t h
 |.exit i=>κ (.exit i) t h
 |.ret=>κ .ret t h
def evLoopStep (body:Body R) (κ:Ex→T→H→Option R) (rec:T→H→Option R) (t:T) (h:H):Option R:=
 body t h (stepK κ rec)
def outK (keep:T→T) (keeph:H→H) (κ:Ex→T→H→Option R):Ex→T→H→Option R:=fun e t h=>κ e (keep t) (keeph h)
def evLoop (body:Body R) (bk:T→H→T×H) (κ:Ex→T→H→Option R):Nat→T→H→Option R
 |0,_,_=>none
 |n+1,t,h=>evLoopStep body κ (fun t h=>evLoop body bk κ n (bk t h).1 (bk t h).2) t h
def seqK (b:Body R) (κ:Ex→T→H→Option R):Ex→T→H→Option R:=fun e t h=>match e with
 |.normal=>b t h κ
 |.exit i=>κ (.exit i) t h
 |.ret=>κ .ret t h
def blockK (id:Nat) (κ:Ex→T→H→Option R):Ex→T→H→Option R:=fun e t h=>match e with
 |.exit i=>bif Nat.beq i id then κ .normal t h else κ (.exit i) t h
 |.normal=>κ .normal t h
 |.ret=>κ .ret t h
def evC (callI:CallI R) (dep f nt:Nat):Code→Body R
 |.skip,t,h,κ=>κ .normal t h
 |.ret,t,h,κ=>κ .ret t h
 |.exit id,t,h,κ=>κ (.exit id) t h
 |.seq a b,t,h,κ=>evC callI dep f nt a t h (seqK (fun t h κ=>evC callI dep f nt b t h κ) κ)
 |.cond c a b,t,h,κ=>match evIf E dep f (.cond c a b) t h with
  |some t'=>κ .normal t' h
  |none=>match opd t c with
   |.tv .bool x=>bif x then evC callI dep f nt a t h κ else evC callI dep f nt b t h κ
   |_=>none
 |.block id b,t,h,κ=>match b with
  |.loop b=>evLoop (fun t h κ=>evC callI dep f nt b t h κ) (backK dep nt (E.live f id).1 (E.live f id).2 (E.heal f id) (E.ren f id)) (outK (keepT nt (E.liveX f id).1) (keepH dep (E.liveX f id).2) (blockK id κ)) E.L (keepT nt (E.live f id).1 t) (keepH dep (E.live f id).2 (promL dep t h (E.prom f id)))
  |b=>evC callI dep f nt b t h (blockK id κ)
 |.region id ops draw,t,h,κ=>match evIf E dep f (.region id ops draw) t h with
  |some t'=>κ .normal t' h
  |none=>bif draw then evAny E dep ops t h (fun t h=>κ .normal t h) else evOps E callI dep ops ops.toList t h fun t h=>κ .normal t h
 |_,_,_,_=>none
def res1 (t:T) (h:H):ResultVar→Option AV
 |.tmp i=>some (t.at i)
 |.cell a ty=>match t.at a with
  |.ptr o off=>match H.get o h with
   |some (.box cs)=>part E ty cs off
   |_=>none
  |_=>none
def res2 (x:Option AV) (r:Option (List AV)):Option (List AV):=match x with
 |some v=>match r with
  |some l=>some (v::l)
  |none=>none
 |none=>none
def resOf (f:Func) (t:T) (h:H):Option AV:=match f.results.toList with
 |[r]=>res1 E t h r
 |[]=>some (.tup [])
 |[r,s]=>match res2 (res1 E t h r) (res2 (res1 E t h s) (some [])) with
  |some l=>some (.tup l)
  |none=>none
 |[r,s,u]=>match res2 (res1 E t h r) (res2 (res1 E t h s) (res2 (res1 E t h u) (some []))) with
  |some l=>some (.tup l)
  |none=>none
 |_=>none
def retH (dep:Nat) (v:AV) (h:H):H:=bif v.ids.any (fun o=>Nat.ble dep o) then h else below dep h
def finK (dep:Nat) (f:Func) (κ:AV→T→H→Option R):Ex→T→H→Option R:=fun e t h=>
 match e with
 |.exit _=>none
 |_=>match resOf E f t h with
  |some v=>κ v (t.drop f.ntmps) (retH dep v h)
  |none=>none
def opdOk (nt:Nat):Operand→Bool
 |.tmp i=>Nat.blt i nt
 |_=>true
def dstOk (nt:Nat):Option Nat→Bool
 |some d=>Nat.blt d nt
 |none=>true
def operOk (nt:Nat) (o:Oper):Bool:=o.op.operands.toList.all (opdOk nt)&&dstOk nt o.dst
def codeOk (nt:Nat):Code→Bool
 |.seq a b=>codeOk nt a&&codeOk nt b
 |.cond c a b=>opdOk nt c&&codeOk nt a&&codeOk nt b
 |.block _ b=>codeOk nt b
 |.loop b=>codeOk nt b
 |.region _ ops _=>ops.toList.all (operOk nt)
 |_=>true
def resOk (nt:Nat) (f:Func):Bool:=f.results.toList.all fun r=>match r with
 |.tmp i=>Nat.blt i nt
 |.cell i _=>Nat.blt i nt
def codeOf (f : Func) : Code := match f.body with | some c => c | none => .refuse ""
def bodyT (f:Func) (args:List AV):T:=args++List.replicate (f.ntmps-args.length) .und
def evBody (callI:CallI R) (dep k:Nat) (f:Func) (args:List AV) (t:T) (h:H) (κ:AV→T→H→Option R):Option R:=
 bif Nat.ble args.length f.ntmps&&codeOk f.ntmps (codeOf f)&&resOk f.ntmps f then evC E callI dep k f.ntmps (codeOf f) (bodyT f args++t) h (finK E dep f κ) else none
def evCallI:Nat→Nat→CallI R
 |0,_,_,_,_,_,_=>none
 |d+1,dep,k,args,t,h,κ=>match E.P.funcs[k]? with
  |some f=>evBody E (evCallI d (dep+1000)) dep k f args t h κ
  |none=>none
def hasBlock (id:Nat):Code→Bool
 |.seq a b=>hasBlock id a||hasBlock id b
 |.cond _ a b=>hasBlock id a||hasBlock id b
 |.block i b=>Nat.beq i id||hasBlock id b
 |.loop b=>hasBlock id b
 |_=>false
def loopAt (id:Nat):Code→Code
 |.seq a b=>bif hasBlock id a then loopAt id a else loopAt id b
 |.cond _ a b=>bif hasBlock id a then loopAt id a else loopAt id b
 |.block i b=>match b with
  |.loop b=>bif Nat.beq i id then b else loopAt id b
  |b=>loopAt id b
 |.loop b=>loopAt id b
 |_=>.skip
def evLp (callI:CallI R) (dep f nt id:Nat) (b:Code) (κ:Ex→T→H→Option R) (n:Nat) (t:T) (h:H):Option R:=
 evLoop (fun t h κ=>evC E callI dep f nt b t h κ) (backK dep nt (E.live f id).1 (E.live f id).2 (E.heal f id) (E.ren f id)) (outK (keepT nt (E.liveX f id).1) (keepH dep (E.liveX f id).2) κ) n t h
def evRd (callI:CallI R) (dep f nt id:Nat) (b:Code) (κ:Ex→T→H→Option R) (rec:T→H→Option R) (t:T) (h:H):Option R:=
 evC E callI dep f nt b t h (stepK (outK (keepT nt (E.liveX f id).1) (keepH dep (E.liveX f id).2) κ) fun t h=>rec (backK dep nt (E.live f id).1 (E.live f id).2 (E.heal f id) (E.ren f id) t h).1 (backK dep nt (E.live f id).1 (E.live f id).2 (E.heal f id) (E.ren f id) t h).2)
theorem evLp_succ (callI:CallI R) (dep f nt id:Nat) (b:Code) (κ:Ex→T→H→Option R) (n:Nat) (t:T) (h:H):evLp E callI dep f nt id b κ (n+1) t h=evRd E callI dep f nt id b κ (evLp E callI dep f nt id b κ n) t h:=rfl
def contAt (callI:CallI R) (dep f nt:Nat) (id:Nat):Code→(Ex→T→H→Option R)→(Ex→T→H→Option R)
 |.seq a b,κ=>bif hasBlock id a then contAt callI dep f nt id a (seqK (fun t h κ=>evC E callI dep f nt b t h κ) κ) else contAt callI dep f nt id b κ
 |.cond _ a b,κ=>bif hasBlock id a then contAt callI dep f nt id a κ else contAt callI dep f nt id b κ
 |.block i b,κ=>bif Nat.beq i id then blockK id κ else contAt callI dep f nt id b (blockK i κ)
 |_,κ=>κ
end
def rdK {R:Type} (E:Env) (dep f nt id:Nat) (κ:Ex→T→H→Option R) (rec:T→H→Option R):Ex→T→H→Option R:=
 stepK (outK (keepT nt (E.liveX f id).1) (keepH dep (E.liveX f id).2) κ) fun t h=>rec (backK dep nt (E.live f id).1 (E.live f id).2 (E.heal f id) (E.ren f id) t h).1 (backK dep nt (E.live f id).1 (E.live f id).2 (E.heal f id) (E.ren f id) t h).2
def mkT (n:Nat) (l:List (Nat×AV)):T:=(List.range n).map fun i=>match l.find? (fun p=>Nat.beq p.1 i) with|some p=>p.2|none=>.any
end Go.Proofs.YtfdcjocallblcaaGreatDoor.Ev
