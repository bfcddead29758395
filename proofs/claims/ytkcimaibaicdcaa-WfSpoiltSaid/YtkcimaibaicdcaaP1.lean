/- The law returns true at every input. No condition. A part of its proof. -/
import Derived.Calls
import Derived.LoopN
import Derived.Orders
import Derived.Deep.MidRow
import Derived.Deep.AppendSrc
import Derived.Deep.Upon
import Derived.Deep.DeepAppendWide
import Derived.Laws.MakeOwn
import Derived.Laws.Slices
import Derived.RowKit3
import Derived.Below
set_option linter.unusedSimpArgs false
set_option linter.unusedVariables false
set_option maxHeartbeats 16000000
set_option maxRecDepth 100000
namespace Go.Tm
inductive C where
 |v (x:Value)
 |fs (xs:List C) (len:Nat) (cap:Option Nat)
 |fp (xs:List C)
 |os (l off len:Nat) (cap:Option Nat)
 |op (l off:Nat)
 |om (l:Nat)
 |fn (f:FuncId) (caps:List C)
 |agg (cs:List C)
 |tup (cs:List C)
 deriving Inhabited
inductive Node where
 |dead
 |row (esz:Nat) (cells:List C)
 |map (es:Array MapEntry) (clock:Nat)
 deriving Inhabited
abbrev Heap:=List Node
abbrev Env:=List (Nat×C)
abbrev oneCell (x:Value):Bool:=x.oneCell'
def ofV:Value→Option C
 | .agg cs=>if cs.toList.all oneCell then some (.agg (cs.toList.map .v)) else none
 | .tuple cs=>if cs.toList=[] then some (.tup []) else none
 |x=>some (.v x)
def undefC:C:=.tup []
def look:Env→Nat→Option C
 |[],_=>none
 |(t,c)::r,u=>if t=u then some c else look r u
def ev (env:Env):Operand→Option C
 | .tmp t=>look env t
 | .const x=>ofV x
 | .global _=>none
 | .func f=>some (.fn f [])
def C.cells:C→List C
 | .agg cs=>cs
 |c=>[c]
def C.isCell:C→Bool
 | .agg _|.tup _=>false
 |_=>true
def pureRun (P:Program){α:Type}:Sem α→Option α
 | .pure a=>some a
 | .program k=>pureRun P (k P)
 | .mark _ k=>pureRun P k
 |_=>none
def sz (P:Program)(t:TypeId):Option Nat:=(P.info? t).map (·.size)
def aggT (P:Program)(t:TypeId):Option Bool:=(P.underlying t).map fun|.struct _|.array _ _=>true|_=>false
def zeroC (P:Program)(t:TypeId):Option (List C):=
 match P.info? t with
 |some i=>match i.zero with
  |some z=>if z.cells.toList.all oneCell then some (z.cells.toList.map .v) else none
  |none=>none
 |none=>none
def cellsAt (h:Heap):C→Option (List C)
 | .op l off=>match h[l]? with
  |some (.row _ cs)=>some (cs.drop off)
  |_=>none
 | .fp xs=>some xs
 |_=>none
def takeN (n:Nat)(cs:List C):Option (List C):=if n≤cs.length then some (cs.take n) else none
def fieldOf (P:Program)(t:TypeId)(cs:List C):Option C:=do
 let n ←sz P t
 let b ←aggT P t
 if b=true then(takeN n cs).map .agg else cs.head?
def loadC (P:Program)(h:Heap)(t:TypeId)(p:C):Option C:=do
 let cs ←cellsAt h p
 fieldOf P t cs
def put (cs:List C)(off:Nat)(ys:List C):List C:=cs.take off++(ys++cs.drop (off+ys.length))
def storeC (P:Program)(h:Heap)(t:TypeId)(p x:C):Option Heap:=
 match p with
 | .op l off=>match h[l]? with
  |some (.row e cs)=>
   if some x.cells.length=sz P t∧off+x.cells.length≤cs.length∧x.cells.all C.isCell=true then some (h.set l (.row e (put cs off x.cells))) else none
  |_=>none
 |_=>none
def new (h:Heap)(al:Option Nat)(nd:Node):Nat×Heap:=
 match al with
 |none=>(h.length,h++[nd])
 |some s=>(s,h.set s nd)
def structF (P:Program)(t:TypeId)(f:Nat):Option Field:=
 match P.underlying t with
 |some (.struct fs)=>fs[f]?
 |_=>none
def sliceE (P:Program)(t:TypeId):Option TypeId:=
 match P.underlying t with
 |some (.slice e)=>some e
 |_=>none
def intOf:C→Option (IntKind×Int)
 | .v (.int k n)=>some (k,n)
 |_=>none
def boolOf:C→Option Bool
 | .v (.bool b)=>some b
 |_=>none
def tupAt (c:C)(i:Nat):Option C:=
 match c with
 | .tup cs=>cs[i]?
 |_=>none
def fnOf:C→Option (FuncId×List C)
 | .fn k caps=>some (k,caps)
 | .v (.func (.func k) first caps)=>if first.size=0∧caps.size=0 then some (k,[]) else none
 |_=>none
def fieldAddrC (P:Program)(t:TypeId)(p:C)(f:Nat):Option C:=do
 let fd ←structF P t f
 let n ←sz P fd.type
 if n=0 then none
 else match p with
  | .op l off=>some (.op l (off+fd.offset))
  | .fp xs=>some (.fp (xs.drop fd.offset))
  |_=>none
def fieldC (P:Program)(t:TypeId)(x:C)(f:Nat):Option C:=do
 let fd ←structF P t f
 match x with
 | .agg cs=>fieldOf P fd.type (cs.drop fd.offset)
 |_=>none
def indexAddrC (P:Program)(t:TypeId)(x i:C):Option C:=do
 let (_,n) ←intOf i
 match P.underlying t with
 |some (.slice e)=>do
  let s ←sz P e
  match x with
  | .os l off len _=>if 0≤n∧n<len then some (.op l (off+n.toNat*s)) else none
  | .fs xs len _=>if 0≤n∧n<len then some (.fp (xs.drop (n.toNat*s))) else none
  |_=>none
 |some (.array len e)=>do
  let s ←sz P e
  match x with
  | .op l off=>if 0≤n∧n<len then some (.op l (off+n.toNat*s)) else none
  | .fp xs=>if 0≤n∧n<len then some (.fp (xs.drop (n.toNat*s))) else none
  |_=>none
 |_=>none
def indexC (P:Program)(t:TypeId)(x i:C):Option C:=do
 let (k,n) ←intOf i
 match x with
 | .v (.string s)=>match pureRun P (Instr.index t (.string s) (.int k n)) with
  |some y=>if oneCell y then some (.v y) else none
  |none=>none
 | .agg cs=>match P.underlying t with
  |some (.array len e)=>if 0≤n∧n<len then fieldOf P e (cs.drop (n.toNat*(sz P e).getD 0)) else none
  |_=>none
 |_=>none
def bound (o:Option C)(d:Nat):Option Nat:=
 match o with
 |none=>some d
 |some c=>match intOf c with
  |some (_,n)=>if 0≤n then some n.toNat else none
  |none=>none
def bnds (lo hi mx:Option C)(len capk:Nat):Option (Nat×Nat×Option Nat):=do
 let l ←bound lo 0
 let h ←bound hi len
 match mx with
 |none=>if l≤h∧h≤capk then some (l,h,none) else none
 |some _=>do
  let m ←bound mx 0
  if hi.isSome=true∧l≤h∧h≤m∧m≤capk then some (l,h,some m) else none
def capLeft (cap m:Option Nat)(l:Nat):Option Nat:=
 match m with
 |some m=>some (m-l)
 |none=>cap.map (· - l)
def capk (cap:Option Nat)(len off s:Nat)(cs:List C):Nat:=
 match cap with
 |some c=>c
 |none=>Nat.max len ((cs.length-off) / s)
def sliceC (P:Program)(hp:Heap)(t:TypeId)(x:C)(lo hi mx:Option C):Option C:=
 match P.underlying t with
 |some .string=>match x,mx with
  | .v (.string s),none=>(bnds lo hi none s.size s.size).map fun b=>.v (.string (s.extract b.1 b.2.1))
  |_,_=>none
 |some (.slice e)=>(sz P e).bind fun s=>
  match x with
  | .v (.slice none 0 0)=>(bnds lo hi mx 0 0).map fun _=>x
  | .os a off len cap=>match hp[a]? with
   |some (.row e' cs)=>if e'=s then(bnds lo hi mx len (capk cap len off s cs)).map fun b=>.os a (off+b.1*s) (b.2.1-b.1) (capLeft cap b.2.2 b.1) else none
   |_=>none
  | .fs xs len cap=>(bnds lo hi mx len len).map fun b=>.fs ((xs.drop (b.1*s)).take ((b.2.1-b.1)*s)) (b.2.1-b.1) (capLeft cap b.2.2 b.1)
  |_=>none
 |_=>none
def fillC (place:Nat→Option (Nat×Nat))(cells:List C):List (Nat×C)→Option (List C)
 |[]=>some cells
 |(i,x)::rest=>
  match place i with
  |none=>none
  |some (off,size)=>
   if x.cells.length=size∧off+size≤cells.length∧x.cells.all C.isCell=true then fillC place (put cells off x.cells) rest else none
def evParts (env:Env):List (Nat×Operand)→Option (List (Nat×C))
 |[]=>some []
 |(i,x)::r=>do
  let c ←ev env x
  let cs ←evParts env r
  some ((i,c)::cs)
def evs (env:Env):List Operand→Option (List C)
 |[]=>some []
 |x::r=>do
  let c ←ev env x
  let cs ←evs env r
  some (c::cs)
def evo (env:Env):Option Operand→Option (Option C)
 |none=>some none
 |some x=>(ev env x).map some
def places (P:Program)(fs:List Field)(i:Nat):Option (Nat×Nat):=
 match fs[i]? with
 |some f=>(sz P f.type).map fun s=>(f.offset,s)
 |none=>none
def buildC (P:Program)(t:TypeId)(parts:List (Nat×C)):Option C:=do
 let z ←zeroC P t
 match P.underlying t with
 |some (.struct fs)=>if fs.toList.all (fun f=>(sz P f.type).isSome)=true then(fillC (places P fs.toList) z parts).map .agg else none
 |some (.array _ e)=>do
  let s ←sz P e
  let cs ←fillC (fun i=>some (i*s,s)) z parts
  some (.agg cs)
 |_=>none
def rep (n:Nat)(z:List C):List C:=(List.replicate n z).flatten
def maxRow:Nat:=2^36
def rowOf (P:Program)(e:TypeId)(n:Nat):Option (Nat×List C):=do
 let s ←sz P e
 let z ←zeroC P e
 if 0<s∧z.length=s then some (s,rep n z) else none
def buildSliceC (P:Program)(h:Heap)(al:Option Nat)(t:TypeId)(n:Nat)(parts:List (Nat×C)):Option (C×Heap):=do
 let e ←sliceE P t
 let (s,cs) ←rowOf P e n
 let cs ←fillC (fun i=>some (i*s,s)) cs parts
 if n*s≤2^24 then some (.os (new h al (.row s cs)).1 0 n (some n),(new h al (.row s cs)).2) else none
def makeSliceC (P:Program)(h:Heap)(al:Option Nat)(t:TypeId)(len cap:C):Option (C×Heap):=do
 let e ←sliceE P t
 let (_,n) ←intOf len
 let (_,c) ←intOf cap
 let i ←P.info? e
 let (s,cs) ←rowOf P e c.toNat
 if 0≤n∧n≤c∧c≤maxRow∧i.bytes≤2^10 then some (.os (new h al (.row s cs)).1 0 n.toNat (some c.toNat),(new h al (.row s cs)).2) else none
def srcOf (h:Heap)(s:Nat):C→Option (Nat×List C)
 | .v (.slice none 0 0)=>some (0,[])
 | .os l off len _=>match h[l]? with
  |some (.row _ cs)=>(takeN (len*s) (cs.drop off)).map fun xs=>(len,xs)
  |_=>none
 | .fs xs len _=>(takeN (len*s) xs).map fun ys=>(len,ys)
 |_=>none
def newRow (h:Heap)(al:Option Nat)(s n:Nat)(cs:List C):C×Heap:=(.os (new h al (.row s cs)).1 0 n none,(new h al (.row s cs)).2)
def appendTo (h:Heap)(al:Option Nat)(s k:Nat)(ys:List C)(d:C):Option (C×Heap):=
 match d with
 | .v (.slice none 0 0)=>
  if k=0 then some (d,h) else if k≤maxRow then some (newRow h al s k ys) else none
 | .os a off len cap=>match h[a]? with
  |some (.row e' cs)=>
   if e'=s∧len+k≤maxRow then
    match cap with
    |some c=>
     if len+k≤c then
      if off+(len+k)*s≤cs.length then some (.os a off (len+k) (some c),h.set a (.row s (put cs (off+len*s) ys))) else none
     else match takeN (len*s) (cs.drop off) with
      |some old=>some (newRow h al s (len+k) (old++ys))
      |none=>none
    |none=>
     if k=0 then some (d,h)
     else if off+(len+k)*s≤cs.length then some (.os a off (len+k) none,h.set a (.row s (put cs (off+len*s) ys)))
     else if off+len*s=cs.length then some (newRow (h.set a .dead) al s (len+k) (cs.drop off++ys))
     else none
   else none
  |_=>none
 | .fs xs len cap=>
  if k=0 then some (d,h)
  else match cap with
   |some c=>if c<len+k∧len+k≤maxRow then
     match takeN (len*s) xs with
     |some old=>some (newRow h al s (len+k) (old++ys))
     |none=>none
    else none
   |none=>none
 |_=>none
def appendC (P:Program)(h:Heap)(al:Option Nat)(t tx:TypeId)(d x:C):Option (C×Heap):=do
 let e ←sliceE P t
 let _ ←sliceE P tx
 let s ←sz P e
 let z ←zeroC P e
 let i ←P.info? e
 let (k,ys) ←srcOf h s x
 if 0<s∧z.length=s∧i.bytes≤2^10 then appendTo h al s k ys d else none
def copyC (P:Program)(h:Heap)(t:TypeId)(d x:C):Option (C×Heap):=do
 let e ←sliceE P t
 let s ←sz P e
 let (k,new') ←srcOf h s x
 match d with
 | .v (.slice none 0 0)=>some (.v (.int .i64 0),h)
 | .os a off len _=>match h[a]? with
  |some (.row e' cs)=>
   let n:=Nat.min k len
   if e'=s∧off+n*s≤cs.length then some (.v (.int .i64 n),h.set a (.row e' (put cs off (new'.take (n*s))))) else none
  |_=>none
 |_=>none
def clearC (P:Program)(h:Heap)(t:TypeId)(d:C):Option Heap:=do
 let e ←sliceE P t
 match d with
 | .v (.slice none 0 0)=>some h
 | .os a off len _=>if len=0 then some h else match h[a]? with
  |some (.row e' cs)=>do
   let (s,zs) ←rowOf P e len
   if e'=s∧off+len*s≤cs.length then some (h.set a (.row e' (put cs off zs))) else none
  |_=>none
 |_=>none
def lenC (P:Program)(t:TypeId)(x:C):Option C:=
 match P.underlying t,x with
 |some .string,.v (.string s)=>some (.v (.int .i64 s.size))
 |some (.slice _),.os _ _ len _=>some (.v (.int .i64 len))
 |some (.slice _),.fs _ len _=>some (.v (.int .i64 len))
 |some (.slice _),.v (.slice none 0 0)=>some (.v (.int .i64 0))
 |some (.array n _),_=>some (.v (.int .i64 n))
 |_,_=>none
def scalar:C→Option Value
 | .v x=>some x
 |_=>none
def scalars:List C→Option (List Value)
 |[]=>some []
 |c::r=>do
  let x ←scalar c
  let xs ←scalars r
  some (x::xs)
def pureV (P:Program)(s:Sem Value):Option C:=
 match pureRun P s with
 |some y=>if oneCell y then some (.v y) else none
 |none=>none
def isNilC:C→Option Bool
 | .v (.pointer none)=>some true
 | .op _ _=>some false
 | .fp _=>some false
 |_=>none
def isNilS:C→Option Bool
 | .v (.slice none 0 0)=>some true
 | .os _ _ _ _=>some false
 | .fs _ len _=>if len=0 then none else some false
 |_=>none
def binC (P:Program)(op:BinOp)(t:TypeId)(x y:Operand)(a b:C):Option C:=
 match a,b with
 | .v p,.v q=>pureV P (do eqGuard op t x y p q;binOp op t p q)
 |_,_=>match P.underlying t,isNilC a,isNilC b with
  |some (.pointer _),some i,some j=>if i=true∨j=true then
    match op with
    | .eql=>some (.v (.bool (i&&j)))
    | .neq=>some (.v (.bool (!(i&&j))))
    |_=>none
   else none
  |some (.slice _),_,_=>match isNilS a,isNilS b with
   |some i,some j=>if i=true∨j=true then
     match op with
     | .eql=>some (.v (.bool (i&&j)))
     | .neq=>some (.v (.bool (!(i&&j))))
     |_=>none
    else none
   |_,_=>none
  |_,_,_=>none
def bytesOf:List C→Option (List Int)
 |[]=>some []
 | .v (.int .u8 n)::r=>(bytesOf r).map (n:: ·)
 |_=>none
def strOf (ns:List Int):ByteArray:=ns.foldl (fun r n=>r.push (UInt8.ofNat n.toNat)) ByteArray.empty
def isBytes (P:Program)(s d:TypeId):Bool:=
 match P.underlying s,P.underlying d with
 |some (.slice e),some .string=>match P.underlying e with
  |some (.int .u8)=>decide (sz P e=some 1)
  |_=>false
 |_,_=>false
def mapE (P:Program)(t:TypeId):Option (TypeId×TypeId):=
 match P.underlying t with
 |some (.map k e)=>some (k,e)
 |_=>none
def plainKey:TypeDesc→Bool
 | .int _|.string=>true
 |_=>false
def findM (P:Program)(kt:TypeId)(k:Value)(es:List MapEntry):Option (Option (Nat×Value)):=do
 let d ←P.underlying kt
 if plainKey d=true then Instr.findNow d k es 0 else none
def zeroV (P:Program)(t:TypeId):Option Value:=(P.info? t).bind (·.zero)
def lookupN (P:Program)(t:TypeId)(es:List MapEntry)(i:C)(ok:Bool):Option C:=do
 let (kt,et) ←mapE P t
 let k ←scalar i
 let r ←findM P kt k es
 let z ←zeroV P et
 if oneCell ((r.map (·.2)).getD z)=true then some (if ok=true then .tup [.v ((r.map (·.2)).getD z),.v (.bool r.isSome)] else .v ((r.map (·.2)).getD z)) else none
def lookupC (P:Program)(h:Heap)(t:TypeId)(x i:C)(ok:Bool):Option C:=
 match x with
 | .om l=>match h[l]? with
  |some (.map es _)=>lookupN P t es.toList i ok
  |_=>none
 |_=>none
def mapUpdN (P:Program)(t:TypeId)(es:Array MapEntry)(clock:Nat)(k v:C):Option Node:=do
 let (kt,_) ←mapE P t
 let k ←scalar k
 let v ←scalar v
 let r ←findM P kt k es.toList
 match r with
 |some y=>some (.map (es.modify y.1 fun e=>{ e with key:=k,val:=v }) clock)
 |none=>some (.map (es.push { key:=k,val:=v,born:=clock }) (clock+1))
def mapUpdC (P:Program)(h:Heap)(t:TypeId)(m k v:C):Option Heap:=
 match m with
 | .om l=>match h[l]? with
  |some (.map es clock)=>(mapUpdN P t es clock k v).map fun nd=>h.set l nd
  |_=>none
 |_=>none
def convC (P:Program)(h:Heap)(s d:TypeId)(a:C):Option C:=
 match scalar a with
 |some p=>pureV P (convert s d p)
 |none=>if isBytes P s d=true then(srcOf h 1 a).bind fun r=>(bytesOf r.2).map fun ns=>.v (.string (strOf ns)) else none
def calleeOf (env:Env):Callee→Option (FuncId×List C)
 | .value f=>(ev env f).bind fnOf
 |_=>none
abbrev CallF:=FuncId→List C→Heap→Option (C×Heap)
def stepOp (P:Program)(call:CallF)(al:Option Nat)(env:Env)(h:Heap)(o:Op):Option (C×Heap):=
 match o with
 | .move x|.assign x=>do
  let c ←ev env x
  some (c,h)
 | .pick c a b=>do
  let t ←boolOf (←ev env c)
  let r ←if t=true then ev env a else ev env b
  some (r,h)
 | .alloc e=>do
  let z ←zeroC P e
  some (.op (new h al (.row 0 z)).1 0,(new h al (.row 0 z)).2)
 | .box _ x=>do
  let c ←ev env x
  if c.cells.all C.isCell=true then some (.op (new h al (.row 0 c.cells)).1 0,(new h al (.row 0 c.cells)).2) else none
 | .build t ps=>do
  let qs ←evParts env ps.toList
  let r ←buildC P t qs
  some (r,h)
 | .buildSlice t n ps=>do
  let qs ←evParts env ps.toList
  buildSliceC P h al t n qs
 | .load t a=>do
  let p ←ev env a
  let r ←loadC P h t p
  some (r,h)
 | .store t a x=>do
  let p ←ev env a
  let c ←ev env x
  let h ←storeC P h t p c
  some (undefC,h)
 | .nilCheck x=>do
  let p ←ev env x
  if isNilC p=some false then some (p,h) else none
 | .binOp op t x y _=>do
  let a ←ev env x
  let b ←ev env y
  let r ←binC P op t x y a b
  some (r,h)
 | .unOp op _ x=>do
  let a ←ev env x
  let p ←scalar a
  let r ←pureV P (Op.unary op p)
  some (r,h)
 | .convert s d x=>do
  let a ←ev env x
  let r ←convC P h s d a
  some (r,h)
 | .makeFunc f first caps=>do
  let cs ←evs env caps.toList
  match f with
  | .func k=>if first.size=0 then some (.fn k cs,h) else none
  |_=>none
 | .makeSlice t l c=>do
  let a ←ev env l
  let b ←ev env c
  makeSliceC P h al t a b
 | .slice t x lo hi mx=>do
  let a ←ev env x
  let l ←evo env lo
  let m ←evo env hi
  let n ←evo env mx
  let r ←sliceC P h t a l m n
  some (r,h)
 | .fieldAddr t x f=>do
  let a ←ev env x
  let r ←fieldAddrC P t a f
  some (r,h)
 | .field t x f=>do
  let a ←ev env x
  let r ←fieldC P t a f
  some (r,h)
 | .indexAddr t x i=>do
  let a ←ev env x
  let b ←ev env i
  let r ←indexAddrC P t a b
  some (r,h)
 | .index t x i=>do
  let a ←ev env x
  let b ←ev env i
  let r ←indexC P t a b
  some (r,h)
 | .extract x i=>do
  let r ←tupAt (←ev env x) i
  some (r,h)
 | .makeMap _ none=>some (.om (new h al (.map #[] 0)).1,(new h al (.map #[] 0)).2)
 | .lookup t x i ok=>do
  let a ←ev env x
  let b ←ev env i
  let r ←lookupC P h t a b ok
  some (r,h)
 | .mapUpdate t m k v=>do
  let a ←ev env m
  let b ←ev env k
  let c ←ev env v
  let h ←mapUpdC P h t a b c
  some (undefC,h)
 | .call c=>
  match c.callee with
  | .builtin .len=>do
   let t ←c.argTypes[0]?
   let x ←c.args[0]?
   let a ←ev env x
   let r ←lenC P t a
   some (r,h)
  | .builtin .append=>do
   let t ←c.argTypes[0]?
   let tx ←c.argTypes[1]?
   let x ←c.args[0]?
   let y ←c.args[1]?
   let a ←ev env x
   let b ←ev env y
   appendC P h al t tx a b
  | .builtin .copy=>do
   let t ←c.argTypes[0]?
   let x ←c.args[0]?
   let y ←c.args[1]?
   let a ←ev env x
   let b ←ev env y
   copyC P h t a b
  | .builtin .clear=>do
   let t ←c.argTypes[0]?
   let x ←c.args[0]?
   let a ←ev env x
   let h ←clearC P h t a
   some (undefC,h)
  | .builtin .min=>do
   let cs ←evs env c.args.toList
   let xs ←scalars cs
   let r ←pureV P (Builtin.min_ #[] 0 xs.toArray)
   some (r,h)
  | .builtin .max=>do
   let cs ←evs env c.args.toList
   let xs ←scalars cs
   let r ←pureV P (Builtin.max_ #[] 0 xs.toArray)
   some (r,h)
  | .builtin _=>none
  |k=>do
   let (f,caps) ←calleeOf env k
   let cs ←evs env c.args.toList
   call f (cs++caps) h
 |_=>none
structure I where
 dst:Option Nat
 op:Op
 g:Option (Nat×Bool)
structure St where
 env:Env
 heap:Heap
def St.put (s:St)(d:Option Nat)(c:C):St:=
 match d with
 |some t=>{ s with env:=(t,c)::s.env }
 |none=>s
def wantedC (env:Env):Option (Nat×Bool)→Option Bool
 |none=>some true
 |some (t,b)=>match look env t with
  |some (.v (.bool x))=>some (x==b)
  |some (.tup [])=>some false
  |_=>none
def stepI (P:Program)(call:CallF)(al:Option Nat)(i:I)(s:St):Option St:=do
 let b ←wantedC s.env i.g
 if b=true then(stepOp P call al s.env s.heap i.op).map fun r=>St.put ⟨s.env,r.2⟩ i.dst r.1
 else some (s.put i.dst undefC)
def runI (P:Program)(call:CallF):List I→St→Option St
 |[],s=>some s
 |i::r,s=>do
  let s ←stepI P call none i s
  runI P call r s
inductive Ctl where
 |normal|exit (id:Nat)|ret
 deriving DecidableEq
inductive Cls where
 |pure|load|chain
 deriving DecidableEq
structure D where
 ix:Nat
 i:I
 anc:List Nat
 cls:Cls
inductive K where
 |skip
 |reg (ops:List I) (keep:List Nat)
 |draw (ops:List D) (keep:List Nat)
 |seq (a b:K)
 |cond (c:Operand) (a b:K)
 |block (id:Nat) (a:K)
 |loop (keep:List Nat) (a:K)
 |exit (id:Nat)
 |ret
def keepE (env:Env):List Nat→Env
 |[]=>[]
 |t::r=>match look env t with
  |some c=>(t,c)::keepE env r
  |none=>keepE env r
def andThen (r:Option (Ctl×St))(k:St→Option (Ctl×St)):Option (Ctl×St):=
 match r with
 |some (.normal,s)=>k s
 |r=>r
def leaves (id:Nat)(r:Option (Ctl×St)):Option (Ctl×St):=
 match r with
 |some (.exit j,s)=>if j=id then some (.normal,s) else some (.exit j,s)
 |r=>r
def iter (body:St→Option (Ctl×St)):Nat→St→Option (Ctl×St)
 |0,_=>none
 |n+1,s=>andThen (body s) (iter body n)
structure Rec where
 d:D
 env:Env
 heap:Heap
 c:C
 heap':Heap
 on:Bool
def recD (P:Program)(call:CallF)(d:D)(s:St):Option Rec:=do
 let b ←wantedC s.env d.i.g
 if b=true then(stepOp P call none s.env s.heap d.i.op).map fun r=>⟨d,s.env,s.heap,r.1,r.2,true⟩
 else some ⟨d,s.env,s.heap,undefC,s.heap,false⟩
def recsD (P:Program)(call:CallF):List D→St→Option (List Rec×St)
 |[],s=>some ([],s)
 |d::ds,s=>do
  let r ←recD P call d s
  let (rs,s') ←recsD P call ds (St.put ⟨s.env,r.heap'⟩ d.i.dst r.c)
  some (r::rs,s')
def loadOk (vals:FuncId→Bool)(env:Env):Op→Bool
 | .load _ _=>true
 | .slice .. =>true
 | .call c=>match calleeOf env c.callee with
  |some (f,_)=>vals f
  |none=>false
 |_=>false
def touches (env:Env):Op→Option Nat
 | .store _ p _=>match ev env p with
  |some (.op l _)=>some l
  |_=>none
 | .call c=>match c.args[0]? with
  |some x=>match ev env x with
   |some (.os l _ _ _)=>some l
   |_=>none
  |none=>none
 |_=>none
def scalE (env:Env):List Operand→Bool
 |[]=>true
 |x::r=>match ev env x with
  |some (.v _)=>scalE env r
  |_=>false
def scalCall (env:Env)(c:Call):Bool:=match c.callee with
 | .value (.func _)=>scalE env c.args.toList
 |_=>false
def readRow (env:Env):Op→Option (Option Nat)
 | .load _ p=>match ev env p with
  |some (.op a _)=>some (some a)
  |some (.fp _)=>some none
  |_=>none
 | .slice _ x _ _ _=>match ev env x with
  |some (.os a _ _ _)=>some (some a)
  |some (.fs _ _ _)=>some none
  |some (.v _)=>some none
  |_=>none
 | .call c=>if scalCall env c=true then some none else none
 |_=>none
def veq:Value→Value→Bool
 | .int j a,.int k b=>decide (j=k)&&decide (a=b)
 | .bool a,.bool b=>a==b
 | .string a,.string b=>a==b
 | .slice none l c,.slice none l' c'=>Nat.beq l l'&&Nat.beq c c'
 | .pointer none,.pointer none=>true
 |_,_=>false
def oeq:Option Nat→Option Nat→Bool
 |none,none=>true
 |some a,some b=>Nat.beq a b
 |_,_=>false
mutual
def ceq:C→C→Bool
 | .v a,.v b=>veq a b
 | .fs xs l c,.fs ys m d=>ceqs xs ys&&(Nat.beq l m&&oeq c d)
 | .fp xs,.fp ys=>ceqs xs ys
 | .os l o n c,.os l' o' n' c'=>Nat.beq l l'&&(Nat.beq o o'&&(Nat.beq n n'&&oeq c c'))
 | .op l o,.op l' o'=>Nat.beq l l'&&Nat.beq o o'
 | .om l,.om m=>Nat.beq l m
 | .agg xs,.agg ys=>ceqs xs ys
 | .tup xs,.tup ys=>ceqs xs ys
 |_,_=>false
def ceqs:List C→List C→Bool
 |[],[]=>true
 |x::xs,y::ys=>ceq x y&&ceqs xs ys
 |_,_=>false
end
def nodeEq:Node→Node→Bool
 | .dead,.dead=>true
 | .row e cs,.row e' cs'=>Nat.beq e e'&&ceqs cs cs'
 |_,_=>false
def sameRow (h h':Heap)(a:Nat):Bool:=
 match h[a]?,h'[a]? with
 |some x,some y=>nodeEq x y
 |_,_=>false
def isCallV:Op→Bool
 | .call c=>match c.callee with
  | .builtin _=>false
  |_=>true
 |_=>false
def rowStays (env:Env)(o:Op)(h h':Heap)(a:Nat):Bool:=
 if isCallV o=true then sameRow h h' a else decide (touches env o≠some a)
def apart (l r:Rec):Bool:=
 match readRow l.env l.d.i.op with
 |some (some a)=>rowStays r.env r.d.i.op r.heap r.heap' a
 |some none=>true
 |none=>false
def chk (vals:FuncId→Bool):List Rec→List Rec→List Nat→Bool
 |[],_,_=>true
 |r::rs,ls,cs=>
  if r.on=true then
   match r.d.cls with
   | .pure=>chk vals rs ls cs
   | .load=>cs.all (fun c=>r.d.anc.contains c)&&loadOk vals r.env r.d.i.op&&chk vals rs (r::ls) cs
   | .chain=>cs.all (fun c=>r.d.anc.contains c)&&ls.all (fun l=>r.d.anc.contains l.d.ix||apart l r)&&(!isCallV r.d.i.op||Nat.ble r.heap.length r.heap'.length)&&chk vals rs ls (r.d.ix::cs)
  else chk vals rs ls cs
def exec (P:Program)(vals:FuncId→Bool)(call:CallF)(n:Nat):K→St→Option (Ctl×St)
 | .skip,s=>some (.normal,s)
 | .reg ops keep,s=>(runI P call ops s).map fun s=>(.normal,⟨keepE s.env keep,s.heap⟩)
 | .draw ds keep,s=>(recsD P call ds s).bind fun r=>if chk vals r.1 [] []=true then some (.normal,⟨keepE r.2.env keep,r.2.heap⟩) else none
 | .seq a b,s=>andThen (exec P vals call n a s) (exec P vals call n b)
 | .cond c a b,s=>((ev s.env c).bind boolOf).bind fun t=>if t=true then exec P vals call n a s else exec P vals call n b s
 | .block id a,s=>leaves id (exec P vals call n a s)
 | .loop keep a,s=>iter (fun s=>exec P vals call n a ⟨keepE s.env keep,s.heap⟩) n s
 | .exit id,s=>some (.exit id,s)
 | .ret,s=>some (.ret,s)
end Go.Tm
namespace Go.Tm
structure Loc where
 block:Nat
 base:Nat
 room:Nat
 esz:Nat
 known:Nat
 deriving Inhabited
def noName (_:Nat):Prop:=False
section
variable (w:World) (bad:Nat→Prop)
mutual
def Rel (S:Nat→Prop) (φ:Nat→Loc):C→Value→Prop
 | .v x,u=>u=x∧x.oneCell'=true
 | .fs xs len cap,u=>((∃a,u=.slice a 0 0)∧xs=[]∧len=0∧(cap=none∨cap=some 0))∨
  ∃b o cap',u=.slice (some ⟨b,o,none⟩) len cap'∧len≤cap'∧(∀c,cap=some c→cap'=c)∧(xs=[]∨¬bad b∧b<w.heap.size∧RelAt noName φ xs b o)
 | .fp xs,u=>∃b o,u=.pointer (some ⟨b,o,none⟩)∧(xs=[]∨¬bad b∧b<w.heap.size∧RelAt noName φ xs b o)
 | .os l off len cap,u=>S l∧∃b o cap',u=.slice (some ⟨b,o,none⟩) len cap'∧len≤cap'∧(∀c,cap=some c→cap'=c)∧(cap'=0∨b=(φ l).block∧o=(φ l).base+off)∧
  (cap'=0∨off+cap'*(φ l).esz≤(φ l).room)∧(cap=none→(φ l).known≤off+cap'*(φ l).esz)
 | .op l off,u=>S l∧u=.pointer (some ⟨(φ l).block,(φ l).base+off,none⟩)
 | .om l,u=>S l∧u=.map (some (φ l).block)
 | .fn f caps,u=>∃us,u=.func (.func f) #[] us∧RelL S φ caps us.toList
 | .agg cs,u=>∃us,u=.agg us∧RelL S φ cs us.toList∧∀x∈us.toList,x.oneCell'=true
 | .tup cs,u=>∃us,u=.tuple us∧RelL S φ cs us.toList
def RelAt (S:Nat→Prop) (φ:Nat→Loc):List C→Nat→Nat→Prop
 |[],_,_=>True
 |c::cs,b,o=>(∃u,w.cell? ⟨b,o,none⟩=some u∧Rel S φ c u∧u.oneCell'=true)∧RelAt S φ cs b (o+1)
def RelL (S:Nat→Prop) (φ:Nat→Loc):List C→List Value→Prop
 |[],us=>us=[]
 |c::cs,us=>∃u r,us=u::r∧Rel S φ c u∧RelL S φ cs r
end
end
section
variable {w w':World} {bad bad' S S':Nat→Prop} {φ φ':Nat→Loc}
theorem RelL.length:∀{cs:List C} {us:List Value},RelL w bad S φ cs us→us.length=cs.length
 |[],us,h=>by simp only[RelL] at h;simp[h]
 |c::cs,us,h=>by
  simp only[RelL] at h
  obtain⟨u,r,rfl,_,h⟩:=h
  simp[RelL.length h]
theorem RelL.get:∀{cs:List C} {us:List Value} {i:Nat} {c:C},RelL w bad S φ cs us→cs[i]?=some c→∃u,us[i]?=some u∧Rel w bad S φ c u
 |[],_,_,_,_,h=>by simp at h
 |c::cs,us,i,d,h,hi=>by
  simp only[RelL] at h
  obtain⟨u,r,rfl,hc,h⟩:=h
  cases i with
  |zero=>simp at hi;subst hi;exact⟨u,rfl,hc⟩
  |succ i=>simp at hi;obtain⟨v,hv,hr⟩:=RelL.get h hi;exact⟨v,by simpa using hv,hr⟩
theorem RelL.append:∀{cs ds:List C} {us vs:List Value},RelL w bad S φ cs us→RelL w bad S φ ds vs→RelL w bad S φ (cs++ds) (us++vs)
 |[],ds,us,vs,h,k=>by simp only[RelL] at h;subst h;exact k
 |c::cs,ds,us,vs,h,k=>by
  simp only[RelL] at h
  obtain⟨u,r,rfl,hc,h⟩:=h
  simp only[List.cons_append,RelL]
  exact⟨u,r++vs,rfl,hc,RelL.append h k⟩
theorem RelL.take:∀{cs:List C} {us:List Value} (n:Nat),RelL w bad S φ cs us→RelL w bad S φ (cs.take n) (us.take n)
 |[],us,n,h=>by simp only[RelL] at h;subst h;simp[RelL]
 |c::cs,us,0,h=>by simp[RelL]
 |c::cs,us,n+1,h=>by
  simp only[RelL] at h
  obtain⟨u,r,rfl,hc,h⟩:=h
  simp only[List.take_succ_cons,RelL]
  exact⟨u,_,rfl,hc,RelL.take n h⟩
theorem RelL.drop:∀{cs:List C} {us:List Value} (n:Nat),RelL w bad S φ cs us→RelL w bad S φ (cs.drop n) (us.drop n)
 |[],us,n,h=>by simp only[RelL] at h;subst h;simp[RelL]
 |c::cs,us,0,h=>h
 |c::cs,us,n+1,h=>by
  simp only[RelL] at h
  obtain⟨u,r,rfl,hc,h⟩:=h
  simpa using RelL.drop n h
theorem RelAt.drop:∀{cs:List C} {b o:Nat} (n:Nat),RelAt w bad S φ cs b o→RelAt w bad S φ (cs.drop n) b (o+n)
 |[],b,o,n,h=>by simp[RelAt]
 |c::cs,b,o,0,h=>h
 |c::cs,b,o,n+1,h=>by
  simp only[RelAt] at h
  have:=RelAt.drop n h.2
  simpa[Nat.add_assoc,Nat.add_comm 1 n] using this
theorem RelAt.take:∀{cs:List C} {b o:Nat} (n:Nat),RelAt w bad S φ cs b o→RelAt w bad S φ (cs.take n) b o
 |[],b,o,n,h=>by simp[RelAt]
 |c::cs,b,o,0,h=>by simp[RelAt]
 |c::cs,b,o,n+1,h=>by
  simp only[RelAt] at h
  simp only[List.take_succ_cons,RelAt]
  exact⟨h.1,RelAt.take n h.2⟩
theorem RelAt.append:∀{cs ds:List C} {b o:Nat},RelAt w bad S φ cs b o→RelAt w bad S φ ds b (o+cs.length)→RelAt w bad S φ (cs++ds) b o
 |[],ds,b,o,_,k=>by simpa using k
 |c::cs,ds,b,o,h,k=>by
  simp only[RelAt] at h
  simp only[List.cons_append,RelAt]
  refine⟨h.1,RelAt.append h.2 ?_⟩
  simpa[Nat.add_assoc,Nat.add_comm 1] using k
theorem RelAt.reads:∀{cs:List C} {b o:Nat},RelAt w bad S φ cs b o→∃us:List Value,us.length=cs.length∧RelL w bad S φ cs us∧w.rangeAt b o us∧∀x∈us,x.oneCell'=true
 |[],b,o,_=>⟨[],rfl,by simp[RelL],fun j v h=>by simp at h,by simp⟩
 |c::cs,b,o,h=>by
  simp only[RelAt] at h
  obtain⟨⟨u,hu,hr,h1⟩,h⟩:=h
  obtain⟨us,hl,hrel,hra,hone⟩:=RelAt.reads h
  refine⟨u::us,by simp[hl],by simp only[RelL];exact⟨u,us,rfl,hr,hrel⟩,fun j v hj=>?_,fun x hx=>?_⟩
  ·cases j with
   |zero=>simp at hj;subst hj;exact hu
   |succ j=>have:=hra j v (by simpa using hj);simpa[Nat.add_assoc,Nat.add_comm 1] using this
  ·rcases List.mem_cons.1 hx with rfl|hx
   ·exact h1
   ·exact hone x hx
theorem RelAt.of_range:∀{cs:List C} {us:List Value} {b o:Nat},RelL w bad S φ cs us→w.rangeAt b o us→(∀x∈us,x.oneCell'=true)→RelAt w bad S φ cs b o
 |[],_,_,_,_,_,_=>by simp[RelAt]
 |c::cs,us,b,o,h,hr,h1=>by
  simp only[RelL] at h
  obtain⟨u,r,rfl,hc,h⟩:=h
  simp only[RelAt]
  refine⟨⟨u,by simpa using hr 0 u rfl,hc,h1 u (by simp)⟩,RelAt.of_range h (fun j v hj=>?_) (fun x hx=>h1 x (by simp[hx]))⟩
  have:=hr (j+1) v (by simpa using hj)
  simpa[Nat.add_assoc,Nat.add_comm 1] using this
structure Later (w:World)(bad S:Nat→Prop)(φ:Nat→Loc)(w':World)(bad' S':Nat→Prop)(φ':Nat→Loc):Prop where
 cell:∀b o u,¬bad b→b<w.heap.size→w.cell? ⟨b,o,none⟩=some u→w'.cell? ⟨b,o,none⟩=some u
 bad:∀b,b<w.heap.size→bad' b→bad b
 size:w.heap.size≤w'.heap.size
 names:∀l,S l→S' l∧φ' l=φ l
theorem Later.no (k:Later w bad S φ w' bad' S' φ')(ψ ψ':Nat→Loc)(S2:Nat→Prop):Later w bad noName ψ w' bad' S2 ψ':=⟨k.cell,k.bad,k.size,fun _ h=>h.elim⟩
mutual
theorem Rel.later {S S':Nat→Prop} {φ φ':Nat→Loc} (k:Later w bad S φ w' bad' S' φ'):∀{c:C} {u:Value},Rel w bad S φ c u→Rel w' bad' S' φ' c u
 | .v x,u,h=>by simpa only[Rel] using h
 | .fs xs len cap,u,h=>by
  simp only[Rel] at h⊢
  rcases h with h|⟨b,o,cap',hu,hl,hc,hx⟩
  ·exact .inl h
  ·refine .inr ⟨b,o,cap',hu,hl,hc,?_⟩
   rcases hx with hx|⟨hb,hs,hx⟩
   ·exact .inl hx
   ·exact .inr ⟨fun h=>hb (k.bad b hs h),Nat.lt_of_lt_of_le hs k.size,RelAt.later (k.no φ φ' noName) hb hs hx⟩
 | .fp xs,u,h=>by
  simp only[Rel] at h⊢
  obtain⟨b,o,hu,hx⟩:=h
  refine⟨b,o,hu,?_⟩
  rcases hx with hx|⟨hb,hs,hx⟩
  ·exact .inl hx
  ·exact .inr ⟨fun h=>hb (k.bad b hs h),Nat.lt_of_lt_of_le hs k.size,RelAt.later (k.no φ φ' noName) hb hs hx⟩
 | .os l off len cap,u,h=>by
  simp only[Rel] at h⊢
  obtain⟨hS,h⟩:=h
  obtain⟨hS',e⟩:=k.names l hS
  rw[e]
  exact⟨hS',h⟩
 | .op l off,u,h=>by
  simp only[Rel] at h⊢
  obtain⟨hS',e⟩:=k.names l h.1
  rw[e]
  exact⟨hS',h.2⟩
 | .om l,u,h=>by
  simp only[Rel] at h⊢
  obtain⟨hS',e⟩:=k.names l h.1
  rw[e]
  exact⟨hS',h.2⟩
 | .fn f caps,u,h=>by
  simp only[Rel] at h⊢
  obtain⟨us,hu,h⟩:=h
  exact⟨us,hu,RelL.later k h⟩
 | .agg cs,u,h=>by
  simp only[Rel] at h⊢
  obtain⟨us,hu,h,h1⟩:=h
  exact⟨us,hu,RelL.later k h,h1⟩
 | .tup cs,u,h=>by
  simp only[Rel] at h⊢
  obtain⟨us,hu,h⟩:=h
  exact⟨us,hu,RelL.later k h⟩
theorem RelAt.later {S S':Nat→Prop} {φ φ':Nat→Loc} (k:Later w bad S φ w' bad' S' φ'):∀{cs:List C} {b o:Nat},¬bad b→b<w.heap.size→RelAt w bad S φ cs b o→RelAt w' bad' S' φ' cs b o
 |[],_,_,_,_,_=>by simp[RelAt]
 |c::cs,b,o,hb,hs,h=>by
  simp only[RelAt] at h⊢
  obtain⟨⟨u,hu,hr,h1⟩,h⟩:=h
  exact⟨⟨u,k.cell b o u hb hs hu,Rel.later k hr,h1⟩,RelAt.later k hb hs h⟩
theorem RelL.later {S S':Nat→Prop} {φ φ':Nat→Loc} (k:Later w bad S φ w' bad' S' φ'):∀{cs:List C} {us:List Value},RelL w bad S φ cs us→RelL w' bad' S' φ' cs us
 |[],_,h=>by simpa only[RelL] using h
 |c::cs,us,h=>by
  simp only[RelL] at h⊢
  obtain⟨u,r,hu,hr,h⟩:=h
  exact⟨u,r,hu,Rel.later k hr,RelL.later k h⟩
end
theorem Later.refl:Later w bad S φ w bad S φ:=⟨fun _ _ _ _ _ h=>h,fun _ _ h=>h,Nat.le_refl _,fun _ h=>⟨h,rfl⟩⟩
theorem RelAt.free {cs:List C}{b o:Nat}(hb:¬bad b)(hs:b<w.heap.size)(h:RelAt w bad noName φ cs b o):RelAt w bad S φ' cs b o:=RelAt.later ((Later.refl (w:=w) (bad:=bad) (S:=S) (φ:=φ)).no φ φ' S) hb hs h
def Fro (w:World)(bad:Nat→Prop)(φ:Nat→Loc)(xs:List C)(b o:Nat):Prop:=xs=[]∨¬bad b∧b<w.heap.size∧RelAt w bad noName φ xs b o
theorem Fro.relAt {xs:List C}{b o:Nat}(h:Fro w bad φ xs b o):RelAt w bad S φ' xs b o:=by
 rcases h with rfl|⟨hb,hs,hx⟩
 ·simp[RelAt]
 ·exact RelAt.free hb hs hx
theorem Fro.drop {xs:List C}{b o:Nat}(h:Fro w bad φ xs b o)(n:Nat):Fro w bad φ (xs.drop n) b (o+n):=by
 rcases h with rfl|⟨hb,hs,hx⟩
 ·exact .inl (by simp)
 ·exact .inr ⟨hb,hs,RelAt.drop n hx⟩
theorem Fro.take {xs:List C}{b o:Nat}(h:Fro w bad φ xs b o)(n:Nat):Fro w bad φ (xs.take n) b o:=by
 rcases h with rfl|⟨hb,hs,hx⟩
 ·exact .inl (by simp)
 ·exact .inr ⟨hb,hs,RelAt.take n hx⟩
theorem RelAt.moved (k:Later w bad S φ w' bad' S' φ'):∀{cs:List C} {b o b' o':Nat},RelAt w bad S φ cs b o→(∀j u,j<cs.length→w.cell? ⟨b,o+j,none⟩=some u→w'.cell? ⟨b',o'+j,none⟩=some u)→RelAt w' bad' S' φ' cs b' o'
 |[],_,_,_,_,_,_=>by simp[RelAt]
 |c::cs,b,o,b',o',h,hk=>by
  simp only[RelAt] at h⊢
  obtain⟨⟨u,hu,hr,h1⟩,h⟩:=h
  refine⟨⟨u,by simpa using hk 0 u (by simp) (by simpa using hu),Rel.later k hr,h1⟩,RelAt.moved k h fun j u hj hu=>?_⟩
  have:=hk (j+1) u (by simpa using hj) (by simpa[Nat.add_assoc,Nat.add_comm 1] using hu)
  simpa[Nat.add_assoc,Nat.add_comm 1] using this
end
def live (h:Heap)(l:Nat):Prop:=∃nd,h[l]?=some nd∧nd≠ .dead
def Own (φ:Nat→Loc)(h:Heap)(b:Nat):Prop:=∃l,live h l∧(φ l).block=b
def badOf (X:Nat→Prop)(φ:Nat→Loc)(h:Heap)(b:Nat):Prop:=X b∨Own φ h b
def OkNode (w:World)(bad S:Nat→Prop)(φ:Nat→Loc)(l:Nat):Node→Prop
 | .dead=>True
 | .row e cs=>(φ l).esz=e∧(φ l).known=cs.length∧cs.length≤(φ l).room∧w.there (φ l).block (φ l).base (φ l).room∧RelAt w bad S φ cs (φ l).block (φ l).base
 | .map es clock=>w.heap[(φ l).block]?=some (.map es clock)
structure Good (w:World)(X S:Nat→Prop)(φ:Nat→Loc)(h:Heap):Prop where
 node:∀l nd,h[l]?=some nd→OkNode w (badOf X φ h) S φ l nd
 inS:∀l,live h l→S l
 size:∀l,live h l→(φ l).block<w.heap.size
 inj:∀l m,live h l→live h m→(φ l).block=(φ m).block→l=m
 xlt:∀b,X b→b<w.heap.size
 apart:∀l,live h l→¬X (φ l).block
structure Ext (w:World)(S:Nat→Prop)(φ:Nat→Loc)(h:Heap)(w':World)(S':Nat→Prop)(φ':Nat→Loc)(h':Heap):Prop where
 os:w'.os=w.os
 tape:w'.tape=w.tape
 output:w'.output=w.output
 size:w.heap.size≤w'.heap.size
 keep:∀b,b<w.heap.size→¬Own φ h b→w'.heap[b]?=w.heap[b]?
 names:∀l,S l→S' l∧φ' l=φ l
 own:∀l,live h' l→Own φ h (φ' l).block∨w.heap.size≤(φ' l).block
theorem Ext.refl (w:World)(S:Nat→Prop)(φ:Nat→Loc)(h:Heap):Ext w S φ h w S φ h:=
 ⟨rfl,rfl,rfl,Nat.le_refl _,fun _ _ _=>rfl,fun _ h=>⟨h,rfl⟩,fun l hl=>.inl ⟨l,hl,rfl⟩⟩
section
variable {w w' w2:World} {X S S' S2:Nat→Prop} {φ φ' φ2:Nat→Loc} {h h' h2:Heap}
theorem Ext.trans (a:Ext w S φ h w' S' φ' h')(b:Ext w' S' φ' h' w2 S2 φ2 h2):Ext w S φ h w2 S2 φ2 h2 where
 os:=b.os.trans a.os
 tape:=b.tape.trans a.tape
 output:=b.output.trans a.output
 size:=Nat.le_trans a.size b.size
 keep k hk ho:=by
  rw[b.keep k (Nat.lt_of_lt_of_le hk a.size) (fun⟨l,hl,e⟩=>?_),a.keep k hk ho]
  rcases a.own l hl with hh|hh
  ·exact ho (e ▸ hh)
  ·omega
 names l hl:=by
  obtain⟨h1,e1⟩:=a.names l hl
  obtain⟨h2,e2⟩:=b.names l h1
  exact⟨h2,e2.trans e1⟩
 own l hl:=by
  rcases b.own l hl with ⟨m,hm,e⟩|hh
  ·rcases a.own m hm with ho|ho
   ·exact .inl (e ▸ ho)
   ·exact .inr (by omega)
  ·exact .inr (by have:=a.size;omega)
theorem cell_of_heap {w w':World}{b o:Nat}(e:w'.heap[b]?=w.heap[b]?):w'.cell? ⟨b,o,none⟩=w.cell? ⟨b,o,none⟩:=World.cell?_of_block (a:=⟨b,o,none⟩) e
theorem Ext.later (a:Ext w S φ h w' S' φ' h'):Later w (badOf X φ h) S φ w' (badOf X φ' h') S' φ' where
 cell b o u hb hs hu:=by rw[cell_of_heap (a.keep b hs (fun ho=>hb (.inr ho)))];exact hu
 bad b hs hb:=by
  rcases hb with hb|⟨l,hl,e⟩
  ·exact .inl hb
  ·rcases a.own l hl with ho|ho
   ·exact .inr (e ▸ ho)
   ·omega
 size:=a.size
 names:=a.names
def RelE (w:World)(bad S:Nat→Prop)(φ:Nat→Loc)(env:Env)(tmps:Array Value):Prop:=
 ∀t c,look env t=some c→∃u,tmps[t]?=some u∧Rel w bad S φ c u
theorem RelE.later {bad bad':Nat→Prop}(k:Later w bad S φ w' bad' S' φ'){env:Env}{tmps:Array Value}(he:RelE w bad S φ env tmps):RelE w' bad' S' φ' env tmps:=
 fun t c hc=>let ⟨u,hu,hr⟩:=he t c hc;⟨u,hu,Rel.later k hr⟩
theorem RelE.put {bad:Nat→Prop}{env:Env}{tmps:Array Value}(he:RelE w bad S φ env tmps){d:Nat}{c:C}{u:Value}(hd:d<tmps.size)(hr:Rel w bad S φ c u):
  RelE w bad S φ ((d,c)::env) (tmps.setIfInBounds d u):=fun t c' hc=>by
 unfold look at hc
 by_cases e:d=t
 ·rw[if_pos e] at hc
  cases hc
  subst e
  exact⟨u,by simp[hd],hr⟩
 ·rw[if_neg e] at hc
  obtain⟨v,hv,hr'⟩:=he t c' hc
  exact⟨v,by rw[Array.getElem?_setIfInBounds_ne e];exact hv,hr'⟩
theorem look_keepE:∀(ks:List Nat) (env:Env) (t:Nat) (c:C),look (keepE env ks) t=some c→look env t=some c
 |[],env,t,c,h=>by simp[keepE,look] at h
 |k::ks,env,t,c,h=>by
  unfold keepE at h
  cases hk:look env k with
  |none=>rw[hk] at h;exact look_keepE ks env t c h
  |some d=>
   rw[hk] at h
   unfold look at h
   by_cases e:k=t
   ·rw[if_pos e] at h;cases h;exact e ▸ hk
   ·rw[if_neg e] at h;exact look_keepE ks env t c h
theorem RelE.keep {bad:Nat→Prop}{env:Env}{tmps:Array Value}(he:RelE w bad S φ env tmps)(ks:List Nat):RelE w bad S φ (keepE env ks) tmps:=
 fun t c hc=>he t c (look_keepE ks env t c hc)
end
section
variable {w:World} {bad S:Nat→Prop} {φ:Nat→Loc}
theorem relL_vs:∀{us:List Value},us.all oneCell=true→RelL w bad S φ (us.map .v) us
 |[],_=>by simp[RelL]
 |u::us,h=>by
  simp only[List.all_cons,Bool.and_eq_true] at h
  simp only[List.map_cons,RelL]
  exact⟨u,us,rfl,by simp only[Rel];exact⟨trivial,h.1⟩,relL_vs h.2⟩
theorem ofV_rel {x:Value}{c:C}(h:ofV x=some c):Rel w bad S φ c x:=by
 unfold ofV at h
 split at h
 ·split at h
  ·rename_i cs hall
   cases h
   simp only[Rel]
   exact⟨cs,rfl,relL_vs hall,fun x hx=>List.all_eq_true.1 hall x hx⟩
  ·cases h
 ·split at h
  ·rename_i cs hnil
   cases h
   simp only[Rel]
   exact⟨cs,rfl,by rw[hnil];simp[RelL]⟩
  ·cases h
 ·cases h
  rename_i h1 h2
  simp only[Rel]
  refine⟨trivial,?_⟩
  cases x<;>first|rfl|(exact absurd rfl (h1 _))|(exact absurd rfl (h2 _))
theorem ev_rel {env:Env}{a:Act}(he:RelE w bad S φ env a.tmps){x:Operand}{c:C}(h:ev env x=some c):Rel w bad S φ c (a.eval x):=by
 cases x with
 |tmp t=>
  obtain⟨u,hu,hr⟩:=he t c h
  simpa[Act.eval,hu] using hr
 |const v=>exact ofV_rel h
 |global g=>cases h
 |func f=>
  simp only[ev,Option.some.injEq] at h
  subst h
  simp only[Rel,Act.eval]
  exact⟨#[],rfl,by simp[RelL]⟩
theorem evs_rel {env:Env}{a:Act}(he:RelE w bad S φ env a.tmps):∀{xs:List Operand} {cs:List C},evs env xs=some cs→RelL w bad S φ cs (xs.map a.eval)
 |[],cs,h=>by simp only[evs,Option.some.injEq] at h;subst h;simp[RelL]
 |x::xs,cs,h=>by
  simp only[evs,Option.bind_eq_bind,Option.bind_eq_some_iff,Option.some.injEq] at h
  obtain⟨c,hc,ds,hd,rfl⟩:=h
  simp only[List.map_cons,RelL]
  exact⟨_,_,rfl,ev_rel he hc,evs_rel he hd⟩
theorem cells_rel {c:C}{u:Value}(h:Rel w bad S φ c u)(hc:c.cells.all C.isCell=true):RelL w bad S φ c.cells u.cells.toList∧∀x∈u.cells.toList,x.oneCell'=true:=by
 have one:∀{c:C} {u:Value},c.isCell=true→Rel w bad S φ c u→(∀cs,u≠ .agg cs)∧u.oneCell'=true:=by
  intro c u hc h
  cases c<;>simp only[Rel,C.isCell] at h hc
  case v x=>obtain⟨rfl,h⟩:=h;exact⟨fun cs e=>by subst e;simp[Value.oneCell'] at h,h⟩
  case fs=>rcases h with ⟨⟨_,rfl⟩,_⟩|⟨_,_,_,rfl,_⟩<;>exact⟨by simp,rfl⟩
  case fp=>obtain⟨_,_,rfl,_⟩:=h;exact⟨by simp,rfl⟩
  case os=>obtain⟨_,_,_,_,rfl,_⟩:=h;exact⟨by simp,rfl⟩
  case op=>obtain⟨_,rfl⟩:=h;exact⟨by simp,rfl⟩
  case om=>obtain⟨_,rfl⟩:=h;exact⟨by simp,rfl⟩
  case fn=>obtain⟨_,rfl,_⟩:=h;exact⟨by simp,rfl⟩
  all_goals cases hc
 cases c with
 |agg cs=>
  simp only[Rel] at h
  obtain⟨us,rfl,h,h1⟩:=h
  exact⟨h,h1⟩
 |tup cs=>simp[C.cells,C.isCell] at hc
 |_=>
  have h2:=one (by simpa[C.cells] using hc) h
  have e:u.cells= #[u]:=by
   cases u<;>first|rfl|exact absurd rfl (h2.1 _)
  rw[e]
  refine⟨?_,?_⟩
  ·simp only[C.cells,RelL]
   exact⟨u,[],rfl,h,rfl⟩
  ·intro x hx
   simp at hx
   subst hx
   exact h2.2
theorem intOf_rel {c:C}{u:Value}(h:Rel w bad S φ c u){k:IntKind}{n:Int}(hi:intOf c=some (k,n)):u=.int k n:=by
 unfold intOf at hi
 split at hi
 ·cases hi
  simp only[Rel] at h
  exact h.1
 ·cases hi
theorem boolOf_rel {c:C}{u:Value}(h:Rel w bad S φ c u){b:Bool}(hi:boolOf c=some b):u=.bool b:=by
 unfold boolOf at hi
 split at hi
 ·cases hi
  simp only[Rel] at h
  exact h.1
 ·cases hi
theorem scalar_rel {c:C}{u:Value}(h:Rel w bad S φ c u){x:Value}(hi:scalar c=some x):u=x:=by
 unfold scalar at hi
 split at hi
 ·cases hi
  simp only[Rel] at h
  exact h.1
 ·cases hi
theorem scalars_rel:∀{cs:List C} {us xs:List Value},RelL w bad S φ cs us→scalars cs=some xs→us=xs
 |[],us,xs,h,hi=>by simp only[scalars,Option.some.injEq] at hi;simp only[RelL] at h;rw[h,hi]
 |c::cs,us,xs,h,hi=>by
  simp only[scalars,Option.bind_eq_bind,Option.bind_eq_some_iff,Option.some.injEq] at hi
  obtain⟨x,hx,ys,hy,rfl⟩:=hi
  simp only[RelL] at h
  obtain⟨u,r,rfl,hc,h⟩:=h
  rw[scalar_rel hc hx,scalars_rel h hy]
end
theorem pureRun_run {P:Program}{α:Type}:∀{s:Sem α} {a:α},pureRun P s=some a→∀w,s.run P w=.ok a w
 | .pure b,a,h,w=>by simp only[pureRun,Option.some.injEq] at h;subst h;rfl
 | .program k,a,h,w=>by simp only[pureRun] at h;simp only[Sem.run];exact pureRun_run h w
 | .mark m k,a,h,w=>by simp only[pureRun] at h;simp only[Sem.run];exact pureRun_run h w
 | .load ..,a,h,w=>by simp[pureRun] at h
 | .store ..,a,h,w=>by simp[pureRun] at h
 | .new ..,a,h,w=>by simp[pureRun] at h
 | .shape ..,a,h,w=>by simp[pureRun] at h
 | .freeze ..,a,h,w=>by simp[pureRun] at h
 | .frozen ..,a,h,w=>by simp[pureRun] at h
 | .getObj ..,a,h,w=>by simp[pureRun] at h
 | .setObj ..,a,h,w=>by simp[pureRun] at h
 | .choose ..,a,h,w=>by simp[pureRun] at h
 | .sys ..,a,h,w=>by simp[pureRun] at h
 | .halt ..,a,h,w=>by simp[pureRun] at h
end Go.Tm
namespace Go.Tm
def upd (φ:Nat→Loc)(n:Nat)(x:Loc):Nat→Loc:=fun l=>if l=n then x else φ l
theorem upd_same (φ:Nat→Loc)(n:Nat)(x:Loc):upd φ n x n=x:=by simp[upd]
theorem upd_other (φ:Nat→Loc){n l:Nat}(x:Loc)(h:l≠n):upd φ n x l=φ l:=by simp[upd,h]
structure AllocOk (S:Nat→Prop)(h:Heap)(al:Option Nat):Prop where
 free:¬S (new h al .dead).1
 lt:∀s,al=some s→s<h.length
theorem new_name (h:Heap)(al:Option Nat)(nd nd':Node):(new h al nd).1=(new h al nd').1:=by cases al<;>rfl
theorem new_len (h:Heap)(al:Option Nat)(nd nd':Node):(new h al nd).2.length=(new h al nd').2.length:=by cases al<;>simp[new]
theorem new_at {S:Nat→Prop}{h:Heap}{al:Option Nat}(ok:AllocOk S h al)(nd:Node):(new h al nd).2[(new h al nd).1]?=some nd:=by
 cases al with
 |none=>simp[new]
 |some s=>have:=ok.lt s rfl;simp[new,this]
theorem new_other {h:Heap}{al:Option Nat}(nd:Node){l:Nat}(hl:l≠(new h al nd).1):(new h al nd).2[l]?=h[l]?∨(h[l]?=none∧(new h al nd).2[l]?=none):=by
 cases al with
 |none=>
  simp only[new] at hl⊢
  rcases Nat.lt_or_ge l h.length with hh|hh
  ·left;rw[List.getElem?_append_left hh]
  ·right
   refine⟨List.getElem?_eq_none hh,List.getElem?_eq_none ?_⟩
   simp;omega
 |some s=>
  simp only[new] at hl⊢
  left;rw[List.getElem?_set_ne (fun e=>hl e.symm)]
theorem new_other' {h:Heap}{al:Option Nat}(nd:Node){l:Nat}(hl:l≠(new h al nd).1):(new h al nd).2[l]?=h[l]?:=by
 rcases new_other nd hl with e|⟨e1,e2⟩
 ·exact e
 ·rw[e1,e2]
section
variable {w w':World} {X S:Nat→Prop} {φ:Nat→Loc} {h:Heap}
theorem live_of_row {h:Heap}{l:Nat}{e:Nat}{cs:List C}(hl:h[l]?=some (.row e cs)):live h l:=⟨_,hl,by simp⟩
theorem good_new (G:Good w X S φ h){al:Option Nat}(ok:AllocOk S h al){nd:Node}{loc:Loc}
  (os:w'.os=w.os)(tape:w'.tape=w.tape)(output:w'.output=w.output)(size:w.heap.size≤w'.heap.size)
  (keep:∀b,b<w.heap.size→w'.heap[b]?=w.heap[b]?)
  (hb:w.heap.size≤loc.block)(hb':loc.block<w'.heap.size)
  (hnd:Later w (badOf X φ h) S φ w' (badOf X (upd φ (new h al nd).1 loc) (new h al nd).2) (fun l=>S l∨l=(new h al nd).1) (upd φ (new h al nd).1 loc)→
   OkNode w' (badOf X (upd φ (new h al nd).1 loc) (new h al nd).2) (fun l=>S l∨l=(new h al nd).1) (upd φ (new h al nd).1 loc) (new h al nd).1 nd):
  Good w' X (fun l=>S l∨l=(new h al nd).1) (upd φ (new h al nd).1 loc) (new h al nd).2∧
  Ext w S φ h w' (fun l=>S l∨l=(new h al nd).1) (upd φ (new h al nd).1 loc) (new h al nd).2:=by
 have free:¬S (new h al nd).1:=by rw[new_name h al nd .dead];exact ok.free
 have names:∀l,S l→l≠(new h al nd).1:=fun l hl e=>free (e ▸ hl)
 have liv:∀l,live (new h al nd).2 l→l=(new h al nd).1∨(l≠(new h al nd).1∧live h l):=fun l ⟨x,hx,hd⟩=>by
  by_cases e:l=(new h al nd).1
  ·exact .inl e
  ·exact .inr ⟨e,x,by rw[←new_other' nd e];exact hx,hd⟩
 have E:Ext w S φ h w' (fun l=>S l∨l=(new h al nd).1) (upd φ (new h al nd).1 loc) (new h al nd).2:=
  ⟨os,tape,output,size,fun b hb _=>keep b hb,fun l hl=>⟨.inl hl,upd_other _ _ (names l hl)⟩,fun l hl=>by
   rcases liv l hl with rfl|⟨e,hl⟩
   ·rw[upd_same];exact .inr hb
   ·rw[upd_other _ _ e];exact .inl ⟨l,hl,rfl⟩⟩
 have L:=E.later (X:=X)
 refine⟨⟨fun l x hx=>?_,fun l hl=>?_,fun l hl=>?_,fun l m hl hm he=>?_,fun b hb=>Nat.lt_of_lt_of_le (G.xlt b hb) size,fun l hl=>?_⟩,E⟩
 ·by_cases e:l=(new h al nd).1
  ·subst e
   have:x=nd:=by
    have h2:=new_at (S:=S) (h:=h) (al:=al) ok nd
    rw[hx] at h2;exact Option.some.inj h2
   subst this
   exact hnd L
  ·rw[new_other' nd e] at hx
   have hok:=G.node l x hx
   cases x with
   |dead=>trivial
   |row ez cs=>
    simp only[OkNode,upd_other _ _ e] at hok⊢
    obtain⟨h1,h2,h3,h4,h5⟩:=hok
    have hs:=G.size l (live_of_row hx)
    refine⟨h1,h2,h3,fun j hj=>?_,RelAt.moved L h5 fun j u _ hu=>?_⟩
    ·obtain⟨k1,k2⟩:=h4 j hj
     rw[cell_of_heap (keep _ hs),World.frozen?_of_block (a:=⟨(φ l).block,(φ l).base+j,none⟩) (keep _ hs)]
     exact⟨k1,k2⟩
    ·rw[cell_of_heap (keep _ hs)];exact hu
   |map es clock=>
    simp only[OkNode,upd_other _ _ e] at hok⊢
    rw[keep _ (G.size l ⟨_,hx,by simp⟩)]
    exact hok
 ·rcases liv l hl with rfl|⟨e,hl⟩
  ·exact .inr rfl
  ·exact .inl (G.inS l hl)
 ·rcases liv l hl with rfl|⟨e,hl⟩
  ·rw[upd_same];exact hb'
  ·rw[upd_other _ _ e];exact Nat.lt_of_lt_of_le (G.size l hl) size
 ·rcases liv l hl with rfl|⟨e,hl⟩<;>rcases liv m hm with rfl|⟨e',hm⟩
  ·rfl
  ·rw[upd_same,upd_other _ _ e'] at he;have:=G.size m hm;omega
  ·rw[upd_same,upd_other _ _ e] at he;have:=G.size l hl;omega
  ·rw[upd_other _ _ e,upd_other _ _ e'] at he;exact G.inj l m hl hm he
 ·rcases liv l hl with rfl|⟨e,hl⟩
  ·rw[upd_same];exact fun hx=>by have:=G.xlt _ hx;omega
  ·rw[upd_other _ _ e];exact G.apart l hl
theorem good_alloc (G:Good w X S φ h){al:Option Nat}(ok:AllocOk S h al){cs:List C}{us extra:List Value}{row:Array Value}{ty:TypeId}{ez:Nat}(hrow:row.toList=us++extra)
  (hrel:RelL w (badOf X φ h) S φ cs us)(h1:∀x∈us,x.oneCell'=true)
  (os:w'.os=w.os)(tape:w'.tape=w.tape)(output:w'.output=w.output)(heap:w'.heap=w.heap.push (.cells row ty)):
  Good w' X (fun l=>S l∨l=(new h al (.row ez cs)).1) (upd φ (new h al (.row ez cs)).1 ⟨w.heap.size,0,row.size,ez,cs.length⟩) (new h al (.row ez cs)).2∧
  Ext w S φ h w' (fun l=>S l∨l=(new h al (.row ez cs)).1) (upd φ (new h al (.row ez cs)).1 ⟨w.heap.size,0,row.size,ez,cs.length⟩) (new h al (.row ez cs)).2:=by
 have hsz:us.length+extra.length=row.size:=by rw[←Array.length_toList,hrow,List.length_append]
 have hl:=RelL.length hrel
 have hcell:∀j,w'.cell? ⟨w.heap.size,j,none⟩=row[j]?:=fun j=>by simp[World.cell?,heap]
 have hfz:∀j,w'.frozen? ⟨w.heap.size,j,none⟩=false:=fun j=>by simp[World.frozen?,heap]
 refine good_new G ok os tape output (by rw[heap];simp) (fun b hb=>by rw[heap,Array.getElem?_push,if_neg (by omega)]) (Nat.le_refl _) (by rw[heap];simp) fun L=>?_
 simp only[OkNode,upd_same]
 refine⟨trivial,trivial,by omega,fun j hj=>⟨?_,?_⟩,RelAt.of_range (RelL.later L hrel) (fun j u hj=>?_) h1⟩
 ·simp[hcell];omega
 ·simpa using hfz j
 ·have hlt:j<us.length:=(List.getElem?_eq_some_iff.1 hj).1
  rw[Nat.zero_add,hcell,←Array.getElem?_toList,hrow,List.getElem?_append_left hlt]
  exact hj
theorem good_kill (G:Good w X S φ h)(a:Nat):Good w X S φ (h.set a .dead)∧Ext w S φ h w S φ (h.set a .dead):=by
 have liv:∀l,live (h.set a .dead) l→l≠a∧live h l:=fun l ⟨x,hx,hd⟩=>by
  by_cases e:l=a
  ·subst e
   rw[List.getElem?_set] at hx
   simp only[if_true] at hx
   split at hx
   ·cases hx;exact absurd rfl hd
   ·cases hx
  ·rw[List.getElem?_set_ne (fun e'=>e e'.symm)] at hx
   exact⟨e,x,hx,hd⟩
 have E:Ext w S φ h w S φ (h.set a .dead):=⟨rfl,rfl,rfl,Nat.le_refl _,fun _ _ _=>rfl,fun _ hl=>⟨hl,rfl⟩,fun l hl=>.inl ⟨l,(liv l hl).2,rfl⟩⟩
 have L:=E.later (X:=X)
 refine⟨⟨fun l x hx=>?_,fun l hl=>G.inS l (liv l hl).2,fun l hl=>G.size l (liv l hl).2,fun l m hl hm=>G.inj l m (liv l hl).2 (liv m hm).2,G.xlt,fun l hl=>G.apart l (liv l hl).2⟩,E⟩
 by_cases e:l=a
 ·subst e
  rw[List.getElem?_set] at hx
  simp only[if_true] at hx
  split at hx
  ·cases hx;trivial
  ·cases hx
 ·rw[List.getElem?_set_ne (fun e'=>e e'.symm)] at hx
  have hok:=G.node l x hx
  cases x with
  |dead=>trivial
  |row ez cs=>
   simp only[OkNode] at hok⊢
   obtain⟨h1,h2,h3,h4,h5⟩:=hok
   exact⟨h1,h2,h3,h4,RelAt.moved L h5 fun j u _ hu=>hu⟩
  |map es clock=>exact hok
theorem put_length (cs:List C)(off:Nat)(ys:List C)(h:off+ys.length≤cs.length):(put cs off ys).length=cs.length:=by
 simp[put];omega
theorem good_store (G:Good w X S φ h){l ez off:Nat}{cs ys:List C}{us:List Value}(hl:h[l]?=some (.row ez cs))(hfit:off+ys.length≤cs.length)
  (hrel:RelL w (badOf X φ h) S φ ys us)(h1:∀x∈us,x.oneCell'=true):
  Good (w.setCells (φ l).block ((φ l).base+off) us) X S φ (h.set l (.row ez (put cs off ys)))∧
  Ext w S φ h (w.setCells (φ l).block ((φ l).base+off) us) S φ (h.set l (.row ez (put cs off ys))):=by
 have hlt:l<h.length:=(List.getElem?_eq_some_iff.1 hl).1
 have hat:(h.set l (.row ez (put cs off ys)))[l]?=some (.row ez (put cs off ys)):=by simp[hlt]
 have liv:∀m,live (h.set l (.row ez (put cs off ys))) m↔live h m:=fun m=>by
  by_cases e:m=l
  ·subst e;exact⟨fun _=>live_of_row hl,fun _=>live_of_row hat⟩
  ·unfold live;rw[List.getElem?_set_ne (fun e'=>e e'.symm)]
 have hok:=G.node l _ hl
 simp only[OkNode] at hok
 obtain⟨k1,k2,k3,k4,k5⟩:=hok
 have hus:=RelL.length hrel
 have other:∀b,b≠(φ l).block→b<w.heap.size→(w.setCells (φ l).block ((φ l).base+off) us).heap[b]?=w.heap[b]?:=fun b hne hb=>World.heap_setCells_other w _ _ us hb hne
 have hsz:(w.setCells (φ l).block ((φ l).base+off) us).heap.size=w.heap.size:=by
  have:=World.keptBut_setCells (φ l).block (may:=fun _=>True) us ((φ l).base+off) w (fun _ _=>trivial)
  have aux:∀(vs:List Value) (o:Nat) (w:World),(w.setCells (φ l).block o vs).heap.size=w.heap.size:=by
   intro vs
   induction vs with
   |nil=>intro o w;rfl
   |cons v vs ih=>intro o w;rw[World.setCells,ih,World.size_setCell]
  exact aux us _ w
 have htape:(w.setCells (φ l).block ((φ l).base+off) us).tape=w.tape:=by
  have aux:∀(vs:List Value) (o:Nat) (w:World),(w.setCells (φ l).block o vs).tape=w.tape:=by
   intro vs
   induction vs with
   |nil=>intro o w;rfl
   |cons v vs ih=>intro o w;rw[World.setCells,ih,World.tape_setCell]
  exact aux us _ w
 have E:Ext w S φ h (w.setCells (φ l).block ((φ l).base+off) us) S φ (h.set l (.row ez (put cs off ys))):=
  ⟨World.os_setCells _ _ _ _,htape,World.output_setCells _ _ _ _,by rw[hsz];exact Nat.le_refl _,fun b hb ho=>other b (fun e=>ho ⟨l,live_of_row hl,e.symm⟩) hb,fun m hm=>⟨hm,rfl⟩,fun m hm=>.inl ⟨m,(liv m).1 hm,rfl⟩⟩
 have L:=E.later (X:=X)
 have hroom:w.there (φ l).block ((φ l).base+off) us.length:=fun j hj=>by
  have:=k4 (off+j) (by omega)
  rw[←Nat.add_assoc] at this
  exact this
 refine⟨⟨fun m x hx=>?_,fun m hm=>G.inS m ((liv m).1 hm),fun m hm=>by rw[hsz];exact G.size m ((liv m).1 hm),fun m n hm hn=>G.inj m n ((liv m).1 hm) ((liv n).1 hn),fun b hb=>by rw[hsz];exact G.xlt b hb,fun m hm=>G.apart m ((liv m).1 hm)⟩,E⟩
 by_cases e:m=l
 ·subst e
  rw[hat] at hx
  cases hx
  simp only[OkNode]
  refine⟨k1,by rw[put_length cs off ys hfit];exact k2,by rw[put_length cs off ys hfit];exact k3,World.there_setCells k4 _ _ _,?_⟩
  unfold put
  have hto:(cs.take off).length=off:=by simp;omega
  refine RelAt.append ?_ (RelAt.append ?_ ?_)
  ·refine RelAt.moved L (RelAt.take off k5) fun j u hj hu=>?_
   rw[hto] at hj
   rw[World.cell?_setCells_out _ _ _ _ _ (fun _ _=>.inl (by simp;omega))]
   exact hu
  ·rw[hto]
   exact RelAt.of_range (RelL.later L hrel) (World.rangeAt_setCells_same w _ _ us hroom) h1
  ·rw[hto]
   have:=RelAt.drop (off+ys.length) k5
   rw[←Nat.add_assoc] at this
   refine RelAt.moved L this fun j u hj hu=>?_
   rw[World.cell?_setCells_out _ _ _ _ _ (fun _ _=>.inr (by simp only;omega))]
   exact hu
 ·rw[List.getElem?_set_ne (fun e'=>e e'.symm)] at hx
  have hok:=G.node m x hx
  cases x with
  |dead=>trivial
  |row ez' cs'=>
   simp only[OkNode] at hok⊢
   obtain⟨h1,h2,h3,h4,h5⟩:=hok
   have hne:(φ m).block≠(φ l).block:=fun he=>e (G.inj m l (live_of_row hx) (live_of_row hl) he)
   have hs:=G.size m (live_of_row hx)
   exact⟨h1,h2,h3,World.there_setCells h4 _ _ _,RelAt.moved L h5 fun j u _ hu=>by rw[cell_of_heap (other _ hne hs)];exact hu⟩
  |map es clock=>
   simp only[OkNode] at hok⊢
   have hlm:live h m:=⟨_,hx,by simp⟩
   rw[other _ (fun he=>e (G.inj m l hlm (live_of_row hl) he)) (G.size m hlm)]
   exact hok
theorem good_map (G:Good w X S φ h){l:Nat}{es es':Array MapEntry}{clock clock':Nat}(hl:h[l]?=some (.map es clock)):
  Good { w with heap:=w.heap.setIfInBounds (φ l).block (.map es' clock') } X S φ (h.set l (.map es' clock'))∧
  Ext w S φ h { w with heap:=w.heap.setIfInBounds (φ l).block (.map es' clock') } S φ (h.set l (.map es' clock')):=by
 have hlt:l<h.length:=(List.getElem?_eq_some_iff.1 hl).1
 have hat:(h.set l (.map es' clock'))[l]?=some (.map es' clock'):=by simp[hlt]
 have lm:live h l:=⟨_,hl,by simp⟩
 have liv:∀m,live (h.set l (.map es' clock')) m↔live h m:=fun m=>by
  by_cases e:m=l
  ·subst e;exact⟨fun _=>lm,fun _=>⟨_,hat,by simp⟩⟩
  ·unfold live;rw[List.getElem?_set_ne (fun e'=>e e'.symm)]
 have other:∀b,b≠(φ l).block→(w.heap.setIfInBounds (φ l).block (.map es' clock'))[b]?=w.heap[b]?:=fun b hne=>Array.getElem?_setIfInBounds_ne (Ne.symm hne)
 have E:Ext w S φ h { w with heap:=w.heap.setIfInBounds (φ l).block (.map es' clock') } S φ (h.set l (.map es' clock')):=
  ⟨rfl,rfl,rfl,by simp,fun b hb ho=>other b (fun e=>ho ⟨l,lm,e.symm⟩),fun m hm=>⟨hm,rfl⟩,fun m hm=>.inl ⟨m,(liv m).1 hm,rfl⟩⟩
 have L:=E.later (X:=X)
 refine⟨⟨fun m x hx=>?_,fun m hm=>G.inS m ((liv m).1 hm),fun m hm=>by simpa using G.size m ((liv m).1 hm),fun m n hm hn=>G.inj m n ((liv m).1 hm) ((liv n).1 hn),fun b hb=>by simpa using G.xlt b hb,fun m hm=>G.apart m ((liv m).1 hm)⟩,E⟩
 by_cases e:m=l
 ·subst e
  rw[hat] at hx
  cases hx
  simp only[OkNode]
  have:=G.size m lm
  simp[this]
 ·rw[List.getElem?_set_ne (fun e'=>e e'.symm)] at hx
  have hok:=G.node m x hx
  cases x with
  |dead=>trivial
  |row ez' cs'=>
   simp only[OkNode] at hok⊢
   obtain⟨h1,h2,h3,h4,h5⟩:=hok
   have hne:(φ m).block≠(φ l).block:=fun he=>e (G.inj m l (live_of_row hx) lm he)
   refine⟨h1,h2,h3,fun j hj=>?_,RelAt.moved L h5 fun j u _ hu=>by rw[cell_of_heap (other _ hne)];exact hu⟩
   rw[cell_of_heap (other _ hne),World.frozen?_of_block (a:=⟨(φ m).block,(φ m).base+j,none⟩) (other _ hne)]
   exact h4 j hj
  |map es clock=>
   simp only[OkNode] at hok⊢
   have hlm:live h m:=⟨_,hx,by simp⟩
   rw[other _ (fun he=>e (G.inj m l hlm lm he))]
   exact hok
end
end Go.Tm
namespace Go.Tm
section
variable {w w':World} {X S:Nat→Prop} {φ:Nat→Loc} {h:Heap}
theorem new_name_set (h:Heap)(al:Option Nat)(a:Nat)(x:Node)(nd nd':Node):(new (h.set a x) al nd).1=(new h al nd').1:=by cases al<;>simp[new]
theorem size_setCells (b:Nat):∀(vs:List Value) (o:Nat) (w:World),(w.setCells b o vs).heap.size=w.heap.size
 |[],_,_=>rfl
 |v::vs,o,w=>by rw[World.setCells,size_setCells b vs,World.size_setCell]
theorem tape_setCells (b:Nat):∀(vs:List Value) (o:Nat) (w:World),(w.setCells b o vs).tape=w.tape
 |[],_,_=>rfl
 |v::vs,o,w=>by rw[World.setCells,tape_setCells b vs,World.tape_setCell]
theorem good_reuse (G:Good w X S φ h){al:Option Nat}(ok:AllocOk S h al){a ez off:Nat}{cs ys:List C}{us:List Value}(ha:h[a]?=some (.row ez cs))(hoff:off≤cs.length)
  (hrel:RelL w (badOf X φ h) S φ ys us)(h1:∀x∈us,x.oneCell'=true)(hroom:cs.length+us.length≤(φ a).room):
  Good (w.setCells (φ a).block ((φ a).base+cs.length) us) X (fun l=>S l∨l=(new (h.set a .dead) al (.row ez (cs.drop off++ys))).1)
   (upd φ (new (h.set a .dead) al (.row ez (cs.drop off++ys))).1 ⟨(φ a).block,(φ a).base+off,(φ a).room-off,ez,(cs.drop off++ys).length⟩) (new (h.set a .dead) al (.row ez (cs.drop off++ys))).2∧
  Ext w S φ h (w.setCells (φ a).block ((φ a).base+cs.length) us) (fun l=>S l∨l=(new (h.set a .dead) al (.row ez (cs.drop off++ys))).1)
   (upd φ (new (h.set a .dead) al (.row ez (cs.drop off++ys))).1 ⟨(φ a).block,(φ a).base+off,(φ a).room-off,ez,(cs.drop off++ys).length⟩) (new (h.set a .dead) al (.row ez (cs.drop off++ys))).2:=by
 have hna:∀nd,(new (h.set a .dead) al nd).1=(new h al .dead).1:=fun nd=>new_name_set h al a .dead nd .dead
 have free:¬S (new (h.set a .dead) al (.row ez (cs.drop off++ys))).1:=by rw[hna];exact ok.free
 have ok':AllocOk S (h.set a .dead) al:=⟨by rw[hna];exact ok.free,fun s hs=>by simpa using ok.lt s hs⟩
 have hlt:a<h.length:=(List.getElem?_eq_some_iff.1 ha).1
 have hla:=live_of_row ha
 generalize hn:(new (h.set a .dead) al (.row ez (cs.drop off++ys))).1=n at*
 have names:∀l,S l→l≠n:=fun l hl e=>free (e ▸ hl)
 have hat:(new (h.set a .dead) al (.row ez (cs.drop off++ys))).2[n]?=some (.row ez (cs.drop off++ys)):=by rw[←hn];exact new_at ok' _
 have oth:∀l,l≠n→l≠a→(new (h.set a .dead) al (.row ez (cs.drop off++ys))).2[l]?=h[l]?:=fun l e e'=>by
  rw[new_other' _ (by rw[hn];exact e),List.getElem?_set_ne (fun e''=>e' e''.symm)]
 have ata:a≠n→(new (h.set a .dead) al (.row ez (cs.drop off++ys))).2[a]?=some .dead:=fun e=>by
  rw[new_other' _ (by rw[hn];exact e)];simp[hlt]
 have hne:a≠n:=names a (G.inS a hla)
 generalize (new (h.set a .dead) al (.row ez (cs.drop off++ys))).2=h' at*
 have liv:∀l,live h' l→l=n∨(l≠n∧l≠a∧live h l):=fun l ⟨x,hx,hd⟩=>by
  by_cases e:l=n
  ·exact .inl e
  ·by_cases e':l=a
   ·subst e';rw[ata e] at hx;cases hx;exact absurd rfl hd
   ·exact .inr ⟨e,e',x,by rw[←oth l e e'];exact hx,hd⟩
 have hok:=G.node a _ ha
 simp only[OkNode] at hok
 obtain⟨k1,k2,k3,k4,k5⟩:=hok
 have hus:=RelL.length hrel
 have other:∀b,b≠(φ a).block→b<w.heap.size→(w.setCells (φ a).block ((φ a).base+cs.length) us).heap[b]?=w.heap[b]?:=fun b hne hb=>World.heap_setCells_other w _ _ us hb hne
 have E:Ext w S φ h (w.setCells (φ a).block ((φ a).base+cs.length) us) (fun l=>S l∨l=n) (upd φ n ⟨(φ a).block,(φ a).base+off,(φ a).room-off,ez,(cs.drop off++ys).length⟩) h':=
  ⟨World.os_setCells _ _ _ _,tape_setCells _ _ _ _,World.output_setCells _ _ _ _,by rw[size_setCells];exact Nat.le_refl _,fun b hb ho=>other b (fun e=>ho ⟨a,hla,e.symm⟩) hb,
   fun l hl=>⟨.inl hl,upd_other _ _ (names l hl)⟩,fun l hl=>by
    rcases liv l hl with rfl|⟨e,_,hl⟩
    ·rw[upd_same];exact .inl ⟨a,hla,rfl⟩
    ·rw[upd_other _ _ e];exact .inl ⟨l,hl,rfl⟩⟩
 have L:=E.later (X:=X)
 refine⟨⟨fun l x hx=>?_,fun l hl=>?_,fun l hl=>?_,fun l m hl hm he=>?_,fun b hb=>by rw[size_setCells];exact G.xlt b hb,fun l hl=>?_⟩,E⟩
 ·by_cases e:l=n
  ·subst e
   rw[hat] at hx
   cases hx
   simp only[OkNode,upd_same]
   have hdl:(cs.drop off).length=cs.length-off:=by simp
   refine⟨trivial,trivial,by rw[List.length_append,hdl];omega,fun j hj=>?_,?_⟩
   ·have:=World.there_setCells k4 (φ a).block ((φ a).base+cs.length) us (off+j) (by omega)
    rw[←Nat.add_assoc] at this
    exact this
   ·refine RelAt.append (RelAt.moved L (RelAt.drop off k5) fun j u hj hu=>?_) ?_
    ·rw[hdl] at hj
     rw[World.cell?_setCells_out _ _ _ _ _ (fun _ _=>.inl (by simp only;omega))]
     exact hu
    ·rw[hdl]
     have e2:(φ a).base+off+(cs.length-off)=(φ a).base+cs.length:=by omega
     rw[e2]
     refine RelAt.of_range (RelL.later L hrel) (World.rangeAt_setCells_same w _ _ us fun j hj=>?_) h1
     have:=k4 (cs.length+j) (by omega)
     rw[←Nat.add_assoc] at this
     exact this
  ·by_cases e':l=a
   ·subst e'
    rw[ata e] at hx
    cases hx
    trivial
   ·rw[oth l e e'] at hx
    have hok:=G.node l x hx
    cases x with
    |dead=>trivial
    |row ez' cs'=>
     simp only[OkNode,upd_other _ _ e] at hok⊢
     obtain⟨h1,h2,h3,h4,h5⟩:=hok
     have hne:(φ l).block≠(φ a).block:=fun he=>e' (G.inj l a (live_of_row hx) hla he)
     have hs:=G.size l (live_of_row hx)
     exact⟨h1,h2,h3,World.there_setCells h4 _ _ _,RelAt.moved L h5 fun j u _ hu=>by rw[cell_of_heap (other _ hne hs)];exact hu⟩
    |map es clock=>
     simp only[OkNode,upd_other _ _ e] at hok⊢
     have hlm:live h l:=⟨_,hx,by simp⟩
     rw[other _ (fun he=>e' (G.inj l a hlm hla he)) (G.size l hlm)]
     exact hok
 ·rcases liv l hl with rfl|⟨e,_,hl⟩
  ·exact .inr rfl
  ·exact .inl (G.inS l hl)
 ·rw[size_setCells]
  rcases liv l hl with rfl|⟨e,_,hl⟩
  ·rw[upd_same];exact G.size a hla
  ·rw[upd_other _ _ e];exact G.size l hl
 ·rcases liv l hl with rfl|⟨e,e2,hl⟩<;>rcases liv m hm with rfl|⟨e',e2',hm⟩
  ·rfl
  ·rw[upd_same,upd_other _ _ e'] at he;exact absurd (G.inj a m hla hm he).symm e2'
  ·rw[upd_same,upd_other _ _ e] at he;exact absurd (G.inj l a hl hla he) e2
  ·rw[upd_other _ _ e,upd_other _ _ e'] at he;exact G.inj l m hl hm he
 ·rcases liv l hl with rfl|⟨e,_,hl⟩
  ·rw[upd_same];exact G.apart a hla
  ·rw[upd_other _ _ e];exact G.apart l hl
end
section
variable {P:Program} {w:World} {X S:Nat→Prop} {φ:Nat→Loc} {h:Heap} {bad:Nat→Prop}
theorem run_info {t:TypeId}{i:TypeInfo}(hi:P.info? t=some i)(w:World):(typeInfo t).run P w=.ok i w:=by simp[typeInfo,hi]
theorem run_size {t:TypeId}{n:Nat}(hs:sz P t=some n)(w:World):(sizeOf t).run P w=.ok n w:=by
 unfold sz at hs
 cases hi:P.info? t with
 |none=>simp[hi] at hs
 |some i=>simp[hi] at hs;subst hs;simp[sizeOf,run_info hi]
theorem run_agg {t:TypeId}{b:Bool}(hs:aggT P t=some b)(w:World):(isAgg t).run P w=.ok b w:=by
 unfold aggT at hs
 cases hd:P.underlying t with
 |none=>simp[hd] at hs
 |some d=>simp[hd] at hs;subst hs;unfold isAgg;rw[Sem.run_bind,run_underlying hd w];cases d<;>rfl
theorem cellsAt_rel (G:Good w X S φ h){p:C}{u:Value}(hp:Rel w (badOf X φ h) S φ p u){cs:List C}(hc:cellsAt h p=some cs):
  ∃b o,u=.pointer (some ⟨b,o,none⟩)∧RelAt w (badOf X φ h) S φ cs b o:=by
 unfold cellsAt at hc
 split at hc
 ·rename_i l off
  split at hc
  ·rename_i e ds hl
   cases hc
   simp only[Rel] at hp
   have hok:=G.node l _ hl
   simp only[OkNode] at hok
   exact⟨_,_,hp.2,RelAt.drop off hok.2.2.2.2⟩
  ·cases hc
 ·cases hc
  simp only[Rel] at hp
  obtain⟨b,o,hu,hx⟩:=hp
  exact⟨b,o,hu,Fro.relAt hx⟩
 ·cases hc
theorem relAt_head {c:C}{cs:List C}{b o:Nat}(h:RelAt w bad S φ cs b o)(hc:cs.head?=some c):∃u,w.cell? ⟨b,o,none⟩=some u∧Rel w bad S φ c u:=by
 cases cs with
 |nil=>cases hc
 |cons d cs=>simp at hc;subst hc;simp only[RelAt] at h;obtain⟨⟨u,hu,hr,_⟩,_⟩:=h;exact⟨u,hu,hr⟩
theorem sz_info {t:TypeId}{n:Nat}(hs:sz P t=some n):∃i,P.info? t=some i∧i.size=n:=by
 unfold sz at hs
 cases hi:P.info? t with
 |none=>simp[hi] at hs
 |some i=>simp[hi] at hs;exact⟨i,rfl,hs⟩
theorem load_sound (G:Good w X S φ h){t:TypeId}{p c:C}{u:Value}(hp:Rel w (badOf X φ h) S φ p u)(hl:loadC P h t p=some c):
  ∃v,(Instr.loadAt t u).run P w=.ok v w∧Rel w (badOf X φ h) S φ c v:=by
 simp only[loadC,fieldOf,Option.bind_eq_bind,Option.bind_eq_some_iff] at hl
 obtain⟨cs,hcs,n,hn,b,hb,hl⟩:=hl
 obtain⟨k,o,rfl,hx⟩:=cellsAt_rel G hp hcs
 obtain⟨i,hi,hin⟩:=sz_info hn
 by_cases hbt:b=true
 ·subst hbt
  simp only[if_true,Option.map_eq_some_iff,takeN] at hl
  obtain⟨xs,hxs,rfl⟩:=hl
  split at hxs
  ·rename_i hle
   cases hxs
   obtain⟨us,hul,hrel,hra,hone⟩:=RelAt.reads (RelAt.take n hx)
   have hd:∃d,P.underlying t=some d∧d.isRow=true:=by
    unfold aggT at hb
    cases hd:P.underlying t with
    |none=>simp[hd] at hb
    |some d=>refine⟨d,rfl,?_⟩;cases d<;>simp_all
   obtain⟨d,hd,hrow⟩:=hd
   refine⟨_,run_loadAt_mid w k o t us d hra hd hrow (by rw[hi];simp[hin,hul];omega),?_⟩
   simp only[Rel]
   exact⟨us.toArray,rfl,by simpa using hrel,by simpa using hone⟩
  ·cases hxs
 ·have hbf:b=false:=by simpa using hbt
  subst hbf
  simp only[Bool.false_eq_true,if_false] at hl
  obtain⟨v,hv,hr⟩:=relAt_head hx hl
  refine⟨v,?_,hr⟩
  simp[Instr.loadAt,Instr.sureAddr,loadVar,run_agg hb,load,Sem.run,hv]
theorem fieldOf_sound {t:TypeId}{cs:List C}{us:Array Value}{off:Nat}{c:C}(hrel:RelL w bad S φ cs us.toList)(h1:∀x∈us.toList,x.oneCell'=true)(hf:fieldOf P t (cs.drop off)=some c):
  ∃v,(part t us off).run P w=.ok v w∧Rel w bad S φ c v:=by
 simp only[fieldOf,Option.bind_eq_bind,Option.bind_eq_some_iff] at hf
 obtain⟨n,hn,b,hb,hl⟩:=hf
 have hd:=RelL.drop off hrel
 by_cases hbt:b=true
 ·subst hbt
  simp only[if_true,Option.map_eq_some_iff,takeN] at hl
  obtain⟨xs,hxs,rfl⟩:=hl
  split at hxs
  ·rename_i hle
   cases hxs
   refine⟨.agg (us.extract off (off+n)),by simp[part,run_agg hb,run_size hn],?_⟩
   simp only[Rel]
   have e:(us.extract off (off+n)).toList=(us.toList.drop off).take n:=by
    simp only[Array.toList_extract,List.extract_eq_take_drop]
    congr 1
    omega
   refine⟨_,rfl,by rw[e];exact RelL.take n hd,fun x hx=>h1 x ?_⟩
   rw[e] at hx
   exact List.mem_of_mem_drop (List.mem_of_mem_take hx)
  ·cases hxs
 ·have hbf:b=false:=by simpa using hbt
  subst hbf
  simp only[Bool.false_eq_true,if_false] at hl
  rw[List.head?_eq_getElem?] at hl
  obtain⟨u,hu,hr⟩:=RelL.get hd hl
  refine⟨u,?_,hr⟩
  have hu':us[off]?=some u:=by simpa[List.getElem?_drop] using hu
  simp[part,run_agg hb,hu']
end
end Go.Tm
namespace Go.Tm
section
variable {P:Program} {w:World} {X S:Nat→Prop} {φ:Nat→Loc} {h:Heap} {bad:Nat→Prop}
theorem structF_some {t:TypeId}{f:Nat}{fd:Field}(hf:structF P t f=some fd):∃fs,P.underlying t=some (.struct fs)∧fs[f]?=some fd:=by
 unfold structF at hf
 split at hf
 ·rename_i fs hu;exact⟨fs,hu,hf⟩
 ·cases hf
theorem fieldAddr_sound {t:TypeId}{p c:C}{f:Nat}{u:Value}(hp:Rel w bad S φ p u)(hf:fieldAddrC P t p f=some c):
  ∃v,(Instr.fieldAt t u f).run P w=.ok v w∧Rel w bad S φ c v:=by
 simp only[fieldAddrC,Option.bind_eq_bind,Option.bind_eq_some_iff] at hf
 obtain⟨fd,hfd,n,hn,hf⟩:=hf
 obtain⟨fs,hu,hfs⟩:=structF_some hfd
 split at hf
 ·cases hf
 ·rename_i hn0
  split at hf
  ·rename_i l off
   cases hf
   simp only[Rel] at hp
   obtain⟨hS,rfl⟩:=hp
   refine⟨.pointer (some ((Addr.mk (φ l).block ((φ l).base+off) none).add fd.offset)),by simp[Instr.fieldAt,run_underlying hu,hfs,Instr.sureAddr,fieldPlace,run_size hn,hn0],?_⟩
   simp only[Rel,Addr.add_mid,Nat.add_assoc]
   exact⟨hS,trivial⟩
  ·cases hf
   simp only[Rel] at hp
   obtain⟨b,o,rfl,hx⟩:=hp
   refine⟨.pointer (some ((Addr.mk b o none).add fd.offset)),by simp[Instr.fieldAt,run_underlying hu,hfs,Instr.sureAddr,fieldPlace,run_size hn,hn0],?_⟩
   simp only[Rel,Addr.add_mid]
   exact⟨b,_,rfl,Fro.drop hx _⟩
  ·cases hf
theorem field_sound {t:TypeId}{x c:C}{f:Nat}{u:Value}(hp:Rel w bad S φ x u)(hf:fieldC P t x f=some c):
  ∃v,(Instr.field t u f).run P w=.ok v w∧Rel w bad S φ c v:=by
 simp only[fieldC,Option.bind_eq_bind,Option.bind_eq_some_iff] at hf
 obtain⟨fd,hfd,hf⟩:=hf
 obtain⟨fs,hu,hfs⟩:=structF_some hfd
 split at hf
 ·simp only[Rel] at hp
  obtain⟨us,rfl,hrel,h1⟩:=hp
  obtain⟨v,hv,hr⟩:=fieldOf_sound hrel h1 hf
  exact⟨v,by simp[Instr.field,run_underlying hu,hfs,asAgg,hv],hr⟩
 ·cases hf
theorem indexAddr_sound {t:TypeId}{x i c:C}{u j:Value}(hp:Rel w bad S φ x u)(hi:Rel w bad S φ i j)(hf:indexAddrC P t x i=some c):
  ∃v,(Instr.indexAt t u j).run P w=.ok v w∧Rel w bad S φ c v:=by
 simp only[indexAddrC,Option.bind_eq_bind,Option.bind_eq_some_iff] at hf
 obtain⟨⟨k,n⟩,hk,hf⟩:=hf
 have hj:=intOf_rel hi hk
 subst hj
 simp only at hf
 split at hf
 ·rename_i e hu
  simp only[Option.bind_eq_bind,Option.bind_eq_some_iff] at hf
  obtain⟨s,hs,hf⟩:=hf
  split at hf
  ·split at hf
   ·rename_i l off len _ hc
    cases hf
    simp only[Rel] at hp
    obtain⟨hS,b,o,cap',rfl,hle,_,hadr,_,_⟩:=hp
    have hlen:0<len:=by omega
    rcases hadr with h0|⟨hb,ho⟩
    ·omega
    refine⟨.pointer (some ((Addr.mk b o none).add (n.toNat*s))),by simp[Instr.indexAt,run_underlying hu,asIntOf,hc,run_size hs],?_⟩
    simp only[Rel,Addr.add_mid,hb,ho,Nat.add_assoc]
    exact⟨hS,trivial⟩
   ·cases hf
  ·split at hf
   ·rename_i xs len _ hc
    cases hf
    simp only[Rel] at hp
    rcases hp with ⟨⟨_,rfl⟩,rfl,rfl,_⟩|⟨b,o,cap',rfl,hle,_,hx⟩
    ·omega
    refine⟨.pointer (some ((Addr.mk b o none).add (n.toNat*s))),by simp[Instr.indexAt,run_underlying hu,asIntOf,hc,run_size hs],?_⟩
    simp only[Rel,Addr.add_mid]
    exact⟨b,_,rfl,Fro.drop hx _⟩
   ·cases hf
  ·cases hf
 ·rename_i len e hu
  simp only[Option.bind_eq_bind,Option.bind_eq_some_iff] at hf
  obtain⟨s,hs,hf⟩:=hf
  split at hf
  ·split at hf
   ·rename_i l off hc
    cases hf
    simp only[Rel] at hp
    obtain⟨hS,rfl⟩:=hp
    refine⟨.pointer (some ((Addr.mk (φ l).block ((φ l).base+off) none).add (n.toNat*s))),by simp[Instr.indexAt,run_underlying hu,asIntOf,hc,run_size hs,Instr.sureAddr],?_⟩
    simp only[Rel,Addr.add_mid,Nat.add_assoc]
    exact⟨hS,trivial⟩
   ·cases hf
  ·split at hf
   ·rename_i xs hc
    cases hf
    simp only[Rel] at hp
    obtain⟨b,o,rfl,hx⟩:=hp
    refine⟨.pointer (some ((Addr.mk b o none).add (n.toNat*s))),by simp[Instr.indexAt,run_underlying hu,asIntOf,hc,run_size hs,Instr.sureAddr],?_⟩
    simp only[Rel,Addr.add_mid]
    exact⟨b,_,rfl,Fro.drop hx _⟩
   ·cases hf
  ·cases hf
 ·cases hf
theorem index_sound {t:TypeId}{x i c:C}{u j:Value}(hp:Rel w bad S φ x u)(hi:Rel w bad S φ i j)(hf:indexC P t x i=some c):
  ∃v,(Instr.index t u j).run P w=.ok v w∧Rel w bad S φ c v:=by
 simp only[indexC,Option.bind_eq_bind,Option.bind_eq_some_iff] at hf
 obtain⟨⟨k,n⟩,hk,hf⟩:=hf
 have hj:=intOf_rel hi hk
 subst hj
 simp only at hf
 split at hf
 ·split at hf
  ·rename_i s y hy
   split at hf
   ·cases hf
    simp only[Rel] at hp
    obtain⟨rfl,_⟩:=hp
    refine⟨y,pureRun_run hy w,?_⟩
    simp only[Rel]
    exact⟨trivial,by assumption⟩
   ·cases hf
  ·cases hf
 ·split at hf
  ·rename_i len e hu
   split at hf
   ·rename_i cs hc
    simp only[Rel] at hp
    obtain⟨us,rfl,hrel,h1⟩:=hp
    obtain⟨v,hv,hr⟩:=fieldOf_sound hrel h1 hf
    have hs:∃s,sz P e=some s:=by
     simp only[fieldOf,Option.bind_eq_bind,Option.bind_eq_some_iff] at hf
     obtain⟨s,hs,_⟩:=hf
     exact⟨s,hs⟩
    obtain⟨s,hs⟩:=hs
    rw[hs] at hv
    refine⟨v,?_,hr⟩
    simp[Instr.index,run_underlying hu,asIntOf,hc,run_size hs]
    exact hv
   ·cases hf
  ·cases hf
 ·cases hf
def RelO (w:World)(bad S:Nat→Prop)(φ:Nat→Loc):Option C→Option Value→Prop
 |none,none=>True
 |some c,some u=>Rel w bad S φ c u
 |_,_=>False
theorem bound_some {o:Option C}{v:Option Value}{d n:Nat}(hr:RelO w bad S φ o v)(hb:bound o d=some n):(o=none∧v=none∧n=d)∨∃k i,v=some (.int k i)∧0≤i∧i.toNat=n:=by
 unfold bound at hb
 split at hb
 ·cases hb
  cases v with
  |none=>exact .inl ⟨rfl,rfl,rfl⟩
  |some _=>exact hr.elim
 ·rename_i c
  split at hb
  ·rename_i k i hi
   split at hb
   ·cases hb
    cases v with
    |none=>exact hr.elim
    |some u=>exact .inr ⟨k,i,by rw[intOf_rel hr hi],by assumption,rfl⟩
   ·cases hb
  ·cases hb
theorem sb_run {k:IntKind}{i:Int}{n y:Nat}(h0:0≤i)(hn:i.toNat=n)(hy:n≤y)(code:BoundsCode)(w:World):(Instr.sliceBound (.int k i) y code).run P w=.ok n w:=by
 rw[run_sliceBound w k i y code h0 (by omega),hn]
theorem bnds_sound {lo hi mx:Option C}{lo' hi' mx':Option Value}(hl:RelO w bad S φ lo lo')(hh:RelO w bad S φ hi hi')(hm:RelO w bad S φ mx mx'){len capk cap l e:Nat}{m:Option Nat}(isS:Bool)
  (hb:bnds lo hi mx len capk=some (l,e,m))(hc:capk≤cap):
  (Instr.sliceBounds isS len cap lo' hi' mx').run P w=.ok (l,e,m.getD cap) w∧l≤e∧e≤capk∧e≤m.getD cap∧m.getD cap≤cap∧(mx'=none→m=none)∧(∀x,m=some x→x≤capk):=by
 simp only[bnds,Option.bind_eq_bind,Option.bind_eq_some_iff] at hb
 obtain⟨l',hl',e',he',hb⟩:=hb
 have L:(lo'=none∧l'=0)∨∃k i,lo'=some (.int k i)∧0≤i∧i.toNat=l':=by
  rcases bound_some hl hl' with ⟨_,h1,h2⟩|h
  ·exact .inl ⟨h1,h2⟩
  ·exact .inr h
 have E:=bound_some hh he'
 cases mx with
 |none=>
  cases mx' with
  |some _=>exact hm.elim
  |none=>
   simp only at hb
   split at hb
   ·rename_i hcnd
    obtain⟨rfl,rfl,rfl⟩:l'=l∧e'=e∧none=m:=by simpa using hb
    refine⟨?_,hcnd.1,hcnd.2,by simp;omega,by simp,fun _=>rfl,fun _ h=>by cases h⟩
    rcases E with ⟨_,rfl,rfl⟩|⟨kh,ih,rfl,hh0,hh1⟩<;>rcases L with ⟨rfl,rfl⟩|⟨kl,il,rfl,hl0,hl1⟩
    ·simp[Instr.sliceBounds]
    ·simp[Instr.sliceBounds,sb_run hl0 hl1 hcnd.1]
    ·simp[Instr.sliceBounds,sb_run hh0 hh1 (show e'≤cap by omega)]
    ·simp[Instr.sliceBounds,sb_run hh0 hh1 (show e'≤cap by omega),sb_run hl0 hl1 hcnd.1]
   ·cases hb
 |some mc=>
  cases mx' with
  |none=>exact hm.elim
  |some mv=>
   simp only[Option.bind_eq_some_iff] at hb
   obtain⟨m',hm',hb⟩:=hb
   split at hb
   ·rename_i hcnd
    obtain⟨rfl,rfl,rfl⟩:l'=l∧e'=e∧some m'=m:=by simpa using hb
    refine⟨?_,hcnd.2.1,by omega,by simp;omega,by simp;omega,fun h=>(by cases h),fun x hx=>by cases hx;exact hcnd.2.2.2⟩
    rcases bound_some hm hm' with ⟨h0,_⟩|⟨km,im,hmv,hm0,hm1⟩
    ·cases h0
    cases hmv
    rcases E with ⟨h0,_,_⟩|⟨kh,ih,rfl,hh0,hh1⟩
    ·rw[h0] at hcnd;cases hcnd.1
    rcases L with ⟨rfl,rfl⟩|⟨kl,il,rfl,hl0,hl1⟩
    ·simp[Instr.sliceBounds,sb_run hm0 hm1 (show m'≤cap by omega),sb_run hh0 hh1 hcnd.2.2.1]
    ·simp[Instr.sliceBounds,sb_run hm0 hm1 (show m'≤cap by omega),sb_run hh0 hh1 hcnd.2.2.1,sb_run hl0 hl1 hcnd.2.1]
   ·cases hb
theorem slice_sound (G:Good w X S φ h){t:TypeId}{x c:C}{lo hi mx:Option C}{u:Value}{lo' hi' mx':Option Value}(hp:Rel w (badOf X φ h) S φ x u)
  (hl:RelO w (badOf X φ h) S φ lo lo')(hh:RelO w (badOf X φ h) S φ hi hi')(hm:RelO w (badOf X φ h) S φ mx mx')(hf:sliceC P h t x lo hi mx=some c):
  ∃v,(Instr.sliceAt t u lo' hi' mx').run P w=.ok v w∧Rel w (badOf X φ h) S φ c v:=by
 unfold sliceC at hf
 split at hf
 ·rename_i hu
  split at hf
  ·rename_i s
   simp only[Option.map_eq_some_iff] at hf
   obtain⟨⟨l,e,m⟩,hb,rfl⟩:=hf
   simp only[Rel] at hp
   obtain⟨rfl,_⟩:=hp
   cases mx' with
   |some _=>exact hm.elim
   |none=>
    obtain⟨hrun,_⟩:=bnds_sound (P:=P) (cap:=s.size) hl hh hm false hb (Nat.le_refl _)
    refine⟨.string (s.extract l e),?_,by simp only[Rel];exact⟨trivial,rfl⟩⟩
    rw[run_sliceAt_string w t _ _ _ _ hu]
    simp[Instr.slice,run_underlying hu,hrun]
  ·cases hf
 ·rename_i e hu
  have hsl:(Instr.sliceAt t u lo' hi' mx').run P w=(Instr.slice t u lo' hi' mx').run P w:=by
   simp[Instr.sliceAt,run_underlying hu]
  rw[hsl]
  simp only[Option.bind_eq_some_iff] at hf
  obtain⟨s,hs,hf⟩:=hf
  split at hf
  ·simp only[Option.map_eq_some_iff] at hf
   obtain⟨⟨l,e,m⟩,hb,rfl⟩:=hf
   simp only[Rel] at hp
   obtain⟨rfl,_⟩:=hp
   obtain⟨hrun,h1,h2,h3,h4,_⟩:=bnds_sound (P:=P) (cap:=0) hl hh hm true hb (Nat.le_refl _)
   refine⟨.slice none 0 0,?_,by simp only[Rel];exact⟨trivial,rfl⟩⟩
   have e1:l=0:=by omega
   have e2:e=0:=by omega
   have e3:m.getD 0=0:=by omega
   rw[e1,e2,e3] at hrun
   simp[Instr.slice,run_underlying hu,hrun,run_size hs]
  ·rename_i a off len cap
   split at hf
   ·rename_i e' cs hat
    split at hf
    ·rename_i hes
     subst hes
     simp only[Option.map_eq_some_iff] at hf
     obtain⟨⟨l,e,m⟩,hb,rfl⟩:=hf
     simp only[Rel] at hp
     obtain⟨hS,b,o,cap',rfl,hle,hcap,hadr,hroom,hkn⟩:=hp
     have hok0:=G.node a _ hat
     simp only[OkNode] at hok0
     have hck:capk cap len off e' cs≤cap':=by
      cases cap with
      |none=>
       have h1:=hkn rfl
       rw[hok0.2.1,hok0.1] at h1
       refine Nat.max_le.2 ⟨hle,?_⟩
       rcases Nat.eq_zero_or_pos e' with h0|h0
       ·subst h0;simp
       ·refine Nat.le_trans (Nat.div_le_div_right (c:=e') (show cs.length-off≤cap'*e' by omega)) ?_
        rw[Nat.mul_div_cancel _ h0];exact Nat.le_refl _
      |some c=>have:=hcap c rfl;simp only[capk];omega
     obtain⟨hrun,h1,h2,h3,h4,h5,h6⟩:=bnds_sound (P:=P) (cap:=cap') hl hh hm true hb hck
     have hok:=G.node a _ hat
     simp only[OkNode] at hok
     obtain⟨k1,k2,k3,k4,k5⟩:=hok
     simp only at*
     have hmul:∀x y:Nat,x≤y→(y-x)*e'+x*e'=y*e':=fun x y hxy=>by rw[←Nat.add_mul];congr 1;omega
     by_cases hml:m.getD cap'=l
     ·refine⟨.slice (some ⟨b,o,none⟩) (e-l) 0,by simp[Instr.slice,run_underlying hu,hrun,run_size hs,hml],?_⟩
      simp only[Rel]
      refine⟨hS,b,o,0,rfl,by omega,fun c hc=>?_,.inl rfl,.inl rfl,fun hc=>?_⟩
      ·cases m with
       |none=>cases cap with
        |none=>cases hc
        |some c0=>have:=hcap c0 rfl;simp[capLeft] at hc hml;omega
       |some m=>simp[capLeft] at hc hml;omega
      ·cases m with
       |some m=>cases hc
       |none=>
        cases cap with
        |some c0=>cases hc
        |none=>
         have:=hkn rfl
         simp at hml
         subst hml
         rw[k1] at this⊢
         omega
     ·refine⟨.slice (some ((Addr.mk b o none).add (l*e'))) (e-l) (m.getD cap'-l),by simp[Instr.slice,run_underlying hu,hrun,run_size hs,hml],?_⟩
      simp only[Rel,Addr.add_mid]
      have hne:cap'≠0:=by omega
      obtain⟨hb2,ho2⟩:=hadr.resolve_left hne
      have hro:=hroom.resolve_left hne
      refine⟨hS,b,o+l*e',_,rfl,by omega,fun c hc=>?_,.inr ⟨hb2,by omega⟩,.inr ?_,fun hc=>?_⟩
      ·cases m with
       |none=>cases cap with
        |none=>cases hc
        |some c0=>have:=hcap c0 rfl;simp[capLeft] at hc⊢;omega
       |some m=>simp[capLeft] at hc⊢;omega
      ·rw[k1] at hro⊢
       have e1:=hmul l (m.getD cap') (by omega)
       have e2:m.getD cap'*e'≤cap'*e':=Nat.mul_le_mul_right _ h4
       omega
      ·cases m with
       |some m=>cases hc
       |none=>
        cases cap with
        |some c0=>cases hc
        |none=>
         have:=hkn rfl
         rw[k1] at this⊢
         have e1:=hmul l cap' (by simp at h3;omega)
         simp
         omega
    ·cases hf
   ·cases hf
  ·rename_i xs len cap
   simp only[Option.map_eq_some_iff] at hf
   obtain⟨⟨l,e,m⟩,hb,rfl⟩:=hf
   simp only[Rel] at hp
   rcases hp with ⟨⟨a0,rfl⟩,rfl,rfl,hcap⟩|⟨b,o,cap',rfl,hle,hcap,hx⟩
   ·obtain⟨hrun,h1,h2,h3,h4,h5,h6⟩:=bnds_sound (P:=P) (cap:=0) hl hh hm true hb (Nat.le_refl _)
    have e1:l=0:=by omega
    have e2:e=0:=by omega
    have e3:m.getD 0=0:=by omega
    rw[e1,e2,e3] at hrun
    refine⟨.slice a0 0 0,by simp[Instr.slice,run_underlying hu,hrun,run_size hs],?_⟩
    simp only[Rel]
    refine .inl ⟨⟨a0,rfl⟩,by simp,by omega,?_⟩
    cases m with
    |none=>rcases hcap with rfl|rfl<;>simp[capLeft]
    |some m=>simp at e3;subst e3;simp[capLeft]
   ·obtain⟨hrun,h1,h2,h3,h4,h5,h6⟩:=bnds_sound (P:=P) (cap:=cap') hl hh hm true hb hle
    simp only at*
    have hcl:∀c,capLeft cap m l=some c→m.getD cap'-l=c:=fun c hc=>by
     cases m with
     |none=>cases cap with
      |none=>cases hc
      |some c0=>have:=hcap c0 rfl;simp[capLeft] at hc⊢;omega
     |some m=>simp[capLeft] at hc⊢;omega
    by_cases hml:m.getD cap'=l
    ·refine⟨.slice (some ⟨b,o,none⟩) (e-l) 0,by simp[Instr.slice,run_underlying hu,hrun,run_size hs,hml],?_⟩
     simp only[Rel]
     have e0:e-l=0:=by omega
     exact .inr ⟨b,o,0,rfl,by omega,fun c hc=>by have:=hcl c hc;omega,.inl (by rw[e0];simp)⟩
    ·refine⟨.slice (some ((Addr.mk b o none).add (l*s))) (e-l) (m.getD cap'-l),by simp[Instr.slice,run_underlying hu,hrun,run_size hs,hml],?_⟩
     simp only[Rel,Addr.add_mid]
     exact .inr ⟨b,o+l*s,_,rfl,by omega,hcl,Fro.take (Fro.drop hx _) _⟩
  ·cases hf
 ·cases hf
end
end Go.Tm
namespace Go.Tm
def Names (S S':Nat→Prop)(h h':Heap)(al:Option Nat):Prop:=
 (S'=S∧h'.length=h.length)∨(S'=(fun l=>S l∨l=(new h al .dead).1)∧h'.length=(new h al .dead).2.length)
def Done (w:World)(X S:Nat→Prop)(φ:Nat→Loc)(h:Heap)(al:Option Nat)(r:Result Value)(c:C)(h':Heap):Prop:=
 ∃u w' S' φ',r=.ok u w'∧Good w' X S' φ' h'∧Ext w S φ h w' S' φ' h'∧Rel w' (badOf X φ' h') S' φ' c u∧Names S S' h h' al
section
variable {P:Program} {w:World} {X S:Nat→Prop} {φ:Nat→Loc} {h:Heap} {bad:Nat→Prop} {al:Option Nat}
theorem Done.pure (G:Good w X S φ h){r:Result Value}{c:C}(hr:∃v,r=.ok v w∧Rel w (badOf X φ h) S φ c v):Done w X S φ h al r c h:=
 let ⟨v,e,hrel⟩:=hr;⟨v,w,S,φ,e,G,Ext.refl _ _ _ _,hrel,.inl ⟨rfl,rfl⟩⟩
theorem zeroC_some {t:TypeId}{z:List C}(hz:zeroC P t=some z):∃i zv,P.info? t=some i∧i.zero=some zv∧zv.cells.toList.all oneCell=true∧z=zv.cells.toList.map .v:=by
 unfold zeroC at hz
 split at hz
 ·rename_i i hi
  split at hz
  ·rename_i zv hzv
   split at hz
   ·rename_i hall;cases hz;exact⟨i,zv,hi,hzv,hall,rfl⟩
   ·cases hz
  ·cases hz
 ·cases hz
theorem new_len_row (h:Heap)(al:Option Nat)(nd:Node):(new h al nd).2.length=(new h al .dead).2.length:=new_len h al nd .dead
theorem alloc_sound (G:Good w X S φ h)(ok:AllocOk S h al){t:TypeId}{z:List C}(hz:zeroC P t=some z):
  Done w X S φ h al ((Instr.alloc t true (.tuple #[])).run P w) (.op (new h al (.row 0 z)).1 0) (new h al (.row 0 z)).2:=by
 obtain⟨i,zv,hi,hzv,hall,rfl⟩:=zeroC_some hz
 have hone:∀x∈zv.cells.toList,x.oneCell'=true:=fun x hx=>List.all_eq_true.1 hall x hx
 obtain⟨G',E⟩:=good_alloc (w':=w.alloc (.cells zv.cells t)) (ez:=0) (extra:=[]) G ok (by simp) (relL_vs hall) hone rfl rfl rfl rfl
 refine⟨.pointer (some ⟨w.heap.size,0,none⟩),_,_,_,?_,G',E,?_,.inr ⟨by rw[new_name h al _ .dead],new_len_row _ _ _⟩⟩
 ·simp[Instr.alloc,zeroValue,run_info hi,hzv,newVar,Go.newRow]
 ·simp only[Rel,upd_same]
  exact⟨.inr trivial,trivial⟩
theorem box_sound (G:Good w X S φ h)(ok:AllocOk S h al){t:TypeId}{c:C}{u:Value}(hr:Rel w (badOf X φ h) S φ c u)(hc:c.cells.all C.isCell=true):
  Done w X S φ h al ((Instr.box t u).run P w) (.op (new h al (.row 0 c.cells)).1 0) (new h al (.row 0 c.cells)).2:=by
 obtain⟨hrel,h1⟩:=cells_rel hr hc
 obtain⟨G',E⟩:=good_alloc (w':=w.alloc (.cells u.cells t)) (ez:=0) (extra:=[]) G ok (by simp) hrel h1 rfl rfl rfl rfl
 refine⟨.pointer (some ⟨w.heap.size,0,none⟩),_,_,_,?_,G',E,?_,.inr ⟨by rw[new_name h al _ .dead],new_len_row _ _ _⟩⟩
 ·simp[Instr.box,newVar,Go.newRow]
 ·simp only[Rel,upd_same]
  exact⟨.inr trivial,trivial⟩
theorem run_storeVar_any {t:TypeId}{b o:Nat}{v:Value}(hs:sz P t=some v.cells.toList.length)(ht:w.there b o v.cells.toList.length)(h1:∀x∈v.cells.toList,x.oneCell'=true):
  (storeVar t ⟨b,o,none⟩ v).run P w=.ok () (w.setCells b o v.cells.toList):=by
 have:=run_storeCells_cells (P:=P) b o v.cells.toList 0 w (fun j hj=>by simpa using(ht j hj).1) (fun j hj=>by simpa using(ht j hj).2) h1
 simp only[Nat.add_zero] at this
 obtain⟨i,hi,hin⟩:=sz_info hs
 have hsz:v.cells.size=i.size:=by simp at hin;omega
 simp[storeVar,sizeOf,run_info hi,hsz,this]
theorem store_sound (G:Good w X S φ h){t:TypeId}{p x:C}{u v:Value}{h':Heap}(hp:Rel w (badOf X φ h) S φ p u)(hx:Rel w (badOf X φ h) S φ x v)(hs:storeC P h t p x=some h'):
  ∃w',(Instr.storeAt t u v).run P w=.ok () w'∧Good w' X S φ h'∧Ext w S φ h w' S φ h'∧h'.length=h.length:=by
 unfold storeC at hs
 split at hs
 ·rename_i l off
  split at hs
  ·rename_i e cs hl
   split at hs
   ·rename_i hc
    cases hs
    obtain⟨c1,c2,c3⟩:=hc
    obtain⟨hrel,h1⟩:=cells_rel hx c3
    have hlen:=RelL.length hrel
    obtain⟨G',E⟩:=good_store G hl c2 hrel h1
    simp only[Rel] at hp
    obtain⟨hS,rfl⟩:=hp
    refine⟨_,?_,G',E,by simp⟩
    have hok:=G.node l _ hl
    simp only[OkNode] at hok
    obtain⟨k1,k2,k3,k4,k5⟩:=hok
    simp only[Instr.storeAt,Instr.sureAddr,Sem.run_bind,Sem.run_pure,Result.andThen_ok]
    refine run_storeVar_any (by rw[hlen];exact c1.symm) (fun j hj=>?_) h1
    rw[hlen] at hj
    have:=k4 (off+j) (by omega)
    rw[←Nat.add_assoc] at this
    exact this
   ·cases hs
  ·cases hs
 ·cases hs
def RelP (w:World)(bad S:Nat→Prop)(φ:Nat→Loc):List (Nat×C)→List (Nat×Value)→Prop
 |[],vs=>vs=[]
 |(i,c)::r,vs=>∃u s,vs=(i,u)::s∧Rel w bad S φ c u∧RelP w bad S φ r s
theorem evParts_rel {env:Env}{a:Act}(he:RelE w bad S φ env a.tmps):∀{ps:List (Nat×Operand)} {qs:List (Nat×C)},evParts env ps=some qs→RelP w bad S φ qs (ps.map fun x=>(x.1,a.eval x.2))
 |[],qs,h=>by simp only[evParts,Option.some.injEq] at h;subst h;simp[RelP]
 |(i,x)::ps,qs,h=>by
  simp only[evParts,Option.bind_eq_bind,Option.bind_eq_some_iff,Option.some.injEq] at h
  obtain⟨c,hc,ds,hd,rfl⟩:=h
  simp only[List.map_cons,RelP]
  exact⟨_,_,rfl,ev_rel he hc,evParts_rel he hd⟩
theorem foldl_set:∀(vs:List Value) (k off:Nat) (cells:Array Value),off+k+vs.length≤cells.size→
  ((vs.zipIdx k).foldl (fun cs (x:Value×Nat)=>cs.setIfInBounds (off+x.2) x.1) cells).toList=cells.toList.take (off+k)++(vs++cells.toList.drop (off+k+vs.length))
 |[],k,off,cells,_=>by simp
 |v::vs,k,off,cells,hk=>by
  simp only[List.length_cons] at hk
  rw[List.zipIdx_cons,List.foldl_cons,foldl_set vs (k+1) off _ (by simp;omega)]
  simp only[Array.toList_setIfInBounds]
  have e1:off+(k+1)=off+k+1:=by omega
  rw[e1,List.take_add_one]
  have hl:off+k<cells.toList.length:=by simp;omega
  rw[List.getElem?_set_self hl]
  simp only[Option.toList_some,List.append_assoc,List.cons_append,List.nil_append]
  rw[List.take_set_of_le (Nat.le_refl _),List.drop_set]
  rw[if_pos (by omega)]
  simp[Nat.add_assoc,Nat.add_comm 1]
theorem fill_sound {place place':Nat→Option (Nat×Nat)}(hp:∀i x,place i=some x→place' i=some x):∀{qs:List (Nat×C)} {vs:List (Nat×Value)} {cells cells':List C} {us:Array Value},
  fillC place cells qs=some cells'→RelP w bad S φ qs vs→RelL w bad S φ cells us.toList→(∀x∈us.toList,x.oneCell'=true)→
  ∃us',Instr.fill place' us vs=some us'∧RelL w bad S φ cells' us'.toList∧∀x∈us'.toList,x.oneCell'=true
 |[],vs,cells,cells',us,hf,hq,hr,h1=>by
  simp only[fillC,Option.some.injEq] at hf
  subst hf
  simp only[RelP] at hq
  subst hq
  exact⟨us,rfl,hr,h1⟩
 |(i,c)::qs,vs,cells,cells',us,hf,hq,hr,h1=>by
  simp only[RelP] at hq
  obtain⟨u,s,rfl,hc,hq⟩:=hq
  simp only[fillC] at hf
  split at hf
  ·cases hf
  ·rename_i off size hpl
   split at hf
   ·rename_i hcnd
    obtain⟨c1,c2,c3⟩:=hcnd
    obtain⟨hrel,hone⟩:=cells_rel hc c3
    have hlu:=RelL.length hrel
    have hlr:=RelL.length hr
    simp only[Array.length_toList] at hlu hlr
    have hfold:=foldl_set u.cells.toList 0 off us (by simp;omega)
    simp only[Nat.add_zero] at hfold
    have harr:(u.cells.zipIdx.foldl (fun cs (x:Value×Nat)=>cs.setIfInBounds (off+x.2) x.1) us).toList=us.toList.take off++(u.cells.toList++us.toList.drop (off+u.cells.toList.length)):=by
     rw[←hfold,←Array.foldl_toList,Array.toList_zipIdx]
    have hput:RelL w bad S φ (put cells off c.cells) (u.cells.zipIdx.foldl (fun cs (x:Value×Nat)=>cs.setIfInBounds (off+x.2) x.1) us).toList:=by
     rw[harr]
     unfold put
     have:c.cells.length=u.cells.toList.length:=by simp;omega
     rw[this]
     exact RelL.append (RelL.take off hr) (RelL.append hrel (RelL.drop _ hr))
    obtain⟨us',hfill,hrel',h1'⟩:=fill_sound hp hf hq hput (fun x hx=>by
     rw[harr] at hx
     rcases List.mem_append.1 hx with hx|hx
     ·exact h1 x (List.mem_of_mem_take hx)
     ·rcases List.mem_append.1 hx with hx|hx
      ·exact hone x hx
      ·exact h1 x (List.mem_of_mem_drop hx))
    refine⟨us',?_,hrel',h1'⟩
    simp only[Instr.fill,hp i _ hpl]
    rw[if_neg (by simp;omega)]
    exact hfill
   ·cases hf
theorem places_mapM:∀(fs:List Field),(fs.all (fun f=>(sz P f.type).isSome))=true→fs.mapM (fun f=>(P.info? f.type).map fun i=>(f.offset,i.size))=some (fs.map fun f=>(f.offset,(sz P f.type).getD 0))
 |[],_=>rfl
 |f::fs,h=>by
  simp only[List.all_cons,Bool.and_eq_true] at h
  obtain⟨n,hn⟩:=Option.isSome_iff_exists.1 h.1
  obtain⟨i,hi,rfl⟩:=sz_info hn
  simp[List.mapM_cons,places_mapM fs h.2,hi,hn]
theorem build_sound {t:TypeId}{qs:List (Nat×C)}{c:C}{vs:Array (Nat×Value)}(hq:RelP w bad S φ qs vs.toList)(hb:buildC P t qs=some c):
  ∃v,(Instr.build t vs).run P w=.ok v w∧Rel w bad S φ c v:=by
 simp only[buildC,Option.bind_eq_bind,Option.bind_eq_some_iff] at hb
 obtain⟨z,hz,hb⟩:=hb
 obtain⟨i,zv,hi,hzv,hall,rfl⟩:=zeroC_some hz
 have hone:∀x∈zv.cells.toList,x.oneCell'=true:=fun x hx=>List.all_eq_true.1 hall x hx
 split at hb
 ·rename_i fs hu
  split at hb
  ·rename_i hall'
   simp only[Option.map_eq_some_iff] at hb
   obtain⟨cs,hf,rfl⟩:=hb
   have hm:=places_mapM (P:=P) fs.toList hall'
   obtain⟨us',hfill,hrel,h1⟩:=fill_sound (place':=fun i=>(fs.toList.map fun f=>(f.offset,(sz P f.type).getD 0)).toArray[i]?) (fun i x hx=>by
    unfold places at hx
    split at hx
    ·rename_i f hf'
     simp only[Option.map_eq_some_iff] at hx
     obtain⟨s,hs,rfl⟩:=hx
     simp at hf'⊢
     exact⟨f,hf',by simp[hs]⟩
    ·cases hx) hf hq (relL_vs hall) hone
   refine⟨.agg us',?_,by simp only[Rel];exact⟨us',rfl,hrel,h1⟩⟩
   have hm2:=run_places (P:=P) w fs.toList _ hm
   have hfill':Instr.fill (fun x=>Option.map (fun f=>(f.offset,(sz P f.type).getD 0)) fs[x]?) zv.cells vs.toList=some us':=by simpa using hfill
   simp[Instr.build,run_underlying hu,typeInfo,zeroValue,hi,hzv,Array.mapM_eq_mapM_toList,hm2,hfill']
  ·cases hb
 ·rename_i n e hu
  simp only[Option.bind_eq_some_iff,Option.some.injEq] at hb
  obtain⟨s,hs,cs,hf,rfl⟩:=hb
  obtain⟨us',hfill,hrel,h1⟩:=fill_sound (place':=fun i=>some (i*s,s)) (fun i x hx=>hx) hf hq (relL_vs hall) hone
  refine⟨.agg us',?_,by simp only[Rel];exact⟨us',rfl,hrel,h1⟩⟩
  simp[Instr.build,zeroValue,run_info hi,hzv,run_underlying hu,run_size hs,hfill]
 ·cases hb
end
end Go.Tm
namespace Go.Tm
section
variable {P:Program} {w:World} {X S:Nat→Prop} {φ:Nat→Loc} {h:Heap} {bad:Nat→Prop} {al:Option Nat}
theorem sliceE_some {t e:TypeId}(he:sliceE P t=some e):P.underlying t=some (.slice e):=by
 unfold sliceE at he
 split at he
 ·rename_i e' hu;cases he;exact hu
 ·cases he
theorem made_rep (z:Array Value)(hz:0<z.size):∀(n:Nat),(madeCells z (n*z.size)).toList=(List.replicate n z.toList).flatten:=by
 intro n
 apply List.ext_getElem?
 intro i
 have hlen:((List.replicate n z.toList).flatten).length=n*z.size:=by simp
 by_cases hi:i<n*z.size
 ·have key:∀(n i:Nat),i<n*z.size→((List.replicate n z.toList).flatten)[i]?=some (z[i % z.size]'(Nat.mod_lt _ hz)):=by
   intro n
   induction n with
   |zero=>intro i hi;simp at hi
   |succ n ih=>
    intro i hi
    rw[List.replicate_succ,List.flatten_cons]
    by_cases hlt:i<z.size
    ·rw[List.getElem?_append_left (by simpa using hlt)]
     simp[Nat.mod_eq_of_lt hlt,hlt]
    ·rw[List.getElem?_append_right (by simpa using hlt)]
     have h2:i-z.size<n*z.size:=by rw[Nat.succ_mul] at hi;omega
     have:=ih (i-z.size) h2
     simp only[Array.length_toList]
     rw[this]
     congr 1
     congr 1
     exact(Nat.mod_eq_sub_mod (by omega)).symm
  rw[key n i hi]
  simp only[madeCells]
  simp[hi,Nat.mod_lt _ hz]
 ·rw[List.getElem?_eq_none (by simp[madeCells];omega),List.getElem?_eq_none (by rw[hlen];omega)]
theorem relL_flatten {z:List C}{us:List Value}(hr:RelL w bad S φ z us):∀n,RelL w bad S φ (rep n z) (List.replicate n us).flatten
 |0=>by simp[rep,RelL]
 |n+1=>by
  have:=relL_flatten hr n
  simp only[rep,List.replicate_succ,List.flatten_cons] at this⊢
  exact RelL.append hr this
theorem rowOf_some {e:TypeId}{n s:Nat}{cs:List C}(hr:rowOf P e n=some (s,cs)):∃i zv,P.info? e=some i∧i.size=s∧i.zero=some zv∧zv.cells.size=s∧0<s∧zv.cells.toList.all oneCell=true∧cs=rep n (zv.cells.toList.map .v):=by
 simp only[rowOf,Option.bind_eq_bind,Option.bind_eq_some_iff] at hr
 obtain⟨s',hs,z,hz,hr⟩:=hr
 split at hr
 ·rename_i hc
  cases hr
  obtain⟨i,zv,hi,hzv,hall,rfl⟩:=zeroC_some hz
  obtain⟨i',hi',hsz⟩:=sz_info hs
  rw[hi] at hi'
  cases hi'
  refine⟨i,zv,hi,hsz,hzv,by simpa using hc.2,hc.1,hall,rfl⟩
 ·cases hr
theorem flatten_one {z:List Value}(h1:∀x∈z,x.oneCell'=true)(n:Nat):∀x∈(List.replicate n z).flatten,x.oneCell'=true:=fun x hx=>by
 obtain⟨l,hl,hx⟩:=List.mem_flatten.1 hx
 rw[List.mem_replicate] at hl
 exact h1 x (hl.2 ▸ hx)
theorem makeSlice_sound (G:Good w X S φ h)(ok:AllocOk S h al){t:TypeId}{a b c:C}{u v:Value}{h':Heap}(hu:Rel w (badOf X φ h) S φ a u)(hv:Rel w (badOf X φ h) S φ b v)(hm:makeSliceC P h al t a b=some (c,h')):
  Done w X S φ h al ((Instr.makeSlice t u v).run P w) c h':=by
 simp only[makeSliceC,Option.bind_eq_bind,Option.bind_eq_some_iff] at hm
 obtain⟨e,he,⟨k,n⟩,hn,⟨k',m⟩,hm',i,hi,⟨s,cs⟩,hrow,hm⟩:=hm
 have ht:=sliceE_some he
 obtain⟨i',zv,hi',hsz,hzv,hzs,hs0,hall,rfl⟩:=rowOf_some hrow
 rw[hi] at hi'
 cases hi'
 simp only at hm
 split at hm
 ·rename_i hc
  obtain⟨c1,c2,c3,c4⟩:=hc
  cases hm
  have eu:=intOf_rel hu hn
  have ev:=intOf_rel hv hm'
  subst eu
  subst ev
  have hcm:m.toNat≤2^36:=by unfold maxRow at c3;omega
  have hbytes:(i.bytes:Int)*m≤281474976710656:=by
   have h1:i.bytes*m.toNat≤2^10*2^36:=Nat.mul_le_mul c4 hcm
   have h2:((i.bytes*m.toNat:Nat):Int)=(i.bytes:Int)*m:=by rw[Int.natCast_mul,Int.toNat_of_nonneg (by omega)]
   omega
  have hrun:=run_make (P:=P) w t e i zv ht hi hzv k k' n m c1 c2 hbytes (by omega)
  have hz1:∀x∈zv.cells.toList,x.oneCell'=true:=fun x hx=>List.all_eq_true.1 hall x hx
  have hrow':(madeCells zv.cells (m.toNat*i.size)).toList=(List.replicate m.toNat zv.cells.toList).flatten++[]:=by
   rw[List.append_nil,hsz,←hzs]
   exact made_rep zv.cells (by omega) m.toNat
  obtain⟨G',E⟩:=good_alloc (w':=w.alloc (.cells (madeCells zv.cells (m.toNat*i.size)) e)) (ez:=s) (extra:=[]) G ok hrow' (relL_flatten (relL_vs hall) m.toNat) (flatten_one hz1 _) rfl rfl rfl rfl
  refine⟨_,_,_,_,hrun,G',E,?_,.inr ⟨by rw[new_name h al _ .dead],new_len_row _ _ _⟩⟩
  simp only[Rel,upd_same]
  refine⟨.inr trivial,w.heap.size,0,m.toNat,rfl,by omega,fun c hc=>by cases hc;rfl,.inr ⟨rfl,rfl⟩,.inr ?_,fun hc=>by cases hc⟩
  rw[size_madeCells,hsz]
  omega
 ·cases hm
theorem buildSlice_sound (G:Good w X S φ h)(ok:AllocOk S h al){t:TypeId}{n:Nat}{qs:List (Nat×C)}{vs:Array (Nat×Value)}{c:C}{h':Heap}(hq:RelP w (badOf X φ h) S φ qs vs.toList)(hb:buildSliceC P h al t n qs=some (c,h')):
  Done w X S φ h al ((Instr.buildSlice t n vs).run P w) c h':=by
 simp only[buildSliceC,Option.bind_eq_bind,Option.bind_eq_some_iff] at hb
 obtain⟨e,he,⟨s,cs⟩,hrow,cs',hf,hb⟩:=hb
 have ht:=sliceE_some he
 obtain⟨i,zv,hi,hsz,hzv,hzs,hs0,hall,rfl⟩:=rowOf_some hrow
 simp only at hf hb
 split at hb
 ·rename_i hc
  cases hb
  have hz1:∀x∈zv.cells.toList,x.oneCell'=true:=fun x hx=>List.all_eq_true.1 hall x hx
  have hmade:(madeCells zv.cells (n*s)).toList=(List.replicate n zv.cells.toList).flatten:=by
   rw[←hzs];exact made_rep zv.cells (by omega) n
  obtain⟨us',hfill,hrel,h1⟩:=fill_sound (place':=fun i=>some (i*s,s)) (us:=madeCells zv.cells (n*s)) (fun i x hx=>hx) hf hq (by rw[hmade];exact relL_flatten (relL_vs hall) n) (by rw[hmade];exact flatten_one hz1 _)
  obtain⟨G',E⟩:=good_alloc (w':=w.alloc (.cells us' e)) (ez:=s) (extra:=[]) G ok (by simp) hrel h1 rfl rfl rfl rfl
  have hl:=RelL.length hrel
  have hfl:∀{qs:List (Nat×C)} {a b:List C},fillC (fun i=>some (i*s,s)) a qs=some b→b.length=a.length:=by
   intro qs
   induction qs with
   |nil=>intro a b hh;simp only[fillC,Option.some.injEq] at hh;rw[hh]
   |cons q qs ih=>
    intro a b hh
    obtain⟨i,x⟩:=q
    simp only[fillC] at hh
    split at hh
    ·rename_i hcc
     rw[ih hh,put_length _ _ _ (by omega)]
    ·cases hh
  have hlen:us'.size=n*s:=by
   have h2:=hfl hf
   simp only[Array.length_toList] at hl
   rw[hl,h2]
   simp[rep,hzs]
  refine⟨.slice (some ⟨w.heap.size,0,none⟩) n n,_,_,_,?_,G',E,?_,.inr ⟨by rw[new_name h al _ .dead],new_len_row _ _ _⟩⟩
  ·have hn24:¬(16777216<n*s):=by omega
   by_cases h0:n*s=0
   ·have hm0:madeCells zv.cells 0= #[]:=by simp[madeCells]
    rw[h0,hm0] at hfill
    have hr0:Array.map (fun _=>(default:Value)) (Array.range 0)= #[]:=by simp[Array.range_zero']
    simp[Instr.buildSlice,run_underlying ht,sizeOf,run_info hi,hsz,h0,hr0,hfill,Go.newRow]
   ·have hfill':Instr.fill (fun i=>some (i*s,s)) (Array.map (fun x=>zv.cells[x % zv.cells.size]!) (Array.range (n*s))) vs.toList=some us':=hfill
    simp[Instr.buildSlice,run_underlying ht,sizeOf,run_info hi,hsz,h0,hn24,zeroValue,hzv,hfill',Go.newRow]
  ·simp only[Rel,upd_same]
   refine⟨.inr trivial,w.heap.size,0,n,rfl,Nat.le_refl _,fun c hc=>by cases hc;rfl,.inr ⟨rfl,rfl⟩,.inr ?_,fun hc=>by cases hc⟩
   omega
 ·cases hb
theorem srcOf_sound (G:Good w X S φ h){s k:Nat}{x:C}{u:Value}{ys:List C}{tx e':TypeId}(hx:Rel w (badOf X φ h) S φ x u)(hk:P.underlying tx=some (.slice e'))(hs:srcOf h s x=some (k,ys))(h0:0<s):
  ∃news:List Value,Src P s tx u k news w∧RelL w (badOf X φ h) S φ ys news:=by
 unfold srcOf at hs
 split at hs
 ·cases hs
  simp only[Rel] at hx
  obtain⟨rfl,_⟩:=hx
  exact⟨[],Src.ofNil w hk 0,by simp[RelL]⟩
 ·rename_i l off len _
  split at hs
  ·rename_i ez cs hl
   simp only[takeN,Option.map_eq_some_iff] at hs
   obtain⟨xs,hxs,hs⟩:=hs
   split at hxs
   ·rename_i hle
    cases hxs
    cases hs
    simp only[Rel] at hx
    obtain⟨hS,b,o,cap',rfl,hlc,_,hadr,_,_⟩:=hx
    have hok:=G.node l _ hl
    simp only[OkNode] at hok
    obtain⟨us,hul,hrel,hra,hone⟩:=RelAt.reads (RelAt.take (k*s) (RelAt.drop off hok.2.2.2.2))
    have hul':us.length=k*s:=by rw[hul,List.length_take];omega
    rcases Nat.eq_zero_or_pos k with rfl|hk0
    ·have:us=[]:=List.eq_nil_of_length_eq_zero (by omega)
     subst this
     exact⟨[],Src.ofSlice w hk _ 0 cap' [] (by simp) (fun j u hj=>by simp at hj) (by simp),hrel⟩
    ·obtain⟨hb,ho⟩:=hadr.resolve_left (by omega)
     refine⟨us,Src.ofSlice w hk _ k cap' us hul' (fun j u hj=>?_) hone,hrel⟩
     rw[Addr.add_mid,hb,ho]
     exact hra j u hj
   ·cases hxs
  ·cases hs
 ·rename_i xs len _
  simp only[takeN,Option.map_eq_some_iff] at hs
  obtain⟨ys',hys,hs⟩:=hs
  split at hys
  ·rename_i hle
   cases hys
   cases hs
   simp only[Rel] at hx
   rcases hx with ⟨⟨a0,rfl⟩,rfl,rfl,_⟩|⟨b,o,cap',rfl,hlc,_,hat⟩
   ·cases a0 with
    |none=>exact⟨[],Src.ofNil w hk 0,by simp[RelL]⟩
    |some a0=>exact⟨[],Src.ofSlice w hk a0 0 0 [] (by simp) (fun j u hj=>by simp at hj) (by simp),by simp[RelL]⟩
   ·skip
    obtain⟨us,hul,hrel,hra,hone⟩:=RelAt.reads (RelAt.take (k*s) (Fro.relAt hat))
    refine⟨us,Src.ofSlice w hk _ k cap' us (by rw[hul,List.length_take];omega) (fun j u hj=>?_) hone,hrel⟩
    rw[Addr.add_mid]
    exact hra j u hj
  ·cases hys
 ·cases hs
theorem firstCells_drew {s n:Nat}{a:Addr}{len cap:Nat}{olds:List Value}(hl:olds.length=n*s)(hr:w.rangeAt a.block a.off olds)(hsp:a.spot=none):(Builtin.firstCells s n (.slice (some a) len cap)).run P w.drew=.ok olds.toArray w.drew:=by
 refine run_firstCells_some (P:=P) w.drew s n a len cap olds hl (fun j v hv=>?_)
 obtain⟨b,o,sp⟩:=a
 simp only at hsp hr
 subst hsp
 rw[Addr.add_mid,World.cell?_drew]
 exact hr j v hv
theorem bytes_fit {need old bytes:Nat}(ho:old<need)(hn:need≤maxRow)(hb:bytes≤2^10):Builtin.nextslicecap need old*bytes≤281474976710656:=by
 refine growslice_fits ho ?_
 unfold maxRow at hn
 have:=Nat.mul_le_mul hn hb
 omega
theorem grow_sound (G:Good w X S φ h)(ok:AllocOk S h al){t tx ty e:TypeId}{i:TypeInfo}{zv:Value}{s:Nat}(ht:P.underlying t=some (.slice e))(hi:P.info? e=some i)(hsz:i.size=s)(hzv:i.zero=some zv)(h0:0<s)
  (hb:i.bytes≤2^10){base:Option Addr}{len cap k:Nat}{old ys:List C}{olds news:List Value}{x:Value}(hold:(Builtin.firstCells s len (.slice base len cap)).run P w.drew=.ok olds.toArray w.drew)
  (hro:RelL w (badOf X φ h) S φ old olds)(ho1:∀x∈olds,x.oneCell'=true)(hlo:olds.length=len*s)(hsrc:Src P s tx x k news w)(hrn:RelL w (badOf X φ h) S φ ys news)(hg:cap<len+k)(hm:len+k≤maxRow)(hzs:zv.cells.size=s):
  Done w X S φ h al ((Builtin.append_ #[t,tx] ty #[.slice base len cap,x]).run P w) (newRow h al s (len+k) (old++ys)).1 (newRow h al s (len+k) (old++ys)).2:=by
 subst hsz
 have hm':len+k≤2^36:=hm
 have hrun:=run_append_grow_src (P:=P) w t tx ty e i zv ht hi hzv base len cap olds hold x k news hsrc hg (by omega) (bytes_fit hg hm hb)
 have hone:∀x∈olds++news,x.oneCell'=true:=fun x hx=>by
  rcases List.mem_append.1 hx with hx|hx
  ·exact ho1 x hx
  ·exact hsrc.one x hx
 have hrel:=RelL.append hro hrn
 obtain⟨G',E⟩:=good_alloc (w':=w.drew.alloc (.cells ((olds++news).toArray++Builtin.zeroCells zv.cells (grownCap w (len+k) cap e-(len+k))) e)) (ez:=i.size) (extra:=(Builtin.zeroCells zv.cells (grownCap w (len+k) cap e-(len+k))).toList) G ok (by simp) hrel hone rfl rfl rfl rfl
 refine⟨_,_,_,_,hrun,G',E,?_,.inr ⟨by rw[new_name h al _ .dead],new_len_row _ _ _⟩⟩
 have hge:=grownCap_ge w (len+k) cap e
 have hl:=RelL.length hrel
 have hln:=hsrc.newsLen
 simp only[newRow,Rel,upd_same]
 refine⟨.inr trivial,w.heap.size,0,_,rfl,hge,(fun c hc=>by cases hc),.inr ⟨rfl,rfl⟩,.inr ?_,fun _=>?_⟩
 ·simp only[Array.size_append,List.size_toArray,size_zeroCells,List.length_append,hlo,hln,hzs,←Nat.add_mul]
  rw[Nat.zero_add]
  exact Nat.mul_le_mul_right _ (by omega)
 ·simp only[List.length_append] at hl⊢
  rw[←hl,hlo,hln,←Nat.add_mul,Nat.zero_add]
  exact Nat.mul_le_mul_right _ hge
theorem Done.kill {a:Nat}{r:Result Value}{c:C}{h':Heap}(Ek:Ext w S φ h w S φ (h.set a .dead))(d:Done w X S φ (h.set a .dead) al r c h'):Done w X S φ h al r c h':=by
 obtain⟨u,w',S',φ',hr,G',E,hrel,hn⟩:=d
 refine⟨u,w',S',φ',hr,G',Ek.trans E,hrel,?_⟩
 rcases hn with ⟨h1,h2⟩|⟨h1,h2⟩
 ·exact .inl ⟨h1,by simpa using h2⟩
 ·refine .inr ⟨?_,?_⟩
  ·rw[h1]
   funext l
   rw[new_name_set h al a .dead .dead .dead]
  ·rw[h2]
   cases al<;>simp[new]
theorem appendTo_sound (G:Good w X S φ h)(ok:AllocOk S h al){t tx ty e:TypeId}{i:TypeInfo}{zv:Value}{s:Nat}(ht:P.underlying t=some (.slice e))(hi:P.info? e=some i)(hsz:i.size=s)(hzv:i.zero=some zv)(h0:0<s)
  (hzs:zv.cells.size=s)(hb:i.bytes≤2^10){k:Nat}{d c:C}{u x:Value}{ys:List C}{news:List Value}{h':Heap}(hd:Rel w (badOf X φ h) S φ d u)(hsrc:Src P s tx x k news w)(hrn:RelL w (badOf X φ h) S φ ys news)
  (ha:appendTo h al s k ys d=some (c,h')):Done w X S φ h al ((Builtin.append_ #[t,tx] ty #[u,x]).run P w) c h':=by
 have nothing:∀{base:Option Addr} {len cap:Nat},u=.slice base len cap→len≤cap→k=0→(Builtin.append_ #[t,tx] ty #[u,x]).run P w=.ok u w:=by
  intro base len cap hu hle hk
  subst hu
  subst hk
  have hn:news=[]:=List.eq_nil_of_length_eq_zero (by rw[hsrc.newsLen];simp)
  subst hn
  exact run_append_nothing w t tx ty e i ht hi base len cap hle x (hsz ▸ hsrc)
 unfold appendTo at ha
 split at ha
 ·-- nil
  simp only[Rel] at hd
  obtain⟨rfl,h1⟩:=hd
  split at ha
  ·rename_i hk
   cases ha
   exact Done.pure G ⟨_,nothing rfl (Nat.le_refl _) hk,by simp only[Rel];exact⟨trivial,h1⟩⟩
  ·rename_i hk
   split at ha
   ·rename_i hkm
    cases ha
    have:=grow_sound (ty:=ty) G ok ht hi hsz hzv h0 hb (base:=none) (len:=0) (cap:=0) (old:=[]) (olds:=[]) (by simp[Builtin.firstCells]) (by simp[RelL]) (by simp) (by simp) hsrc hrn (by omega) (by omega) hzs
    simpa[newRow] using this
   ·cases ha
 ·rename_i a off len cap
  split at ha
  ·rename_i e' cs hl
   split at ha
   ·rename_i hc
    obtain⟨rfl,hmax⟩:=hc
    have hd':=hd
    simp only[Rel] at hd
    obtain⟨hS,b,o,cap',rfl,hle,hcap,hadr,hroom,hkn⟩:=hd
    have hok:=G.node a _ hl
    simp only[OkNode] at hok
    obtain⟨k1,k2,k3,k4,k5⟩:=hok
    have hyl:=RelL.length hrn
    have hnl:=hsrc.newsLen
    have hmul:(len+k)*e'=len*e'+k*e':=Nat.add_mul _ _ _
    -- in place
    have inplace:len+k≤cap'→off+(len+k)*e'≤cs.length→cap'≠0→Done w X S φ h al ((Builtin.append_ #[t,tx] ty #[.slice (some ⟨b,o,none⟩) len cap',x]).run P w) (.os a off (len+k) cap) (h.set a (.row e' (put cs (off+len*e') ys))):=by
     intro hfit hcells hne
     obtain⟨hb2,ho2⟩:=hadr.resolve_left hne
     have hro:=hroom.resolve_left hne
     obtain⟨G',E⟩:=good_store (off:=off+len*e') (us:=news) G hl (by omega) hrn hsrc.one
     have hth:∀j,j<news.length→(w.cell? ⟨b,o+len*e'+j,none⟩).isSome=true∧w.frozen? ⟨b,o+len*e'+j,none⟩=false:=fun j hj=>by
      have:=k4 (off+len*e'+j) (by omega)
      rw[hb2,ho2]
      have e1:(φ a).base+off+len*e'+j=(φ a).base+(off+len*e'+j):=by omega
      rw[e1]
      exact this
     have hrun:=run_append_room_src (P:=P) w t tx ty e i ht hi b o len cap' x k news (hsz ▸ hsrc) hfit (fun j hj=>by rw[hsz];exact(hth j hj).1) (fun j hj=>by rw[hsz];exact(hth j hj).2)
     have e1:o+len*i.size=(φ a).base+(off+len*e'):=by rw[hsz,ho2];omega
     rw[e1,hb2] at hrun
     refine⟨.slice (some ⟨b,o,none⟩) (len+k) cap',_,S,φ,by rw[hb2];exact hrun,G',E,?_,.inl ⟨rfl,by simp⟩⟩
     simp only[Rel]
     exact⟨hS,b,o,cap',rfl,hfit,hcap,hadr,hroom,hkn⟩
    -- in new memory
    have fresh:cap'<len+k→∀old,takeN (len*e') (cs.drop off)=some old→Done w X S φ h al ((Builtin.append_ #[t,tx] ty #[.slice (some ⟨b,o,none⟩) len cap',x]).run P w) (newRow h al e' (len+k) (old++ys)).1 (newRow h al e' (len+k) (old++ys)).2:=by
     intro hg old hold
     simp only[takeN] at hold
     split at hold
     ·rename_i hle2
      cases hold
      obtain⟨us,hul,hrel,hra,hone⟩:=RelAt.reads (RelAt.take (len*e') (RelAt.drop off k5))
      have hul':us.length=len*e':=by rw[hul,List.length_take];omega
      have hfc:(Builtin.firstCells e' len (.slice (some ⟨b,o,none⟩) len cap')).run P w.drew=.ok us.toArray w.drew:=by
       refine firstCells_drew hul' (fun j v hv=>?_) rfl
       rcases Nat.eq_zero_or_pos len with rfl|hlp
       ·have:us=[]:=List.eq_nil_of_length_eq_zero (by omega)
        subst this;simp at hv
       ·obtain⟨hb2,ho2⟩:=hadr.resolve_left (by omega)
        simp only
        rw[hb2,ho2]
        exact hra j v hv
      exact grow_sound (ty:=ty) G ok ht hi hsz hzv h0 hb hfc hrel hone hul' hsrc hrn hg hmax hzs
     ·cases hold
    split at ha
    ·rename_i c0
     have hcc:=hcap c0 rfl
     split at ha
     ·rename_i hfit
      split at ha
      ·rename_i hcells
       cases ha
       by_cases hne:cap'=0
       ·have hl0:len=0:=by omega
        have hk0:k=0:=by omega
        have hys:ys=[]:=List.eq_nil_of_length_eq_zero (by rw[←hyl,hnl,hk0];simp)
        subst hys
        have hput:put cs (off+len*e') []=cs:=by simp[put]
        rw[hput]
        have hset:h.set a (.row e' cs)=h:=by
         apply List.ext_getElem?
         intro j
         by_cases ej:a=j
         ·subst ej
          have hlt:a<h.length:=(List.getElem?_eq_some_iff.1 hl).1
          rw[List.getElem?_set_self hlt,hl]
         ·rw[List.getElem?_set_ne ej]
        rw[hset]
        subst hk0
        exact Done.pure G ⟨_,nothing rfl hle rfl,hd'⟩
       ·exact inplace (by omega) hcells hne
      ·cases ha
     ·rename_i hfit
      split at ha
      ·rename_i old hold
       cases ha
       exact fresh (by omega) old hold
      ·cases ha
    ·split at ha
     ·rename_i hk
      cases ha
      subst hk
      exact Done.pure G ⟨_,nothing rfl hle rfl,hd'⟩
     ·rename_i hk
      have hkn':=hkn rfl
      rw[k1,k2] at hkn'
      split at ha
      ·rename_i hcells
       cases ha
       have hcap1:len+k≤cap':=by
        have h2:(len+k)*e'≤cap'*e':=by omega
        exact Nat.le_of_mul_le_mul_right h2 h0
       exact inplace hcap1 hcells (by omega)
      ·split at ha
       ·rename_i hend
        cases ha
        by_cases hg:cap'<len+k
        ·-- it grows
         have htk:takeN (len*e') (cs.drop off)=some (cs.drop off):=by
          simp only[takeN,List.length_drop]
          rw[if_pos (by omega),List.take_of_length_le (by simp;omega)]
         obtain⟨Gk,Ek⟩:=good_kill G a
         have L:=Ek.later (X:=X)
         have ok':AllocOk S (h.set a .dead) al:=⟨by rw[new_name_set h al a .dead .dead .dead];exact ok.free,fun s hs=>by simpa using ok.lt s hs⟩
         obtain⟨us,hul,hrel,hra,hone⟩:=RelAt.reads (RelAt.drop off k5)
         have hul':us.length=len*e':=by rw[hul,List.length_drop];omega
         have hfc:(Builtin.firstCells e' len (.slice (some ⟨b,o,none⟩) len cap')).run P w.drew=.ok us.toArray w.drew:=by
          refine firstCells_drew hul' (fun j v hv=>?_) rfl
          rcases Nat.eq_zero_or_pos len with rfl|hlp
          ·have:us=[]:=List.eq_nil_of_length_eq_zero (by omega)
           subst this;simp at hv
          ·obtain⟨hb2,ho2⟩:=hadr.resolve_left (by omega)
           simp only
           rw[hb2,ho2]
           exact hra j v hv
         exact Done.kill Ek (grow_sound (ty:=ty) Gk ok' ht hi hsz hzv h0 hb hfc (RelL.later L hrel) hone hul' hsrc (RelL.later L hrn) hg hmax hzs)
        ·-- there is room
         have hne:cap'≠0:=by omega
         obtain⟨hb2,ho2⟩:=hadr.resolve_left hne
         have hro:=hroom.resolve_left hne
         rw[k1] at hro
         have hcm:(len+k)*e'≤cap'*e':=Nat.mul_le_mul_right _ (by omega)
         obtain⟨G',E⟩:=good_reuse (off:=off) (us:=news) G ok hl (by omega) hrn hsrc.one (by omega)
         have hth:∀j,j<news.length→(w.cell? ⟨b,o+len*e'+j,none⟩).isSome=true∧w.frozen? ⟨b,o+len*e'+j,none⟩=false:=fun j hj=>by
          have:=k4 (off+len*e'+j) (by omega)
          rw[hb2,ho2]
          have e1:(φ a).base+off+len*e'+j=(φ a).base+(off+len*e'+j):=by omega
          rw[e1]
          exact this
         have hrun:=run_append_room_src (P:=P) w t tx ty e i ht hi b o len cap' x k news (hsz ▸ hsrc) (by omega) (fun j hj=>by rw[hsz];exact(hth j hj).1) (fun j hj=>by rw[hsz];exact(hth j hj).2)
         have e1:o+len*i.size=(φ a).base+cs.length:=by rw[hsz,ho2];omega
         rw[e1,hb2] at hrun
         refine⟨.slice (some ⟨b,o,none⟩) (len+k) cap',_,_,_,by rw[hb2];exact hrun,G',E,?_,.inr ⟨?_,?_⟩⟩
         ·simp only[newRow,Rel,upd_same]
          refine⟨.inr trivial,b,o,cap',rfl,by omega,fun c hc=>(by cases hc),.inr ⟨hb2,by omega⟩,.inr (by omega),fun _=>?_⟩
          simp only[List.length_append,List.length_drop]
          omega
         ·funext l
          rw[new_name_set h al a .dead _ .dead]
         ·rw[new_len (h.set a .dead) al _ .dead]
          cases al<;>simp[new]
       ·cases ha
   ·cases ha
  ·cases ha
 ·rename_i xs len cap
  split at ha
  ·rename_i hk
   cases ha
   have hd':=hd
   simp only[Rel] at hd
   rcases hd with ⟨⟨_,rfl⟩,_⟩|⟨b,o,cap',rfl,hle,_⟩
   ·exact Done.pure G ⟨_,nothing rfl (Nat.le_refl _) hk,hd'⟩
   ·exact Done.pure G ⟨_,nothing rfl hle hk,hd'⟩
  ·split at ha
   ·rename_i c0
    split at ha
    ·rename_i hc
     split at ha
     ·rename_i old hold
      cases ha
      simp only[takeN] at hold
      split at hold
      ·rename_i hle2
       cases hold
       simp only[Rel] at hd
       rcases hd with ⟨⟨a0,rfl⟩,rfl,rfl,hcap⟩|⟨b,o,cap',rfl,hle,hcap,hat⟩
       ·have:=grow_sound (ty:=ty) G ok ht hi hsz hzv h0 hb (base:=a0) (len:=0) (cap:=0) (old:=[]) (olds:=[]) (by cases a0<;>simp[Builtin.firstCells,loadCells,loadCellsFrom]) (by simp[RelL]) (by simp) (by simp) hsrc hrn (by omega) hc.2 hzs
        simpa[newRow] using this
       ·have hcc:=hcap c0 rfl
        obtain⟨us,hul,hrel,hra,hone⟩:=RelAt.reads (RelAt.take (len*s) (Fro.relAt hat))
        have hul':us.length=len*s:=by rw[hul,List.length_take];omega
        exact grow_sound (ty:=ty) G ok ht hi hsz hzv h0 hb (firstCells_drew hul' hra rfl) hrel hone hul' hsrc hrn (by omega) hc.2 hzs
      ·cases hold
     ·cases ha
    ·cases ha
   ·cases ha
 ·cases ha
end
end Go.Tm
