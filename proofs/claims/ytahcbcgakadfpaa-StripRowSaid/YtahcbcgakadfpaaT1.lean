import Derived.Calls
import Derived.LoopN
import Derived.Orders
import Derived.Deep.MidRow
import Derived.Deep.AppendSrc
import Derived.Deep.Upon
import Derived.Deep.DeepAppendWide
import Derived.Laws.MakeOwn
import Derived.Laws.Slices
import Derived.RowKit3
import Derived.Below
namespace Go.Tm

/-- A value of the tree machine: scalars; frozen slices and pointers (what they hold, cell by cell); slices, pointers and maps of the machine's own heap; functions; structs; tuples. -/
inductive C where
  | v (x : Value)
  | fs (xs : List C) (len : Nat) (cap : Option Nat)
  | fp (xs : List C)
  | os (l off len : Nat) (cap : Option Nat)
  | op (l off : Nat)
  | om (l : Nat)
  | fn (f : FuncId) (caps : List C)
  | agg (cs : List C)
  | tup (cs : List C)
  deriving Inhabited

inductive Node where
  | dead
  | row (esz : Nat) (cells : List C)
  | map (es : Array MapEntry) (clock : Nat)
  deriving Inhabited

abbrev Heap := List Node
abbrev Env := List (Nat × C)

abbrev oneCell (x : Value) : Bool := x.oneCell'

def ofV : Value → Option C
  | .agg cs => if cs.toList.all oneCell then some (.agg (cs.toList.map .v)) else none
  | .tuple cs => if cs.toList = [] then some (.tup []) else none
  | x => some (.v x)

def undefC : C := .tup []

def look : Env → Nat → Option C
  | [], _ => none
  | (t, c) :: r, u => if t = u then some c else look r u

def ev (env : Env) : Operand → Option C
  | .tmp t => look env t
  | .const x => ofV x
  | .global _ => none
  | .func f => some (.fn f [])

def C.cells : C → List C
  | .agg cs => cs
  | c => [c]

def C.isCell : C → Bool
  | .agg _ | .tup _ => false
  | _ => true

/-- A computation that touches no world. -/
def pureRun (P : Program) {α : Type} : Sem α → Option α
  | .pure a => some a
  | .program k => pureRun P (k P)
  | .mark _ k => pureRun P k
  | _ => none

def sz (P : Program) (t : TypeId) : Option Nat := (P.info? t).map (·.size)
def aggT (P : Program) (t : TypeId) : Option Bool := (P.underlying t).map fun | .struct _ | .array _ _ => true | _ => false
def zeroC (P : Program) (t : TypeId) : Option (List C) :=
  match P.info? t with
  | some i => match i.zero with
    | some z => if z.cells.toList.all oneCell then some (z.cells.toList.map .v) else none
    | none => none
  | none => none

/-- The cells from a pointer on. -/
def cellsAt (h : Heap) : C → Option (List C)
  | .op l off => match h[l]? with
    | some (.row _ cs) => some (cs.drop off)
    | _ => none
  | .fp xs => some xs
  | _ => none

def takeN (n : Nat) (cs : List C) : Option (List C) := if n ≤ cs.length then some (cs.take n) else none

/-- The value of type t at the head of some cells. -/
def fieldOf (P : Program) (t : TypeId) (cs : List C) : Option C := do
  let n ← sz P t
  let b ← aggT P t
  if b = true then (takeN n cs).map .agg else cs.head?

def loadC (P : Program) (h : Heap) (t : TypeId) (p : C) : Option C := do
  let cs ← cellsAt h p
  fieldOf P t cs

def put (cs : List C) (off : Nat) (ys : List C) : List C := cs.take off ++ (ys ++ cs.drop (off + ys.length))

def storeC (P : Program) (h : Heap) (t : TypeId) (p x : C) : Option Heap :=
  match p with
  | .op l off => match h[l]? with
    | some (.row e cs) =>
      if some x.cells.length = sz P t ∧ off + x.cells.length ≤ cs.length ∧ x.cells.all C.isCell = true then some (h.set l (.row e (put cs off x.cells))) else none
    | _ => none
  | _ => none

/-- A new node: at the heap's end, or in a place kept for it. -/
def new (h : Heap) (al : Option Nat) (nd : Node) : Nat × Heap :=
  match al with
  | none => (h.length, h ++ [nd])
  | some s => (s, h.set s nd)

def structF (P : Program) (t : TypeId) (f : Nat) : Option Field :=
  match P.underlying t with
  | some (.struct fs) => fs[f]?
  | _ => none
def sliceE (P : Program) (t : TypeId) : Option TypeId :=
  match P.underlying t with
  | some (.slice e) => some e
  | _ => none

def intOf : C → Option (IntKind × Int)
  | .v (.int k n) => some (k, n)
  | _ => none

def boolOf : C → Option Bool
  | .v (.bool b) => some b
  | _ => none
def tupAt (c : C) (i : Nat) : Option C :=
  match c with
  | .tup cs => cs[i]?
  | _ => none
def fnOf : C → Option (FuncId × List C)
  | .fn k caps => some (k, caps)
  | .v (.func (.func k) first caps) => if first.size = 0 ∧ caps.size = 0 then some (k, []) else none
  | _ => none

def fieldAddrC (P : Program) (t : TypeId) (p : C) (f : Nat) : Option C := do
  let fd ← structF P t f
  let n ← sz P fd.type
  if n = 0 then none
  else match p with
    | .op l off => some (.op l (off + fd.offset))
    | .fp xs => some (.fp (xs.drop fd.offset))
    | _ => none

def fieldC (P : Program) (t : TypeId) (x : C) (f : Nat) : Option C := do
  let fd ← structF P t f
  match x with
  | .agg cs => fieldOf P fd.type (cs.drop fd.offset)
  | _ => none

def indexAddrC (P : Program) (t : TypeId) (x i : C) : Option C := do
  let (_, n) ← intOf i
  match P.underlying t with
  | some (.slice e) => do
    let s ← sz P e
    match x with
    | .os l off len _ => if 0 ≤ n ∧ n < len then some (.op l (off + n.toNat * s)) else none
    | .fs xs len _ => if 0 ≤ n ∧ n < len then some (.fp (xs.drop (n.toNat * s))) else none
    | _ => none
  | some (.array len e) => do
    let s ← sz P e
    match x with
    | .op l off => if 0 ≤ n ∧ n < len then some (.op l (off + n.toNat * s)) else none
    | .fp xs => if 0 ≤ n ∧ n < len then some (.fp (xs.drop (n.toNat * s))) else none
    | _ => none
  | _ => none

def indexC (P : Program) (t : TypeId) (x i : C) : Option C := do
  let (k, n) ← intOf i
  match x with
  | .v (.string s) => match pureRun P (Instr.index t (.string s) (.int k n)) with
    | some y => if oneCell y then some (.v y) else none
    | none => none
  | .agg cs => match P.underlying t with
    | some (.array len e) => if 0 ≤ n ∧ n < len then fieldOf P e (cs.drop (n.toNat * (sz P e).getD 0)) else none
    | _ => none
  | _ => none

/-- The bounds of a slicing: low, high (or the length), and the capacity that is left, where it is known. -/
def bound (o : Option C) (d : Nat) : Option Nat :=
  match o with
  | none => some d
  | some c => match intOf c with
    | some (_, n) => if 0 ≤ n then some n.toNat else none
    | none => none

def bnds (lo hi mx : Option C) (len capk : Nat) : Option (Nat × Nat × Option Nat) := do
  let l ← bound lo 0
  let h ← bound hi len
  match mx with
  | none => if l ≤ h ∧ h ≤ capk then some (l, h, none) else none
  | some _ => do
    let m ← bound mx 0
    if hi.isSome = true ∧ l ≤ h ∧ h ≤ m ∧ m ≤ capk then some (l, h, some m) else none

/-- The capacity that is left, where it is known. -/
def capLeft (cap m : Option Nat) (l : Nat) : Option Nat :=
  match m with
  | some m => some (m - l)
  | none => cap.map (· - l)

/-- How far a row may be cut open. -/
def capk (cap : Option Nat) (len off s : Nat) (cs : List C) : Nat :=
  match cap with
  | some c => c
  | none => Nat.max len ((cs.length - off) / s)

def sliceC (P : Program) (hp : Heap) (t : TypeId) (x : C) (lo hi mx : Option C) : Option C :=
  match P.underlying t with
  | some .string => match x, mx with
    | .v (.string s), none => (bnds lo hi none s.size s.size).map fun b => .v (.string (s.extract b.1 b.2.1))
    | _, _ => none
  | some (.slice e) => (sz P e).bind fun s =>
    match x with
    | .v (.slice none 0 0) => (bnds lo hi mx 0 0).map fun _ => x
    | .os a off len cap => match hp[a]? with
      | some (.row e' cs) => if e' = s then (bnds lo hi mx len (capk cap len off s cs)).map fun b => .os a (off + b.1 * s) (b.2.1 - b.1) (capLeft cap b.2.2 b.1) else none
      | _ => none
    | .fs xs len cap => (bnds lo hi mx len len).map fun b => .fs ((xs.drop (b.1 * s)).take ((b.2.1 - b.1) * s)) (b.2.1 - b.1) (capLeft cap b.2.2 b.1)
    | _ => none
  | _ => none

def fillC (place : Nat → Option (Nat × Nat)) (cells : List C) : List (Nat × C) → Option (List C)
  | [] => some cells
  | (i, x) :: rest =>
    match place i with
    | none => none
    | some (off, size) =>
      if x.cells.length = size ∧ off + size ≤ cells.length ∧ x.cells.all C.isCell = true then fillC place (put cells off x.cells) rest else none

def evParts (env : Env) : List (Nat × Operand) → Option (List (Nat × C))
  | [] => some []
  | (i, x) :: r => do
    let c ← ev env x
    let cs ← evParts env r
    some ((i, c) :: cs)

def evs (env : Env) : List Operand → Option (List C)
  | [] => some []
  | x :: r => do
    let c ← ev env x
    let cs ← evs env r
    some (c :: cs)

def evo (env : Env) : Option Operand → Option (Option C)
  | none => some none
  | some x => (ev env x).map some

def places (P : Program) (fs : List Field) (i : Nat) : Option (Nat × Nat) :=
  match fs[i]? with
  | some f => (sz P f.type).map fun s => (f.offset, s)
  | none => none

def buildC (P : Program) (t : TypeId) (parts : List (Nat × C)) : Option C := do
  let z ← zeroC P t
  match P.underlying t with
  | some (.struct fs) => if fs.toList.all (fun f => (sz P f.type).isSome) = true then (fillC (places P fs.toList) z parts).map .agg else none
  | some (.array _ e) => do
    let s ← sz P e
    let cs ← fillC (fun i => some (i * s, s)) z parts
    some (.agg cs)
  | _ => none

def rep (n : Nat) (z : List C) : List C := (List.replicate n z).flatten

/-- The largest row that the machine makes, in bytes and cells. -/
def maxRow : Nat := 2 ^ 36

def rowOf (P : Program) (e : TypeId) (n : Nat) : Option (Nat × List C) := do
  let s ← sz P e
  let z ← zeroC P e
  if 0 < s ∧ z.length = s then some (s, rep n z) else none

def buildSliceC (P : Program) (h : Heap) (al : Option Nat) (t : TypeId) (n : Nat) (parts : List (Nat × C)) : Option (C × Heap) := do
  let e ← sliceE P t
  let (s, cs) ← rowOf P e n
  let cs ← fillC (fun i => some (i * s, s)) cs parts
  if n * s ≤ 2 ^ 24 then some (.os (new h al (.row s cs)).1 0 n (some n), (new h al (.row s cs)).2) else none

def makeSliceC (P : Program) (h : Heap) (al : Option Nat) (t : TypeId) (len cap : C) : Option (C × Heap) := do
  let e ← sliceE P t
  let (_, n) ← intOf len
  let (_, c) ← intOf cap
  let i ← P.info? e
  let (s, cs) ← rowOf P e c.toNat
  if 0 ≤ n ∧ n ≤ c ∧ c ≤ maxRow ∧ i.bytes ≤ 2 ^ 10 then some (.os (new h al (.row s cs)).1 0 n.toNat (some c.toNat), (new h al (.row s cs)).2) else none

/-- The first cells of what is appended or copied. -/
def srcOf (h : Heap) (s : Nat) : C → Option (Nat × List C)
  | .v (.slice none 0 0) => some (0, [])
  | .os l off len _ => match h[l]? with
    | some (.row _ cs) => (takeN (len * s) (cs.drop off)).map fun xs => (len, xs)
    | _ => none
  | .fs xs len _ => (takeN (len * s) xs).map fun ys => (len, ys)
  | _ => none

def newRow (h : Heap) (al : Option Nat) (s n : Nat) (cs : List C) : C × Heap := (.os (new h al (.row s cs)).1 0 n none, (new h al (.row s cs)).2)

/-- Appending k elements, whose cells are ys, of s cells each. -/
def appendTo (h : Heap) (al : Option Nat) (s k : Nat) (ys : List C) (d : C) : Option (C × Heap) :=
  match d with
  | .v (.slice none 0 0) =>
    if k = 0 then some (d, h) else if k ≤ maxRow then some (newRow h al s k ys) else none
  | .os a off len cap => match h[a]? with
    | some (.row e' cs) =>
      if e' = s ∧ len + k ≤ maxRow then
        match cap with
        | some c =>
          if len + k ≤ c then
            if off + (len + k) * s ≤ cs.length then some (.os a off (len + k) (some c), h.set a (.row s (put cs (off + len * s) ys))) else none
          else match takeN (len * s) (cs.drop off) with
            | some old => some (newRow h al s (len + k) (old ++ ys))
            | none => none
        | none =>
          if k = 0 then some (d, h)
          else if off + (len + k) * s ≤ cs.length then some (.os a off (len + k) none, h.set a (.row s (put cs (off + len * s) ys)))
          else if off + len * s = cs.length then some (newRow (h.set a .dead) al s (len + k) (cs.drop off ++ ys))
          else none
      else none
    | _ => none
  | .fs xs len cap =>
    if k = 0 then some (d, h)
    else match cap with
      | some c => if c < len + k ∧ len + k ≤ maxRow then
          match takeN (len * s) xs with
          | some old => some (newRow h al s (len + k) (old ++ ys))
          | none => none
        else none
      | none => none
  | _ => none

def appendC (P : Program) (h : Heap) (al : Option Nat) (t tx : TypeId) (d x : C) : Option (C × Heap) := do
  let e ← sliceE P t
  let _ ← sliceE P tx
  let s ← sz P e
  let z ← zeroC P e
  let i ← P.info? e
  let (k, ys) ← srcOf h s x
  if 0 < s ∧ z.length = s ∧ i.bytes ≤ 2 ^ 10 then appendTo h al s k ys d else none

def copyC (P : Program) (h : Heap) (t : TypeId) (d x : C) : Option (C × Heap) := do
  let e ← sliceE P t
  let s ← sz P e
  let (k, new') ← srcOf h s x
  match d with
  | .v (.slice none 0 0) => some (.v (.int .i64 0), h)
  | .os a off len _ => match h[a]? with
    | some (.row e' cs) =>
      let n := Nat.min k len
      if e' = s ∧ off + n * s ≤ cs.length then some (.v (.int .i64 n), h.set a (.row e' (put cs off (new'.take (n * s))))) else none
    | _ => none
  | _ => none

/-- A row's elements made what they were at first. -/
def clearC (P : Program) (h : Heap) (t : TypeId) (d : C) : Option Heap := do
  let e ← sliceE P t
  match d with
  | .v (.slice none 0 0) => some h
  | .os a off len _ => if len = 0 then some h else match h[a]? with
    | some (.row e' cs) => do
      let (s, zs) ← rowOf P e len
      if e' = s ∧ off + len * s ≤ cs.length then some (h.set a (.row e' (put cs off zs))) else none
    | _ => none
  | _ => none

def lenC (P : Program) (t : TypeId) (x : C) : Option C :=
  match P.underlying t, x with
  | some .string, .v (.string s) => some (.v (.int .i64 s.size))
  | some (.slice _), .os _ _ len _ => some (.v (.int .i64 len))
  | some (.slice _), .fs _ len _ => some (.v (.int .i64 len))
  | some (.slice _), .v (.slice none 0 0) => some (.v (.int .i64 0))
  | some (.array n _), _ => some (.v (.int .i64 n))
  | _, _ => none

def scalar : C → Option Value
  | .v x => some x
  | _ => none

def scalars : List C → Option (List Value)
  | [] => some []
  | c :: r => do
    let x ← scalar c
    let xs ← scalars r
    some (x :: xs)

def pureV (P : Program) (s : Sem Value) : Option C :=
  match pureRun P s with
  | some y => if oneCell y then some (.v y) else none
  | none => none

def isNilC : C → Option Bool
  | .v (.pointer none) => some true
  | .op _ _ => some false
  | .fp _ => some false
  | _ => none

/-- Is a slice nil, as far as that is known? -/
def isNilS : C → Option Bool
  | .v (.slice none 0 0) => some true
  | .os _ _ _ _ => some false
  | .fs _ len _ => if len = 0 then none else some false
  | _ => none

def binC (P : Program) (op : BinOp) (t : TypeId) (x y : Operand) (a b : C) : Option C :=
  match a, b with
  | .v p, .v q => pureV P (do eqGuard op t x y p q; binOp op t p q)
  | _, _ => match P.underlying t, isNilC a, isNilC b with
    | some (.pointer _), some i, some j => if i = true ∨ j = true then
        match op with
        | .eql => some (.v (.bool (i && j)))
        | .neq => some (.v (.bool (!(i && j))))
        | _ => none
      else none
    | some (.slice _), _, _ => match isNilS a, isNilS b with
      | some i, some j => if i = true ∨ j = true then
          match op with
          | .eql => some (.v (.bool (i && j)))
          | .neq => some (.v (.bool (!(i && j))))
          | _ => none
        else none
      | _, _ => none
    | _, _, _ => none

/-- A row of bytes as a string. -/
def bytesOf : List C → Option (List Int)
  | [] => some []
  | .v (.int .u8 n) :: r => (bytesOf r).map (n :: ·)
  | _ => none
def strOf (ns : List Int) : ByteArray := ns.foldl (fun r n => r.push (UInt8.ofNat n.toNat)) ByteArray.empty
def isBytes (P : Program) (s d : TypeId) : Bool :=
  match P.underlying s, P.underlying d with
  | some (.slice e), some .string => match P.underlying e with
    | some (.int .u8) => decide (sz P e = some 1)
    | _ => false
  | _, _ => false

/-! Maps whose keys are numbers or strings and whose elements are one cell each. -/
def mapE (P : Program) (t : TypeId) : Option (TypeId × TypeId) :=
  match P.underlying t with
  | some (.map k e) => some (k, e)
  | _ => none
def plainKey : TypeDesc → Bool
  | .int _ | .string => true
  | _ => false
/-- Where a key stands. -/
def findM (P : Program) (kt : TypeId) (k : Value) (es : List MapEntry) : Option (Option (Nat × Value)) := do
  let d ← P.underlying kt
  if plainKey d = true then Instr.findNow d k es 0 else none
def zeroV (P : Program) (t : TypeId) : Option Value := (P.info? t).bind (·.zero)
def lookupN (P : Program) (t : TypeId) (es : List MapEntry) (i : C) (ok : Bool) : Option C := do
  let (kt, et) ← mapE P t
  let k ← scalar i
  let r ← findM P kt k es
  let z ← zeroV P et
  if oneCell ((r.map (·.2)).getD z) = true then some (if ok = true then .tup [.v ((r.map (·.2)).getD z), .v (.bool r.isSome)] else .v ((r.map (·.2)).getD z)) else none
def lookupC (P : Program) (h : Heap) (t : TypeId) (x i : C) (ok : Bool) : Option C :=
  match x with
  | .om l => match h[l]? with
    | some (.map es _) => lookupN P t es.toList i ok
    | _ => none
  | _ => none
def mapUpdN (P : Program) (t : TypeId) (es : Array MapEntry) (clock : Nat) (k v : C) : Option Node := do
  let (kt, _) ← mapE P t
  let k ← scalar k
  let v ← scalar v
  let r ← findM P kt k es.toList
  match r with
  | some y => some (.map (es.modify y.1 fun e => { e with key := k, val := v }) clock)
  | none => some (.map (es.push { key := k, val := v, born := clock }) (clock + 1))
def mapUpdC (P : Program) (h : Heap) (t : TypeId) (m k v : C) : Option Heap :=
  match m with
  | .om l => match h[l]? with
    | some (.map es clock) => (mapUpdN P t es clock k v).map fun nd => h.set l nd
    | _ => none
  | _ => none

def convC (P : Program) (h : Heap) (s d : TypeId) (a : C) : Option C :=
  match scalar a with
  | some p => pureV P (convert s d p)
  | none => if isBytes P s d = true then (srcOf h 1 a).bind fun r => (bytesOf r.2).map fun ns => .v (.string (strOf ns)) else none

/-- What a call is, once its operands are known. -/
def calleeOf (env : Env) : Callee → Option (FuncId × List C)
  | .value f => (ev env f).bind fnOf
  | _ => none

abbrev CallF := FuncId → List C → Heap → Option (C × Heap)

def stepOp (P : Program) (call : CallF) (al : Option Nat) (env : Env) (h : Heap) (o : Op) : Option (C × Heap) :=
  match o with
  | .move x | .assign x => do
    let c ← ev env x
    some (c, h)
  | .pick c a b => do
    let t ← boolOf (← ev env c)
    let r ← if t = true then ev env a else ev env b
    some (r, h)
  | .alloc e => do
    let z ← zeroC P e
    some (.op (new h al (.row 0 z)).1 0, (new h al (.row 0 z)).2)
  | .box _ x => do
    let c ← ev env x
    if c.cells.all C.isCell = true then some (.op (new h al (.row 0 c.cells)).1 0, (new h al (.row 0 c.cells)).2) else none
  | .build t ps => do
    let qs ← evParts env ps.toList
    let r ← buildC P t qs
    some (r, h)
  | .buildSlice t n ps => do
    let qs ← evParts env ps.toList
    buildSliceC P h al t n qs
  | .load t a => do
    let p ← ev env a
    let r ← loadC P h t p
    some (r, h)
  | .store t a x => do
    let p ← ev env a
    let c ← ev env x
    let h ← storeC P h t p c
    some (undefC, h)
  | .nilCheck x => do
    let p ← ev env x
    if isNilC p = some false then some (p, h) else none
  | .binOp op t x y _ => do
    let a ← ev env x
    let b ← ev env y
    let r ← binC P op t x y a b
    some (r, h)
  | .unOp op _ x => do
    let a ← ev env x
    let p ← scalar a
    let r ← pureV P (Op.unary op p)
    some (r, h)
  | .convert s d x => do
    let a ← ev env x
    let r ← convC P h s d a
    some (r, h)
  | .makeFunc f first caps => do
    let cs ← evs env caps.toList
    match f with
    | .func k => if first.size = 0 then some (.fn k cs, h) else none
    | _ => none
  | .makeSlice t l c => do
    let a ← ev env l
    let b ← ev env c
    makeSliceC P h al t a b
  | .slice t x lo hi mx => do
    let a ← ev env x
    let l ← evo env lo
    let m ← evo env hi
    let n ← evo env mx
    let r ← sliceC P h t a l m n
    some (r, h)
  | .fieldAddr t x f => do
    let a ← ev env x
    let r ← fieldAddrC P t a f
    some (r, h)
  | .field t x f => do
    let a ← ev env x
    let r ← fieldC P t a f
    some (r, h)
  | .indexAddr t x i => do
    let a ← ev env x
    let b ← ev env i
    let r ← indexAddrC P t a b
    some (r, h)
  | .index t x i => do
    let a ← ev env x
    let b ← ev env i
    let r ← indexC P t a b
    some (r, h)
  | .extract x i => do
    let r ← tupAt (← ev env x) i
    some (r, h)
  | .makeMap _ none => some (.om (new h al (.map #[] 0)).1, (new h al (.map #[] 0)).2)
  | .lookup t x i ok => do
    let a ← ev env x
    let b ← ev env i
    let r ← lookupC P h t a b ok
    some (r, h)
  | .mapUpdate t m k v => do
    let a ← ev env m
    let b ← ev env k
    let c ← ev env v
    let h ← mapUpdC P h t a b c
    some (undefC, h)
  | .call c =>
    match c.callee with
    | .builtin .len => do
      let t ← c.argTypes[0]?
      let x ← c.args[0]?
      let a ← ev env x
      let r ← lenC P t a
      some (r, h)
    | .builtin .append => do
      let t ← c.argTypes[0]?
      let tx ← c.argTypes[1]?
      let x ← c.args[0]?
      let y ← c.args[1]?
      let a ← ev env x
      let b ← ev env y
      appendC P h al t tx a b
    | .builtin .copy => do
      let t ← c.argTypes[0]?
      let x ← c.args[0]?
      let y ← c.args[1]?
      let a ← ev env x
      let b ← ev env y
      copyC P h t a b
    | .builtin .clear => do
      let t ← c.argTypes[0]?
      let x ← c.args[0]?
      let a ← ev env x
      let h ← clearC P h t a
      some (undefC, h)
    | .builtin .min => do
      let cs ← evs env c.args.toList
      let xs ← scalars cs
      let r ← pureV P (Builtin.min_ #[] 0 xs.toArray)
      some (r, h)
    | .builtin .max => do
      let cs ← evs env c.args.toList
      let xs ← scalars cs
      let r ← pureV P (Builtin.max_ #[] 0 xs.toArray)
      some (r, h)
    | .builtin _ => none
    | k => do
      let (f, caps) ← calleeOf env k
      let cs ← evs env c.args.toList
      call f (cs ++ caps) h
  | _ => none

/-- An operation as the machine keeps it: where its value goes, and the tmp (and its value) under which alone it is done. -/
structure I where
  dst : Option Nat
  op : Op
  g : Option (Nat × Bool)

structure St where
  env : Env
  heap : Heap

def St.put (s : St) (d : Option Nat) (c : C) : St :=
  match d with
  | some t => { s with env := (t, c) :: s.env }
  | none => s

def wantedC (env : Env) : Option (Nat × Bool) → Option Bool
  | none => some true
  | some (t, b) => match look env t with
    | some (.v (.bool x)) => some (x == b)
    | some (.tup []) => some false
    | _ => none

def stepI (P : Program) (call : CallF) (al : Option Nat) (i : I) (s : St) : Option St := do
  let b ← wantedC s.env i.g
  if b = true then (stepOp P call al s.env s.heap i.op).map fun r => St.put ⟨s.env, r.2⟩ i.dst r.1
  else some (s.put i.dst undefC)

def runI (P : Program) (call : CallF) : List I → St → Option St
  | [], s => some s
  | i :: r, s => do
    let s ← stepI P call none i s
    runI P call r s

inductive Ctl where
  | normal | exit (id : Nat) | ret
  deriving DecidableEq

/-- In a region whose order is open: what an operation has to do with the heap. -/
inductive Cls where
  | pure | load | chain
  deriving DecidableEq

/-- An operation of such a region: its number, those that are ahead of it. -/
structure D where
  ix : Nat
  i : I
  anc : List Nat
  cls : Cls

/-- Code as the machine keeps it: each region with its operations; what a loop keeps of the tmps. -/
inductive K where
  | skip
  | reg (ops : List I) (keep : List Nat)
  | draw (ops : List D) (keep : List Nat)
  | seq (a b : K)
  | cond (c : Operand) (a b : K)
  | block (id : Nat) (a : K)
  | loop (keep : List Nat) (a : K)
  | exit (id : Nat)
  | ret

def keepE (env : Env) : List Nat → Env
  | [] => []
  | t :: r => match look env t with
    | some c => (t, c) :: keepE env r
    | none => keepE env r

/-- What follows a piece that has ended in the ordinary way. -/
def andThen (r : Option (Ctl × St)) (k : St → Option (Ctl × St)) : Option (Ctl × St) :=
  match r with
  | some (.normal, s) => k s
  | r => r
def leaves (id : Nat) (r : Option (Ctl × St)) : Option (Ctl × St) :=
  match r with
  | some (.exit j, s) => if j = id then some (.normal, s) else some (.exit j, s)
  | r => r

def iter (body : St → Option (Ctl × St)) : Nat → St → Option (Ctl × St)
  | 0, _ => none
  | n + 1, s => andThen (body s) (iter body n)

/-- What has been seen of an operation. -/
structure Rec where
  d : D
  env : Env
  heap : Heap
  c : C
  heap' : Heap
  on : Bool

def recD (P : Program) (call : CallF) (d : D) (s : St) : Option Rec := do
  let b ← wantedC s.env d.i.g
  if b = true then (stepOp P call none s.env s.heap d.i.op).map fun r => ⟨d, s.env, s.heap, r.1, r.2, true⟩
  else some ⟨d, s.env, s.heap, undefC, s.heap, false⟩

def recsD (P : Program) (call : CallF) : List D → St → Option (List Rec × St)
  | [], s => some ([], s)
  | d :: ds, s => do
    let r ← recD P call d s
    let (rs, s') ← recsD P call ds (St.put ⟨s.env, r.heap'⟩ d.i.dst r.c)
    some (r :: rs, s')

/-- Does it only read, and leave the heap as it is? -/
def loadOk (vals : FuncId → Bool) (env : Env) : Op → Bool
  | .load _ _ => true
  | .slice .. => true
  | .call c => match calleeOf env c.callee with
    | some (f, _) => vals f
    | none => false
  | _ => false

/-- The row that an operation may turn. -/
def touches (env : Env) : Op → Option Nat
  | .store _ p _ => match ev env p with
    | some (.op l _) => some l
    | _ => none
  | .call c => match c.args[0]? with
    | some x => match ev env x with
      | some (.os l _ _ _) => some l
      | _ => none
    | none => none
  | _ => none

/-- Are all of them scalars? -/
def scalE (env : Env) : List Operand → Bool
  | [] => true
  | x :: r => match ev env x with
    | some (.v _) => scalE env r
    | _ => false
/-- A call of one of the program's own functions whose arguments are all scalars. -/
def scalCall (env : Env) (c : Call) : Bool := match c.callee with
  | .value (.func _) => scalE env c.args.toList
  | _ => false
/-- Of which row does the operation's value hang? -/
def readRow (env : Env) : Op → Option (Option Nat)
  | .load _ p => match ev env p with
    | some (.op a _) => some (some a)
    | some (.fp _) => some none
    | _ => none
  | .slice _ x _ _ _ => match ev env x with
    | some (.os a _ _ _) => some (some a)
    | some (.fs _ _ _) => some none
    | some (.v _) => some none
    | _ => none
  | .call c => if scalCall env c = true then some none else none
  | _ => none

/-! Are two values known to be one? -/
def veq : Value → Value → Bool
  | .int j a, .int k b => decide (j = k) && decide (a = b)
  | .bool a, .bool b => a == b
  | .string a, .string b => a == b
  | .slice none l c, .slice none l' c' => Nat.beq l l' && Nat.beq c c'
  | .pointer none, .pointer none => true
  | _, _ => false
def oeq : Option Nat → Option Nat → Bool
  | none, none => true
  | some a, some b => Nat.beq a b
  | _, _ => false
mutual
def ceq : C → C → Bool
  | .v a, .v b => veq a b
  | .fs xs l c, .fs ys m d => ceqs xs ys && (Nat.beq l m && oeq c d)
  | .fp xs, .fp ys => ceqs xs ys
  | .os l o n c, .os l' o' n' c' => Nat.beq l l' && (Nat.beq o o' && (Nat.beq n n' && oeq c c'))
  | .op l o, .op l' o' => Nat.beq l l' && Nat.beq o o'
  | .om l, .om m => Nat.beq l m
  | .agg xs, .agg ys => ceqs xs ys
  | .tup xs, .tup ys => ceqs xs ys
  | _, _ => false
def ceqs : List C → List C → Bool
  | [], [] => true
  | x :: xs, y :: ys => ceq x y && ceqs xs ys
  | _, _ => false
end
def nodeEq : Node → Node → Bool
  | .dead, .dead => true
  | .row e cs, .row e' cs' => Nat.beq e e' && ceqs cs cs'
  | _, _ => false
def sameRow (h h' : Heap) (a : Nat) : Bool :=
  match h[a]?, h'[a]? with
  | some x, some y => nodeEq x y
  | _, _ => false
/-- A call of a function of the program. -/
def isCallV : Op → Bool
  | .call c => match c.callee with
    | .builtin _ => false
    | _ => true
  | _ => false
/-- Does a row stay, whatever the operation does? -/
def rowStays (env : Env) (o : Op) (h h' : Heap) (a : Nat) : Bool :=
  if isCallV o = true then sameRow h h' a else decide (touches env o ≠ some a)

/-- Does what has been loaded stay, whatever the other one does? -/
def apart (l r : Rec) : Bool :=
  match readRow l.env l.d.i.op with
  | some (some a) => rowStays r.env r.d.i.op r.heap r.heap' a
  | some none => true
  | none => false

def chk (vals : FuncId → Bool) : List Rec → List Rec → List Nat → Bool
  | [], _, _ => true
  | r :: rs, ls, cs =>
    if r.on = true then
      match r.d.cls with
      | .pure => chk vals rs ls cs
      | .load => cs.all (fun c => r.d.anc.contains c) && loadOk vals r.env r.d.i.op && chk vals rs (r :: ls) cs
      | .chain => cs.all (fun c => r.d.anc.contains c) && ls.all (fun l => r.d.anc.contains l.d.ix || apart l r) && (!isCallV r.d.i.op || Nat.ble r.heap.length r.heap'.length) && chk vals rs ls (r.d.ix :: cs)
    else chk vals rs ls cs

def exec (P : Program) (vals : FuncId → Bool) (call : CallF) (n : Nat) : K → St → Option (Ctl × St)
  | .skip, s => some (.normal, s)
  | .reg ops keep, s => (runI P call ops s).map fun s => (.normal, ⟨keepE s.env keep, s.heap⟩)
  | .draw ds keep, s => (recsD P call ds s).bind fun r => if chk vals r.1 [] [] = true then some (.normal, ⟨keepE r.2.env keep, r.2.heap⟩) else none
  | .seq a b, s => andThen (exec P vals call n a s) (exec P vals call n b)
  | .cond c a b, s => ((ev s.env c).bind boolOf).bind fun t => if t = true then exec P vals call n a s else exec P vals call n b s
  | .block id a, s => leaves id (exec P vals call n a s)
  | .loop keep a, s => iter (fun s => exec P vals call n a ⟨keepE s.env keep, s.heap⟩) n s
  | .exit id, s => some (.exit id, s)
  | .ret, s => some (.ret, s)

end Go.Tm
