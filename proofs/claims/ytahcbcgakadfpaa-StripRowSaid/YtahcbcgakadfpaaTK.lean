import Derived.Test.YtahcbcgakadfpaaTJ
import Derived.Carry
namespace Go.Tm

/-! ### The program's data -/
structure Ins where
  op : Int
  type : Int
  to : Int
  sym : Int
  num : Int
  args : List Int
  into : List Int
  deriving DecidableEq, Inhabited
structure Block where
  ins : List Ins
  deriving DecidableEq, Inhabited
structure Func where
  name : ByteArray
  out : Bool
  params : List Int
  result : Int
  blocks : List Block
  deriving DecidableEq, Inhabited
structure Extern where
  name : ByteArray
  params : List Int
  result : Int
  deriving DecidableEq, Inhabited
structure Global where
  name : ByteArray
  cells : List Int
  deriving DecidableEq, Inhabited
structure Table where
  name : ByteArray
  funcs : List Int
  deriving DecidableEq, Inhabited
structure Module where
  externs : List Extern
  globals : List Global
  tables : List Table
  funcs : List Func
  deriving DecidableEq, Inhabited

abbrev int (x : Int) : C := .v (.int .i64 x)
abbrev bool (b : Bool) : C := .v (.bool b)
abbrev str (s : ByteArray) : C := .v (.string s)
def ints (l : List Int) : C := .fs (l.map int) l.length none
def bools (l : List Bool) : C := .fs (l.map bool) l.length none
def rows (l : List (List Int)) : C := .fs (l.map ints) l.length none
def rowsB (l : List (List Bool)) : C := .fs (l.map bools) l.length none
def encIns (i : Ins) : List C := [int i.op, int i.type, int i.to, int i.sym, int i.num, ints i.args, ints i.into]
def inss (l : List Ins) : C := .fs (l.flatMap encIns) l.length none
def encBlock (b : Block) : C := inss b.ins
def blocks (l : List Block) : C := .fs (l.map encBlock) l.length none
def encFunc (f : Func) : List C := [str f.name, bool f.out, ints f.params, int f.result, blocks f.blocks]
def encExtern (x : Extern) : List C := [str x.name, ints x.params, int x.result]
def encGlobal (x : Global) : List C := [str x.name, ints x.cells]
def encTable (x : Table) : List C := [str x.name, ints x.funcs]
def externs (l : List Extern) : C := .fs (l.flatMap encExtern) l.length none
def globals (l : List Global) : C := .fs (l.flatMap encGlobal) l.length none
def tables (l : List Table) : C := .fs (l.flatMap encTable) l.length none
def funcs (l : List Func) : C := .fs (l.flatMap encFunc) l.length none
def encModule (m : Module) : List C := [externs m.externs, globals m.globals, tables m.tables, funcs m.funcs]

def okI (n : Int) : Prop := -9223372036854775808 ≤ n ∧ n ≤ 9223372036854775807
structure OkIns (i : Ins) : Prop where
  op : okI i.op
  type : okI i.type
  to : okI i.to
  sym : okI i.sym
  num : okI i.num
  args : ∀ x ∈ i.args, okI x
  into : ∀ x ∈ i.into, okI x
  argsL : i.args.length ≤ 17592186044416
  intoL : i.into.length ≤ 17592186044416
structure OkBlock (b : Block) : Prop where
  ins : ∀ i ∈ b.ins, OkIns i
  len : b.ins.length ≤ 17592186044416
structure OkFunc (f : Func) : Prop where
  params : ∀ x ∈ f.params, okI x
  result : okI f.result
  blocks : ∀ b ∈ f.blocks, OkBlock b
  paramsL : f.params.length ≤ 17592186044416
  len : f.blocks.length ≤ 17592186044416
structure OkModule (m : Module) : Prop where
  externs : ∀ x ∈ m.externs, (∀ y ∈ x.params, okI y) ∧ okI x.result ∧ x.params.length ≤ 17592186044416
  globals : ∀ x ∈ m.globals, (∀ y ∈ x.cells, okI y) ∧ x.cells.length ≤ 17592186044416
  tables : ∀ x ∈ m.tables, (∀ y ∈ x.funcs, okI y) ∧ x.funcs.length ≤ 17592186044416
  funcs : ∀ x ∈ m.funcs, OkFunc x
  externsL : m.externs.length ≤ 17592186044416
  globalsL : m.globals.length ≤ 17592186044416
  tablesL : m.tables.length ≤ 17592186044416
  funcsL : m.funcs.length ≤ 17592186044416

theorem okI_of_wf {n : Int} (h : (Lit.int .i64 n).wf = true) : okI n := by
  simpa [Lit.wf, okI, IntKind.signed, IntKind.min, IntKind.max, IntKind.bits] using h

section
variable {P : Program} {tI tN tB tS tL tE : TypeId}

theorem flat1 {α : Type} (f : α → C) (l : List α) : (l.flatMap fun x => [f x]) = l.map f := by
  induction l with
  | nil => rfl
  | cons x l ih => simp [ih]

theorem opens_num (h : P.underlying tI = some (.int .i64)) : Opens P tI (fun n => [int n]) okI := (opens_int h).mono fun _ => okI_of_wf
theorem opens_ints (h : P.underlying tI = some (.int .i64)) (hl : P.underlying tL = some (.slice tI)) (hc : P.cellsOf tI = 1) (hb : P.bytesOf tI = 8) : Opens P tL (fun l => [ints l]) (fun l => (∀ x ∈ l, okI x) ∧ l.length ≤ 17592186044416) := by
  have := (opens_slice (b := 8) (s := 1) hl (opens_num h) (fun _ => rfl) (by omega) hc hb).mono (B' := fun l => (∀ x ∈ l, okI x) ∧ l.length ≤ 17592186044416) fun l ⟨h1, h2⟩ => ⟨h2, by omega⟩
  simpa only [ints, flat1] using this
theorem opens_bools (h : P.underlying tB = some .bool) (hl : P.underlying tL = some (.slice tB)) (hc : P.cellsOf tB = 1) (hb : P.bytesOf tB = 1) : Opens P tL (fun l => [bools l]) (fun _ => True) := by
  have := (opens_slice (b := 1) (s := 1) hl (opens_bool h) (fun _ => rfl) (by omega) hc hb).mono (B' := fun _ => True) fun l _ => trivial
  simpa only [bools, flat1] using this
end

/-! ### From a run of the machine to a call of the program -/
theorem Ext.below {w w' : World} {S' : Nat → Prop} {φ φ' : Nat → Loc} {h' : Heap} (E : Ext w noName φ [] w' S' φ' h') : Go.RowKit.Below w.heap.size w w' :=
  ⟨E.os, E.tape, E.output, E.size, fun k hk => E.keep k hk own_nil⟩

theorem law_calls {P : Program} {call : CallF} (hok : CallOk P call) {f : FuncId} {cs : List C} {h' : Heap} (hc : call f cs [] = some (bool true, h')) {W : World} {φ : Nat → Loc} {us : List Value} (hr : RelL W noBad noName φ cs us) :
    Calls P f us.toArray W fun e W' => e = .returned (.bool true) ∧ Go.RowKit.Below W.heap.size W W' := by
  have G : Good W noBad noName φ [] := good_nil (fun b h => h.elim)
  have hr' : RelL W (badOf noBad φ []) noName φ cs us := RelL.later ⟨fun _ _ _ _ _ h => h, fun b _ h => h.elim id (fun h => (own_nil h).elim), Nat.le_refl _, fun _ h => h.elim⟩ hr
  refine ((hok f cs [] _ h' hc).2 W noBad noName φ us G (fun l h => h.elim) hr').mono fun e w' ⟨u, S', φ', he, G', E, hrel, _⟩ => ?_
  simp only [Rel] at hrel
  rw [he, hrel.1]
  exact ⟨rfl, E.below⟩
end Go.Tm
