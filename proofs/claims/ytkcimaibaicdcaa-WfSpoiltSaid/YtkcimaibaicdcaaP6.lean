/- The law returns true at every input. No condition. A part of its proof. -/
import Derived.IntWalk
import Derived.Test.YtkcimaibaicdcaaP5
set_option linter.unusedSimpArgs false
set_option linter.unusedVariables false
set_option maxHeartbeats 16000000
set_option maxRecDepth 100000
namespace Go.Tm
section
variable {P:Program} {vals:FuncId→Bool} {call:CallF} {n:Nat} {e:Env} {h:Heap} {al:Option Nat}
@[go_sem] theorem look_nil (u:Nat):look [] u=none:=rfl
@[go_sem] theorem look_cons (a u:Nat)(c:C)(r:Env):look ((a,c)::r) u=if a=u then some c else look r u:=rfl
@[go_sem] theorem keepE_nil:keepE e []=[]:=rfl
theorem keepE_cons (k:Nat)(ks:List Nat):keepE e (k::ks)=match look e k with|some c=>(k,c)::keepE e ks|none=>keepE e ks:=rfl
def keep1 (o:Option C)(k:Nat)(r:Env):Env:=match o with|some d=>(k,d)::r|none=>r
@[go_sem] theorem keep1_some (d:C)(k:Nat)(r:Env):keep1 (some d) k r=(k,d)::r:=rfl
@[go_sem] theorem keep1_none (k:Nat)(r:Env):keep1 none k r=r:=rfl
@[go_sem] theorem keepE_some {k:Nat}{ks:List Nat}{a:Nat}{c:C}{r:Env}:keepE ((a,c)::r) (k::ks)=keep1 (look ((a,c)::r) k) k (keepE ((a,c)::r) ks):=by
 rw[keepE_cons];unfold keep1;rfl
@[go_sem] theorem keepE_nil' {ks:List Nat}:keepE [] ks=[]:=by induction ks with|nil=>rfl|cons k ks ih=>simp[keepE,look,ih]
@[go_sem] theorem andThen_normal (s:St)(k:St→Option (Ctl×St)):andThen (some (.normal,s)) k=k s:=rfl
@[go_sem] theorem andThen_exit (id:Nat)(s:St)(k:St→Option (Ctl×St)):andThen (some (.exit id,s)) k=some (.exit id,s):=rfl
@[go_sem] theorem andThen_ret (s:St)(k:St→Option (Ctl×St)):andThen (some (.ret,s)) k=some (.ret,s):=rfl
@[go_sem] theorem andThen_none (k:St→Option (Ctl×St)):andThen none k=none:=rfl
theorem andThen_ite (c:Prop)[Decidable c](a b:Option (Ctl×St))(k:St→Option (Ctl×St)):andThen (if c then a else b) k=if c then andThen a k else andThen b k:=by split<;>rfl
@[go_sem] theorem leaves_normal (id:Nat)(s:St):leaves id (some (.normal,s))=some (.normal,s):=rfl
@[go_sem] theorem leaves_exit (id j:Nat)(s:St):leaves id (some (.exit j,s))=if j=id then some (.normal,s) else some (.exit j,s):=rfl
@[go_sem] theorem leaves_ret (id:Nat)(s:St):leaves id (some (.ret,s))=some (.ret,s):=rfl
@[go_sem] theorem leaves_none (id:Nat):leaves id none=none:=rfl
theorem leaves_ite (id:Nat)(c:Prop)[Decidable c](a b:Option (Ctl×St)):leaves id (if c then a else b)=if c then leaves id a else leaves id b:=by split<;>rfl
@[go_sem] theorem exec_skip (s:St):exec P vals call n .skip s=some (.normal,s):=rfl
@[go_sem] theorem exec_reg (ops:List I)(keep:List Nat):exec P vals call n (.reg ops keep) ⟨e,h⟩=(runI P call ops ⟨e,h⟩).bind fun s=>some (.normal,⟨keepE s.env keep,s.heap⟩):=by
 simp only[exec];cases runI P call ops ⟨e,h⟩<;>rfl
@[go_sem] theorem exec_seq (a b:K):exec P vals call n (.seq a b) ⟨e,h⟩=andThen (exec P vals call n a ⟨e,h⟩) (exec P vals call n b):=rfl
@[go_sem] theorem exec_cond (c:Operand)(a b:K):exec P vals call n (.cond c a b) ⟨e,h⟩=((ev e c).bind boolOf).bind fun t=>if t=true then exec P vals call n a ⟨e,h⟩ else exec P vals call n b ⟨e,h⟩:=rfl
@[go_sem] theorem exec_block (id:Nat)(a:K):exec P vals call n (.block id a) ⟨e,h⟩=leaves id (exec P vals call n a ⟨e,h⟩):=rfl
@[go_sem] theorem exec_exit (id:Nat)(s:St):exec P vals call n (.exit id) s=some (.exit id,s):=rfl
@[go_sem] theorem exec_ret (s:St):exec P vals call n .ret s=some (.ret,s):=rfl
@[go_sem] theorem runI_nil (s:St):runI P call [] s=some s:=rfl
@[go_sem] theorem runI_cons (i:I)(r:List I):runI P call (i::r) ⟨e,h⟩=(stepI P call none i ⟨e,h⟩).bind (runI P call r):=rfl
@[go_sem] theorem stepI_plain (d:Option Nat)(o:Op):stepI P call al ⟨d,o,none⟩ ⟨e,h⟩=(stepOp P call al e h o).bind fun r=>some (St.put ⟨e,r.2⟩ d r.1):=by
 simp only[stepI,wantedC,Option.bind_eq_bind,Option.bind_some,if_true];cases stepOp P call al e h o<;>rfl
@[go_sem] theorem stepI_guard (d:Option Nat)(o:Op)(t:Nat)(b:Bool):stepI P call al ⟨d,o,some (t,b)⟩ ⟨e,h⟩=(wantedC e (some (t,b))).bind fun w=>if w=true then(stepOp P call al e h o).bind fun r=>some (St.put ⟨e,r.2⟩ d r.1) else some (St.put ⟨e,h⟩ d undefC):=by
 simp only[stepI,Option.bind_eq_bind]
 cases wantedC e (some (t,b)) with
 |none=>rfl
 |some w=>cases w<;>simp;cases stepOp P call al e h o<;>rfl
@[go_sem] theorem put_some (t:Nat)(c:C):St.put ⟨e,h⟩ (some t) c=⟨(t,c)::e,h⟩:=rfl
@[go_sem] theorem put_none (c:C):St.put ⟨e,h⟩ none c=⟨e,h⟩:=rfl
def want (b:Bool):C→Option Bool
 | .v (.bool x)=>some (x==b)
 | .tup []=>some false
 |_=>none
@[go_sem] theorem wantedC_some (t:Nat)(b:Bool):wantedC e (some (t,b))=(look e t).bind (want b):=by
 simp only[wantedC]
 cases look e t with
 |none=>rfl
 |some c=>simp only[Option.bind_some];unfold want;split<;>rename_i h<;>(first|(cases h;rfl)|skip)<;>(split<;>rename_i h2<;>simp_all)
@[go_sem] theorem want_true (x:Bool):want true (.v (.bool x))=some x:=by cases x<;>rfl
@[go_sem] theorem want_false (x:Bool):want false (.v (.bool x))=some (!x):=by cases x<;>rfl
@[go_sem] theorem want_undef (b:Bool):want b undefC=some false:=rfl
@[go_sem] theorem ev_tmp (t:Nat):ev e (.tmp t)=look e t:=rfl
@[go_sem] theorem ev_func (f:FuncId):ev e (.func f)=some (.fn f []):=rfl
@[go_sem] theorem ev_int (k:IntKind)(x:Int):ev e (.const (.int k x))=some (.v (.int k x)):=rfl
@[go_sem] theorem ev_bool (x:Bool):ev e (.const (.bool x))=some (.v (.bool x)):=rfl
@[go_sem] theorem ev_string (x:ByteArray):ev e (.const (.string x))=some (.v (.string x)):=rfl
@[go_sem] theorem ev_slice (a:Option Addr)(l c:Nat):ev e (.const (.slice a l c))=some (.v (.slice a l c)):=rfl
@[go_sem] theorem ev_pointer (a:Option Addr):ev e (.const (.pointer a))=some (.v (.pointer a)):=rfl
@[go_sem] theorem ev_agg (cs:Array Value):ev e (.const (.agg cs))=if cs.toList.all oneCell=true then some (.agg (cs.toList.map .v)) else none:=rfl
@[go_sem] theorem boolOf_v (b:Bool):boolOf (.v (.bool b))=some b:=rfl
@[go_sem] theorem intOf_v (k:IntKind)(x:Int):intOf (.v (.int k x))=some (k,x):=rfl
@[go_sem] theorem scalar_v (x:Value):scalar (.v x)=some x:=rfl
@[go_sem] theorem op_move (x:Operand):stepOp P call al e h (.move x)=(ev e x).bind fun c=>some (c,h):=rfl
@[go_sem] theorem op_assign (x:Operand):stepOp P call al e h (.assign x)=(ev e x).bind fun c=>some (c,h):=rfl
@[go_sem] theorem op_pick (c a b:Operand):stepOp P call al e h (.pick c a b)=(ev e c).bind fun d=>(boolOf d).bind fun t=>if t=true then(ev e a).bind fun r=>some (r,h) else(ev e b).bind fun r=>some (r,h):=by
 simp only[stepOp,Option.bind_eq_bind]
@[go_sem] theorem op_bin (op:BinOp)(t u:TypeId)(x y:Operand):stepOp P call al e h (.binOp op t x y u)=(ev e x).bind fun a=>(ev e y).bind fun b=>(binC P op t x y a b).bind fun r=>some (r,h):=rfl
@[go_sem] theorem op_not (t:TypeId)(x:Operand):stepOp P call al e h (.unOp .not t x)=(ev e x).bind fun a=>(boolOf a).bind fun b=>some (.v (.bool (!b)),h):=by
 simp only[stepOp,Option.bind_eq_bind]
 cases ev e x with
 |none=>rfl
 |some d=>
  cases d<;>try rfl
  rename_i v
  cases v<;>rfl
@[go_sem] theorem op_load (t:TypeId)(x:Operand):stepOp P call al e h (.load t x)=(ev e x).bind fun p=>(loadC P h t p).bind fun r=>some (r,h):=rfl
@[go_sem] theorem op_store (t:TypeId)(x y:Operand):stepOp P call al e h (.store t x y)=(ev e x).bind fun p=>(ev e y).bind fun c=>(storeC P h t p c).bind fun k=>some (undefC,k):=rfl
@[go_sem] theorem op_fieldAddr (t:TypeId)(x:Operand)(f:Nat):stepOp P call al e h (.fieldAddr t x f)=(ev e x).bind fun a=>(fieldAddrC P t a f).bind fun r=>some (r,h):=rfl
@[go_sem] theorem op_field (t:TypeId)(x:Operand)(f:Nat):stepOp P call al e h (.field t x f)=(ev e x).bind fun a=>(fieldC P t a f).bind fun r=>some (r,h):=rfl
@[go_sem] theorem op_indexAddr (t:TypeId)(x y:Operand):stepOp P call al e h (.indexAddr t x y)=(ev e x).bind fun a=>(ev e y).bind fun b=>(indexAddrC P t a b).bind fun r=>some (r,h):=rfl
@[go_sem] theorem op_index (t:TypeId)(x y:Operand):stepOp P call al e h (.index t x y)=(ev e x).bind fun a=>(ev e y).bind fun b=>(indexC P t a b).bind fun r=>some (r,h):=rfl
@[go_sem] theorem op_alloc (t:TypeId):stepOp P call al e h (.alloc t)=(zeroC P t).bind fun z=>some (.op (new h al (.row 0 z)).1 0,(new h al (.row 0 z)).2):=rfl
@[go_sem] theorem op_box (t:TypeId)(x:Operand):stepOp P call al e h (.box t x)=(ev e x).bind fun c=>if c.cells.all C.isCell=true then some (.op (new h al (.row 0 c.cells)).1 0,(new h al (.row 0 c.cells)).2) else none:=rfl
@[go_sem] theorem op_nilCheck (x:Operand):stepOp P call al e h (.nilCheck x)=(ev e x).bind fun p=>if isNilC p=some false then some (p,h) else none:=rfl
@[go_sem] theorem op_extract (x:Operand)(k:Nat):stepOp P call al e h (.extract x k)=(ev e x).bind fun p=>(tupAt p k).bind fun r=>some (r,h):=rfl
@[go_sem] theorem op_build (t:TypeId)(ps:List (Nat×Operand)):stepOp P call al e h (.build t ps.toArray)=(evParts e ps).bind fun qs=>(buildC P t qs).bind fun r=>some (r,h):=rfl
@[go_sem] theorem op_buildSlice (t:TypeId)(k:Nat)(ps:List (Nat×Operand)):stepOp P call al e h (.buildSlice t k ps.toArray)=(evParts e ps).bind fun qs=>buildSliceC P h al t k qs:=rfl
@[go_sem] theorem op_makeSlice (t:TypeId)(x y:Operand):stepOp P call al e h (.makeSlice t x y)=(ev e x).bind fun a=>(ev e y).bind fun b=>makeSliceC P h al t a b:=rfl
@[go_sem] theorem op_slice (t:TypeId)(x:Operand)(lo hi mx:Option Operand):stepOp P call al e h (.slice t x lo hi mx)=(ev e x).bind fun a=>(evo e lo).bind fun l=>(evo e hi).bind fun m=>(evo e mx).bind fun k=>(sliceC P h t a l m k).bind fun r=>some (r,h):=rfl
@[go_sem] theorem op_len (t:TypeId)(x:Operand):stepOp P call al e h (.call ⟨.builtin .len,#[x],#[t]⟩)=(ev e x).bind fun a=>(lenC P t a).bind fun r=>some (r,h):=rfl
@[go_sem] theorem op_append (t u:TypeId)(x y:Operand):stepOp P call al e h (.call ⟨.builtin .append,#[x,y],#[t,u]⟩)=(ev e x).bind fun a=>(ev e y).bind fun b=>appendC P h al t u a b:=rfl
@[go_sem] theorem op_callf (f:FuncId)(args:List Operand)(ats:Array TypeId):stepOp P call al e h (.call ⟨.value (.func f),args.toArray,ats⟩)=(evs e args).bind fun cs=>call f cs h:=by
 simp only[stepOp,calleeOf,ev,Option.bind_some,fnOf,Option.bind_eq_bind]
 cases evs e args with
 |none=>rfl
 |some cs=>simp only[Option.bind_some,List.append_nil]
@[go_sem] theorem evs_nil:evs e []=some []:=rfl
@[go_sem] theorem evs_cons (x:Operand)(r:List Operand):evs e (x::r)=(ev e x).bind fun c=>(evs e r).bind fun cs=>some (c::cs):=rfl
@[go_sem] theorem evParts_nil:evParts e []=some []:=rfl
@[go_sem] theorem evParts_cons (k:Nat)(x:Operand)(r:List (Nat×Operand)):evParts e ((k,x)::r)=(ev e x).bind fun c=>(evParts e r).bind fun cs=>some ((k,c)::cs):=rfl
theorem bind_ite {α β:Type}(c:Prop)[Decidable c](a b:Option α)(f:α→Option β):(if c then a else b).bind f=if c then a.bind f else b.bind f:=by split<;>rfl
end
section
variable {P:Program} {t:TypeId} {x y:Operand} {a b:Int}
@[go_sem] theorem bin_add:binC P .add t x y (.v (.int .i64 a)) (.v (.int .i64 b))=some (.v (.int .i64 (IntKind.i64.wrap (a+b)))):=rfl
@[go_sem] theorem bin_sub:binC P .sub t x y (.v (.int .i64 a)) (.v (.int .i64 b))=some (.v (.int .i64 (IntKind.i64.wrap (a-b)))):=rfl
@[go_sem] theorem bin_lss:binC P .lss t x y (.v (.int .i64 a)) (.v (.int .i64 b))=some (.v (.bool (decide (a<b)))):=rfl
@[go_sem] theorem bin_leq:binC P .leq t x y (.v (.int .i64 a)) (.v (.int .i64 b))=some (.v (.bool (decide (a≤b)))):=rfl
@[go_sem] theorem bin_gtr:binC P .gtr t x y (.v (.int .i64 a)) (.v (.int .i64 b))=some (.v (.bool (decide (a>b)))):=rfl
@[go_sem] theorem bin_geq:binC P .geq t x y (.v (.int .i64 a)) (.v (.int .i64 b))=some (.v (.bool (decide (a≥b)))):=rfl
@[go_sem] theorem bin_eql:binC P .eql t x y (.v (.int .i64 a)) (.v (.int .i64 b))=some (.v (.bool (decide (a=b)))):=rfl
@[go_sem] theorem bin_neq:binC P .neq t x y (.v (.int .i64 a)) (.v (.int .i64 b))=some (.v (.bool (!decide (a=b)))):=rfl
end
end Go.Tm
