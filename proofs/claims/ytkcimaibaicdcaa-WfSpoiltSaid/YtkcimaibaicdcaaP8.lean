/- The law returns true at every input. No condition. A part of its proof. -/
import Derived.Carry
import Derived.Test.YtkcimaibaicdcaaP7
set_option linter.unusedSimpArgs false
set_option linter.unusedVariables false
set_option maxHeartbeats 16000000
set_option maxRecDepth 100000
namespace Go.Tm
structure Ins where
 op:Int
 type:Int
 to:Int
 sym:Int
 num:Int
 args:List Int
 into:List Int
 deriving DecidableEq,Inhabited
structure Block where
 ins:List Ins
 deriving DecidableEq,Inhabited
structure Func where
 name:ByteArray
 out:Bool
 params:List Int
 result:Int
 blocks:List Block
 deriving DecidableEq,Inhabited
structure Extern where
 name:ByteArray
 params:List Int
 result:Int
 deriving DecidableEq,Inhabited
structure Global where
 name:ByteArray
 cells:List Int
 deriving DecidableEq,Inhabited
structure Table where
 name:ByteArray
 funcs:List Int
 deriving DecidableEq,Inhabited
structure Module where
 externs:List Extern
 globals:List Global
 tables:List Table
 funcs:List Func
 deriving DecidableEq,Inhabited
abbrev int (x:Int):C:=.v (.int .i64 x)
abbrev bool (b:Bool):C:=.v (.bool b)
abbrev str (s:ByteArray):C:=.v (.string s)
def ints (l:List Int):C:=.fs (l.map int) l.length none
def bools (l:List Bool):C:=.fs (l.map bool) l.length none
def rows (l:List (List Int)):C:=.fs (l.map ints) l.length none
def rowsB (l:List (List Bool)):C:=.fs (l.map bools) l.length none
def encIns (i:Ins):List C:=[int i.op,int i.type,int i.to,int i.sym,int i.num,ints i.args,ints i.into]
def inss (l:List Ins):C:=.fs (l.flatMap encIns) l.length none
def encBlock (b:Block):C:=inss b.ins
def blocks (l:List Block):C:=.fs (l.map encBlock) l.length none
def encFunc (f:Func):List C:=[str f.name,bool f.out,ints f.params,int f.result,blocks f.blocks]
def encExtern (x:Extern):List C:=[str x.name,ints x.params,int x.result]
def encGlobal (x:Global):List C:=[str x.name,ints x.cells]
def encTable (x:Table):List C:=[str x.name,ints x.funcs]
def externs (l:List Extern):C:=.fs (l.flatMap encExtern) l.length none
def globals (l:List Global):C:=.fs (l.flatMap encGlobal) l.length none
def tables (l:List Table):C:=.fs (l.flatMap encTable) l.length none
def funcs (l:List Func):C:=.fs (l.flatMap encFunc) l.length none
def encModule (m:Module):List C:=[externs m.externs,globals m.globals,tables m.tables,funcs m.funcs]
def okI (n:Int):Prop:= -9223372036854775808≤n∧n≤9223372036854775807
structure OkIns (i:Ins):Prop where
 op:okI i.op
 type:okI i.type
 to:okI i.to
 sym:okI i.sym
 num:okI i.num
 args:∀x∈i.args,okI x
 into:∀x∈i.into,okI x
 argsL:i.args.length≤17592186044416
 intoL:i.into.length≤17592186044416
structure OkBlock (b:Block):Prop where
 ins:∀i∈b.ins,OkIns i
 len:b.ins.length≤17592186044416
structure OkFunc (f:Func):Prop where
 params:∀x∈f.params,okI x
 result:okI f.result
 blocks:∀b∈f.blocks,OkBlock b
 paramsL:f.params.length≤17592186044416
 len:f.blocks.length≤17592186044416
structure OkModule (m:Module):Prop where
 externs:∀x∈m.externs,(∀y∈x.params,okI y)∧okI x.result∧x.params.length≤17592186044416
 globals:∀x∈m.globals,(∀y∈x.cells,okI y)∧x.cells.length≤17592186044416
 tables:∀x∈m.tables,(∀y∈x.funcs,okI y)∧x.funcs.length≤17592186044416
 funcs:∀x∈m.funcs,OkFunc x
 externsL:m.externs.length≤17592186044416
 globalsL:m.globals.length≤17592186044416
 tablesL:m.tables.length≤17592186044416
 funcsL:m.funcs.length≤17592186044416
theorem okI_of_wf {n:Int}(h:(Lit.int .i64 n).wf=true):okI n:=by
 simpa[Lit.wf,okI,IntKind.signed,IntKind.min,IntKind.max,IntKind.bits] using h
section
variable {P:Program} {tI tN tB tS tL tE:TypeId}
theorem flat1 {α:Type}(f:α→C)(l:List α):(l.flatMap fun x=>[f x])=l.map f:=by
 induction l with
 |nil=>rfl
 |cons x l ih=>simp[ih]
theorem opens_num (h:P.underlying tI=some (.int .i64)):Opens P tI (fun n=>[int n]) okI:=(opens_int h).mono fun _=>okI_of_wf
theorem opens_ints (h:P.underlying tI=some (.int .i64))(hl:P.underlying tL=some (.slice tI))(hc:P.cellsOf tI=1)(hb:P.bytesOf tI=8):Opens P tL (fun l=>[ints l]) (fun l=>(∀x∈l,okI x)∧l.length≤17592186044416):=by
 have:=(opens_slice (b:=8) (s:=1) hl (opens_num h) (fun _=>rfl) (by omega) hc hb).mono (B':=fun l=>(∀x∈l,okI x)∧l.length≤17592186044416) fun l ⟨h1,h2⟩=>⟨h2,by omega⟩
 simpa only[ints,flat1] using this
end
theorem Ext.below {w w':World}{S':Nat→Prop}{φ φ':Nat→Loc}{h':Heap}(E:Ext w noName φ [] w' S' φ' h'):Go.RowKit.Below w.heap.size w w':=
 ⟨E.os,E.tape,E.output,E.size,fun k hk=>E.keep k hk own_nil⟩
theorem law_calls {P:Program}{call:CallF}(hok:CallOk P call){f:FuncId}{cs:List C}{h':Heap}(hc:call f cs []=some (bool true,h')){W:World}{φ:Nat→Loc}{us:List Value}(hr:RelL W noBad noName φ cs us):
  Calls P f us.toArray W fun e W'=>e=.returned (.bool true)∧Go.RowKit.Below W.heap.size W W':=by
 have G:Good W noBad noName φ []:=good_nil (fun b h=>h.elim)
 have hr':RelL W (badOf noBad φ []) noName φ cs us:=RelL.later ⟨fun _ _ _ _ _ h=>h,fun b _ h=>h.elim id (fun h=>(own_nil h).elim),Nat.le_refl _,fun _ h=>h.elim⟩ hr
 refine((hok f cs [] _ h' hc).2 W noBad noName φ us G (fun l h=>h.elim) hr').mono fun e w' ⟨u,S',φ',he,G',E,hrel,_⟩=>?_
 simp only[Rel] at hrel
 rw[he,hrel.1]
 exact⟨rfl,E.below⟩
end Go.Tm
namespace Go.Tm
section
variable {P:Program} {h:Heap} {al:Option Nat}
def shiftC (p:C)(off:Nat):Option C:=
 match p with
 | .op l o=>some (.op l (o+off))
 | .fp xs=>some (.fp (xs.drop off))
 |_=>none
@[go_sem] theorem shiftC_op (l o off:Nat):shiftC (.op l o) off=some (.op l (o+off)):=rfl
@[go_sem] theorem shiftC_fp (xs:List C)(off:Nat):shiftC (.fp xs) off=some (.fp (xs.drop off)):=rfl
theorem fieldAddr_fact {t:TypeId}{f off n:Nat}(hf:(structF P t f).bind (fun fd=>(sz P fd.type).map fun n=>(fd.offset,n))=some (off,n+1))(p:C):fieldAddrC P t p f=shiftC p off:=by
 simp only[Option.bind_eq_some_iff,Option.map_eq_some_iff,Prod.mk.injEq] at hf
 obtain⟨fd,h1,m,h2,h3,h4⟩:=hf
 unfold fieldAddrC
 simp only[h1,h2,Option.bind_eq_bind,Option.bind_some,h4]
 rw[if_neg (by omega)]
 cases p<;>simp[shiftC,h3]
theorem loadS_fact {t:TypeId}{n:Nat}(h1:sz P t=some n)(h2:aggT P t=some false)(p:C):loadC P h t p=(cellsAt h p).bind List.head?:=by
 unfold loadC fieldOf
 simp only[h1,h2,Option.bind_eq_bind,Option.bind_some,Bool.false_eq_true,if_false]
theorem loadA_fact {t:TypeId}{n:Nat}(h1:sz P t=some n)(h2:aggT P t=some true)(p:C):loadC P h t p=(cellsAt h p).bind fun cs=>(takeN n cs).bind fun xs=>some (.agg xs):=by
 unfold loadC fieldOf
 simp only[h1,h2,Option.bind_eq_bind,Option.bind_some,if_true]
 congr 1
 funext cs
 cases takeN n cs<;>rfl
@[go_sem] theorem cellsAt_fp (xs:List C):cellsAt h (.fp xs)=some xs:=rfl
def rowAt (nd:Option Node)(off:Nat):Option (List C):=
 match nd with
 |some (.row _ cs)=>some (cs.drop off)
 |_=>none
@[go_sem] theorem cellsAt_op (l off:Nat):cellsAt h (.op l off)=rowAt h[l]? off:=rfl
@[go_sem] theorem rowAt_row (e off:Nat)(cs:List C):rowAt (some (.row e cs)) off=some (cs.drop off):=rfl
def idxC (s:Nat)(x:C)(n:Int):Option C:=
 match x with
 | .os l off len _=>if 0≤n∧n<len then some (.op l (off+n.toNat*s)) else none
 | .fs xs len _=>if 0≤n∧n<len then some (.fp (xs.drop (n.toNat*s))) else none
 |_=>none
@[go_sem] theorem idxC_os (s l off len:Nat)(cap:Option Nat)(n:Int):idxC s (.os l off len cap) n=if 0≤n∧n<len then some (.op l (off+n.toNat*s)) else none:=rfl
@[go_sem] theorem idxC_fs (s len:Nat)(xs:List C)(cap:Option Nat)(n:Int):idxC s (.fs xs len cap) n=if 0≤n∧n<len then some (.fp (xs.drop (n.toNat*s))) else none:=rfl
theorem index_fact {t e:TypeId}{s:Nat}(hu:sliceE P t=some e)(hs:sz P e=some s)(x:C)(k:IntKind)(n:Int):indexAddrC P t x (.v (.int k n))=idxC s x n:=by
 unfold indexAddrC
 simp only[intOf,Option.bind_eq_bind,Option.bind_some,sliceE_some hu,hs]
 cases x<;>rfl
def lenS:C→Option C
 | .os _ _ len _=>some (int len)
 | .fs _ len _=>some (int len)
 | .v (.slice none 0 0)=>some (int 0)
 |_=>none
@[go_sem] theorem lenS_os (l off len:Nat)(cap:Option Nat):lenS (.os l off len cap)=some (int len):=rfl
@[go_sem] theorem lenS_fs (xs:List C)(len:Nat)(cap:Option Nat):lenS (.fs xs len cap)=some (int len):=rfl
@[go_sem] theorem lenS_nil:lenS (.v (.slice none 0 0))=some (int 0):=rfl
theorem len_fact {t e:TypeId}(hu:sliceE P t=some e)(x:C):lenC P t x=lenS x:=by
 unfold lenC lenS
 rw[sliceE_some hu]
 cases x<;>try rfl
 rename_i v
 cases v<;>try rfl
 rename_i a l c
 cases a<;>try rfl
 cases l<;>cases c<;>rfl
theorem lenStr_fact {t:TypeId}(hu:P.underlying t=some .string)(s:ByteArray):lenC P t (str s)=some (int s.size):=by
 unfold lenC;rw[hu]
theorem append_fact {t u e e':TypeId}{s:Nat}{z:List C}{b:Nat}(ht:sliceE P t=some e)(hu:sliceE P u=some e')(hs:sz P e=some (s+1))(hz:zeroC P e=some z)(hl:z.length=s+1)(hb:(P.info? e).map (·.bytes)=some b)(hb':b≤2^10)(d x:C):
  appendC P h al t u d x=(srcOf h (s+1) x).bind fun r=>appendTo h al (s+1) r.1 r.2 d:=by
 simp only[Option.map_eq_some_iff] at hb
 obtain⟨i,hi,rfl⟩:=hb
 unfold appendC
 simp only[ht,hu,hs,hz,hi,Option.bind_eq_bind,Option.bind_some]
 congr 1
 funext r
 obtain⟨k,ys⟩:=r
 simp only
 rw[if_pos ⟨by omega,hl,hb'⟩]
theorem buildSlice_fact {t e:TypeId}{s:Nat}{z:List C}(ht:sliceE P t=some e)(hs:sz P e=some (s+1))(hz:zeroC P e=some z)(hl:z.length=s+1)(n:Nat)(qs:List (Nat×C)):
  buildSliceC P h al t n qs=(fillC (fun i=>some (i*(s+1),s+1)) (rep n z) qs).bind fun cs=>if n*(s+1)≤2^24 then some (.os (new h al (.row (s+1) cs)).1 0 n (some n),(new h al (.row (s+1) cs)).2) else none:=by
 unfold buildSliceC rowOf
 simp only[ht,hs,hz,Option.bind_eq_bind,Option.bind_some]
 rw[if_pos ⟨by omega,hl⟩]
 rfl
theorem makeSlice_fact {t e:TypeId}{s:Nat}{z:List C}{b:Nat}(ht:sliceE P t=some e)(hs:sz P e=some (s+1))(hz:zeroC P e=some z)(hl:z.length=s+1)(hb:(P.info? e).map (·.bytes)=some b)(hb':b≤2^10)(k k':IntKind)(n c:Int):
  makeSliceC P h al t (.v (.int k n)) (.v (.int k' c))=if 0≤n∧n≤c∧c≤maxRow then some (.os (new h al (.row (s+1) (rep c.toNat z))).1 0 n.toNat (some c.toNat),(new h al (.row (s+1) (rep c.toNat z))).2) else none:=by
 simp only[Option.map_eq_some_iff] at hb
 obtain⟨i,hi,rfl⟩:=hb
 unfold makeSliceC rowOf
 simp only[ht,hs,hz,hi,intOf,Option.bind_eq_bind,Option.bind_some]
 rw[if_pos (show 0<s+1∧z.length=s+1 from⟨by omega,hl⟩)]
 simp only[Option.bind_some]
 by_cases hc:0≤n∧n≤c∧c≤maxRow
 ·rw[if_pos ⟨hc.1,hc.2.1,hc.2.2,hb'⟩,if_pos hc]
 ·rw[if_neg (fun h=>hc ⟨h.1,h.2.1,h.2.2.1⟩),if_neg hc]
def storeR (h:Heap)(l off n:Nat)(nd:Option Node)(ys:List C):Option Heap:=
 match nd with
 |some (.row e cs)=>if ys.length=n∧off+ys.length≤cs.length∧ys.all C.isCell=true then some (h.set l (.row e (put cs off ys))) else none
 |_=>none
@[go_sem] theorem storeR_row (l off n e:Nat)(cs ys:List C):storeR h l off n (some (.row e cs)) ys=if ys.length=n∧off+ys.length≤cs.length∧ys.all C.isCell=true then some (h.set l (.row e (put cs off ys))) else none:=rfl
theorem store_fact {t:TypeId}{n:Nat}(hs:sz P t=some n)(l off:Nat)(x:C):storeC P h t (.op l off) x=storeR h l off n h[l]? x.cells:=by
 unfold storeC storeR
 simp only[hs,Option.some.injEq]
 rfl
theorem slice_fact {t e:TypeId}{s:Nat}(hu:sliceE P t=some e)(hs:sz P e=some s)(x:C)(lo hi mx:Option C):sliceC P h t x lo hi mx=(match x with
  | .v (.slice none 0 0)=>(bnds lo hi mx 0 0).map fun _=>x
  | .os a off len cap=>match h[a]? with
   |some (.row e' cs)=>if e'=s then(bnds lo hi mx len (capk cap len off s cs)).map fun b=>.os a (off+b.1*s) (b.2.1-b.1) (capLeft cap b.2.2 b.1) else none
   |_=>none
  | .fs xs len cap=>(bnds lo hi mx len len).map fun b=>.fs ((xs.drop (b.1*s)).take ((b.2.1-b.1)*s)) (b.2.1-b.1) (capLeft cap b.2.2 b.1)
  |_=>none):=by
 unfold sliceC
 rw[sliceE_some hu]
 simp only[hs,Option.bind_some]
 cases x<;>rfl
theorem fillC_congr {p q:Nat→Option (Nat×Nat)}(h:∀i,p i=q i)(cells:List C)(qs:List (Nat×C)):fillC p cells qs=fillC q cells qs:=by
 have:p=q:=funext h
 rw[this]
theorem build_fact {t:TypeId}{fs:Array Field}{z:List C}{pl:List (Nat×Nat)}(hu:P.underlying t=some (.struct fs))(hz:zeroC P t=some z)(hp:fs.toList.map (fun f=>(f.offset,sz P f.type))=pl.map (fun p=>(p.1,some p.2)))(qs:List (Nat×C)):
  buildC P t qs=(fillC (fun i=>pl[i]?) z qs).bind fun cs=>some (.agg cs):=by
 have hall:fs.toList.all (fun f=>(sz P f.type).isSome)=true:=by
  rw[List.all_eq_true]
  intro f hf
  have:(f.offset,sz P f.type)∈fs.toList.map (fun f=>(f.offset,sz P f.type)):=List.mem_map_of_mem hf
  rw[hp] at this
  obtain⟨p,_,hp2⟩:=List.mem_map.1 this
  simp only[Prod.mk.injEq] at hp2
  rw[←hp2.2]
  rfl
 have hpl:∀i,places P fs.toList i=pl[i]?:=fun i=>by
  have:=congrArg (fun l=>l[i]?) hp
  simp only[List.getElem?_map] at this
  unfold places
  cases hf:fs.toList[i]? with
  |none=>
   rw[hf] at this
   cases hpi:pl[i]? with
   |none=>rfl
   |some p=>rw[hpi] at this;cases this
  |some f=>
   rw[hf] at this
   cases hpi:pl[i]? with
   |none=>rw[hpi] at this;cases this
   |some p=>
    rw[hpi] at this
    simp only[Option.map_some,Option.some.injEq,Prod.mk.injEq] at this
    simp[this.1,this.2]
 unfold buildC
 simp only[hz,hu,Option.bind_eq_bind,Option.bind_some]
 rw[if_pos hall,fillC_congr hpl]
 cases fillC (fun i=>pl[i]?) z qs<;>rfl
@[go_sem] theorem fillC_nil (p:Nat→Option (Nat×Nat))(cells:List C):fillC p cells []=some cells:=rfl
def fill1 (o:Option (Nat×Nat))(cells:List C)(x:C):Option (List C):=
 match o with
 |none=>none
 |some (off,size)=>if x.cells.length=size∧off+size≤cells.length∧x.cells.all C.isCell=true then some (put cells off x.cells) else none
@[go_sem] theorem fill1_some (off size:Nat)(cells:List C)(x:C):fill1 (some (off,size)) cells x=if x.cells.length=size∧off+size≤cells.length∧x.cells.all C.isCell=true then some (put cells off x.cells) else none:=rfl
@[go_sem] theorem fillC_cons (p:Nat→Option (Nat×Nat))(cells:List C)(i:Nat)(x:C)(r:List (Nat×C)):fillC p cells ((i,x)::r)=(fill1 (p i) cells x).bind fun cs=>fillC p cs r:=by
 simp only[fillC,fill1]
 cases p i with
 |none=>rfl
 |some q=>obtain⟨off,size⟩:=q;simp only;split<;>rfl
@[go_sem] theorem cells_v (x:Value):(C.v x).cells=[.v x]:=rfl
@[go_sem] theorem cells_fs (xs:List C)(len:Nat)(cap:Option Nat):(C.fs xs len cap).cells=[.fs xs len cap]:=rfl
@[go_sem] theorem cells_os (l off len:Nat)(cap:Option Nat):(C.os l off len cap).cells=[.os l off len cap]:=rfl
@[go_sem] theorem cells_op (l off:Nat):(C.op l off).cells=[.op l off]:=rfl
@[go_sem] theorem cells_agg (cs:List C):(C.agg cs).cells=cs:=rfl
@[go_sem] theorem isCell_v (x:Value):(C.v x).isCell=true:=rfl
@[go_sem] theorem isCell_fs (xs:List C)(len:Nat)(cap:Option Nat):(C.fs xs len cap).isCell=true:=rfl
@[go_sem] theorem isCell_os (l off len:Nat)(cap:Option Nat):(C.os l off len cap).isCell=true:=rfl
@[go_sem] theorem isCell_op (l off:Nat):(C.op l off).isCell=true:=rfl
@[go_sem] theorem isCell_ints (l:List Int):(ints l).isCell=true:=rfl
@[go_sem] theorem isCell_inss (l:List Ins):(inss l).isCell=true:=rfl
@[go_sem] theorem isCell_blocks (l:List Block):(blocks l).isCell=true:=rfl
@[go_sem] theorem new_none_1 (nd:Node):(new h none nd).1=h.length:=rfl
@[go_sem] theorem new_none_2 (nd:Node):(new h none nd).2=h++[nd]:=rfl
end
section
variable {P:Program} {vals:FuncId→Bool} {call:CallF} {n:Nat}
def Loop (P:Program)(vals:FuncId→Bool)(call:CallF)(n:Nat)(keep:List Nat)(a:K):Nat→St→Option (Ctl×St):=
 iter fun s=>exec P vals call n a ⟨keepE s.env keep,s.heap⟩
@[go_sem] theorem exec_loop (keep:List Nat)(a:K)(e:Env)(h:Heap):exec P vals call n (.loop keep a) ⟨e,h⟩=Loop P vals call n keep a n ⟨e,h⟩:=rfl
theorem Loop_succ (keep:List Nat)(a:K)(m:Nat)(e:Env)(h:Heap):Loop P vals call n keep a (m+1) ⟨e,h⟩=andThen (exec P vals call n a ⟨keepE e keep,h⟩) (Loop P vals call n keep a m):=rfl
inductive Rd (σ:Type) where
 |go (a:σ)
 |stop (r:Ctl×St)
end
end Go.Tm
namespace Go.Tm
def rdOf {α:Type}(z:α)(l:List α)(i:Int):α:=l.getD i.toNat z
def rd (l:List Int)(i:Int):Int:=l.getD i.toNat 0
theorem wrap_in {i:Int}(h0: -9223372036854775808≤i)(h1:i≤9223372036854775807):IntKind.i64.wrap i=i:=by rw[IntKind.wrap_i64];omega
theorem rd_eq {xs:List Int}{i:Int}(h0:0≤i)(h1:i<(xs.length:Int)):xs[i.toNat]?=some (rd xs i):=by
 have:i.toNat<xs.length:=by omega
 simp[rd,List.getD_eq_getElem?_getD,List.getElem?_eq_getElem this]
theorem rd_mem {xs:List Int}{i:Int}(h0:0≤i)(h1:i<(xs.length:Int)):rd xs i∈xs:=List.mem_of_getElem? (rd_eq h0 h1)
theorem mem_rd {xs:List Int}{v:Int}(h:v∈xs):∃i:Int,0≤i∧i<(xs.length:Int)∧rd xs i=v:=by
 obtain⟨i,hi,rfl⟩:=List.mem_iff_getElem.1 h
 refine⟨(i:Int),by omega,by omega,?_⟩
 have:=rd_eq (xs:=xs) (i:=(i:Int)) (by omega) (by omega)
 simp[List.getElem?_eq_getElem hi] at this
 exact this.symm
theorem rd_set {xs:List Int}{i j x:Int}(h0:0≤i)(h1:i<(xs.length:Int))(hj:0≤j):rd (xs.set i.toNat x) j=if i=j then x else rd xs j:=by
 unfold rd
 rw[List.getD_eq_getElem?_getD,List.getD_eq_getElem?_getD,List.getElem?_set]
 by_cases e:i=j
 ·subst e
  have:i.toNat<xs.length:=by omega
  simp[this]
 ·have:¬i.toNat=j.toNat:=by omega
  simp[e,this]
theorem rdb_set {xs:List Bool}{i j:Int}{x:Bool}(h0:0≤i)(h1:i<(xs.length:Int))(hj:0≤j):rdOf false (xs.set i.toNat x) j=if i=j then x else rdOf false xs j:=by
 unfold rdOf
 rw[List.getD_eq_getElem?_getD,List.getD_eq_getElem?_getD,List.getElem?_set]
 by_cases e:i=j
 ·subst e
  have:i.toNat<xs.length:=by omega
  simp[this]
 ·have:¬i.toNat=j.toNat:=by omega
  simp[e,this]
theorem rd_replicate {n:Nat}{x j:Int}(h0:0≤j)(h1:j<(n:Int)):rd (List.replicate n x) j=x:=by
 have:j.toNat<n:=by omega
 simp[rd,List.getD_eq_getElem?_getD,this]
theorem rdb_replicate {n:Nat}{j:Int}:rdOf false (List.replicate n false) j=false:=by
 simp only[rdOf,List.getD_eq_getElem?_getD,List.getElem?_replicate]
 split<;>rfl
theorem bools_ext {xs ys:List Bool}(hl:xs.length=ys.length)(h:∀i:Int,0≤i→i<(xs.length:Int)→rdOf false xs i=rdOf false ys i):xs=ys:=by
 refine List.ext_getElem hl fun i h1 h2=>?_
 have:=h (i:Int) (by omega) (by omega)
 simpa[rdOf,List.getD_eq_getElem?_getD,List.getElem?_eq_getElem h1,List.getElem?_eq_getElem h2] using this
theorem idxOf_snoc_mem {l:List Int}{v b:Int}(h:v∈l):(l++[b]).idxOf v=l.idxOf v:=by rw[List.idxOf_append];simp[h]
theorem idxOf_snoc_new {l:List Int}{b:Int}(h:b ∉ l):(l++[b]).idxOf b=l.length:=by rw[List.idxOf_append];simp[h]
inductive Rc (N:Int→List Int)(P:Int→Prop):Int→Int→Prop
 |refl {u:Int}:P u→Rc N P u u
 |step {u v w:Int}:Rc N P u v→w∈N v→P w→Rc N P u w
section
variable {N:Int→List Int} {P:Int→Prop} {u v w:Int}
theorem Rc.left (h:Rc N P u v):P u:=by induction h with|refl h=>exact h|step _ _ _ ih=>exact ih
theorem Rc.right (h:Rc N P u v):P v:=by cases h with|refl h=>exact h|step _ _ h=>exact h
theorem Rc.trans (h:Rc N P u v)(k:Rc N P v w):Rc N P u w:=by
 induction k with
 |refl _=>exact h
 |step _ h1 h2 ih=>exact .step ih h1 h2
theorem Rc.mono {P':Int→Prop}(h:Rc N P u v)(hP:∀x,P x→P' x):Rc N P' u v:=by
 induction h with
 |refl h=>exact .refl (hP _ h)
 |step _ h1 h2 ih=>exact .step ih h1 (hP _ h2)
theorem Rc.closed (h:Rc N P u v){S:Int→Prop}(hu:S u)(hS:∀x,S x→∀y∈N x,P y→S y):S v:=by
 induction h with
 |refl _=>exact hu
 |step _ h1 h2 ih=>exact hS _ ih _ h1 h2
end
structure Dfs (N:Int→List Int)(n:Nat)(root:Int)(ls lo:List Int)(lp:Bool):Prop where
 len:ls.length=n
 three:∀v:Int,0≤v→v<n→rd ls v=0∨rd ls v=1∨rd ls v=2
 nodup:lo.Nodup
 size:lo.length=ls.count 2
 mem:∀v,v∈lo↔0≤v∧v<n∧rd ls v=2
 shut:∀v∈lo,∀w∈N v,rd ls w≠0
 fore:lp=false→∀v∈lo,∀w∈N v,w∈lo∧lo.idxOf w<lo.idxOf v
 tree:∀v∈lo,v=root∨∃p:Int,0≤p∧p<n∧v∈N p∧(rd ls p=1∨p∈lo∧lo.idxOf v<lo.idxOf p)
 met:∀v:Int,0≤v→v<n→rd ls v≠0→Rc N (fun _=>True) root v
 round:lp=true→∃u w,Rc N (fun _=>True) root u∧w∈N u∧Rc N (fun _=>True) w u
structure Went (n:Nat)(ls lo ls' lo':List Int)(lp lp':Bool):Prop where
 keep:∀v:Int,0≤v→v<n→rd ls v≠0→rd ls' v=rd ls v
 grey:∀v:Int,0≤v→v<n→rd ls' v=1→rd ls v=1
 more:∃t,lo'=lo++t
 flag:lp=true→lp'=true
 zero:ls'.count 0≤ls.count 0
theorem Went.refl (n:Nat)(ls lo:List Int)(lp:Bool):Went n ls lo ls lo lp lp:=⟨fun _ _ _ _=>rfl,fun _ _ _ h=>h,⟨[],by simp⟩,id,Nat.le_refl _⟩
theorem Went.trans {n:Nat}{ls lo ls1 lo1 ls2 lo2:List Int}{lp lp1 lp2:Bool}(h:Went n ls lo ls1 lo1 lp lp1)(k:Went n ls1 lo1 ls2 lo2 lp1 lp2):Went n ls lo ls2 lo2 lp lp2:=by
 obtain⟨t,rfl⟩:=h.more
 obtain⟨t',rfl⟩:=k.more
 exact⟨fun v h0 h1 hv=>by have e:=h.keep v h0 h1 hv;rw[k.keep v h0 h1 (by rw[e];exact hv),e],fun v h0 h1 hv=>h.grey v h0 h1 (k.grey v h0 h1 hv),⟨t++t',by simp⟩,fun e=>k.flag (h.flag e),Nat.le_trans k.zero h.zero⟩
theorem count_put {xs:List Int}{i x y:Int}(h0:0≤i)(h1:i<(xs.length:Int)):(xs.set i.toNat x).count y+(if rd xs i=y then 1 else 0)=xs.count y+(if x=y then 1 else 0):=by
 have hl:i.toNat<xs.length:=by omega
 have he:=rd_eq h0 h1
 rw[List.getElem?_eq_getElem hl] at he
 rw[List.count_set hl,Option.some.inj he]
 by_cases e:rd xs i=y
 ·have hp:0<xs.count y:=List.count_pos_iff.2 (e ▸ rd_mem h0 h1)
  simp[e]
  split<;>omega
 ·simp[e]
section
variable {N:Int→List Int} {n:Nat} {root b:Int} {ls lo:List Int} {lp:Bool}
theorem Dfs.enter (h:Dfs N n root ls lo lp)(h0:0≤b)(h1:b<n)(hb:rd ls b=0)(hr:Rc N (fun _=>True) root b):
  Dfs N n root (ls.set b.toNat 1) lo lp:=by
 have hl:b<(ls.length:Int):=by rw[h.len];exact h1
 have rs:∀v:Int,0≤v→rd (ls.set b.toNat 1) v=if b=v then 1 else rd ls v:=fun v hv=>rd_set h0 hl hv
 refine⟨by simp[h.len],fun v v0 v1=>?_,h.nodup,by have:=count_put (x:=1) (y:=2) h0 hl;rw[hb] at this;have:=h.size;simp at *; omega,fun v=>?_,fun v hv w hw=>?_,h.fore,fun v hv=>?_,fun v v0 v1 hv=>?_,h.round⟩
 ·rw[rs v v0];split
  ·exact .inr (.inl rfl)
  ·exact h.three v v0 v1
 ·rw[h.mem v]
  constructor
  ·rintro⟨v0,v1,v2⟩
   refine⟨v0,v1,?_⟩
   rw[rs v v0,if_neg (by rintro rfl;omega)];exact v2
  ·rintro⟨v0,v1,v2⟩
   refine⟨v0,v1,?_⟩
   rw[rs v v0] at v2
   split at v2
   ·omega
   ·exact v2
 ·have:=h.shut v hv w hw
  by_cases w0:0≤w
  ·rw[rs w w0];split
   ·omega
   ·exact this
  ·intro e
   apply this
   have:w.toNat=0:=by omega
   unfold rd at e⊢
   rw[this] at e⊢
   rw[List.getD_eq_getElem?_getD,List.getElem?_set] at e
   rw[List.getD_eq_getElem?_getD]
   by_cases eb:b.toNat=0
   ·rw[if_pos eb] at e;split at e<;>simp at e;omega
   ·rw[if_neg eb] at e;exact e
 ·rcases h.tree v hv with e|⟨p,p0,p1,pv,hp⟩
  ·exact .inl e
  ·refine .inr ⟨p,p0,p1,pv,?_⟩
   rcases hp with hp|hp
   ·left;rw[rs p p0];split
    ·rfl
    ·exact hp
   ·exact .inr hp
 ·rw[rs v v0] at hv
  by_cases e:b=v
  ·subst e;exact hr
  ·rw[if_neg e] at hv;exact h.met v v0 v1 hv
theorem Dfs.leave (h:Dfs N n root ls lo lp)(h0:0≤b)(h1:b<n)(hb:rd ls b=1)(hin:∀w∈N b,0≤w∧w<n∧rd ls w≠0∧(lp=false→w∈lo))
  (htree:b=root∨∃p:Int,0≤p∧p<n∧b∈N p∧p≠b∧rd ls p=1):Dfs N n root (ls.set b.toNat 2) (lo++[b]) lp:=by
 have hl:b<(ls.length:Int):=by rw[h.len];exact h1
 have rs:∀v:Int,0≤v→rd (ls.set b.toNat 2) v=if b=v then 2 else rd ls v:=fun v hv=>rd_set h0 hl hv
 have hbn:b ∉ lo:=fun hm=>by have:=((h.mem b).1 hm).2.2;omega
 have ne:∀w,0≤w→rd ls w≠0→rd (ls.set b.toNat 2) w≠0:=fun w w0 hw=>by
  rw[rs w w0];split
  ·omega
  ·exact hw
 refine⟨by simp[h.len],fun v v0 v1=>?_,?_,by have:=count_put (x:=2) (y:=2) h0 hl;rw[hb] at this;have:=h.size;simp at *; omega,fun v=>?_,fun v hv w hw=>?_,fun hf v hv w hw=>?_,fun v hv=>?_,fun v v0 v1 hv=>?_,h.round⟩
 ·rw[rs v v0];split
  ·exact .inr (.inr rfl)
  ·exact h.three v v0 v1
 ·rw[List.nodup_append]
  exact⟨h.nodup,by simp,fun x hx y hy=>by simp at hy;subst hy;rintro rfl;exact hbn hx⟩
 ·rw[List.mem_append,List.mem_singleton,h.mem v]
  constructor
  ·rintro(⟨v0,v1,v2⟩|rfl)
   ·refine⟨v0,v1,?_⟩
    rw[rs v v0];split
    ·rfl
    ·exact v2
   ·exact⟨h0,h1,by rw[rs v h0,if_pos rfl]⟩
  ·rintro⟨v0,v1,v2⟩
   rw[rs v v0] at v2
   by_cases e:b=v
   ·exact .inr e.symm
   ·rw[if_neg e] at v2;exact .inl ⟨v0,v1,v2⟩
 ·rcases List.mem_append.1 hv with hv|hv
  ·by_cases w0:0≤w
   ·exact ne w w0 (h.shut v hv w hw)
   ·have:=h.shut v hv w hw
    intro e
    apply this
    have:w.toNat=0:=by omega
    unfold rd at e⊢
    rw[this] at e⊢
    rw[List.getD_eq_getElem?_getD,List.getElem?_set] at e
    rw[List.getD_eq_getElem?_getD]
    by_cases eb:b.toNat=0
    ·rw[if_pos eb] at e;split at e<;>simp at e;omega
    ·rw[if_neg eb] at e;exact e
  ·obtain rfl:=List.mem_singleton.1 hv
   obtain⟨w0,_,w2,_⟩:=hin w hw
   exact ne w w0 w2
 ·rcases List.mem_append.1 hv with hv|hv
  ·obtain⟨m1,m2⟩:=h.fore hf v hv w hw
   exact⟨List.mem_append_left _ m1,by rw[idxOf_snoc_mem m1,idxOf_snoc_mem hv];exact m2⟩
  ·obtain rfl:=List.mem_singleton.1 hv
   obtain⟨_,_,_,w3⟩:=hin w hw
   have:=w3 hf
   exact⟨List.mem_append_left _ this,by rw[idxOf_snoc_mem this,idxOf_snoc_new hbn];exact List.idxOf_lt_length_iff.2 this⟩
 ·rcases List.mem_append.1 hv with hm|hv
  ·rcases h.tree v hm with e|⟨p,p0,p1,pv,hp⟩
   ·exact .inl e
   ·refine .inr ⟨p,p0,p1,pv,?_⟩
    by_cases e:p=b
    ·subst e
     exact .inr ⟨by simp,by rw[idxOf_snoc_mem hm,idxOf_snoc_new hbn];exact List.idxOf_lt_length_iff.2 hm⟩
    ·rcases hp with hp|⟨hp,hi⟩
     ·left;rw[rs p p0,if_neg (Ne.symm e)];exact hp
     ·exact .inr ⟨List.mem_append_left _ hp,by rw[idxOf_snoc_mem hm,idxOf_snoc_mem hp];exact hi⟩
  ·obtain rfl:=List.mem_singleton.1 hv
   rcases htree with e|⟨p,p0,p1,pv,pn,hp⟩
   ·exact .inl e
   ·exact .inr ⟨p,p0,p1,pv,.inl (by rw[rs p p0,if_neg (Ne.symm pn)];exact hp)⟩
 ·rw[rs v v0] at hv
  by_cases e:b=v
  ·subst e;exact h.met b h0 h1 (by omega)
  ·rw[if_neg e] at hv;exact h.met v v0 v1 hv
theorem Dfs.turn (h:Dfs N n root ls lo lp){u w:Int}(hr:Rc N (fun _=>True) root u)(hw:w∈N u)(hc:Rc N (fun _=>True) w u):Dfs N n root ls lo true:=
 ⟨h.len,h.three,h.nodup,h.size,h.mem,h.shut,(fun e=>by cases e),h.tree,h.met,fun _=>⟨u,w,hr,hw,hc⟩⟩
end
end Go.Tm
namespace Go.Tm
def insAt (l:List Ins)(i:Int):Ins:=l.getD i.toNat default
def blkAt (l:List Block)(i:Int):Block:=l.getD i.toNat default
def rowOfL (l:List (List Int))(i:Int):List Int:=l.getD i.toNat []
def restOf {α:Type}(f:α→List C)(l:List α)(i:Int):List C:=(l.drop (i.toNat+1)).flatMap f
theorem drop_flat {α:Type}{f:α→List C}{s:Nat}(hs:∀x,(f x).length=s):∀(l:List α) (k:Nat),(l.flatMap f).drop (k*s)=(l.drop k).flatMap f
 |[],k=>by simp
 |x::l,0=>by simp
 |x::l,k+1=>by
  rw[List.flatMap_cons,Nat.add_mul,Nat.one_mul,Nat.add_comm,←List.drop_drop,List.drop_left' (hs x),drop_flat hs l k];rfl
theorem at_flat {α:Type}{f:α→List C}{s:Nat}(hs:∀x,(f x).length=s)(z:α){l:List α}{i:Int}(h:0≤i∧i<l.length):(l.flatMap f).drop (i.toNat*s)=f (l.getD i.toNat z)++restOf f l i:=by
 rw[drop_flat hs]
 have hi:i.toNat<l.length:=by omega
 rw[List.drop_eq_getElem_cons hi,List.flatMap_cons,List.getD_eq_getElem?_getD,List.getElem?_eq_getElem hi]
 rfl
theorem at_map {α:Type}{f:α→C}(z:α){l:List α}{i:Int}(h:0≤i∧i<l.length):(l.map f).drop (i.toNat*1)=f (l.getD i.toNat z)::restOf (fun x=>[f x]) l i:=by
 have:=at_flat (f:=fun x=>[f x]) (s:=1) (fun _=>rfl) z h
 rw[flat1] at this
 exact this
@[go_sem] theorem idx_ints (l:List Int)(i:Int):idxC 1 (ints l) i=if 0≤i∧i<l.length then some (.fp (int (rd l i)::restOf (fun x=>[int x]) l i)) else none:=by
 simp only[ints,idxC]
 split
 ·rename_i h;rw[at_map 0 h];rfl
 ·rfl
@[go_sem] theorem idx_bools (l:List Bool)(i:Int):idxC 1 (bools l) i=if 0≤i∧i<l.length then some (.fp (bool (rdOf false l i)::restOf (fun x=>[bool x]) l i)) else none:=by
 simp only[bools,idxC]
 split
 ·rename_i h;rw[at_map false h];rfl
 ·rfl
@[go_sem] theorem idx_rows (l:List (List Int))(i:Int):idxC 1 (rows l) i=if 0≤i∧i<l.length then some (.fp (ints (rowOfL l i)::restOf (fun x=>[ints x]) l i)) else none:=by
 simp only[rows,idxC]
 split
 ·rename_i h;rw[at_map [] h];rfl
 ·rfl
@[go_sem] theorem idx_blocks (l:List Block)(i:Int):idxC 1 (blocks l) i=if 0≤i∧i<l.length then some (.fp (inss (blkAt l i).ins::restOf (fun x=>[encBlock x]) l i)) else none:=by
 simp only[blocks,idxC]
 split
 ·rename_i h;rw[at_map default h];rfl
 ·rfl
@[go_sem] theorem idx_inss (l:List Ins)(i:Int):idxC 7 (inss l) i=if 0≤i∧i<l.length then some (.fp (int (insAt l i).op::int (insAt l i).type::int (insAt l i).to::int (insAt l i).sym::int (insAt l i).num::ints (insAt l i).args::ints (insAt l i).into::restOf encIns l i)) else none:=by
 simp only[inss,idxC]
 split
 ·rename_i h;rw[at_flat (f:=encIns) (s:=7) (fun _=>rfl) default h];rfl
 ·rfl
@[go_sem] theorem len_ints (l:List Int):lenS (ints l)=some (int l.length):=rfl
@[go_sem] theorem len_bools (l:List Bool):lenS (bools l)=some (int l.length):=rfl
@[go_sem] theorem len_rows (l:List (List Int)):lenS (rows l)=some (int l.length):=rfl
@[go_sem] theorem len_blocks (l:List Block):lenS (blocks l)=some (int l.length):=rfl
@[go_sem] theorem len_inss (l:List Ins):lenS (inss l)=some (int l.length):=rfl
theorem enc_func (f:Func):encFunc f=[str f.name,bool f.out,ints f.params,int f.result,blocks f.blocks]:=rfl
attribute [go_sem] List.drop_succ_cons List.drop_zero List.head?_cons List.getElem?_cons_zero List.getElem?_cons_succ List.length_cons List.length_nil List.map_cons List.map_nil
@[go_sem] theorem head_ints (xs:List Int)(k:Nat):((xs.map int).drop k).head?=if k<xs.length then some (int (xs.getD k 0)) else none:=by
 by_cases h:k<xs.length
 ·rw[if_pos h,List.head?_drop,List.getElem?_map,List.getD_eq_getElem?_getD,List.getElem?_eq_getElem h];rfl
 ·rw[if_neg h,List.head?_drop,List.getElem?_map,List.getElem?_eq_none (by omega)];rfl
@[go_sem] theorem head_bools (xs:List Bool)(k:Nat):((xs.map bool).drop k).head?=if k<xs.length then some (bool (xs.getD k false)) else none:=by
 by_cases h:k<xs.length
 ·rw[if_pos h,List.head?_drop,List.getElem?_map,List.getD_eq_getElem?_getD,List.getElem?_eq_getElem h];rfl
 ·rw[if_neg h,List.head?_drop,List.getElem?_map,List.getElem?_eq_none (by omega)];rfl
theorem put_map {α:Type}{f:α→C}{xs:List α}{k:Nat}{v:α}(h:k<xs.length):put (xs.map f) k [f v]=(xs.set k v).map f:=by
 simp only[put,List.length_cons,List.length_nil]
 rw[List.map_set,List.set_eq_take_append_cons_drop,if_pos (by simpa using h)]
 simp
theorem rep_map {α:Type}{f:α→C}(n:Nat)(v:α):rep n [f v]=(List.replicate n v).map f:=by
 induction n with
 |zero=>rfl
 |succ n ih=>simp only[rep,List.replicate_succ,List.flatten_cons,List.map_cons] at ih⊢;rw[ih];rfl
@[go_sem] theorem mapC_nil (f:C→Option C):mapC f []=some []:=rfl
@[go_sem] theorem mapC_cons (f:C→Option C)(c:C)(r:List C):mapC f (c::r)=(f c).bind fun d=>(mapC f r).bind fun ds=>some (d::ds):=rfl
theorem mapC_map {α:Type}{g:C→Option C}{f f':α→C}(h:∀x,g (f x)=some (f' x))(l:List α):mapC g (l.map f)=some (l.map f'):=by
 induction l with
 |nil=>rfl
 |cons x l ih=>simp[mapC,h,ih]
section
variable {cl:Bool} {h:Heap} {n:Nat}
@[go_sem] theorem view_int (x:Int):view cl h (n+1) (int x)=some (int x):=rfl
@[go_sem] theorem view_bool (x:Bool):view cl h (n+1) (bool x)=some (bool x):=rfl
@[go_sem] theorem view_str (x:ByteArray):view cl h (n+1) (str x)=some (str x):=rfl
@[go_sem] theorem view_nil:view cl h (n+1) (.v (.slice none 0 0))=some (ints []):=rfl
theorem view_fs {α:Type}(f:α→List C)(l:List α):view false h (n+1) (.fs (l.flatMap f) l.length none)=some (.fs (l.flatMap f) l.length none):=by
 cases l<;>simp[view]
theorem view_fs' {α:Type}(f:α→C)(l:List α):view false h (n+1) (.fs (l.map f) l.length none)=some (.fs (l.map f) l.length none):=by
 cases l<;>simp[view]
@[go_sem] theorem view_ints (l:List Int):view false h (n+1) (ints l)=some (ints l):=view_fs' _ l
@[go_sem] theorem view_bools (l:List Bool):view false h (n+1) (bools l)=some (bools l):=view_fs' _ l
@[go_sem] theorem view_rows (l:List (List Int)):view false h (n+1) (rows l)=some (rows l):=view_fs' _ l
@[go_sem] theorem view_inss (l:List Ins):view false h (n+1) (inss l)=some (inss l):=view_fs _ l
@[go_sem] theorem view_blocks (l:List Block):view false h (n+1) (blocks l)=some (blocks l):=view_fs' _ l
@[go_sem] theorem view_agg (cs:List C):view cl h (n+1) (.agg cs)=(mapC (view cl h n) cs).map .agg:=rfl
theorem view_func (f:Func):view false h (n+2) (.agg (encFunc f))=some (.agg (encFunc f)):=by
 simp[encFunc,go_sem]
theorem view_os {α:Type}{f f':α→C}(hf:∀x,view cl h n (f x)=some (f' x)){l:Nat}{xs:List α}{cap:Option Nat}(hl:h[l]?=some (.row 1 (xs.map f))):view cl h (n+1) (.os l 0 xs.length cap)=some (.fs (xs.map f') xs.length none):=by
 cases xs with
 |nil=>simp[view]
 |cons x xs=>
  simp only[view,List.length_cons,Nat.add_one_ne_zero,if_false,hl,List.drop_zero,takeN,Nat.mul_one,List.length_map,Nat.le_refl,if_true,Option.bind_eq_bind,Option.bind_some]
  rw[List.take_of_length_le (by simp),mapC_map hf]
  rfl
theorem view_os_ints {l:Nat}{xs:List Int}{cap:Option Nat}(hl:h[l]?=some (.row 1 (xs.map int))):view cl h (n+2) (.os l 0 xs.length cap)=some (ints xs):=view_os (f':=int) (fun _=>rfl) hl
theorem view_os_bools {l:Nat}{xs:List Bool}{cap:Option Nat}(hl:h[l]?=some (.row 1 (xs.map bool))):view cl h (n+2) (.os l 0 xs.length cap)=some (bools xs):=view_os (f':=bool) (fun _=>rfl) hl
end
def Runs (P:Program)(tab:Tab)(k0:Nat)(f:FuncId)(vs:List C)(r:C):Prop:=∀k,k0≤k→∀cs h,mapC (view false h depth) cs=some vs→callAt P tab k f cs h=some (r,h)
theorem Runs.of {P:Program}{tab:Tab}{f:FuncId}{fn:Go.Func}{K:K}{vs:List C}{r:C}(h1:tab f=some (K,.val))(h2:P.funcs[f]?=some fn)
  {k0:Nat}(hr:∀k,k0≤k→∃c h,body P (valsOf tab) (callAt P tab k) k fn K vs []=some (c,h)∧view true h depth c=some r):Runs P tab (k0+1) f vs r:=by
 intro k hk cs h hv
 obtain⟨k,rfl⟩:∃m,k=m+1:=⟨k-1,by omega⟩
 obtain⟨c,h',hb,hw⟩:=hr k (by omega)
 have hw':=view_more (h':=h') (fun _ _ e=>e) _ _ _ hw
 simp only[callAt,h1,h2,byVal]
 cases he:mapC (view false [] depth) cs with
 |none=>simp only[hv,Option.bind_some,hb,hw];rfl
 |some us=>
  have:=mapC_some (view_more (cl:=false) (h:=[]) (h':=h) (fun _ _ e=>by simp at e) depth) he
  rw[hv] at this
  cases this
  simp only[hb,Option.bind_some,hw'];rfl
end Go.Tm
namespace Go.Tm
inductive Seen where
 |row (a:Nat)
 |frozen
 |other
def seenP:Option C→Seen
 |some (.op a _)=>.row a
 |some (.fp _)=>.frozen
 |_=>.other
@[go_sem] theorem seenP_op (a o:Nat):seenP (some (.op a o))=.row a:=rfl
@[go_sem] theorem seenP_fp (xs:List C):seenP (some (.fp xs))=.frozen:=rfl
def seenS:Option C→Seen
 |some (.os a _ _ _)=>.row a
 |some (.fs _ _ _)=>.frozen
 |some (.v _)=>.frozen
 |_=>.other
@[go_sem] theorem seenS_os (a o n:Nat)(c:Option Nat):seenS (some (.os a o n c))=.row a:=rfl
@[go_sem] theorem seenS_fs (xs:List C)(n:Nat)(c:Option Nat):seenS (some (.fs xs n c))=.frozen:=rfl
@[go_sem] theorem seenS_v (x:Value):seenS (some (.v x))=.frozen:=rfl
def seenOf (env:Env):Op→Seen
 | .load _ p=>seenP (ev env p)
 | .slice _ x _ _ _=>seenS (ev env x)
 | .call c=>if scalCall env c=true then .frozen else .other
 |_=>.other
@[go_sem] theorem seenOf_load (e:Env)(t:TypeId)(p:Operand):seenOf e (.load t p)=seenP (ev e p):=rfl
@[go_sem] theorem seenOf_slice (e:Env)(t:TypeId)(x:Operand)(l h m:Option Operand):seenOf e (.slice t x l h m)=seenS (ev e x):=rfl
@[go_sem] theorem seenOf_call (e:Env)(c:Call):seenOf e (.call c)=if scalCall e c=true then .frozen else .other:=rfl
def isV:Option C→Bool
 |some (.v _)=>true
 |_=>false
@[go_sem] theorem isV_v (v:Value):isV (some (.v v))=true:=rfl
@[go_sem] theorem isV_os (a o n:Nat)(c:Option Nat):isV (some (.os a o n c))=false:=rfl
@[go_sem] theorem isV_op (a o:Nat):isV (some (.op a o))=false:=rfl
@[go_sem] theorem isV_om (a:Nat):isV (some (.om a))=false:=rfl
@[go_sem] theorem isV_fs (xs:List C)(n:Nat)(c:Option Nat):isV (some (.fs xs n c))=false:=rfl
@[go_sem] theorem isV_fp (xs:List C):isV (some (.fp xs))=false:=rfl
@[go_sem] theorem isV_agg (xs:List C):isV (some (.agg xs))=false:=rfl
@[go_sem] theorem isV_fn (f:FuncId)(xs:List C):isV (some (.fn f xs))=false:=rfl
@[go_sem] theorem scalE_nil (e:Env):scalE e []=true:=rfl
@[go_sem] theorem scalE_cons (e:Env)(x:Operand)(r:List Operand):scalE e (x::r)=(isV (ev e x)&&scalE e r):=by
 simp only[scalE]
 cases ev e x with
 |none=>rfl
 |some c=>cases c<;>first|rfl|(simp[isV])
@[go_sem] theorem scalCall_func (e:Env)(f:FuncId)(xs:Array Operand)(ts:Array TypeId):scalCall e ⟨.value (.func f),xs,ts⟩=scalE e xs.toList:=rfl
@[go_sem] theorem scalCall_tmp (e:Env)(t:Nat)(xs:Array Operand)(ts:Array TypeId):scalCall e ⟨.value (.tmp t),xs,ts⟩=false:=rfl
@[go_sem] theorem scalCall_builtin (e:Env)(b:Builtin)(xs:Array Operand)(ts:Array TypeId):scalCall e ⟨.builtin b,xs,ts⟩=false:=rfl
def apartS:Seen→Option Nat→Bool
 | .row a,t=>decide (t≠some a)
 | .frozen,_=>true
 | .other,_=>false
@[go_sem] theorem apartS_none (a:Nat):apartS (.row a) none=true:=rfl
@[go_sem] theorem apartS_some (a b:Nat):apartS (.row a) (some b)= !(Nat.beq b a):=by
 unfold apartS
 by_cases h:b=a
 ·subst h;simp
 ·cases hb:Nat.beq b a with
  |true=>exact absurd (Nat.eq_of_beq_eq_true hb) h
  |false=>simpa using h
@[go_sem] theorem apartS_frozen (t:Option Nat):apartS .frozen t=true:=rfl
@[go_sem] theorem apartS_other (t:Option Nat):apartS .other t=false:=rfl
def rowP:Option C→Option Nat
 |some (.op l _)=>some l
 |_=>none
@[go_sem] theorem rowP_op (l o:Nat):rowP (some (.op l o))=some l:=rfl
def rowS:Option C→Option Nat
 |some (.os l _ _ _)=>some l
 |_=>none
@[go_sem] theorem rowS_os (l o n:Nat)(c:Option Nat):rowS (some (.os l o n c))=some l:=rfl
@[go_sem] theorem rowS_fs (xs:List C)(n:Nat)(c:Option Nat):rowS (some (.fs xs n c))=none:=rfl
@[go_sem] theorem rowS_v (x:Value):rowS (some (.v x))=none:=rfl
@[go_sem] theorem touches_store (e:Env)(t:TypeId)(p x:Operand):touches e (.store t p x)=rowP (ev e p):=by
 simp only[touches,rowP];rfl
@[go_sem] theorem touches_append (e:Env)(x y:Operand)(ts:Array TypeId):touches e (.call ⟨.builtin .append,#[x,y],ts⟩)=rowS (ev e x):=by
 simp[touches,rowS];rfl
@[go_sem] theorem touches_alloc (e:Env)(t:TypeId):touches e (.alloc t)=none:=rfl
@[go_sem] theorem touches_box (e:Env)(t:TypeId)(x:Operand):touches e (.box t x)=none:=rfl
@[go_sem] theorem touches_buildSlice (e:Env)(t:TypeId)(n:Nat)(ps:Array (Nat×Operand)):touches e (.buildSlice t n ps)=none:=rfl
@[go_sem] theorem touches_makeSlice (e:Env)(t:TypeId)(x y:Operand):touches e (.makeSlice t x y)=none:=rfl
def allIn (anc:List Nat)(cs:List Nat):Bool:=cs.all fun c=>anc.contains c
@[go_sem] theorem allIn_nil (anc:List Nat):allIn anc []=true:=rfl
@[go_sem] theorem allIn_cons (anc:List Nat)(c:Nat)(cs:List Nat):allIn anc (c::cs)=(anc.contains c&&allIn anc cs):=rfl
def lsOk (anc:List Nat)(t:Option Nat):List (Nat×Seen)→Bool
 |[]=>true
 |(i,s)::r=>(anc.contains i||apartS s t)&&lsOk anc t r
@[go_sem] theorem lsOk_nil (anc:List Nat)(t:Option Nat):lsOk anc t []=true:=rfl
@[go_sem] theorem lsOk_cons (anc:List Nat)(t:Option Nat)(i:Nat)(s:Seen)(r:List (Nat×Seen)):lsOk anc t ((i,s)::r)=((anc.contains i||apartS s t)&&lsOk anc t r):=rfl
@[go_sem] theorem loadOk_slice (vals:FuncId→Bool)(e:Env)(t:TypeId)(x:Operand)(l h m:Option Operand):loadOk vals e (.slice t x l h m)=true:=rfl
@[go_sem] theorem loadOk_load (vals:FuncId→Bool)(e:Env)(t:TypeId)(p:Operand):loadOk vals e (.load t p)=true:=rfl
@[go_sem] theorem loadOk_call (vals:FuncId→Bool)(e:Env)(f:FuncId)(args:Array Operand)(ats:Array TypeId):loadOk vals e (.call ⟨.value (.func f),args,ats⟩)=vals f:=rfl
def lsOkC (anc:List Nat)(h h':Heap):List (Nat×Seen)→Bool
 |[]=>true
 |(i,s)::r=>(anc.contains i||(match s with|.row a=>sameRow h h' a|.frozen=>true|.other=>false))&&lsOkC anc h h' r
def fine (anc:List Nat)(env:Env)(o:Op)(h h':Heap)(ls:List (Nat×Seen)):Bool:=
 if isCallV o=true then lsOkC anc h h' ls&&Nat.ble h.length h'.length else lsOk anc (touches env o) ls
section
variable (anc:List Nat) (e:Env) (h h':Heap) (ls:List (Nat×Seen))
@[go_sem] theorem fine_store (t:TypeId)(p x:Operand):fine anc e (.store t p x) h h' ls=lsOk anc (touches e (.store t p x)) ls:=rfl
@[go_sem] theorem fine_alloc (t:TypeId):fine anc e (.alloc t) h h' ls=lsOk anc (touches e (.alloc t)) ls:=rfl
@[go_sem] theorem fine_box (t:TypeId)(x:Operand):fine anc e (.box t x) h h' ls=lsOk anc (touches e (.box t x)) ls:=rfl
@[go_sem] theorem fine_buildSlice (t:TypeId)(n:Nat)(ps:Array (Nat×Operand)):fine anc e (.buildSlice t n ps) h h' ls=lsOk anc (touches e (.buildSlice t n ps)) ls:=rfl
@[go_sem] theorem fine_makeSlice (t:TypeId)(x y:Operand):fine anc e (.makeSlice t x y) h h' ls=lsOk anc (touches e (.makeSlice t x y)) ls:=rfl
@[go_sem] theorem fine_builtin (b:Builtin)(xs:Array Operand)(ts:Array TypeId):fine anc e (.call ⟨.builtin b,xs,ts⟩) h h' ls=lsOk anc (touches e (.call ⟨.builtin b,xs,ts⟩)) ls:=rfl
end
def goD (P:Program)(vals:FuncId→Bool)(call:CallF):List D→St→List (Nat×Seen)→List Nat→Option St
 |[],s,_,_=>some s
 |d::ds,s,ls,cs=>(wantedC s.env d.i.g).bind fun b=>
  if b=true then(stepOp P call none s.env s.heap d.i.op).bind fun r=>
   match d.cls with
   | .pure=>goD P vals call ds (St.put ⟨s.env,r.2⟩ d.i.dst r.1) ls cs
   | .load=>if (allIn d.anc cs&&loadOk vals s.env d.i.op)=true then goD P vals call ds (St.put ⟨s.env,r.2⟩ d.i.dst r.1) ((d.ix,seenOf s.env d.i.op)::ls) cs else none
   | .chain=>if (allIn d.anc cs&&fine d.anc s.env d.i.op s.heap r.2 ls)=true then goD P vals call ds (St.put ⟨s.env,r.2⟩ d.i.dst r.1) ls (d.ix::cs) else none
  else goD P vals call ds (St.put s d.i.dst undefC) ls cs
theorem seen_read (env:Env)(o:Op):seenOf env o=(match readRow env o with|some (some a)=>.row a|some none=>.frozen|none=>.other):=by
 unfold seenOf readRow
 cases o<;>try rfl
 ·rename_i t p
  simp only
  cases ev env p with
  |none=>rfl
  |some c=>cases c<;>rfl
 ·rename_i t x lo hi mx
  simp only
  cases ev env x with
  |none=>rfl
  |some c=>cases c<;>rfl
 ·rename_i q
  simp only
  split<;>rfl
theorem apart_seen {l r:Rec}(hv:isCallV r.d.i.op=false):apart l r=apartS (seenOf l.env l.d.i.op) (touches r.env r.d.i.op):=by
 unfold apart rowStays
 rw[seen_read]
 cases readRow l.env l.d.i.op with
 |none=>rfl
 |some o=>cases o<;>simp only[hv,Bool.false_eq_true,if_false]<;>rfl
theorem apart_call {l r:Rec}(hv:isCallV r.d.i.op=true):apart l r=(match seenOf l.env l.d.i.op with|.row a=>sameRow r.heap r.heap' a|.frozen=>true|.other=>false):=by
 unfold apart rowStays
 rw[seen_read]
 cases readRow l.env l.d.i.op with
 |none=>rfl
 |some o=>cases o<;>simp only[hv,if_true]
theorem lsOk_all (r:Rec)(anc:List Nat)(hv:isCallV r.d.i.op=false):∀ls:List Rec,ls.all (fun l=>anc.contains l.d.ix||apart l r)=lsOk anc (touches r.env r.d.i.op) (ls.map fun l=>(l.d.ix,seenOf l.env l.d.i.op))
 |[]=>rfl
 |l::ls=>by
  simp only[List.all_cons,List.map_cons,lsOk,apart_seen hv,←lsOk_all r anc hv ls]
theorem lsOkC_all (r:Rec)(anc:List Nat)(hv:isCallV r.d.i.op=true):∀ls:List Rec,ls.all (fun l=>anc.contains l.d.ix||apart l r)=lsOkC anc r.heap r.heap' (ls.map fun l=>(l.d.ix,seenOf l.env l.d.i.op))
 |[]=>rfl
 |l::ls=>by
  simp only[List.all_cons,List.map_cons,lsOkC,apart_call hv,←lsOkC_all r anc hv ls]
theorem fine_all (r:Rec)(anc:List Nat)(ls:List Rec):(ls.all (fun l=>anc.contains l.d.ix||apart l r)&&(!isCallV r.d.i.op||Nat.ble r.heap.length r.heap'.length))=fine anc r.env r.d.i.op r.heap r.heap' (ls.map fun l=>(l.d.ix,seenOf l.env l.d.i.op)):=by
 unfold fine
 cases hv:isCallV r.d.i.op with
 |true=>rw[lsOkC_all r anc hv,if_pos rfl];rfl
 |false=>rw[lsOk_all r anc hv,if_neg (by decide)];simp
theorem goD_eq {P:Program}{vals:FuncId→Bool}{call:CallF}:∀(ds:List D) (s:St) (ls:List Rec) (cs:List Nat),
  ((recsD P call ds s).bind fun r=>if chk vals r.1 ls cs=true then some r.2 else none)=goD P vals call ds s (ls.map fun l=>(l.d.ix,seenOf l.env l.d.i.op)) cs
 |[],s,ls,cs=>by simp[recsD,chk,goD]
 |d::ds,s,ls,cs=>by
  simp only[recsD,recD,goD,Option.bind_eq_bind]
  cases wantedC s.env d.i.g with
  |none=>rfl
  |some b=>
   simp only[Option.bind_some]
   cases b with
   |false=>
    simp only[Bool.false_eq_true,if_false,Option.bind_some]
    rw[←goD_eq ds _ ls cs]
    have e:(⟨s.env,s.heap⟩:St)=s:=rfl
    simp only[e]
    cases hr:recsD P call ds (s.put d.i.dst undefC) with
    |none=>rfl
    |some r=>obtain⟨rs,s'⟩:=r;simp only[Option.bind_some,chk,Bool.false_eq_true,if_false]
   |true=>
    simp only[if_true]
    cases stepOp P call none s.env s.heap d.i.op with
    |none=>rfl
    |some r=>
     simp only[Option.map_some,Option.bind_some]
     cases hc:d.cls with
     |pure=>
      simp only
      rw[←goD_eq ds _ ls cs]
      cases hr:recsD P call ds (St.put ⟨s.env,r.2⟩ d.i.dst r.1) with
      |none=>rfl
      |some q=>obtain⟨rs,s'⟩:=q;simp only[Option.bind_some,chk,if_true,hc]
     |load=>
      simp only
      have:=goD_eq (P:=P) (call:=call) (vals:=vals) ds (St.put ⟨s.env,r.2⟩ d.i.dst r.1) (⟨d,s.env,s.heap,r.1,r.2,true⟩::ls) cs
      rw[List.map_cons] at this
      rw[←this]
      cases hr:recsD P call ds (St.put ⟨s.env,r.2⟩ d.i.dst r.1) with
      |none=>simp
      |some q=>
       obtain⟨rs,s'⟩:=q
       simp only[Option.bind_some,chk,if_true,hc,allIn,Bool.and_eq_true]
       by_cases h1:(cs.all fun c=>d.anc.contains c)=true∧loadOk vals s.env d.i.op=true
       ·rw[if_pos h1]
        by_cases h2:chk vals rs (⟨d,s.env,s.heap,r.1,r.2,true⟩::ls) cs=true
        ·rw[if_pos ⟨h1,h2⟩,if_pos h2]
        ·rw[if_neg (fun h=>h2 h.2),if_neg h2]
       ·rw[if_neg h1,if_neg (fun h=>h1 h.1)]
     |chain=>
      simp only
      rw[←goD_eq ds _ ls (d.ix::cs)]
      cases hr:recsD P call ds (St.put ⟨s.env,r.2⟩ d.i.dst r.1) with
      |none=>simp
      |some q=>
       obtain⟨rs,s'⟩:=q
       have e:=fine_all ⟨d,s.env,s.heap,r.1,r.2,true⟩ d.anc ls
       simp only at e
       simp only[Option.bind_some,chk,if_true,hc,allIn,Bool.and_assoc]
       rw[←Bool.and_assoc (ls.all _),e]
       simp only[Bool.and_eq_true]
       by_cases h1:(cs.all fun c=>d.anc.contains c)=true∧fine d.anc s.env d.i.op s.heap r.2 (ls.map fun l=>(l.d.ix,seenOf l.env l.d.i.op))=true
       ·rw[if_pos h1]
        by_cases h2:chk vals rs ls (d.ix::cs)=true
        ·rw[if_pos ⟨h1.1,h1.2,h2⟩,if_pos h2]
        ·rw[if_neg (fun h=>h2 h.2.2),if_neg h2]
       ·rw[if_neg h1,if_neg (fun h=>h1 ⟨h.1,h.2.1⟩)]
section
variable {P:Program} {vals:FuncId→Bool} {call:CallF} {n:Nat} {e:Env} {h:Heap}
@[go_sem] theorem exec_draw' (ds:List D)(keep:List Nat):exec P vals call n (.draw ds keep) ⟨e,h⟩=(goD P vals call ds ⟨e,h⟩ [] []).bind fun s=>some (.normal,⟨keepE s.env keep,s.heap⟩):=by
 have:=goD_eq (P:=P) (vals:=vals) (call:=call) ds ⟨e,h⟩ [] []
 rw[List.map_nil] at this
 rw[←this]
 simp only[exec]
 cases recsD P call ds ⟨e,h⟩ with
 |none=>rfl
 |some r=>simp only[Option.bind_some];split<;>rfl
@[go_sem] theorem goD_nil (s:St)(ls:List (Nat×Seen))(cs:List Nat):goD P vals call [] s ls cs=some s:=rfl
@[go_sem] theorem goD_pure (ix:Nat)(d:Option Nat)(o:Op)(anc:List Nat)(ds:List D)(ls:List (Nat×Seen))(cs:List Nat):goD P vals call (⟨ix,⟨d,o,none⟩,anc,.pure⟩::ds) ⟨e,h⟩ ls cs=(stepOp P call none e h o).bind fun r=>goD P vals call ds (St.put ⟨e,r.2⟩ d r.1) ls cs:=rfl
@[go_sem] theorem goD_load (ix:Nat)(d:Option Nat)(o:Op)(anc:List Nat)(ds:List D)(ls:List (Nat×Seen))(cs:List Nat):goD P vals call (⟨ix,⟨d,o,none⟩,anc,.load⟩::ds) ⟨e,h⟩ ls cs=(stepOp P call none e h o).bind fun r=>if (allIn anc cs&&loadOk vals e o)=true then goD P vals call ds (St.put ⟨e,r.2⟩ d r.1) ((ix,seenOf e o)::ls) cs else none:=rfl
@[go_sem] theorem goD_chain (ix:Nat)(d:Option Nat)(o:Op)(anc:List Nat)(ds:List D)(ls:List (Nat×Seen))(cs:List Nat):goD P vals call (⟨ix,⟨d,o,none⟩,anc,.chain⟩::ds) ⟨e,h⟩ ls cs=(stepOp P call none e h o).bind fun r=>if (allIn anc cs&&fine anc e o h r.2 ls)=true then goD P vals call ds (St.put ⟨e,r.2⟩ d r.1) ls (ix::cs) else none:=rfl
@[go_sem] theorem goD_pureg (ix:Nat)(d:Option Nat)(o:Op)(t:Nat)(b:Bool)(anc:List Nat)(ds:List D)(ls:List (Nat×Seen))(cs:List Nat):goD P vals call (⟨ix,⟨d,o,some (t,b)⟩,anc,.pure⟩::ds) ⟨e,h⟩ ls cs=(wantedC e (some (t,b))).bind fun w=>if w=true then(stepOp P call none e h o).bind fun r=>goD P vals call ds (St.put ⟨e,r.2⟩ d r.1) ls cs else goD P vals call ds (St.put ⟨e,h⟩ d undefC) ls cs:=rfl
@[go_sem] theorem goD_loadg (ix:Nat)(d:Option Nat)(o:Op)(t:Nat)(b:Bool)(anc:List Nat)(ds:List D)(ls:List (Nat×Seen))(cs:List Nat):goD P vals call (⟨ix,⟨d,o,some (t,b)⟩,anc,.load⟩::ds) ⟨e,h⟩ ls cs=(wantedC e (some (t,b))).bind fun w=>if w=true then(stepOp P call none e h o).bind fun r=>if (allIn anc cs&&loadOk vals e o)=true then goD P vals call ds (St.put ⟨e,r.2⟩ d r.1) ((ix,seenOf e o)::ls) cs else none else goD P vals call ds (St.put ⟨e,h⟩ d undefC) ls cs:=rfl
@[go_sem] theorem goD_chaing (ix:Nat)(d:Option Nat)(o:Op)(t:Nat)(b:Bool)(anc:List Nat)(ds:List D)(ls:List (Nat×Seen))(cs:List Nat):goD P vals call (⟨ix,⟨d,o,some (t,b)⟩,anc,.chain⟩::ds) ⟨e,h⟩ ls cs=(wantedC e (some (t,b))).bind fun w=>if w=true then(stepOp P call none e h o).bind fun r=>if (allIn anc cs&&fine anc e o h r.2 ls)=true then goD P vals call ds (St.put ⟨e,r.2⟩ d r.1) ls (ix::cs) else none else goD P vals call ds (St.put ⟨e,h⟩ d undefC) ls cs:=rfl
end
end Go.Tm
namespace Go.Tm
def fin (P:Program)(rs:List ResultVar):Option (Ctl×St)→Option (C×Heap)
 |some (.exit _,_)=>none
 |some (.normal,st)=>(resC P st.env st.heap rs).map fun r=>(oneOr r,st.heap)
 |some (.ret,st)=>(resC P st.env st.heap rs).map fun r=>(oneOr r,st.heap)
 |none=>none
section
variable {P:Program} {rs:List ResultVar} {e:Env} {h:Heap}
@[go_sem] theorem fin_ret:fin P rs (some (.ret,⟨e,h⟩))=(resC P e h rs).map fun r=>(oneOr r,h):=rfl
@[go_sem] theorem fin_normal:fin P rs (some (.normal,⟨e,h⟩))=(resC P e h rs).map fun r=>(oneOr r,h):=rfl
@[go_sem] theorem resC_nil:resC P e h []=some []:=rfl
@[go_sem] theorem resC_tmp (t:Nat)(r:List ResultVar):resC P e h (.tmp t::r)=(look e t).bind fun c=>(resC P e h r).bind fun cs=>some (c::cs):=rfl
@[go_sem] theorem oneOr_one (c:C):oneOr [c]=c:=rfl
@[go_sem] theorem oneOr_none:oneOr []=.tup []:=rfl
@[go_sem] theorem oneOr_two (a b:C)(r:List C):oneOr (a::b::r)=.tup (a::b::r):=rfl
@[go_sem] theorem enterE_nil (i:Nat):enterE i []=[]:=rfl
@[go_sem] theorem enterE_cons (i:Nat)(c:C)(r:List C):enterE i (c::r)=(i,c)::enterE (i+1) r:=rfl
@[go_sem] theorem view_undef {cl:Bool}{n:Nat}:view cl h (n+1) (.tup [])=some (.tup []):=rfl
end
theorem body_fin {P:Program}{vals:FuncId→Bool}{call:CallF}{n:Nat}{fn:Go.Func}{K:K}{cs:List C}{h:Heap}{N:Nat}{rs:List ResultVar}(hN:fn.ntmps=N)(hr:fn.results.toList=rs)(hl:cs.length≤N):
  body P vals call n fn K cs h=fin P rs (exec P vals call n K ⟨enterE 0 cs,h⟩):=by
 unfold body
 rw[if_pos (by rw[hN];exact hl),hr]
 cases exec P vals call n K ⟨enterE 0 cs,h⟩ with
 |none=>rfl
 |some r=>obtain⟨c,st⟩:=r;cases c<;>rfl
theorem Runs.by {P:Program}{tab:Tab}{f:FuncId}{fn:Go.Func}{K:K}{vs:List C}{r:C}{N:Nat}{rs:List ResultVar}(h1:tab f=some (K,.val))(h2:P.funcs[f]?=some fn)(hN:fn.ntmps=N)(hr:fn.results.toList=rs)(hl:vs.length≤N)
  {k0:Nat}(h:∀k,k0≤k→∃c h,fin P rs (exec P (valsOf tab) (callAt P tab k) k K ⟨enterE 0 vs,[]⟩)=some (c,h)∧view true h depth c=some r):Runs P tab (k0+1) f vs r:=
 Runs.of h1 h2 fun k hk=>by
  obtain⟨c,h',e,hv⟩:=h k hk
  exact⟨c,h',by rw[body_fin hN hr hl];exact e,hv⟩
end Go.Tm
attribute [go_sem] Go.Tm.Tab.t Go.Tm.Tab.n Go.Tm.Tab.T Go.Tm.Tab.F Go.Tm.Tab.nil Go.Tm.Tab.i Go.Tm.Tab.j Go.Tm.Tab.g Go.Tm.Tab.mv Go.Tm.Tab.sv Go.Tm.Tab.gv Go.Tm.Tab.bn Go.Tm.Tab.bt Go.Tm.Tab.lo Go.Tm.Tab.fl Go.Tm.Tab.xa Go.Tm.Tab.ln if_true if_false Option.bind_some Option.map_some Option.bind_none Option.map_none Bool.and_true Bool.true_and Bool.or_true Bool.true_or Bool.and_self Bool.or_self Bool.false_or Bool.or_false
attribute [go_sem] List.set_cons_zero List.set_cons_succ
namespace Go.Tm
theorem drop_rd {xs:List Int}{i:Nat}(h:i<xs.length):xs.drop i=rd xs i::xs.drop (i+1):=by
 rw[List.drop_eq_getElem_cons h]
 simp[rd,List.getD_eq_getElem?_getD,List.getElem?_eq_getElem h]
theorem wrap_next {n i:Nat}(h:i<n)(hn:n<2^62):IntKind.i64.wrap ((i:Int)+1)=((i+1:Nat):Int):=by rw[wrap_in (by omega) (by omega)];omega
def Grow (h:Heap)(c:C)(out:List Int):Prop:=(out=[]∧c=.v (.slice none 0 0))∨(∃l,c=.os l 0 out.length none∧h[l]?=some (.row 1 (out.map int)))
theorem Grow.view {h:Heap}{c:C}{out:List Int}(H:Grow h c out){cl:Bool}{n:Nat}:view cl h (n+2) c=some (ints out):=by
 rcases H with ⟨rfl,rfl⟩|⟨l,rfl,hl⟩
 ·rfl
 ·exact view_os_ints hl
theorem Grow.mono {h h':Heap}{c:C}{out:List Int}(H:Grow h c out)(hh:∀(l:Nat) (nd:Node),h[l]?=some nd→h'[l]?=some nd):Grow h' c out:=by
 rcases H with h|⟨l,hc,hl⟩
 ·exact .inl h
 ·exact .inr ⟨l,hc,hh _ _ hl⟩
theorem Grow.append {h:Heap}{c:C}{out:List Int}(H:Grow h c out)(v:Int)(hn:out.length<maxRow):
  ∃c' h',appendTo h none 1 1 [int v] c=some (c',h')∧Grow h' c' (out++[v])∧c'=.os h.length 0 (out.length+1) none∧∀(l:Nat) (nd:Node),h[l]?=some nd→(∀o k,c≠ .os l 0 o k)→h'[l]?=some nd:=by
 rcases H with ⟨rfl,rfl⟩|⟨l,rfl,hl⟩
 ·refine⟨_,_,by simp only[appendTo];rw[if_neg (by decide),if_pos (by decide)];rfl,.inr ⟨_,rfl,?_⟩,rfl,fun l nd hl _=>?_⟩
  ·simp[newRow,new]
  ·simp only[newRow,new];rw[List.getElem?_append_left (List.getElem?_eq_some_iff.1 hl).1];exact hl
 ·have hlt:=(List.getElem?_eq_some_iff.1 hl).1
  refine⟨_,_,by simp only[appendTo,hl];rw[if_pos ⟨trivial,hn⟩];simp only[Nat.one_ne_zero,if_false,Nat.zero_add,Nat.mul_one,List.length_map];rw[if_neg (by omega),if_true],.inr ⟨h.length,by simp[newRow,new],?_⟩,by simp[newRow,new],fun l' nd hl' hne=>?_⟩
  ·simp[newRow,new]
  ·simp only[newRow,new]
   have e:l≠l':=fun e=>hne _ _ (by rw[e])
   rw[List.getElem?_append_left (by rw[List.length_set];exact(List.getElem?_eq_some_iff.1 hl').1),List.getElem?_set_ne e]
   exact hl'
def addTo (n:Nat)(out:List Int)(t:Int):List Int:=if 0≤t∧t<(n:Int)∧t ∉ out then out++[t] else out
def lastI (l:List Block)(b:Int):Ins:=insAt (blkAt l b).ins (((blkAt l b).ins.length:Int)-1)
def goes (l:List Block)(b:Int):Prop:=0≤b∧b<(l.length:Int)∧(blkAt l b).ins≠[]∧((lastI l b).op=27∨(lastI l b).op=28)
open Classical in
noncomputable def nextOf (l:List Block) (b:Int):List Int:=if goes l b then(lastI l b).into.foldl (addTo l.length) [] else[]
theorem addTo_len {n:Nat}{out:List Int}{t:Int}:(addTo n out t).length≤out.length+1:=by unfold addTo;split<;>simp
end Go.Tm
namespace Go.Tm
@[go_sem] theorem rep_zero (z:List C):rep 0 z=[]:=rfl
@[go_sem] theorem rep_succ (n:Nat)(z:List C):rep (n+1) z=z++rep n z:=rfl
@[go_sem] theorem put_zero (cs ys:List C):put cs 0 ys=ys++cs.drop ys.length:=by simp[put]
@[go_sem] theorem put_succ (c:C)(cs ys:List C)(k:Nat):put (c::cs) (k+1) ys=c::put cs k ys:=by
 simp only[put,List.take_succ_cons,List.cons_append,show k+1+ys.length=(k+ys.length)+1 by omega,List.drop_succ_cons]
@[go_sem] theorem takeN_zero (cs:List C):takeN 0 cs=some []:=by simp[takeN]
@[go_sem] theorem takeN_succ (n:Nat)(c:C)(cs:List C):takeN (n+1) (c::cs)=(takeN n cs).map (c:: ·):=by
 unfold takeN
 by_cases h:n≤cs.length
 ·rw[if_pos h,if_pos (by simpa using h)];rfl
 ·rw[if_neg h,if_neg (by simpa using h)];rfl
def rowSrc (s len off:Nat):Option Node→Option (Nat×List C)
 |some (.row _ cs)=>(takeN (len*s) (cs.drop off)).map fun xs=>(len,xs)
 |_=>none
@[go_sem] theorem srcOf_os (h:Heap)(s l off len:Nat)(cap:Option Nat):srcOf h s (.os l off len cap)=rowSrc s len off h[l]?:=by
 simp only[srcOf,rowSrc];rfl
@[go_sem] theorem rowSrc_row (s len off e:Nat)(cs:List C):rowSrc s len off (some (.row e cs))=(takeN (len*s) (cs.drop off)).map fun xs=>(len,xs):=rfl
@[go_sem] theorem srcOf_fs (h:Heap)(s len:Nat)(xs:List C)(cap:Option Nat):srcOf h s (.fs xs len cap)=(takeN (len*s) xs).map fun ys=>(len,ys):=rfl
@[go_sem] theorem srcOf_nil (h:Heap)(s:Nat):srcOf h s (.v (.slice none 0 0))=some (0,[]):=rfl
@[go_sem] theorem get_new (h:Heap)(nd:Node):(h++[nd])[h.length]?=some nd:=by simp
attribute [go_sem] Nat.zero_mul Nat.mul_one Nat.one_mul Nat.zero_add Nat.add_zero and_true true_and and_self List.all_cons List.all_nil List.cons_append List.nil_append List.drop_nil List.append_nil Nat.reduceMul Nat.reduceAdd Nat.reduceEqDiff reduceIte Bool.not_true Bool.not_false eq_self Bool.false_eq_true decide_true decide_false
end Go.Tm
namespace Go.Tm
@[congr] theorem bind_turn {α β:Type}{x y:Option α}{f:α→Option β}(h:x=y):x.bind f=y.bind f:=by rw[h]
@[congr] theorem ite_turn {α:Type}{c d:Prop}[Decidable c][Decidable d]{a b:α}(h:c=d):(if c then a else b)=(if d then a else b):=by subst h;congr
@[congr] theorem andThen_turn {x y:Option (Ctl×St)}{f:St→Option (Ctl×St)}(h:x=y):andThen x f=andThen y f:=by rw[h]
end Go.Tm
namespace Go.Tm
def locC:C→Option Nat
 | .os l _ _ _=>some l
 |_=>none
def viewRow (f:C→Option C)(off len:Nat):Option Node→Option C
 |some (.row e cs)=>(takeN (len*e) (cs.drop off)).bind fun xs=>(mapC f xs).bind fun ys=>some (.fs ys len none)
 |_=>none
theorem view_os_eq {cl:Bool}{h:Heap}{n l off len:Nat}{cap:Option Nat}:view cl h (n+1) (.os l off len cap)=if len=0 then some (.fs [] 0 none) else viewRow (view cl h n) off len h[l]?:=by
 simp only[view,viewRow];rfl
structure Rows (h:Heap)(r:Nat)(cells:List C)(acc:List (List Int)):Prop where
 at_:h[r]?=some (.row 1 cells)
 len:cells.length=acc.length
 each:∀(j:Nat) (c:C),cells[j]?=some c→Grow h c (acc.getD j [])
 far:∀(j l:Nat),cells[j]?.bind locC=some l→r<l
 apart:∀(j k l:Nat),cells[j]?.bind locC=some l→cells[k]?.bind locC=some l→j=k
theorem Grow.mono' {h h':Heap}{c:C}{out:List Int}(H:Grow h c out)(hh:∀(l:Nat) (nd:Node),h[l]?=some nd→c=.os l 0 out.length none→h'[l]?=some nd):Grow h' c out:=by
 rcases H with h|⟨l,hc,hl⟩
 ·exact .inl h
 ·exact .inr ⟨l,hc,hh _ _ hl hc⟩
theorem Grow.cell {h:Heap}{c:C}{out:List Int}(H:Grow h c out):c.isCell=true:=by rcases H with ⟨_,rfl⟩|⟨l,rfl,_⟩<;>rfl
theorem Rows.view {h:Heap}{r:Nat}{cells:List C}{acc:List (List Int)}(H:Rows h r cells acc){cl:Bool}{n:Nat}{cap:Option Nat}:view cl h (n+3) (.os r 0 acc.length cap)=some (rows acc):=by
 by_cases h0:acc.length=0
 ·have:acc=[]:=List.length_eq_zero_iff.1 h0
  subst this
  rfl
 have hm:∀(cs:List C) (as:List (List Int)),cs.length=as.length→(∀(j:Nat) (c:C),cs[j]?=some c→Grow h c (as.getD j []))→mapC (Tm.view cl h (n+2)) cs=some (as.map ints):=by
  intro cs
  induction cs with
  |nil=>intro as hl _;cases as with|nil=>rfl|cons a as=>simp at hl
  |cons c cs ih=>
   intro as hl he
   cases as with
   |nil=>simp at hl
   |cons a as=>
    have h1:=he 0 c rfl
    have h2:=ih as (by simpa using hl) (fun j d hd=>by simpa using he (j+1) d (by simpa using hd))
    simp only[List.getD_cons_zero] at h1
    simp[mapC,h1.view,h2]
 rw[view_os_eq,if_neg h0,H.at_]
 simp only[viewRow,List.drop_zero,takeN,Nat.mul_one]
 rw[if_pos (by rw[H.len];exact Nat.le_refl _),List.take_of_length_le (by rw[H.len];exact Nat.le_refl _)]
 simp only[Option.bind_some,hm _ _ H.len H.each]
 rfl
theorem Rows.append {h:Heap}{r:Nat}{cells:List C}{acc:List (List Int)}(H:Rows h r cells acc){j:Nat}(hj:j<acc.length)(v:Int)(hn:(acc.getD j []).length<maxRow):
  ∃c c' h',cells[j]?=some c∧appendTo (h++[.row 1 [int v]]) none 1 1 [int v] c=some (c',h')∧h'[r]?=some (.row 1 cells)∧c'.cells=[c']∧c'.isCell=true∧j<cells.length∧
   Rows (h'.set r (.row 1 (cells.set j c'))) r (cells.set j c') (acc.set j (acc.getD j []++[v]))∧(∀(l:Nat) (nd:Node),l<r→h[l]?=some nd→(h'.set r (.row 1 (cells.set j c')))[l]?=some nd):=by
 have hlt:j<cells.length:=by rw[H.len];exact hj
 have hc:cells[j]?=some cells[j]:=List.getElem?_eq_getElem hlt
 have hr:=(List.getElem?_eq_some_iff.1 H.at_).1
 have up:∀(l:Nat) (nd:Node),h[l]?=some nd→(h++[Node.row 1 [int v]])[l]?=some nd:=fun l nd e=>by rw[List.getElem?_append_left (List.getElem?_eq_some_iff.1 e).1];exact e
 have hg:=(H.each j _ hc).mono up
 obtain⟨c',h',g1,g2,g3,g4⟩:=hg.append v hn
 have ne:∀l,l≤r→∀o k,cells[j]≠ .os l 0 o k:=fun l hl o k e=>by
  have:=H.far j l (by rw[hc,e];rfl)
  omega
 have hr':h'[r]?=some (.row 1 cells):=g4 r _ (up r _ H.at_) (ne r (Nat.le_refl _))
 have hrl:=(List.getElem?_eq_some_iff.1 hr').1
 have hset:∀(l:Nat) (nd:Node),l≠r→h'[l]?=some nd→(h'.set r (.row 1 (cells.set j c')))[l]?=some nd:=fun l nd hl e=>by rw[List.getElem?_set_ne (Ne.symm hl)];exact e
 refine⟨_,c',h',hc,g1,hr',by rw[g3];rfl,g2.cell,hlt,⟨?_,by simp[H.len],fun k d hd=>?_,fun k l hk=>?_,fun k k2 l hk hk2=>?_⟩,fun l nd hl e=>hset _ _ (by omega) (g4 l nd (up l nd e) (ne l (by omega)))⟩
 ·rw[List.getElem?_set_self hrl]
 ·by_cases e:j=k
  ·subst e
   rw[List.getElem?_set_self hlt] at hd
   cases hd
   rw[List.getD_eq_getElem?_getD,List.getElem?_set_self hj,Option.getD_some]
   refine g2.mono' fun l nd hl hq=>hset l nd ?_ hl
   rw[g3] at hq
   simp only[C.os.injEq] at hq
   have:=hq.1
   rw[List.length_append] at this
   simp at this
   omega
  ·rw[List.getElem?_set_ne e] at hd
   rw[List.getD_eq_getElem?_getD,List.getElem?_set_ne e,←List.getD_eq_getElem?_getD]
   have hk:=H.each k d hd
   refine hk.mono' fun l nd hl hq=>hset l nd ?_ (g4 l nd (up l nd hl) fun o q e2=>?_)
   ·have:=H.far k l (by rw[hd,hq];rfl)
    omega
   ·exact e (H.apart j k l (by rw[hc,e2];rfl) (by rw[hd,hq];rfl))
 ·by_cases e:j=k
  ·subst e
   rw[List.getElem?_set_self hlt,g3] at hk
   simp only[Option.bind_some,locC,Option.some.injEq,List.length_append,List.length_cons,List.length_nil] at hk
   omega
  ·rw[List.getElem?_set_ne e] at hk
   exact H.far k l hk
 ·have old:∀(k:Nat),k≠j→cells[k]?.bind locC=some l→l<h.length:=fun k _ hk=>by
   cases hd:cells[k]? with
   |none=>rw[hd] at hk;cases hk
   |some d=>
    rw[hd] at hk
    simp only[Option.bind_some] at hk
    rcases H.each k d hd with ⟨_,rfl⟩|⟨l',rfl,hl'⟩
    ·cases hk
    ·cases hk;exact(List.getElem?_eq_some_iff.1 hl').1
  have nw:∀(k:Nat),k=j→(cells.set j c')[k]?.bind locC=some l→h.length<l:=fun k ek hk=>by
   subst ek
   rw[List.getElem?_set_self hlt,g3] at hk
   simp only[Option.bind_some,locC,Option.some.injEq,List.length_append,List.length_cons,List.length_nil] at hk
   omega
  by_cases e:k=j
  ·by_cases e2:k2=j
   ·omega
   ·have:=nw k e hk
    rw[List.getElem?_set_ne (Ne.symm e2)] at hk2
    have:=old k2 e2 hk2
    omega
  ·by_cases e2:k2=j
   ·have:=nw k2 e2 hk2
    rw[List.getElem?_set_ne (Ne.symm e)] at hk
    have:=old k e hk
    omega
   ·rw[List.getElem?_set_ne (Ne.symm e)] at hk
    rw[List.getElem?_set_ne (Ne.symm e2)] at hk2
    exact H.apart k k2 l hk hk2
end Go.Tm
namespace Go.Tm
@[go_sem] theorem isNilC_op (l o:Nat):isNilC (.op l o)=some false:=rfl
@[go_sem] theorem isNilC_fp (xs:List C):isNilC (.fp xs)=some false:=rfl
def walkRow (f:Func)(s:Nat)(c:C)(lp:Bool):List C:=[str f.name,bool f.out,ints f.params,int f.result,blocks f.blocks,.os s 0 f.blocks.length (some f.blocks.length),c,bool lp]
structure Walk (h:Heap)(w s:Nat)(f:Func)(ls lo:List Int)(lp:Bool)(c:C):Prop where
 at_:h[w]?=some (.row 0 (walkRow f s c lp))
 st:h[s]?=some (.row 1 (ls.map int))
 out:Grow h c lo
 len:ls.length=f.blocks.length
 lt:s<w
 far:∀l,locC c=some l→w<l
def Keep (s:Nat)(h h':Heap):Prop:=∀(l:Nat),l<s→h'[l]?=h[l]?
theorem Keep.trans {s:Nat}{h h' h2:Heap}(a:Keep s h h')(b:Keep s h' h2):Keep s h h2:=fun l hl=>by rw[b l hl,a l hl]
theorem Keep.refl (s:Nat)(h:Heap):Keep s h h:=fun _ _=>rfl
section
variable {h:Heap} {w s:Nat} {f:Func} {ls lo:List Int} {lp:Bool} {c:C}
theorem Walk.state (W:Walk h w s f ls lo lp c){k:Nat}(hk:k<ls.length)(v:Int):∃h1,storeR h s k 1 (some (.row 1 (ls.map int))) [int v]=some h1∧Walk h1 w s f (ls.set k v) lo lp c∧Keep s h h1:=by
 have hs:=(List.getElem?_eq_some_iff.1 W.st).1
 refine⟨_,by rw[storeR_row,if_pos ⟨rfl,by simp;omega,rfl⟩,put_map hk],⟨?_,?_,?_,by simp[W.len],W.lt,W.far⟩,fun l hl=>List.getElem?_set_ne (by omega)⟩
 ·rw[List.getElem?_set_ne (by have:=W.lt;omega)];exact W.at_
 ·rw[List.getElem?_set_self hs]
 ·refine W.out.mono' fun l nd hl hq=>?_
  have:=W.far l (by rw[hq];rfl)
  rw[List.getElem?_set_ne (by have:=W.lt;omega)];exact hl
theorem Walk.setRow (W:Walk h w s f ls lo lp c){c':C}{lp':Bool}{lo':List Int}(ho:Grow h c' lo')(hf:∀l,locC c'=some l→w<l):Walk (h.set w (.row 0 (walkRow f s c' lp'))) w s f ls lo' lp' c'∧Keep s h (h.set w (.row 0 (walkRow f s c' lp'))):=by
 have hw:=(List.getElem?_eq_some_iff.1 W.at_).1
 refine⟨⟨List.getElem?_set_self hw,?_,?_,W.len,W.lt,hf⟩,fun l hl=>List.getElem?_set_ne (by have:=W.lt;omega)⟩
 ·rw[List.getElem?_set_ne (by have:=W.lt;omega)];exact W.st
 ·refine ho.mono' fun l nd hl hq=>?_
  have:=hf l (by rw[hq];rfl)
  rw[List.getElem?_set_ne (by omega)];exact hl
theorem Walk.round (W:Walk h w s f ls lo lp c):∃h1,storeR h w 7 1 (some (.row 0 (walkRow f s c lp))) [bool true]=some h1∧Walk h1 w s f ls lo true c∧Keep s h h1:=
 ⟨_,by rw[storeR_row,if_pos ⟨rfl,by simp[walkRow],rfl⟩];rfl,W.setRow W.out W.far⟩
theorem Walk.done (W:Walk h w s f ls lo lp c)(b:Int)(hn:lo.length<maxRow):∃c1 h1 h2,appendTo (h++[.row 1 [int b]]) none 1 1 [int b] c=some (c1,h1)∧c1.cells=[c1]∧h1[w]?=some (.row 0 (walkRow f s c lp))∧storeR h1 w 6 1 (some (.row 0 (walkRow f s c lp))) [c1]=some h2∧Walk h2 w s f ls (lo++[b]) lp c1∧Keep s h h2:=by
 have up:∀(l:Nat) (nd:Node),h[l]?=some nd→(h++[Node.row 1 [int b]])[l]?=some nd:=fun l nd e=>by rw[List.getElem?_append_left (List.getElem?_eq_some_iff.1 e).1];exact e
 obtain⟨c1,h1,g1,g2,g3,g4⟩:=(W.out.mono up).append b hn
 have ne:∀l,l≤w→∀o k,c≠ .os l 0 o k:=fun l hl o k e=>by
  have:=W.far l (by rw[e];rfl)
  omega
 have hw:=g4 w _ (up _ _ W.at_) (ne w (Nat.le_refl _))
 have hs:=g4 s _ (up _ _ W.st) (ne s (Nat.le_of_lt W.lt))
 have hf:∀l,locC c1=some l→w<l:=fun l hl=>by
  rw[g3] at hl
  simp only[locC,Option.some.injEq,List.length_append,List.length_cons,List.length_nil] at hl
  have:=(List.getElem?_eq_some_iff.1 W.at_).1
  omega
 have W1:Walk h1 w s f ls (lo++[b]) lp c→True:=fun _=>trivial
 have hwl:=(List.getElem?_eq_some_iff.1 hw).1
 refine⟨c1,h1,h1.set w (.row 0 (walkRow f s c1 lp)),g1,by rw[g3];rfl,hw,by rw[storeR_row,if_pos ⟨rfl,by simp[walkRow],by simp[g2.cell]⟩];rfl,⟨List.getElem?_set_self hwl,?_,?_,W.len,W.lt,hf⟩,fun l hl=>?_⟩
 ·rw[List.getElem?_set_ne (by have:=W.lt;omega)];exact hs
 ·refine g2.mono' fun l nd hl hq=>?_
  have:=hf l (by rw[hq];rfl)
  rw[List.getElem?_set_ne (by omega)];exact hl
 ·have hlw:l<h.length:=by have:=(List.getElem?_eq_some_iff.1 W.st).1;omega
  have e:h[l]?=some h[l]:=List.getElem?_eq_getElem hlw
  rw[List.getElem?_set_ne (by have:=W.lt;omega),e]
  exact g4 l _ (up _ _ e) (ne l (by have:=W.lt;omega))
end
theorem ref_call {P:Program}{tab:Tab}{f:FuncId}{fn:Go.Func}{K:K}{N:Nat}{rs:List ResultVar}(h1:tab f=some (K,.ref))(h2:P.funcs[f]?=some fn)(hN:fn.ntmps=N)(hr:fn.results.toList=rs){cs:List C}(hl:cs.length≤N)(k:Nat)(h:Heap):
  callAt P tab (k+1) f cs h=fin P rs (exec P (valsOf tab) (callAt P tab k) k K ⟨enterE 0 cs,h⟩):=by
 simp only[callAt,h1,h2]
 exact body_fin hN hr hl
end Go.Tm
namespace Go.Tm
section
variable {P:Program} {vals:FuncId→Bool} {call call':CallF} (hc:∀f cs h r,call f cs h=some r→call' f cs h=some r)
include hc
theorem stepOp_more {al:Option Nat}{e:Env}{h:Heap}{o:Op}{r:C×Heap}(H:stepOp P call al e h o=some r):stepOp P call' al e h o=some r:=by
 cases o with
 |call c=>
  obtain⟨f,args,ats⟩:=c
  cases f with
  |builtin b=>cases b<;>exact H
  |value f=>
   simp only[stepOp,Option.bind_eq_bind,Option.bind_eq_some_iff] at H⊢
   obtain⟨q,h1,cs,h2,h3⟩:=H
   exact⟨q,h1,cs,h2,hc _ _ _ _ h3⟩
  |_=>exact H
 |makeMap t r=>cases r<;>exact H
 |_=>exact H
theorem stepI_more {al:Option Nat}{i:I}{s s':St}(H:stepI P call al i s=some s'):stepI P call' al i s=some s':=by
 simp only[stepI,Option.bind_eq_bind,Option.bind_eq_some_iff] at H⊢
 obtain⟨b,h1,h2⟩:=H
 refine⟨b,h1,?_⟩
 split at h2
 ·rename_i hb
  rw[if_pos hb]
  simp only[Option.map_eq_some_iff] at h2⊢
  obtain⟨r,h3,h4⟩:=h2
  exact⟨r,stepOp_more hc h3,h4⟩
 ·rename_i hb;rw[if_neg hb];exact h2
theorem runI_more:∀{is:List I} {s s':St},runI P call is s=some s'→runI P call' is s=some s'
 |[],s,s',H=>H
 |i::is,s,s',H=>by
  simp only[runI,Option.bind_eq_bind,Option.bind_eq_some_iff] at H⊢
  obtain⟨q,h1,h2⟩:=H
  exact⟨q,stepI_more hc h1,runI_more h2⟩
theorem goD_more:∀{ds:List D} {s s':St} {ls:List (Nat×Seen)} {cs:List Nat},goD P vals call ds s ls cs=some s'→goD P vals call' ds s ls cs=some s'
 |[],s,s',ls,cs,H=>H
 |d::ds,s,s',ls,cs,H=>by
  simp only[goD,Option.bind_eq_some_iff] at H⊢
  obtain⟨b,h1,h2⟩:=H
  refine⟨b,h1,?_⟩
  split at h2
  ·rename_i hb
   rw[if_pos hb]
   simp only[Option.bind_eq_some_iff] at h2⊢
   obtain⟨r,h3,h4⟩:=h2
   refine⟨r,stepOp_more hc h3,?_⟩
   cases hcl:d.cls with
   |pure=>rw[hcl] at h4;exact goD_more h4
   |load=>
    rw[hcl] at h4
    simp only at h4⊢
    split at h4
    ·rename_i hq;rw[if_pos hq];exact goD_more h4
    ·cases h4
   |chain=>
    rw[hcl] at h4
    simp only at h4⊢
    split at h4
    ·rename_i hq;rw[if_pos hq];exact goD_more h4
    ·cases h4
  ·rename_i hb;rw[if_neg hb];exact goD_more h2
omit hc in
theorem andThen_more {a a':Option (Ctl×St)}{k k':St→Option (Ctl×St)}{r:Ctl×St}(h1:∀r,a=some r→a'=some r)(h2:∀s r,k s=some r→k' s=some r)(H:andThen a k=some r):andThen a' k'=some r:=by
 cases ha:a with
 |none=>rw[ha] at H;cases H
 |some q=>
  rw[h1 q ha]
  rw[ha] at H
  obtain⟨c,s⟩:=q
  cases c with
  |normal=>exact h2 s r H
  |exit id=>exact H
  |ret=>exact H
omit hc in
theorem iter_more {b b':St→Option (Ctl×St)}(hb:∀s r,b s=some r→b' s=some r):∀{n n':Nat} {s:St} {r:Ctl×St},n≤n'→iter b n s=some r→iter b' n' s=some r
 |0,_,_,_,_,H=>by cases H
 |n+1,n',s,r,hn,H=>by
  obtain⟨n',rfl⟩:∃p,n'=p+1:=⟨n'-1,by omega⟩
  exact andThen_more (hb s) (fun s r h=>iter_more hb (by omega) h) H
theorem exec_more {n n':Nat}(hn:n≤n'):∀{K:K} {s:St} {r:Ctl×St},exec P vals call n K s=some r→exec P vals call' n' K s=some r
 | .skip,s,r,H=>H
 | .reg ops keep,s,r,H=>by
  simp only[exec,Option.map_eq_some_iff] at H⊢
  obtain⟨q,h1,h2⟩:=H
  exact⟨q,runI_more hc h1,h2⟩
 | .draw ds keep,⟨e,h⟩,r,H=>by
  rw[exec_draw'] at H⊢
  simp only[Option.bind_eq_some_iff] at H⊢
  obtain⟨q,h1,h2⟩:=H
  exact⟨q,goD_more hc h1,h2⟩
 | .seq a b,s,r,H=>andThen_more (fun r h=>exec_more hn h) (fun s r h=>exec_more hn h) H
 | .cond c a b,s,r,H=>by
  simp only[exec,Option.bind_eq_some_iff] at H⊢
  obtain⟨t,h1,h2⟩:=H
  refine⟨t,h1,?_⟩
  split at h2
  ·rename_i hb;rw[if_pos hb];exact exec_more hn h2
  ·rename_i hb;rw[if_neg hb];exact exec_more hn h2
 | .block id a,s,r,H=>by
  simp only[exec] at H⊢
  cases ha:exec P vals call n a s with
  |none=>rw[ha] at H;cases H
  |some q=>rw[exec_more hn ha];rw[ha] at H;exact H
 | .loop keep a,s,r,H=>iter_more (fun s r h=>exec_more hn h) hn H
 | .exit id,s,r,H=>H
 | .ret,s,r,H=>H
theorem body_more {n n':Nat}(hn:n≤n'){fn:Go.Func}{K:K}{cs:List C}{h:Heap}{r:C×Heap}(H:body P vals call n fn K cs h=some r):body P vals call' n' fn K cs h=some r:=by
 unfold body at H⊢
 split at H
 ·rename_i hl
  rw[if_pos hl]
  cases he:exec P vals call n K ⟨enterE 0 cs,h⟩ with
  |none=>rw[he] at H;cases H
  |some q=>rw[exec_more hc hn he];rw[he] at H;exact H
 ·cases H
end
theorem callAt_more {P:Program}{tab:Tab}:∀{n n':Nat},n≤n'→∀f cs h r,callAt P tab n f cs h=some r→callAt P tab n' f cs h=some r
 |0,_,_,_,_,_,_,H=>by cases H
 |n+1,n',hn,f,cs,h,r,H=>by
  obtain⟨n',rfl⟩:∃p,n'=p+1:=⟨n'-1,by omega⟩
  have ih:=callAt_more (P:=P) (tab:=tab) (n:=n) (n':=n') (by omega)
  have hb:∀(fn:Go.Func) (K:K) cs h r,body P (valsOf tab) (callAt P tab n) n fn K cs h=some r→body P (valsOf tab) (callAt P tab n') n' fn K cs h=some r:=fun fn K cs h r H=>body_more ih (by omega) H
  simp only[callAt] at H⊢
  cases ht:tab f with
  |none=>rw[ht] at H;cases H
  |some km=>
   cases hf:P.funcs[f]? with
   |none=>rw[ht,hf] at H;cases H
   |some fn=>
    rw[ht,hf] at H
    obtain⟨k,m⟩:=km
    cases m with
    |ref=>exact hb _ _ _ _ _ H
    |val=>
     simp only[byVal] at H⊢
     cases hv:mapC (view false [] depth) cs with
     |some vs=>
      rw[hv] at H
      simp only[Option.map_eq_some_iff,Option.bind_eq_some_iff] at H⊢
      obtain⟨c,⟨q,h1,h2⟩,h3⟩:=H
      exact⟨c,⟨q,hb _ _ _ _ _ h1,h2⟩,h3⟩
     |none=>
      rw[hv] at H
      simp only[Option.map_eq_some_iff,Option.bind_eq_some_iff] at H⊢
      obtain⟨c,⟨vs,h0,q,h1,h2⟩,h3⟩:=H
      exact⟨c,⟨vs,h0,q,hb _ _ _ _ _ h1,h2⟩,h3⟩
    |keep=>
     simp only[byValN] at H⊢
     cases hv:mapC (viewN false [] depth) cs with
     |some vs=>
      rw[hv] at H
      simp only[Option.map_eq_some_iff,Option.bind_eq_some_iff] at H⊢
      obtain⟨c,⟨q,h1,h2⟩,h3⟩:=H
      exact⟨c,⟨q,hb _ _ _ _ _ h1,h2⟩,h3⟩
     |none=>
      rw[hv] at H
      simp only[Option.map_eq_some_iff,Option.bind_eq_some_iff] at H⊢
      obtain⟨c,⟨vs,h0,q,h1,h2⟩,h3⟩:=H
      exact⟨c,⟨vs,h0,q,hb _ _ _ _ _ h1,h2⟩,h3⟩
theorem Runs.known {P:Program}{tab:Tab}{f:FuncId}{K:K}{c:C}{k0:Nat}(h1:tab f=some (K,.val))(H:callAt P tab k0 f [] []=some (c,[])):Runs P tab k0 f [] c:=fun k hk cs h hv=>by
 have hcs:cs=[]:=by
  cases cs with
  |nil=>rfl
  |cons a b=>
   simp only[mapC,Option.bind_eq_bind,Option.bind_eq_some_iff] at hv
   obtain⟨_,_,_,_,h3⟩:=hv
   cases h3
 subst hcs
 have:=callAt_more hk _ _ _ _ H
 cases k with
 |zero=>cases this
 |succ k=>
  simp only[callAt,h1] at this⊢
  cases hf:P.funcs[f]? with
  |none=>rw[hf] at this;cases this
  |some fn=>
   rw[hf] at this
   simp only[byVal,mapC,Option.map_eq_some_iff,Prod.mk.injEq,and_true] at this⊢
   exact this
end Go.Tm
namespace Go.Tm
def Stack (h:Heap)(c:C)(xs:List Int):Prop:=(xs=[]∧c=.v (.slice none 0 0))∨∃l cells,c=.os l 0 xs.length none∧h[l]?=some (.row 1 cells)∧xs.length≤cells.length∧cells.take xs.length=xs.map int∧l≠0
theorem Stack.len {h:Heap}{c:C}{xs:List Int}(H:Stack h c xs):lenS c=some (int xs.length):=by
 rcases H with ⟨rfl,rfl⟩|⟨l,cells,rfl,_⟩<;>rfl
theorem Stack.mono {h h':Heap}{c:C}{xs:List Int}(H:Stack h c xs)(hh:∀(l:Nat) (nd:Node),l≠0→h[l]?=some nd→h'[l]?=some nd):Stack h' c xs:=by
 rcases H with H|⟨l,cells,h1,h2,h3,h4,h5⟩
 ·exact .inl H
 ·exact .inr ⟨l,cells,h1,hh _ _ h5 h2,h3,h4,h5⟩
theorem Stack.push {h:Heap}{c:C}{xs:List Int}(H:Stack h c xs)(v:Int)(hn:xs.length<maxRow)(h0:0<h.length):
  ∃c' h',appendTo (h++[.row 1 [int v]]) none 1 1 [int v] c=some (c',h')∧Stack h' c' (xs++[v])∧h'[0]?=h[0]?:=by
 have e0:∀nd:Node,(h++[nd])[0]?=h[0]?:=fun nd=>List.getElem?_append_left h0
 rcases H with ⟨rfl,rfl⟩|⟨l,cells,rfl,hl,hle,ht,hl0⟩
 ·refine⟨.os (h.length+1) 0 1 none,h++[.row 1 [int v]]++[.row 1 [int v]],by simp only[appendTo];rw[if_neg (by decide),if_pos (by decide)];simp[newRow,new],.inr ⟨h.length+1,[int v],rfl,?_,by simp,by simp,by omega⟩,?_⟩
  ·rw[List.getElem?_append_right (by simp)];simp
  ·rw[List.getElem?_append_left (by simp),e0]
 ·have hlt:=(List.getElem?_eq_some_iff.1 hl).1
  have hl':(h++[Node.row 1 [int v]])[l]?=some (.row 1 cells):=by rw[List.getElem?_append_left hlt];exact hl
  by_cases c1:xs.length+1≤cells.length
  ·refine⟨_,_,by simp only[appendTo,hl'];rw[if_pos ⟨trivial,hn⟩];simp only[Nat.one_ne_zero,if_false,Nat.zero_add,Nat.mul_one];rw[if_pos c1],.inr ⟨l,put cells xs.length [int v],by simp,List.getElem?_set_self (by simp;omega),?_,?_,hl0⟩,?_⟩
   ·simp[put];omega
   ·have e1:(xs++[v]).length=(cells.take xs.length++[int v]).length:=by simp;omega
    have e2:put cells xs.length [int v]=(cells.take xs.length++[int v])++cells.drop (xs.length+1):=by simp[put]
    rw[e1,e2,List.take_left,ht];simp
   ·rw[List.getElem?_set_ne hl0,e0]
  ·have hcl:xs.length=cells.length:=by omega
   have hc:cells=xs.map int:=by rw[←ht,List.take_of_length_le (by omega)]
   refine⟨.os (h.length+1) 0 (xs.length+1) none,List.set (h++[Node.row 1 [int v]]) l Node.dead++[Node.row 1 (cells++[int v])],by simp only[appendTo,hl'];rw[if_pos ⟨trivial,hn⟩];simp only[Nat.one_ne_zero,if_false,Nat.zero_add,Nat.mul_one];rw[if_neg c1,if_pos hcl];simp[newRow,new],.inr ⟨h.length+1,cells++[int v],by simp,?_,?_,?_,by omega⟩,?_⟩
   ·rw[List.getElem?_append_right (by simp)];simp
   ·simp[hcl]
   ·rw[hc,List.take_of_length_le (by simp)];simp
   ·rw[List.getElem?_append_left (by simp),List.getElem?_set_ne hl0,e0]
theorem Stack.pop {h:Heap}{c:C}{xs:List Int}{v:Int}(H:Stack h c (xs++[v])):∃l cells,c=.os l 0 (xs.length+1) none∧h[l]?=some (.row 1 cells)∧(cells.drop xs.length).head?=some (int v)∧Stack h (.os l 0 xs.length none) xs:=by
 rcases H with ⟨h1,_⟩|⟨l,cells,rfl,hl,hle,ht,hl0⟩
 ·simp at h1
 ·simp only[List.length_append,List.length_cons,List.length_nil,Nat.zero_add] at*
  have hx:xs.length<cells.length:=by omega
  refine⟨l,cells,by simp,hl,?_,.inr ⟨l,cells,rfl,hl,by omega,?_,hl0⟩⟩
  ·have:=congrArg (fun l=>l[xs.length]?) ht
   simp only[List.getElem?_take,List.map_append,List.map_cons,List.map_nil] at this
   rw[if_pos (by omega),List.getElem?_append_right (by simp)] at this
   rw[List.head?_drop,this]
   simp
  ·have:=congrArg (List.take xs.length) ht
   rw[List.take_take,Nat.min_eq_left (by omega)] at this
   rw[this]
   simp
end Go.Tm
namespace Go.Tm
@[go_sem] theorem evo_none (e:Env):evo e none=some none:=rfl
@[go_sem] theorem evo_some (e:Env)(x:Operand):evo e (some x)=(ev e x).map some:=rfl
structure Wo (N:Int→List Int)(n:Nat)(a:Int)(seen:List Bool)(work:List Int)(cur:Int→Prop):Prop where
 len:seen.length=n
 met:∀v:Int,0≤v→v<n→rdOf false seen v=true→Rc N (· ≠a) 0 v
 wk:∀v∈work,0≤v∧v<n∧rdOf false seen v=true
 shut:∀v:Int,0≤v→v<n→rdOf false seen v=true→v∈work∨cur v∨∀w∈N v,w≠a→rdOf false seen w=true
 root:a≠0→rdOf false seen 0=true
theorem countf_put {xs:List Bool}{i:Nat}(h:i<xs.length)(hf:xs.getD i false=false):(xs.set i true).count false+1=xs.count false:=by
 have he:xs[i]=false:=by rw[List.getD_eq_getElem?_getD,List.getElem?_eq_getElem h] at hf;simpa using hf
 rw[List.count_set h,he]
 have:0<xs.count false:=List.count_pos_iff.2 (he ▸ List.getElem_mem h)
 simp
 omega
section
variable {N:Int→List Int} {n:Nat} {a:Int} {seen:List Bool} {work:List Int} {cur:Int→Prop}
theorem Wo.add (H:Wo N n a seen work cur){b w:Int}(hb:rdOf false seen b=true)(b0:0≤b∧b<(n:Int))(hw:w∈N b)(w0:0≤w∧w<(n:Int))(hwa:w≠a):Wo N n a (seen.set w.toNat true) (work++[w]) cur:=by
 have hl:w<(seen.length:Int):=by rw[H.len];exact w0.2
 have rs:∀v:Int,0≤v→rdOf false (seen.set w.toNat true) v=if w=v then true else rdOf false seen v:=fun v hv=>rdb_set w0.1 hl hv
 have up:∀v:Int,rdOf false seen v=true→rdOf false (seen.set w.toNat true) v=true:=fun v hv=>by
  by_cases h0:0≤v
  ·rw[rs v h0];split
   ·rfl
   ·exact hv
  ·unfold rdOf at hv⊢
   have:v.toNat=0:=by omega
   rw[this] at hv⊢
   rw[List.getD_eq_getElem?_getD,List.getElem?_set]
   split
   ·split
    ·rfl
    ·rename_i h1 h2
     rw[List.getD_eq_getElem?_getD,List.getElem?_eq_none (by omega)] at hv
     cases hv
   ·rw[←List.getD_eq_getElem?_getD];exact hv
 refine⟨by simp[H.len],fun v v0 v1 hv=>?_,fun v hv=>?_,fun v v0 v1 hv=>?_,fun h=>up _ (H.root h)⟩
 ·rw[rs v v0] at hv
  split at hv
  ·rename_i e;subst e;exact .step (H.met b b0.1 b0.2 hb) hw hwa
  ·exact H.met v v0 v1 hv
 ·rcases List.mem_append.1 hv with hv|hv
  ·obtain⟨x,y,z⟩:=H.wk v hv;exact⟨x,y,up _ z⟩
  ·obtain rfl:=List.mem_singleton.1 hv
   exact⟨w0.1,w0.2,by rw[rs v w0.1,if_pos rfl]⟩
 ·rw[rs v v0] at hv
  by_cases e:w=v
  ·subst e;exact .inl (by simp)
  ·rw[if_neg e] at hv
   rcases H.shut v v0 v1 hv with h|h|h
   ·exact .inl (List.mem_append_left _ h)
   ·exact .inr (.inl h)
   ·exact .inr (.inr fun u hu hua=>up _ (h u hu hua))
theorem Wo.iff (H:Wo N n a seen [] (fun _=>False))(hN:∀b w,w∈N b→0≤w∧w<(n:Int)){v:Int}(v0:0≤v)(v1:v<(n:Int)):rdOf false seen v=true↔Rc N (· ≠a) 0 v:=by
 refine⟨H.met v v0 v1,fun h=>?_⟩
 have h0:rdOf false seen 0=true:=H.root (fun e=>h.left e.symm)
 have:(0≤v∧v<(n:Int))∧rdOf false seen v=true:=h.closed (S:=fun x=>(0≤x∧x<(n:Int))∧rdOf false seen x=true) ⟨⟨by omega,by omega⟩,h0⟩ fun x hx y hy hya=>by
  refine⟨hN x y hy,?_⟩
  rcases H.shut x hx.1.1 hx.1.2 hx.2 with h|h|h
  ·simp at h
  ·exact h.elim
  ·exact h y hy hya
 exact this.2
end
end Go.Tm
namespace Go.Tm
theorem Loop_keep {P:Program}{vals:FuncId→Bool}{call:CallF}{n:Nat}{keep:List Nat}{a:K}{m:Nat}{e e':Env}{h:Heap}(he:keepE e keep=keepE e' keep):Loop P vals call n keep a m ⟨e,h⟩=Loop P vals call n keep a m ⟨e',h⟩:=by
 cases m with
 |zero=>rfl
 |succ m=>rw[Loop_succ,Loop_succ,he]
end Go.Tm
namespace Go.Tm
@[go_sem] theorem cells_ints (l:List Int):(ints l).cells=[ints l]:=rfl
@[go_sem] theorem cells_bools (l:List Bool):(bools l).cells=[bools l]:=rfl
@[go_sem] theorem cells_rows (l:List (List Int)):(rows l).cells=[rows l]:=rfl
@[go_sem] theorem cells_inss (l:List Ins):(inss l).cells=[inss l]:=rfl
@[go_sem] theorem cells_blocks (l:List Block):(blocks l).cells=[blocks l]:=rfl
attribute [go_sem] List.contains_cons List.contains_nil Nat.reduceBEq beq_self_eq_true
end Go.Tm
namespace Go.Tm
def RunsF (P:Program)(tab:Tab)(k0:Nat)(f:FuncId)(vs:List C)(r:C):Prop:=∀k,k0≤k→∀h,callAt P tab k f vs h=some (r,h)
theorem RunsF.by {P:Program}{tab:Tab}{f:FuncId}{fn:Go.Func}{K:K}{vs:List C}{r:C}{N:Nat}{rs:List ResultVar}(h1:tab f=some (K,.val))(h2:P.funcs[f]?=some fn)(hN:fn.ntmps=N)(hr:fn.results.toList=rs)(hl:vs.length≤N)(hv:mapC (view false [] depth) vs=some vs)
  {k0:Nat}(h:∀k,k0≤k→∃c h,fin P rs (exec P (valsOf tab) (callAt P tab k) k K ⟨enterE 0 vs,[]⟩)=some (c,h)∧view false h depth c=some r):RunsF P tab (k0+1) f vs r:=by
 intro k hk w
 obtain⟨k,rfl⟩:∃m,k=m+1:=⟨k-1,by omega⟩
 obtain⟨c,h',e,hw⟩:=h k (by omega)
 simp only[callAt,h1,h2,byVal,hv,body_fin hN hr hl,e,Option.bind_some,hw]
 rfl
end Go.Tm
