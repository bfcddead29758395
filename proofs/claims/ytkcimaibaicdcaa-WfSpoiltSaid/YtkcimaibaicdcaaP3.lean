/- The law returns true at every input. No condition. A part of its proof. -/
import Derived.MapKept
import Derived.Test.YtkcimaibaicdcaaP2
set_option linter.unusedSimpArgs false
set_option linter.unusedVariables false
set_option maxHeartbeats 16000000
set_option maxRecDepth 100000
namespace Go.Tm
section
variable {P:Program} {w:World} {X S:Nat→Prop} {φ:Nat→Loc} {h:Heap} {bad:Nat→Prop} {al:Option Nat}
theorem makeMap_sound (G:Good w X S φ h)(ok:AllocOk S h al){t:TypeId}:Done w X S φ h al ((Instr.makeMap t none).run P w) (.om (new h al (.map #[] 0)).1) (new h al (.map #[] 0)).2:=by
 obtain⟨G',E⟩:=good_new (w':={ w with heap:=w.heap.push (.map #[] 0) }) (nd:=.map #[] 0) (loc:=⟨w.heap.size,0,0,0,0⟩) G ok rfl rfl rfl (by simp) (fun b hb=>by simp[Array.getElem?_push,Nat.ne_of_lt hb]) (Nat.le_refl _) (by simp) fun L=>by
  simp only[OkNode,upd_same]
  simp
 refine⟨.map (some w.heap.size),_,_,_,?_,G',E,?_,.inr ⟨by rw[new_name h al _ .dead],new_len _ _ _ _⟩⟩
 ·simp only[Instr.makeMap,Sem.run_bind,run_newObj];rfl
 ·simp only[Rel,upd_same]
  exact⟨.inr trivial,trivial⟩
theorem mapE_some {t k e:TypeId}(h:mapE P t=some (k,e)):P.underlying t=some (.map k e):=by
 unfold mapE at h
 split at h
 ·cases h;assumption
 ·cases h
theorem checkKey_plain {t:TypeId}{d:TypeDesc}(h:P.underlying t=some d)(hd:plainKey d=true)(b:Bool)(n:Nat)(v:Value)(w:World):(Instr.checkKey b (n+1) t v).run P w=.ok () w:=by
 unfold Instr.checkKey
 rw[Sem.run_bind]
 rw[run_underlying' h]
 cases d<;>simp only[plainKey,Bool.false_eq_true] at hd<;>rfl
theorem findKey_plain {t:TypeId}{k:Value}{es:List MapEntry}{r:Option (Nat×Value)}(h:findM P t k es=some r)(w:World):(∃d,P.underlying t=some d∧plainKey d=true∧Instr.findNow d k es 0=some r)∧(Instr.findKey t k es).run P w=.ok r w:=by
 simp only[findM,Option.bind_eq_bind,Option.bind_eq_some_iff] at h
 obtain⟨d,hd,h⟩:=h
 split at h
 ·rename_i hp
  refine⟨⟨d,hd,hp,h⟩,?_⟩
  unfold Instr.findKey
  rw[Sem.run_bind,run_underlying' hd]
  show Sem.run P (match Instr.findNow d k es 0 with|some r=>pure r|none=>Instr.findAsking t k es) w=_
  rw[h]
  rfl
 ·cases h
theorem sameNow_key {d:TypeDesc}{k a:Value}(hd:plainKey d=true)(h:Instr.sameNow d k a=some true):a=k∧Instr.sameBits 10000 k k=true:=by
 cases d<;>simp only[plainKey,Bool.false_eq_true] at hd
 ·cases k<;>cases a<;>simp only[Instr.sameNow,reduceCtorEq] at h
  rename_i j x j' x'
  split at h
  ·rename_i e
   subst e
   simp only[Option.some.injEq,beq_iff_eq] at h
   subst h
   exact⟨rfl,by simp[Instr.sameBits]⟩
  ·cases h
 ·cases k<;>cases a<;>simp only[Instr.sameNow,reduceCtorEq] at h
  simp only[Option.some.injEq] at h
  obtain rfl:=(MapKept.bytes_beq _ _).1 h
  exact⟨rfl,by simp[Instr.sameBits,(MapKept.bytes_beq _ _).2]⟩
theorem findNow_key {d:TypeDesc}{k:Value}(hd:plainKey d=true):∀{es:List MapEntry} {i j:Nat} {v:Value},Instr.findNow d k es i=some (some (j,v))→i≤j∧(∃e,es[j-i]?=some e∧e.key=k)∧Instr.sameBits 10000 k k=true
 |[],i,j,v,h=>by simp[Instr.findNow] at h
 |e::es,i,j,v,h=>by
  unfold Instr.findNow at h
  split at h
  ·rename_i hs
   simp only[Option.some.injEq,Prod.mk.injEq] at h
   obtain⟨rfl,rfl⟩:=h
   obtain⟨h1,h2⟩:=sameNow_key hd hs
   exact⟨Nat.le_refl _,⟨e,by simp,h1⟩,h2⟩
  ·obtain⟨h1,⟨e',h2,h3⟩,h4⟩:=findNow_key hd h
   refine⟨by omega,⟨e',?_,h3⟩,h4⟩
   have:j-i=(j-(i+1))+1:=by omega
   rw[this]
   simpa using h2
  ·cases h
theorem zeroV_run {t:TypeId}{z:Value}(h:zeroV P t=some z)(w:World):(zeroValue t).run P w=.ok z w:=by
 simp only[zeroV,Option.bind_eq_some_iff] at h
 obtain⟨i,hi,hz⟩:=h
 simp[zeroValue,run_info hi,hz]
theorem lookup_sound (G:Good w X S φ h){t:TypeId}{x i c:C}{u v:Value}{ok:Bool}(hx:Rel w (badOf X φ h) S φ x u)(hi:Rel w (badOf X φ h) S φ i v)(hc:lookupC P h t x i ok=some c):
  ∃r,(Instr.lookup t u v ok).run P w=.ok r w∧Rel w (badOf X φ h) S φ c r:=by
 unfold lookupC at hc
 split at hc
 ·rename_i l
  split at hc
  ·rename_i es clock hl
   simp only[lookupN,Option.bind_eq_bind,Option.bind_eq_some_iff] at hc
   obtain⟨⟨kt,et⟩,hm,k,hk,r,hr,z,hz,hc⟩:=hc
   have hu:=mapE_some hm
   simp only at hr hz hc
   obtain rfl:=scalar_rel hi hk
   simp only[Rel] at hx
   obtain⟨_,rfl⟩:=hx
   have hb:=G.node l _ hl
   simp only[OkNode] at hb
   obtain⟨⟨d,hd,hp,hf⟩,hrun⟩:=findKey_plain hr w
   split at hc
   ·rename_i ho
    cases hc
    refine⟨if ok=true then .tuple #[(r.map (·.2)).getD z,.bool r.isSome] else(r.map (·.2)).getD z,?_,?_⟩
    ·have hzr:=zeroV_run hz w
     unfold Instr.lookup
     simp only[Sem.run_bind,run_underlying' hu,Result.andThen]
     simp only[Sem.run_bind,MapKept.run_getObj_map hb,Result.andThen,Sem.run_pure,checkKey_plain hd hp,hrun]
     cases r with
     |none=>simp only[Sem.run_bind,hzr,Result.andThen,Sem.run_pure,Option.map_none,Option.getD_none,Option.isSome_none]
     |some q=>obtain⟨j,q⟩:=q;cases ok<;>rfl
    ·cases ok with
     |true=>
      simp only[if_true,Rel,RelL]
      exact⟨_,rfl,_,_,rfl,⟨rfl,ho⟩,_,_,rfl,⟨rfl,rfl⟩,rfl⟩
     |false=>
      simp only[Bool.false_eq_true,if_false,Rel]
      exact⟨trivial,ho⟩
   ·cases hc
  ·cases hc
 ·cases hc
theorem mapUpd_sound (G:Good w X S φ h){t:TypeId}{m k x:C}{u v y:Value}{h':Heap}(hm:Rel w (badOf X φ h) S φ m u)(hk:Rel w (badOf X φ h) S φ k v)(hx:Rel w (badOf X φ h) S φ x y)(hc:mapUpdC P h t m k x=some h'):
  ∃w',(Instr.mapUpdate t u v y).run P w=.ok () w'∧Good w' X S φ h'∧Ext w S φ h w' S φ h'∧h'.length=h.length:=by
 unfold mapUpdC at hc
 split at hc
 ·rename_i l
  split at hc
  ·rename_i es clock hl
   simp only[mapUpdN,Option.bind_eq_bind,Option.map_eq_some_iff,Option.bind_eq_some_iff] at hc
   obtain⟨nd,⟨⟨kt,et⟩,hme,kv,hkv,xv,hxv,r,hr,hc⟩,rfl⟩:=hc
   have hu:=mapE_some hme
   simp only at hr
   obtain rfl:=scalar_rel hk hkv
   obtain rfl:=scalar_rel hx hxv
   simp only[Rel] at hm
   obtain⟨_,rfl⟩:=hm
   have hb:=G.node l _ hl
   simp only[OkNode] at hb
   obtain⟨⟨d,hd,hp,hf⟩,hrun⟩:=findKey_plain hr w
   cases r with
   |none=>
    cases hc
    obtain⟨G',E⟩:=good_map (es':=es.push { key:=v,val:=y,born:=clock }) (clock':=clock+1) G hl
    refine⟨_,?_,G',E,by simp⟩
    unfold Instr.mapUpdate
    simp only[Sem.run_bind,run_underlying' hu,Result.andThen]
    simp only[Sem.run_bind,MapKept.run_getObj_map hb,Result.andThen,checkKey_plain hd hp,hrun]
    exact MapKept.run_setObj_map _ hb
   |some q=>
    obtain⟨j,q⟩:=q
    cases hc
    obtain⟨_,⟨e,he,hek⟩,hsb⟩:=findNow_key hp hf
    obtain⟨G',E⟩:=good_map (es':=es.modify j fun e=>{ e with key:=v,val:=y }) (clock':=clock) G hl
    refine⟨_,?_,G',E,by simp⟩
    unfold Instr.mapUpdate
    have hk2:((es[j]?).map (·.key)).getD v=v:=by
     rw[Nat.sub_zero,Array.getElem?_toList] at he
     rw[he];exact hek
    have hstay:(Instr.keyThatStays (((es[j]?).map (·.key)).getD v) v).run P w=.ok v w:=by
     rw[hk2]
     unfold Instr.keyThatStays
     rw[if_pos hsb];rfl
    simp only[Sem.run_bind,run_underlying' hu,Result.andThen]
    simp only[Sem.run_bind,MapKept.run_getObj_map hb,Result.andThen,checkKey_plain hd hp,hrun,hstay]
    exact MapKept.run_setObj_map _ hb
  ·cases hc
 ·cases hc
end
end Go.Tm
namespace Go.Tm
def SeqOk (S:Nat→Prop)(h:Heap):Prop:=∀l,S l→l<h.length
def CallOk (P:Program)(call:CallF):Prop:=
 ∀(f:FuncId) (cs:List C) (h:Heap) (c:C) (h':Heap),call f cs h=some (c,h')→
  (∃fn code,P.funcs[f]?=some fn∧(fn.name=="runtime.NumGoroutine")=false∧fn.body=some code)∧
  ∀(w:World) (X S:Nat→Prop) (φ:Nat→Loc) (us:List Value),Good w X S φ h→SeqOk S h→RelL w (badOf X φ h) S φ cs us→
   Calls P f us.toArray w fun e w'=>∃u S' φ',e=.returned u∧Good w' X S' φ' h'∧Ext w S φ h w' S' φ' h'∧Rel w' (badOf X φ' h') S' φ' c u∧
    ((S'=S∧φ'=φ∧h'=h)∨SeqOk S' h')
def NamesG (S S':Nat→Prop)(h h':Heap)(al:Option Nat)(cv:Prop):Prop:=
 Names S S' h h' al∨(SeqOk S' h'∧cv)
theorem SeqOk.alloc {S:Nat→Prop}{h:Heap}(s:SeqOk S h):AllocOk S h none:=⟨fun hs=>by have:=s _ hs;simp[new] at this,fun _ hs=>by cases hs⟩
theorem SeqOk.next {S S':Nat→Prop}{h h':Heap}{cv:Prop}(s:SeqOk S h)(n:NamesG S S' h h' none cv):SeqOk S' h':=by
 rcases n with (⟨rfl,e⟩|⟨rfl,e⟩)|n
 ·intro l hl;rw[e];exact s l hl
 ·intro l hl
  rw[e]
  simp only[new,List.length_append,List.length_cons,List.length_nil]
  rcases hl with hl|hl
  ·have:=s l hl;omega
  ·simp only[new] at hl;omega
 ·exact n.1
theorem names_same {S S':Nat→Prop}{h:Heap}{cv:Prop}(hc:¬cv)(n:NamesG S S' h h none cv):S'=S:=by
 rcases n with (⟨rfl,_⟩|⟨_,e⟩)|n
 ·rfl
 ·simp[new] at e
 ·exact absurd n.2 hc
section
variable {P:Program} {w:World} {X S:Nat→Prop} {φ:Nat→Loc} {h:Heap} {al:Option Nat} {o:Oper} {a:Act} {next:Act→World→Prop} {Q:Exit→Act→World→Prop}
theorem wp_value {u:Value}{w':World}(hrun:(execOp a.eval o).run P w=.ok (.value u) w')(hn:next (a.put o.dst u) w'):o.wp P a w next Q:=by
 unfold Oper.wp;rw[hrun];exact hn
theorem wp_skip' {w':World}(hrun:(execOp a.eval o).run P w=.ok .skip w')(hn:next (a.put o.dst undef) w'):o.wp P a w next Q:=by
 unfold Oper.wp;rw[hrun];exact hn
def Goes (P:Program)(w:World)(X S:Nat→Prop)(φ:Nat→Loc)(h:Heap)(al:Option Nat)(o:Oper)(a:Act)(next:Act→World→Prop)(c:C)(h':Heap)(cv:Prop):Prop:=
 ∀u w' S' φ',Good w' X S' φ' h'→Ext w S φ h w' S' φ' h'→Rel w' (badOf X φ' h') S' φ' c u→NamesG S S' h h' al cv→next (a.put o.dst u) w'
theorem goes_value {cv:Prop}(G:Good w X S φ h){c:C}(hn:Goes P w X S φ h al o a next c h cv){s:Sem Value}(he:(execOp a.eval o).run P w=(do pure (.value (←s)):Sem Next).run P w)
  (hr:∃v,s.run P w=.ok v w∧Rel w (badOf X φ h) S φ c v):o.wp P a w next Q:=by
 obtain⟨v,hv,hrel⟩:=hr
 exact wp_value (u:=v) (w':=w) (by rw[he];simp[hv]) (hn v w S φ G (Ext.refl _ _ _ _) hrel (.inl (.inl ⟨rfl,rfl⟩)))
theorem goes_done {cv:Prop}{c:C}{h':Heap}(hn:Goes P w X S φ h al o a next c h' cv){s:Sem Value}(he:(execOp a.eval o).run P w=(do pure (.value (←s)):Sem Next).run P w)
  (hd:Done w X S φ h al (s.run P w) c h'):o.wp P a w next Q:=by
 obtain⟨u,w',S',φ',hr,G',E,hrel,hnm⟩:=hd
 exact wp_value (u:=u) (w':=w') (by rw[he];simp[hr]) (hn u w' S' φ' G' E hrel (.inl hnm))
theorem map_toList_parts (ps:Array (Nat×Operand))(ρ:Operand→Value):(ps.map fun(i,x)=>(i,ρ x)).toList=ps.toList.map fun x=>(x.1,ρ x.2):=by simp
theorem append_congr {ats args:Array _}{ty t tx:TypeId}{u x:Value}(ht:ats[0]?=some t)(htx:ats[1]?=some tx)(h0:args[0]?=some u)(h1:args[1]?=some x):Builtin.append_ ats ty args=Builtin.append_ #[t,tx] ty #[u,x]:=by
 unfold Builtin.append_
 simp only[ht,htx,h0,h1]
 rfl
theorem copy_congr {ats args:Array _}{ty t tx:TypeId}{u x:Value}(ht:ats[0]?=some t)(h0:args[0]?=some u)(h1:args[1]?=some x):Builtin.copy_ ats ty args=Builtin.copy_ #[t,tx] ty #[u,x]:=by
 unfold Builtin.copy_
 simp only[ht,h0,h1]
 rfl
theorem op_sound {call:CallF}(hcall:CallOk P call)(G:Good w X S φ h)(sq:SeqOk S h){env:Env}(hE:RelE w (badOf X φ h) S φ env a.tmps)(ok:AllocOk S h al){op:Op}(ho:o.op=op){c:C}{h':Heap}
  (hs:stepOp P call al env h op=some (c,h'))(hn:Goes P w X S φ h al o a next c h' (isCallV op=true)):o.wp P a w next Q:=by
 cases op with
 |move x=>
  simp only[stepOp,Option.bind_eq_bind,Option.bind_eq_some_iff,Option.some.injEq,Prod.mk.injEq] at hs
  obtain⟨d,hd,rfl,rfl⟩:=hs
  exact goes_value G hn (s:=pure (a.eval x)) (by simp[execOp,ho]) ⟨_,rfl,ev_rel hE hd⟩
 |assign x=>
  simp only[stepOp,Option.bind_eq_bind,Option.bind_eq_some_iff,Option.some.injEq,Prod.mk.injEq] at hs
  obtain⟨d,hd,rfl,rfl⟩:=hs
  exact goes_value G hn (s:=pure (a.eval x)) (by simp[execOp,ho]) ⟨_,rfl,ev_rel hE hd⟩
 |pick x y z=>
  simp only[stepOp,Option.bind_eq_bind,Option.bind_eq_some_iff] at hs
  obtain⟨d,hd,t,ht,hs⟩:=hs
  have e:=boolOf_rel (ev_rel hE hd) ht
  cases t with
  |true=>
   simp only[if_true,Option.bind_eq_some_iff,Option.some.injEq,Prod.mk.injEq] at hs
   obtain⟨r,hr,rfl,rfl⟩:=hs
   exact goes_value G hn (s:=pure (a.eval y)) (by simp[execOp,ho,e,asBool]) ⟨_,rfl,ev_rel hE hr⟩
  |false=>
   simp only[Bool.false_eq_true,if_false,Option.bind_eq_some_iff,Option.some.injEq,Prod.mk.injEq] at hs
   obtain⟨r,hr,rfl,rfl⟩:=hs
   exact goes_value G hn (s:=pure (a.eval z)) (by simp[execOp,ho,e,asBool]) ⟨_,rfl,ev_rel hE hr⟩
 |alloc e=>
  simp only[stepOp,Option.bind_eq_bind,Option.bind_eq_some_iff,Option.some.injEq,Prod.mk.injEq] at hs
  obtain⟨z,hz,rfl,rfl⟩:=hs
  exact goes_done hn (s:=Instr.alloc e true (.tuple #[])) (by simp[execOp,ho]) (alloc_sound G ok hz)
 |box e x=>
  simp only[stepOp,Option.bind_eq_bind,Option.bind_eq_some_iff] at hs
  obtain⟨d,hd,hs⟩:=hs
  split at hs
  ·rename_i hc
   simp only[Option.some.injEq,Prod.mk.injEq] at hs
   obtain⟨rfl,rfl⟩:=hs
   exact goes_done hn (s:=Instr.box e (a.eval x)) (by simp[execOp,ho]) (box_sound G ok (ev_rel hE hd) hc)
  ·cases hs
 |build t ps=>
  simp only[stepOp,Option.bind_eq_bind,Option.bind_eq_some_iff,Option.some.injEq,Prod.mk.injEq] at hs
  obtain⟨qs,hq,r,hr,rfl,rfl⟩:=hs
  exact goes_value G hn (s:=Instr.build t (ps.map fun(i,x)=>(i,a.eval x))) (by simp[execOp,ho]) (build_sound (by rw[map_toList_parts];exact evParts_rel hE hq) hr)
 |buildSlice t n ps=>
  simp only[stepOp,Option.bind_eq_bind,Option.bind_eq_some_iff] at hs
  obtain⟨qs,hq,hs⟩:=hs
  exact goes_done hn (s:=Instr.buildSlice t n (ps.map fun(i,x)=>(i,a.eval x))) (by simp[execOp,ho]) (buildSlice_sound G ok (by rw[map_toList_parts];exact evParts_rel hE hq) hs)
 |load t x=>
  simp only[stepOp,Option.bind_eq_bind,Option.bind_eq_some_iff,Option.some.injEq,Prod.mk.injEq] at hs
  obtain⟨p,hp,r,hr,rfl,rfl⟩:=hs
  exact goes_value G hn (s:=Instr.loadAt t (a.eval x)) (by simp[execOp,ho]) (load_sound G (ev_rel hE hp) hr)
 |store t x y=>
  simp only[stepOp,Option.bind_eq_bind,Option.bind_eq_some_iff,Option.some.injEq,Prod.mk.injEq] at hs
  obtain⟨p,hp,d,hd,h1,hst,rfl,rfl⟩:=hs
  obtain⟨w',hrun,G',E,hl⟩:=store_sound G (ev_rel hE hp) (ev_rel hE hd) hst
  refine wp_skip' (w':=w') (by simp[execOp,ho,hrun]) (hn undef w' S φ G' E ?_ (.inl (.inl ⟨rfl,hl⟩)))
  simp only[undefC,Rel]
  exact⟨#[],rfl,by simp[RelL]⟩
 |nilCheck x=>
  simp only[stepOp,Option.bind_eq_bind,Option.bind_eq_some_iff] at hs
  obtain⟨d,hd,hs⟩:=hs
  split at hs
  ·rename_i hc
   simp only[Option.some.injEq,Prod.mk.injEq] at hs
   obtain⟨rfl,rfl⟩:=hs
   have hr:=ev_rel hE hd
   obtain⟨p,hp,hp2⟩:=isNilC_rel hr hc
   cases p with
   |none=>cases hp2
   |some p=>exact goes_value G hn (s:=pure (a.eval x)) (by simp[execOp,ho,hp]) ⟨_,rfl,hr⟩
  ·cases hs
 |binOp b t x y u=>
  simp only[stepOp,Option.bind_eq_bind,Option.bind_eq_some_iff,Option.some.injEq,Prod.mk.injEq] at hs
  obtain⟨d,hd,e,he,r,hr,rfl,rfl⟩:=hs
  exact goes_value G hn (s:=do eqGuard b t x y (a.eval x) (a.eval y);binOp b t (a.eval x) (a.eval y)) (by simp[execOp,ho]) (bin_sound (ev_rel hE hd) (ev_rel hE he) hr)
 |unOp b t x=>
  simp only[stepOp,Option.bind_eq_bind,Option.bind_eq_some_iff,Option.some.injEq,Prod.mk.injEq] at hs
  obtain⟨d,hd,p,hp,r,hr,rfl,rfl⟩:=hs
  have e:=scalar_rel (ev_rel hE hd) hp
  exact goes_value G hn (s:=Op.unary b (a.eval x)) (by simp[execOp,ho]) (by rw[e];exact pureV_sound hr)
 |convert s d x=>
  simp only[stepOp,Option.bind_eq_bind,Option.bind_eq_some_iff,Option.some.injEq,Prod.mk.injEq] at hs
  obtain⟨e,he,r,hr,rfl,rfl⟩:=hs
  exact goes_value G hn (s:=convert s d (a.eval x)) (by simp[execOp,ho]) (conv_sound G (ev_rel hE he) hr)
 |makeFunc f first caps=>
  simp only[stepOp,Option.bind_eq_bind,Option.bind_eq_some_iff] at hs
  obtain⟨cs,hc,hs⟩:=hs
  split at hs
  ·rename_i k
   split at hs
   ·rename_i h0
    simp only[Option.some.injEq,Prod.mk.injEq] at hs
    obtain⟨rfl,rfl⟩:=hs
    have e1:first= #[]:=Array.eq_empty_of_size_eq_zero h0
    subst e1
    refine goes_value G hn (s:=pure (.func (.func k) #[] (caps.map a.eval))) (by simp[execOp,ho,Instr.makeFunc]) ⟨_,rfl,?_⟩
    simp only[Rel]
    exact⟨_,rfl,by simpa using evs_rel hE hc⟩
   ·cases hs
  ·cases hs
 |makeSlice t x y=>
  simp only[stepOp,Option.bind_eq_bind,Option.bind_eq_some_iff] at hs
  obtain⟨d,hd,e,he,hs⟩:=hs
  exact goes_done hn (s:=Instr.makeSlice t (a.eval x) (a.eval y)) (by simp[execOp,ho]) (makeSlice_sound G ok (ev_rel hE hd) (ev_rel hE he) hs)
 |slice t x lo hi mx=>
  simp only[stepOp,Option.bind_eq_bind,Option.bind_eq_some_iff,Option.some.injEq,Prod.mk.injEq] at hs
  obtain⟨d,hd,l,hl,m,hm,k,hk,r,hr,rfl,rfl⟩:=hs
  exact goes_value G hn (s:=Instr.sliceAt t (a.eval x) (lo.map a.eval) (hi.map a.eval) (mx.map a.eval)) (by simp[execOp,ho]) (slice_sound G (ev_rel hE hd) (evo_rel hE hl) (evo_rel hE hm) (evo_rel hE hk) hr)
 |fieldAddr t x f=>
  simp only[stepOp,Option.bind_eq_bind,Option.bind_eq_some_iff,Option.some.injEq,Prod.mk.injEq] at hs
  obtain⟨d,hd,r,hr,rfl,rfl⟩:=hs
  exact goes_value G hn (s:=Instr.fieldAt t (a.eval x) f) (by simp[execOp,ho]) (fieldAddr_sound (ev_rel hE hd) hr)
 |field t x f=>
  simp only[stepOp,Option.bind_eq_bind,Option.bind_eq_some_iff,Option.some.injEq,Prod.mk.injEq] at hs
  obtain⟨d,hd,r,hr,rfl,rfl⟩:=hs
  exact goes_value G hn (s:=Instr.field t (a.eval x) f) (by simp[execOp,ho]) (field_sound (ev_rel hE hd) hr)
 |indexAddr t x y=>
  simp only[stepOp,Option.bind_eq_bind,Option.bind_eq_some_iff,Option.some.injEq,Prod.mk.injEq] at hs
  obtain⟨d,hd,e,he,r,hr,rfl,rfl⟩:=hs
  exact goes_value G hn (s:=Instr.indexAt t (a.eval x) (a.eval y)) (by simp[execOp,ho]) (indexAddr_sound (ev_rel hE hd) (ev_rel hE he) hr)
 |index t x y=>
  simp only[stepOp,Option.bind_eq_bind,Option.bind_eq_some_iff,Option.some.injEq,Prod.mk.injEq] at hs
  obtain⟨d,hd,e,he,r,hr,rfl,rfl⟩:=hs
  exact goes_value G hn (s:=Instr.index t (a.eval x) (a.eval y)) (by simp[execOp,ho]) (index_sound (ev_rel hE hd) (ev_rel hE he) hr)
 |extract x i=>
  simp only[stepOp,Option.bind_eq_bind,Option.bind_eq_some_iff,Option.some.injEq,Prod.mk.injEq] at hs
  obtain⟨d,hd,r,hr,rfl,rfl⟩:=hs
  exact goes_value G hn (s:=Instr.extract (a.eval x) i) (by simp[execOp,ho]) (tupAt_rel (ev_rel hE hd) hr)
 |makeMap t r=>
  cases r with
  |none=>
   simp only[stepOp,Option.some.injEq,Prod.mk.injEq] at hs
   obtain⟨rfl,rfl⟩:=hs
   exact goes_done hn (s:=Instr.makeMap t none) (by simp[execOp,ho]) (makeMap_sound G ok)
  |some r=>simp[stepOp] at hs
 |lookup t x i b=>
  simp only[stepOp,Option.bind_eq_bind,Option.bind_eq_some_iff,Option.some.injEq,Prod.mk.injEq] at hs
  obtain⟨d,hd,e,he,r,hr,rfl,rfl⟩:=hs
  exact goes_value G hn (s:=Instr.lookup t (a.eval x) (a.eval i) b) (by simp[execOp,ho]) (lookup_sound G (ev_rel hE hd) (ev_rel hE he) hr)
 |mapUpdate t m k v=>
  simp only[stepOp,Option.bind_eq_bind,Option.bind_eq_some_iff,Option.some.injEq,Prod.mk.injEq] at hs
  obtain⟨d,hd,e,he,f,hf,h1,hst,rfl,rfl⟩:=hs
  obtain⟨w',hrun,G',E,hl⟩:=mapUpd_sound G (ev_rel hE hd) (ev_rel hE he) (ev_rel hE hf) hst
  refine wp_skip' (w':=w') (by simp[execOp,ho,hrun]) (hn undef w' S φ G' E ?_ (.inl (.inl ⟨rfl,hl⟩)))
  simp only[undefC,Rel]
  exact⟨#[],rfl,by simp[RelL]⟩
 |call k=>
  obtain⟨cal,args,ats⟩:=k
  have two:∀{x y:Operand},args[0]?=some x→args[1]?=some y→(args.map a.eval)[0]?=some (a.eval x)∧(args.map a.eval)[1]?=some (a.eval y):=fun h0 h1=>by simp[h0,h1]
  cases cal with
  |builtin b=>
   cases b<;>simp only[stepOp,reduceCtorEq] at hs
   case len=>
    simp only[Option.bind_eq_bind,Option.bind_eq_some_iff,Option.some.injEq,Prod.mk.injEq] at hs
    obtain⟨t,ht,x,hx,d,hd,r,hr,rfl,rfl⟩:=hs
    exact goes_value G hn (s:=Builtin.len_ ats o.type (args.map a.eval)) (by simp[execOp,ho,resolve,invoke,builtin]) (len_sound ht (by simp[hx]) (ev_rel hE hd) hr)
   case append=>
    simp only[Option.bind_eq_bind,Option.bind_eq_some_iff] at hs
    obtain⟨t,ht,tx,htx,x,hx,y,hy,d,hd,e,he,hs⟩:=hs
    simp only[appendC,Option.bind_eq_bind,Option.bind_eq_some_iff] at hs
    obtain⟨el,hel,el',hel',s,hsz,z,hz,i,hi,⟨k,ys⟩,hsrc,hs⟩:=hs
    simp only at hs
    split at hs
    ·rename_i hc
     obtain⟨zi,zv,hzi,hzv,hall,rfl⟩:=zeroC_some hz
     rw[hi] at hzi
     cases hzi
     obtain⟨si,hsi,hsz'⟩:=sz_info hsz
     rw[hi] at hsi
     cases hsi
     obtain⟨news,hsrc',hrn⟩:=srcOf_sound (P:=P) G (ev_rel hE he) (sliceE_some hel') hsrc hc.1
     obtain⟨a0,a1⟩:=two hx hy
     refine goes_done hn (s:=Builtin.append_ #[t,tx] o.type #[a.eval x,a.eval y]) ?_ (appendTo_sound G ok (sliceE_some hel) hi hsz' hzv hc.1 (by simpa using hc.2.1) hc.2.2 (ev_rel hE hd) hsrc' hrn hs)
     simp only[execOp,ho,resolve,pure_bind,invoke,builtin,append_congr ht htx a0 a1]
    ·cases hs
   case copy=>
    simp only[Option.bind_eq_bind,Option.bind_eq_some_iff] at hs
    obtain⟨t,ht,x,hx,y,hy,d,hd,e,he,hs⟩:=hs
    obtain⟨a0,a1⟩:=two hx hy
    refine goes_done hn (s:=Builtin.copy_ #[t,t] o.type #[a.eval x,a.eval y]) ?_ (copy_sound G (ev_rel hE hd) (ev_rel hE he) hs)
    simp only[execOp,ho,resolve,pure_bind,invoke,builtin,copy_congr (tx:=t) ht a0 a1]
   case clear=>
    simp only[Option.bind_eq_bind,Option.bind_eq_some_iff,Option.some.injEq,Prod.mk.injEq] at hs
    obtain⟨t,ht,x,hx,d,hd,h1,hst,rfl,rfl⟩:=hs
    obtain⟨w',hrun,G',E,hl⟩:=clear_sound (P:=P) (ty:=o.type) (ats:=ats) (args:=args.map a.eval) G ht (by simp[hx]) (ev_rel hE hd) hst
    refine wp_value (u:=.tuple #[]) (w':=w') (by simp[execOp,ho,resolve,invoke,builtin,hrun]) (hn _ w' S φ G' E ?_ (.inl (.inl ⟨rfl,hl⟩)))
    simp only[undefC,Rel]
    exact⟨#[],rfl,by simp[RelL]⟩
   case min=>
    simp only[Option.bind_eq_bind,Option.bind_eq_some_iff,Option.some.injEq,Prod.mk.injEq] at hs
    obtain⟨cs,hc,xs,hx,r,hr,rfl,rfl⟩:=hs
    have e:=scalars_rel (evs_rel hE hc) hx
    refine goes_value G hn (s:=Builtin.min_ #[] 0 xs.toArray) ?_ (pureV_sound hr)
    have e2:args.map a.eval=xs.toArray:=by rw[←e,←Array.toList_map]
    simp only[execOp,ho,resolve,pure_bind,invoke,builtin,e2]
    rfl
   case max=>
    simp only[Option.bind_eq_bind,Option.bind_eq_some_iff,Option.some.injEq,Prod.mk.injEq] at hs
    obtain⟨cs,hc,xs,hx,r,hr,rfl,rfl⟩:=hs
    have e:=scalars_rel (evs_rel hE hc) hx
    refine goes_value G hn (s:=Builtin.max_ #[] 0 xs.toArray) ?_ (pureV_sound hr)
    have e2:args.map a.eval=xs.toArray:=by rw[←e,←Array.toList_map]
    simp only[execOp,ho,resolve,pure_bind,invoke,builtin,e2]
    rfl
  |invoke r m=>simp[stepOp,calleeOf] at hs
  |value f=>
   simp only[stepOp,calleeOf,Option.bind_eq_bind,Option.bind_eq_some_iff] at hs
   obtain⟨⟨g,caps⟩,⟨d,hd,hg⟩,cs,hc,hs⟩:=hs
   obtain⟨us,hus,hcaps⟩:=fnOf_rel (ev_rel hE hd) hg
   obtain⟨⟨fn,code,hf,hname,hbody⟩,hcalls⟩:=hcall _ _ _ _ _ hs
   have hrel:=RelL.append (evs_rel hE hc) hcaps
   have hrun:(execOp a.eval o).run P w=.ok (.enter g ((args.toList.map a.eval++us.toList).toArray)) w:=by
    have e:(args.toList.map a.eval++us.toList).toArray=args.map a.eval++us:=by apply Array.ext';simp
    rw[e]
    have hname':¬fn.name="runtime.NumGoroutine" :=by simpa using hname
    simp[execOp,ho,resolve,hus,Deferred.ofValue,invoke,callFunc,hf,hname',hbody]
   unfold Oper.wp
   rw[hrun,Oper.upon_enter]
   refine(hcalls w X S φ _ G sq hrel).mono fun e w' ⟨u,S',φ',he,G',E,hr,hnm⟩=>?_
   subst he
   refine hn u w' S' φ' G' E hr ?_
   rcases hnm with ⟨rfl,rfl,rfl⟩|hnm
   ·exact .inl (.inl ⟨rfl,rfl⟩)
   ·exact .inr ⟨hnm,rfl⟩
 |_=>simp[stepOp] at hs
def ValSound (P:Program)(vals:FuncId→Bool)(call:CallF):Prop:=
 ∀(f:FuncId) (cs:List C) (h:Heap) (c:C) (h':Heap),vals f=true→call f cs h=some (c,h')→
  ∀(w:World) (X S:Nat→Prop) (φ:Nat→Loc) (us:List Value),Good w X S φ h→SeqOk S h→RelL w (badOf X φ h) S φ cs us→
   Calls P f us.toArray w fun e w'=>∃u,e=.returned u∧Good w' X S φ h∧Ext w S φ h w' S φ h∧Rel w' (badOf X φ h) S φ c u
theorem val_sound {call:CallF}{vals:FuncId→Bool}(hcall:CallOk P call)(hvs:ValSound P vals call)(G:Good w X S φ h)(sq:SeqOk S h){env:Env}(hE:RelE w (badOf X φ h) S φ env a.tmps){q:Call}(ho:o.op=.call q)(hq:isCallV (.call q)=true)
  (hvq:∀f cs,calleeOf env q.callee=some (f,cs)→vals f=true){c:C}{h':Heap}(hs:stepOp P call none env h (.call q)=some (c,h'))(hn:∀u w',Good w' X S φ h→Ext w S φ h w' S φ h→Rel w' (badOf X φ h) S φ c u→next (a.put o.dst u) w'):o.wp P a w next Q:=by
 obtain⟨cal,args,ats⟩:=q
 cases cal with
 |builtin b=>simp[isCallV] at hq
 |invoke r m=>simp[stepOp,calleeOf] at hs
 |value f=>
  simp only[stepOp,calleeOf,Option.bind_eq_bind,Option.bind_eq_some_iff] at hs
  obtain⟨⟨g,caps⟩,⟨d,hd,hg⟩,cs,hc,hs⟩:=hs
  obtain⟨us,hus,hcaps⟩:=fnOf_rel (ev_rel hE hd) hg
  obtain⟨⟨fn,code,hf,hname,hbody⟩,_⟩:=hcall _ _ _ _ _ hs
  have hvg:vals g=true:=hvq g caps (by simp only[calleeOf,hd,Option.bind_some,hg])
  have hcalls:=hvs _ _ _ _ _ hvg hs
  have hrel:=RelL.append (evs_rel hE hc) hcaps
  have hrun:(execOp a.eval o).run P w=.ok (.enter g ((args.toList.map a.eval++us.toList).toArray)) w:=by
   have e:(args.toList.map a.eval++us.toList).toArray=args.map a.eval++us:=by apply Array.ext';simp
   rw[e]
   have hname':¬fn.name="runtime.NumGoroutine" :=by simpa using hname
   simp[execOp,ho,resolve,hus,Deferred.ofValue,invoke,callFunc,hf,hname',hbody]
  unfold Oper.wp
  rw[hrun,Oper.upon_enter]
  refine(hcalls w X S φ _ G sq hrel).mono fun e w' ⟨u,he,G',E,hr⟩=>?_
  subst he
  exact hn u w' G' E hr
end
end Go.Tm
namespace Go.Tm
def dstOk (N:Nat):Option Nat→Bool
 |some d=>decide (d<N)
 |none=>true
def gOf (ops:Array Oper):Option (Nat×Bool)→Option (Option (Nat×Bool))
 |none=>some none
 |some (j,b)=>((ops[j]?).bind (·.dst)).map fun t=>some (t,b)
def toI (N:Nat)(ops:Array Oper)(o:Oper):Option I:=
 if dstOk N o.dst=true then(gOf ops o.guard).map fun g=>⟨o.dst,o.op,g⟩ else none
structure At (N:Nat)(X:Nat→Prop)(st:St)(S:Nat→Prop)(φ:Nat→Loc)(a:Act)(w:World):Prop where
 good:Good w X S φ st.heap
 seq:SeqOk S st.heap
 env:RelE w (badOf X φ st.heap) S φ st.env a.tmps
 size:a.tmps.size=N
 defers:a.defers=[]
section
variable {P:Program} {N:Nat} {X:Nat→Prop}
theorem Act.put_size (a:Act)(d:Option Tmp)(v:Value):(a.put d v).tmps.size=a.tmps.size:=by cases d<;>simp[Act.put]
theorem Act.put_defers' (a:Act)(d:Option Tmp)(v:Value):(a.put d v).defers=a.defers:=by cases d<;>rfl
theorem At.put {st:St}{S:Nat→Prop}{φ:Nat→Loc}{a:Act}{w:World}(A:At N X st S φ a w){d:Option Nat}(hd:∀t,d=some t→t<N){c:C}{u:Value}(hr:Rel w (badOf X φ st.heap) S φ c u):
  At N X (st.put d c) S φ (a.put d u) w:=by
 cases d with
 |none=>exact A
 |some t=>exact⟨A.good,A.seq,A.env.put (by rw[A.size];exact hd t rfl) hr,by rw[Act.put_size];exact A.size,A.defers⟩
theorem toI_eq {ops:Array Oper}{o:Oper}{i:I}(hi:toI N ops o=some i):i.dst=o.dst∧i.op=o.op∧(∀t,o.dst=some t→t<N)∧gOf ops o.guard=some i.g:=by
 unfold toI at hi
 split at hi
 ·rename_i hd
  have hlt:∀t,o.dst=some t→t<N:=fun t ht=>by rw[ht] at hd;simpa[dstOk] using hd
  simp only[Option.map_eq_some_iff] at hi
  obtain⟨g,hg,rfl⟩:=hi
  exact⟨rfl,rfl,hlt,hg⟩
 ·cases hi
theorem wantedC_sound {w:World}{bad S:Nat→Prop}{φ:Nat→Loc}{env:Env}{ops:Array Oper}{o:Oper}{i:I}{tmps:Array Value}(he:RelE w bad S φ env tmps)(hi:toI N ops o=some i){b:Bool}(hw:wantedC env i.g=some b):
  Region.wanted o (yielded ops tmps)=b:=by
 obtain⟨_,_,_,hg⟩:=toI_eq hi
 cases hog:o.guard with
 |none=>
  rw[hog] at hg
  simp only[gOf,Option.some.injEq] at hg
  rw[←hg] at hw
  simp only[wantedC,Option.some.injEq] at hw
  simp[Region.wanted,hog,hw]
 |some jw=>
  obtain⟨j,want⟩:=jw
  rw[hog] at hg
  simp only[gOf,Option.map_eq_some_iff] at hg
  obtain⟨t,ht,hgi⟩:=hg
  rw[←hgi] at hw
  simp only[wantedC] at hw
  split at hw
  ·rename_i x hx
   cases hw
   obtain⟨u,hu,hr⟩:=he t _ hx
   simp only[Rel] at hr
   obtain⟨rfl,_⟩:=hr
   simp only[Region.wanted,hog,yielded,ht,Option.bind_some,hu]
   cases x<;>cases want<;>rfl
  ·rename_i hx
   cases hw
   obtain⟨u,hu,hr⟩:=he t _ hx
   simp only[Rel] at hr
   obtain⟨us,rfl,_⟩:=hr
   simp only[Region.wanted,hog,yielded,ht,Option.bind_some,hu]
   rfl
  ·cases hw
theorem undef_rel {w:World}{bad S:Nat→Prop}{φ:Nat→Loc}:Rel w bad S φ undefC undef:=by
 simp only[undefC,Rel];exact⟨#[],rfl,by simp[RelL]⟩
theorem stepI_sound {call:CallF}(hcall:CallOk P call){ops:Array Oper}{o:Oper}{i:I}(hi:toI N ops o=some i){st st':St}(hs:stepI P call none i st=some st'){S:Nat→Prop}{φ:Nat→Loc}{a:Act}{w:World}(A:At N X st S φ a w)
  {next:Act→World→Prop}{Q:Exit→Act→World→Prop}(hn:∀S' φ' a' w',At N X st' S' φ' a' w'→Ext w S φ st.heap w' S' φ' st'.heap→next a' w'):
  if Region.wanted o (yielded ops a.tmps) then o.wp P a w next Q else next (a.put o.dst undef) w:=by
 simp only[stepI,Option.bind_eq_bind,Option.bind_eq_some_iff] at hs
 obtain⟨b,hb,hs⟩:=hs
 rw[wantedC_sound A.env hi hb]
 obtain⟨hdst,hop,hlt,_⟩:=toI_eq hi
 cases b with
 |true=>
  simp only[if_true,Option.map_eq_some_iff] at hs
  obtain⟨⟨c,h'⟩,hst,rfl⟩:=hs
  rw[if_pos rfl]
  refine op_sound hcall A.good A.seq A.env A.seq.alloc hop.symm hst fun u w' S' φ' G' E hr hnm=>?_
  have A':At N X ⟨st.env,h'⟩ S' φ' a w':=⟨G',A.seq.next hnm,A.env.later (E.later),A.size,A.defers⟩
  rw[←hdst]
  exact hn S' φ' _ w' (A'.put (by rw[hdst];exact hlt) hr) (by
   have:(St.put ⟨st.env,h'⟩ i.dst c).heap=h':=by cases i.dst<;>rfl
   rw[this];exact E)
 |false=>
  simp only[Bool.false_eq_true,if_false,Option.some.injEq] at hs
  subst hs
  rw[if_neg (by simp),←hdst]
  refine hn S φ _ w (A.put (by rw[hdst];exact hlt) undef_rel) ?_
  have:(st.put i.dst undefC).heap=st.heap:=by cases i.dst<;>rfl
  rw[this]
  exact Ext.refl _ _ _ _
end
end Go.Tm
namespace Go.Tm
def opTmps (l:List Operand):List Nat:=l.filterMap fun|.tmp t=>some t|_=>none
def uses (i:I):List Nat:=opTmps i.op.operands.toList++(match i.g with|some (t,_)=>[t]|none=>[])
def agree (l:List Nat)(e e':Env):Prop:=∀t∈l,look e t=look e' t
theorem ev_agree {l:List Operand}{e e':Env}(h:agree (opTmps l) e e'){x:Operand}(hx:x∈l):ev e x=ev e' x:=by
 cases x with
 |tmp t=>exact h t (List.mem_filterMap.2 ⟨_,hx,rfl⟩)
 |_=>rfl
theorem evs_agree {l:List Operand}{e e':Env}(h:agree (opTmps l) e e'):∀{xs:List Operand},(∀x∈xs,x∈l)→evs e xs=evs e' xs
 |[],_=>rfl
 |x::xs,hx=>by
  simp only[evs,ev_agree h (hx x (by simp)),evs_agree h (xs:=xs) (fun y hy=>hx y (List.mem_cons_of_mem _ hy))]
theorem evParts_agree {l:List Operand}{e e':Env}(h:agree (opTmps l) e e'):∀{xs:List (Nat×Operand)},(∀x∈xs,x.2∈l)→evParts e xs=evParts e' xs
 |[],_=>rfl
 |(i,x)::xs,hx=>by
  simp only[evParts,ev_agree h (hx (i,x) (by simp)),evParts_agree h (xs:=xs) (fun y hy=>hx y (List.mem_cons_of_mem _ hy))]
theorem evo_agree {l:List Operand}{e e':Env}(h:agree (opTmps l) e e'){x:Option Operand}(hx:∀y,x=some y→y∈l):evo e x=evo e' x:=by
 cases x with
 |none=>rfl
 |some x=>simp only[evo,ev_agree h (hx x rfl)]
theorem stepOp_agree {P:Program}{call:CallF}{al:Option Nat}{h:Heap}{o:Op}{e e':Env}(ha:agree (opTmps o.operands.toList) e e'):stepOp P call al e h o=stepOp P call al e' h o:=by
 have E:∀x,x∈o.operands.toList→ev e x=ev e' x:=fun x hx=>ev_agree ha hx
 cases o with
 |move x=>simp only[stepOp,E x (by simp[Op.operands])]
 |assign x=>simp only[stepOp,E x (by simp[Op.operands])]
 |pick c a b=>simp only[stepOp,E c (by simp[Op.operands]),E a (by simp[Op.operands]),E b (by simp[Op.operands])]
 |box t x=>simp only[stepOp,E x (by simp[Op.operands])]
 |build t ps=>simp only[stepOp,evParts_agree ha (xs:=ps.toList) (fun x hx=>by simp[Op.operands];exact⟨x.1,by simpa using hx⟩)]
 |buildSlice t n ps=>simp only[stepOp,evParts_agree ha (xs:=ps.toList) (fun x hx=>by simp[Op.operands];exact⟨x.1,by simpa using hx⟩)]
 |load t x=>simp only[stepOp,E x (by simp[Op.operands])]
 |store t x y=>simp only[stepOp,E x (by simp[Op.operands]),E y (by simp[Op.operands])]
 |nilCheck x=>simp only[stepOp,E x (by simp[Op.operands])]
 |binOp b t x y u=>simp only[stepOp,E x (by simp[Op.operands]),E y (by simp[Op.operands])]
 |unOp b t x=>simp only[stepOp,E x (by simp[Op.operands])]
 |convert s d x=>simp only[stepOp,E x (by simp[Op.operands])]
 |makeFunc f first caps=>simp only[stepOp,evs_agree ha (xs:=caps.toList) (fun x hx=>by simp[Op.operands];exact .inr (by simpa using hx))]
 |makeSlice t x y=>simp only[stepOp,E x (by simp[Op.operands]),E y (by simp[Op.operands])]
 |slice t x lo hi mx=>
  simp only[stepOp,E x (by simp[Op.operands]),evo_agree ha (x:=lo) (fun y hy=>by subst hy;simp[Op.operands]),evo_agree ha (x:=hi) (fun y hy=>by subst hy;simp[Op.operands]),evo_agree ha (x:=mx) (fun y hy=>by subst hy;simp[Op.operands])]
 |fieldAddr t x f=>simp only[stepOp,E x (by simp[Op.operands])]
 |field t x f=>simp only[stepOp,E x (by simp[Op.operands])]
 |indexAddr t x y=>simp only[stepOp,E x (by simp[Op.operands]),E y (by simp[Op.operands])]
 |index t x y=>simp only[stepOp,E x (by simp[Op.operands]),E y (by simp[Op.operands])]
 |extract x i=>simp only[stepOp,E x (by simp[Op.operands])]
 |makeMap t r=>cases r<;>simp only[stepOp]
 |lookup t x i b=>simp only[stepOp,E x (by simp[Op.operands]),E i (by simp[Op.operands])]
 |mapUpdate t m k v=>simp only[stepOp,E m (by simp[Op.operands]),E k (by simp[Op.operands]),E v (by simp[Op.operands])]
 |call c=>
  obtain⟨cal,args,ats⟩:=c
  have harg:∀x,x∈args.toList→x∈(Op.call { callee:=cal,args:=args,argTypes:=ats }).operands.toList:=fun x hx=>by
   simp only[Op.operands,Call.operands,Array.toList_append,List.mem_append]
   exact .inr hx
  have hat:∀(i:Nat) (x:Operand),args[i]?=some x→ev e x=ev e' x:=fun i x hx=>E x (harg x (Array.mem_toList_iff.2 (Array.mem_of_getElem? hx)))
  have hargs:=evs_agree ha (xs:=args.toList) harg
  cases cal with
  |builtin b=>
   cases b<;>simp only[stepOp,hargs]
   case len=>
    cases h0:args[0]? with
    |none=>rfl
    |some x=>simp only[Option.bind_eq_bind,Option.bind_some,hat 0 x h0]
   case append=>
    cases h0:args[0]? with
    |none=>rfl
    |some x=>cases h1:args[1]? with
     |none=>rfl
     |some y=>simp only[Option.bind_eq_bind,Option.bind_some,hat 0 x h0,hat 1 y h1]
   case copy=>
    cases h0:args[0]? with
    |none=>rfl
    |some x=>cases h1:args[1]? with
     |none=>rfl
     |some y=>simp only[Option.bind_eq_bind,Option.bind_some,hat 0 x h0,hat 1 y h1]
   case clear=>
    cases h0:args[0]? with
    |none=>rfl
    |some x=>simp only[Option.bind_eq_bind,Option.bind_some,hat 0 x h0]
  |invoke r m=>simp only[stepOp,calleeOf];rfl
  |value f=>
   have hf:ev e f=ev e' f:=E f (by simp[Op.operands,Call.operands])
   simp only[stepOp,calleeOf,hf,hargs]
 |_=>rfl
theorem wantedC_agree {e e':Env}{g:Option (Nat×Bool)}(h:∀t b,g=some (t,b)→look e t=look e' t):wantedC e g=wantedC e' g:=by
 cases g with
 |none=>rfl
 |some x=>obtain⟨t,b⟩:=x;simp only[wantedC,h t b rfl]
def pureOk:Op→Bool
 | .move _|.assign _|.pick .. |.build .. |.nilCheck _|.binOp .. |.unOp .. |.makeFunc .. |.fieldAddr .. |.field .. |.indexAddr .. |.index .. |.extract .. =>true
 | .call c=>match c.callee with
  | .builtin .len|.builtin .min|.builtin .max=>true
  |_=>false
 |_=>false
def chainOk0:Op→Bool
 | .alloc _|.box .. |.buildSlice .. |.makeSlice .. |.store .. =>true
 | .call c=>match c.callee with
  | .builtin .append|.builtin .copy=>true
  |_=>false
 |_=>false
def chainOk (o:Op):Bool:=chainOk0 o||isCallV o
theorem pure_any {P:Program}{call:CallF}{al:Option Nat}{env:Env}{h h':Heap}{o:Op}(ho:pureOk o=true){c:C}(hs:stepOp P call al env h o=some (c,h')):h'=h∧∀k,stepOp P call al env k o=some (c,k):=by
 cases o<;>simp only[pureOk,Bool.false_eq_true] at ho
 case call k=>
  obtain⟨cal,args,ats⟩:=k
  cases cal with
  |builtin b=>
   cases b<;>simp only[Bool.false_eq_true] at ho
   all_goals simp only[stepOp,Option.bind_eq_bind,Option.bind_eq_some_iff,Option.some.injEq,Prod.mk.injEq] at hs
   case len=>
    obtain⟨t,h1,x,h2,d,h3,r,h4,rfl,rfl⟩:=hs
    exact⟨rfl,fun k=>by simp[stepOp,h1,h2,h3,h4]⟩
   case max=>
    obtain⟨t,h1,x,h2,r,h3,rfl,rfl⟩:=hs
    exact⟨rfl,fun k=>by simp[stepOp,h1,h2,h3]⟩
   case min=>
    obtain⟨t,h1,x,h2,r,h3,rfl,rfl⟩:=hs
    exact⟨rfl,fun k=>by simp[stepOp,h1,h2,h3]⟩
  |invoke r m=>cases ho
  |value f=>cases ho
 case pick x y z=>
  simp only[stepOp,Option.bind_eq_bind,Option.bind_eq_some_iff] at hs
  obtain⟨t,h1,b,h2,h3⟩:=hs
  cases b with
  |true=>
   simp only[if_true,Option.bind_eq_some_iff,Option.some.injEq,Prod.mk.injEq] at h3
   obtain⟨r,h3,rfl,rfl⟩:=h3
   exact⟨rfl,fun k=>by simp[stepOp,h1,h2,h3]⟩
  |false=>
   simp only[Bool.false_eq_true,if_false,Option.bind_eq_some_iff,Option.some.injEq,Prod.mk.injEq] at h3
   obtain⟨r,h3,rfl,rfl⟩:=h3
   exact⟨rfl,fun k=>by simp[stepOp,h1,h2,h3]⟩
 case nilCheck x=>
  simp only[stepOp,Option.bind_eq_bind,Option.bind_eq_some_iff] at hs
  obtain⟨t,h1,h2⟩:=hs
  split at h2
  ·rename_i hc
   cases h2
   exact⟨rfl,fun k=>by simp[stepOp,h1,hc]⟩
  ·cases h2
 case makeFunc f first caps=>
  simp only[stepOp,Option.bind_eq_bind,Option.bind_eq_some_iff] at hs
  obtain⟨t,h1,h2⟩:=hs
  split at h2
  ·split at h2
   ·rename_i hc
    cases h2
    exact⟨rfl,fun k=>by simp[stepOp,h1,hc]⟩
   ·cases h2
  ·cases h2
 all_goals
  simp only[stepOp,Option.bind_eq_bind,Option.bind_eq_some_iff,Option.some.injEq,Prod.mk.injEq] at hs
  first
  |(obtain⟨t,h1,rfl,rfl⟩:=hs;exact⟨rfl,fun k=>by simp[stepOp,h1]⟩)
  |(obtain⟨t,h1,u,h2,rfl,rfl⟩:=hs;exact⟨rfl,fun k=>by simp[stepOp,h1,h2]⟩)
  |(obtain⟨t,h1,u,h2,v,h3,rfl,rfl⟩:=hs;exact⟨rfl,fun k=>by simp[stepOp,h1,h2,h3]⟩)
def ValsOk (vals:FuncId→Bool)(call:CallF):Prop:=∀f cs h c h',vals f=true→call f cs h=some (c,h')→h'=h∧∀k,((∀x∈cs,∃v,x=.v v)∨∀(l:Nat) (nd:Node),h[l]?=some nd→k[l]?=some nd)→call f cs k=some (c,k)
theorem load_any {P:Program}{call:CallF}{vals:FuncId→Bool}(hv:ValsOk vals call){al:Option Nat}{env:Env}{h h':Heap}{o:Op}(ho:loadOk vals env o=true){c:C}(hs:stepOp P call al env h o=some (c,h')):h'=h:=by
 cases o<;>simp only[loadOk,Bool.false_eq_true,reduceCtorEq] at ho
 case load t x=>
  simp only[stepOp,Option.bind_eq_bind,Option.bind_eq_some_iff,Option.some.injEq,Prod.mk.injEq] at hs
  obtain⟨_,_,_,_,_,rfl⟩:=hs
  rfl
 case slice t x lo hi mx=>
  simp only[stepOp,Option.bind_eq_bind,Option.bind_eq_some_iff,Option.some.injEq,Prod.mk.injEq] at hs
  obtain⟨_,_,_,_,_,_,_,_,_,_,_,rfl⟩:=hs
  rfl
 case call k=>
  obtain⟨cal,args,ats⟩:=k
  cases cal with
  |builtin b=>simp[calleeOf] at ho
  |invoke r m=>simp[calleeOf] at ho
  |value f=>
   simp only[stepOp,Option.bind_eq_bind,Option.bind_eq_some_iff] at hs
   obtain⟨⟨g,caps⟩,hg,cs,hc,hcall⟩:=hs
   simp only[hg] at ho
   exact(hv _ _ _ _ _ ho hcall).1
theorem cellsAt_row {h k:Heap}{l off:Nat}(e:h[l]?=k[l]?):cellsAt h (.op l off)=cellsAt k (.op l off):=by simp only[cellsAt,e]
theorem load_row {P:Program}{call:CallF}{al:Option Nat}{env:Env}{h k:Heap}{t:TypeId}{x:Operand}{p c:C}{h':Heap}(hp:ev env x=some p)(hrow:∀l off,p=.op l off→h[l]?=k[l]?)
  (hs:stepOp P call al env h (.load t x)=some (c,h')):stepOp P call al env k (.load t x)=some (c,k):=by
 simp only[stepOp,hp,Option.bind_eq_bind,Option.bind_some,Option.bind_eq_some_iff,Option.some.injEq,Prod.mk.injEq] at hs
 obtain⟨r,hr,rfl,rfl⟩:=hs
 have hr2:loadC P k t p=some r:=by
  unfold loadC at hr⊢
  cases p with
  |op l off=>rw[←cellsAt_row (hrow l off rfl)];exact hr
  |fp xs=>exact hr
  |_=>simp[cellsAt] at hr
 simp[stepOp,hp,hr2]
theorem sliceC_row {P:Program}{h k:Heap}{t:TypeId}{x:C}{lo hi mx:Option C}(hrow:∀l off len cap,x=.os l off len cap→h[l]?=k[l]?):sliceC P h t x lo hi mx=sliceC P k t x lo hi mx:=by
 by_cases hx:∃l off len cap,x=.os l off len cap
 ·obtain⟨l,off,len,cap,rfl⟩:=hx
  have e:=hrow l off len cap rfl
  unfold sliceC
  simp only[e]
 ·unfold sliceC
  cases P.underlying t with
  |none=>rfl
  |some d=>
   cases d<;>try rfl
   simp only
   congr 1
   funext s
   cases x with
   |os l off len cap=>exact absurd ⟨_,_,_,_,rfl⟩ hx
   |v y=>
    cases y<;>try rfl
    rename_i a l c
    cases a<;>try rfl
    cases l<;>cases c<;>rfl
   |_=>rfl
theorem scalE_evs {env:Env}:∀{xs:List Operand} {cs:List C},scalE env xs=true→evs env xs=some cs→∀x∈cs,∃v,x=C.v v
 |[],cs,_,h=>by cases h;intro x hx;cases hx
 |y::xs,cs,hsc,h=>by
  simp only[evs,Option.bind_eq_bind,Option.bind_eq_some_iff,Option.some.injEq] at h
  obtain⟨c,h1,ds,h2,rfl⟩:=h
  simp only[scalE,h1] at hsc
  split at hsc
  ·rename_i v hv
   cases hv
   intro x hx
   rcases List.mem_cons.1 hx with rfl|hx
   ·exact⟨_,rfl⟩
   ·exact scalE_evs hsc h2 x hx
  ·cases hsc
theorem read_row {P:Program}{call:CallF}{vals:FuncId→Bool}(hv:ValsOk vals call){al:Option Nat}{env:Env}{h k:Heap}{o:Op}{ro:Option Nat}{c:C}{h':Heap}(ho:loadOk vals env o=true)(hr:readRow env o=some ro)(hrow:∀a,ro=some a→h[a]?=k[a]?)
  (hs:stepOp P call al env h o=some (c,h')):stepOp P call al env k o=some (c,k):=by
 cases o<;>simp only[readRow,reduceCtorEq] at hr
 case load t x=>
  cases hp:ev env x with
  |none=>simp[stepOp,hp] at hs
  |some p=>
   refine load_row hp (fun l off e=>?_) hs
   subst e
   rw[hp] at hr
   exact hrow l (by simpa using hr.symm)
 case slice t x lo hi mx=>
  simp only[stepOp,Option.bind_eq_bind,Option.bind_eq_some_iff,Option.some.injEq,Prod.mk.injEq] at hs⊢
  obtain⟨p,hp,l,hl,m,hm,n,hn,r,hq,rfl,rfl⟩:=hs
  refine⟨p,hp,l,hl,m,hm,n,hn,r,?_,rfl,trivial⟩
  rw[←hq]
  refine(sliceC_row fun l off len cap e=>?_).symm
  subst e
  rw[hp] at hr
  exact hrow l (by simpa using hr.symm)
 case call q=>
  split at hr
  ·rename_i hsc
   obtain⟨cal,args,ats⟩:=q
   unfold scalCall at hsc
   split at hsc
   ·rename_i f hcal
    simp only at hcal
    subst hcal
    simp only[stepOp,Option.bind_eq_bind,Option.bind_eq_some_iff] at hs⊢
    obtain⟨⟨g,caps⟩,hg,cs,hc,hcall⟩:=hs
    simp only[loadOk,hg] at ho
    have hg':g=f∧caps=[]:=by simp only[calleeOf,ev,fnOf,Option.bind_some,Option.some.injEq,Prod.mk.injEq] at hg;exact⟨hg.1.symm,hg.2.symm⟩
    obtain⟨rfl,rfl⟩:=hg'
    refine⟨(g,[]),hg,cs,hc,?_⟩
    simp only[List.append_nil] at hcall⊢
    exact(hv _ _ _ _ _ ho hcall).2 k (.inl (scalE_evs hsc hc))
   ·cases hsc
  ·cases hr
theorem read_lt {P:Program}{call:CallF}{al:Option Nat}{env:Env}{h:Heap}{o:Op}{a:Nat}{c:C}{h':Heap}(hr:readRow env o=some (some a))(hs:stepOp P call al env h o=some (c,h')):a<h.length:=by
 cases o<;>simp only[readRow,reduceCtorEq] at hr
 case load t x=>
  split at hr
  ·rename_i l off hzl
   cases hr
   simp only[stepOp,hzl,Option.bind_eq_bind,Option.bind_some,Option.bind_eq_some_iff] at hs
   obtain⟨c,hc,_⟩:=hs
   simp only[loadC,cellsAt,Option.bind_eq_bind,Option.bind_eq_some_iff] at hc
   obtain⟨cs,hcs,_⟩:=hc
   split at hcs
   ·rename_i e cs' hl;exact(List.getElem?_eq_some_iff.1 hl).1
   ·cases hcs
  ·cases hr
  ·cases hr
 case call q=>
  split at hr
  ·simp only[Option.some.injEq,reduceCtorEq] at hr
  ·cases hr
 case slice t x lo hi mx=>
  split at hr
  ·rename_i l off len cap hzl
   cases hr
   simp only[stepOp,hzl,Option.bind_eq_bind,Option.bind_some,Option.bind_eq_some_iff,Option.some.injEq,Prod.mk.injEq] at hs
   obtain⟨l,hl,m,hm,n,hn,r,hq,rfl,rfl⟩:=hs
   unfold sliceC at hq
   split at hq
   ·cases hq
   ·simp only[Option.bind_eq_some_iff] at hq
    obtain⟨s,_,hq⟩:=hq
    split at hq
    ·rename_i e cs' hl';exact(List.getElem?_eq_some_iff.1 hl').1
    ·cases hq
   ·cases hq
  ·cases hr
  ·cases hr
  ·cases hr
theorem new_keeps (h:Heap)(nd:Node){l:Nat}(hl:l<h.length):(new h none nd).2[l]?=h[l]?:=by
 simp only[new];rw[List.getElem?_append_left hl]
theorem appendTo_keeps {h h':Heap}{s k:Nat}{ys:List C}{d c:C}(ha:appendTo h none s k ys d=some (c,h')){l:Nat}(hl:l<h.length)(hne:∀a off len cap,d=.os a off len cap→l≠a):h'[l]?=h[l]?:=by
 unfold appendTo at ha
 split at ha
 ·split at ha
  ·cases ha;rfl
  ·split at ha
   ·cases ha;exact new_keeps h _ hl
   ·cases ha
 ·rename_i a off len cap
  have hla:=hne a off len cap rfl
  split at ha
  ·split at ha
   ·split at ha
    ·split at ha
     ·split at ha
      ·cases ha;rw[List.getElem?_set_ne (fun e=>hla e.symm)]
      ·cases ha
     ·split at ha
      ·cases ha;exact new_keeps h _ hl
      ·cases ha
    ·split at ha
     ·cases ha;rfl
     ·split at ha
      ·cases ha;rw[List.getElem?_set_ne (fun e=>hla e.symm)]
      ·split at ha
       ·cases ha
        rw[new_keeps (h.set a .dead) _ (by simpa using hl),List.getElem?_set_ne (fun e=>hla e.symm)]
       ·cases ha
   ·cases ha
  ·cases ha
 ·split at ha
  ·cases ha;rfl
  ·split at ha
   ·split at ha
    ·split at ha
     ·cases ha;exact new_keeps h _ hl
     ·cases ha
    ·cases ha
   ·cases ha
 ·cases ha
theorem chain_keeps {P:Program}{call:CallF}{env:Env}{h h':Heap}{o:Op}(ho:chainOk0 o=true){c:C}(hs:stepOp P call none env h o=some (c,h')){l:Nat}(hl:l<h.length)(hne:touches env o≠some l):h'[l]?=h[l]?:=by
 cases o<;>simp only[chainOk0,Bool.false_eq_true,reduceCtorEq] at ho
 case alloc t=>
  simp only[stepOp,Option.bind_eq_bind,Option.bind_eq_some_iff,Option.some.injEq,Prod.mk.injEq] at hs
  obtain⟨z,_,_,rfl⟩:=hs
  exact new_keeps h _ hl
 case box t x=>
  simp only[stepOp,Option.bind_eq_bind,Option.bind_eq_some_iff] at hs
  obtain⟨d,_,hs⟩:=hs
  split at hs
  ·cases hs;exact new_keeps h _ hl
  ·cases hs
 case buildSlice t n ps=>
  simp only[stepOp,buildSliceC,Option.bind_eq_bind,Option.bind_eq_some_iff] at hs
  obtain⟨_,_,_,_,_,_,_,_,hs⟩:=hs
  split at hs
  ·cases hs;exact new_keeps h _ hl
  ·cases hs
 case makeSlice t x y=>
  simp only[stepOp,makeSliceC,Option.bind_eq_bind,Option.bind_eq_some_iff] at hs
  obtain⟨_,_,_,_,_,_,_,_,_,_,_,_,_,_,hs⟩:=hs
  split at hs
  ·cases hs;exact new_keeps h _ hl
  ·cases hs
 case store t x y=>
  simp only[stepOp,Option.bind_eq_bind,Option.bind_eq_some_iff,Option.some.injEq,Prod.mk.injEq] at hs
  obtain⟨p,hp,d,_,k,hst,_,rfl⟩:=hs
  unfold storeC at hst
  split at hst
  ·rename_i a off
   simp only[touches,hp,ne_eq,Option.some.injEq] at hne
   split at hst
   ·split at hst
    ·cases hst
     rw[List.getElem?_set_ne hne]
    ·cases hst
   ·cases hst
  ·cases hst
 case call k=>
  obtain⟨cal,args,ats⟩:=k
  cases cal with
  |builtin b=>
   cases b<;>simp only[Bool.false_eq_true] at ho
   case append=>
    simp only[stepOp,appendC,Option.bind_eq_bind,Option.bind_eq_some_iff] at hs
    obtain⟨_,_,_,_,x,hx,_,_,d,hd,_,_,_,_,_,_,_,_,_,_,_,_,_,_,hs⟩:=hs
    split at hs
    ·refine appendTo_keeps hs hl fun a off len cap e=>?_
     subst e
     simp only[touches,hx,hd,ne_eq,Option.some.injEq] at hne
     exact fun e=>hne e.symm
    ·cases hs
   case copy=>
    simp only[stepOp,copyC,Option.bind_eq_bind,Option.bind_eq_some_iff] at hs
    obtain⟨_,_,x,hx,_,_,d,hd,_,_,_,_,_,_,_,_,hs⟩:=hs
    split at hs
    ·cases hs;rfl
    ·rename_i a off len cap _
     simp only[touches,hx,hd,ne_eq,Option.some.injEq] at hne
     split at hs
     ·split at hs
      ·cases hs;rw[List.getElem?_set_ne hne]
      ·cases hs
     ·cases hs
    ·cases hs
  |invoke r m=>cases ho
  |value f=>cases ho
theorem new_len_le (h:Heap)(nd:Node):h.length≤(new h none nd).2.length:=by simp[new]
theorem appendTo_len {h h':Heap}{s k:Nat}{ys:List C}{d c:C}(ha:appendTo h none s k ys d=some (c,h')):h.length≤h'.length:=by
 unfold appendTo at ha
 repeat' split at ha
 all_goals first
  |cases ha;done
  |(cases ha;exact Nat.le_refl _)
  |(cases ha;exact new_len_le h _)
  |(cases ha;simp;done)
  |(cases ha;simp[newRow,new];done)
theorem chain_len {P:Program}{call:CallF}{env:Env}{h h':Heap}{o:Op}(ho:chainOk0 o=true){c:C}(hs:stepOp P call none env h o=some (c,h')):h.length≤h'.length:=by
 cases o<;>simp only[chainOk0,Bool.false_eq_true] at ho
 case alloc t=>
  simp only[stepOp,Option.bind_eq_bind,Option.bind_eq_some_iff,Option.some.injEq,Prod.mk.injEq] at hs
  obtain⟨z,_,_,rfl⟩:=hs
  exact new_len_le h _
 case box t x=>
  simp only[stepOp,Option.bind_eq_bind,Option.bind_eq_some_iff] at hs
  obtain⟨d,_,hs⟩:=hs
  split at hs
  ·cases hs;exact new_len_le h _
  ·cases hs
 case buildSlice t n ps=>
  simp only[stepOp,buildSliceC,Option.bind_eq_bind,Option.bind_eq_some_iff] at hs
  obtain⟨_,_,_,_,_,_,_,_,hs⟩:=hs
  split at hs
  ·cases hs;exact new_len_le h _
  ·cases hs
 case makeSlice t x y=>
  simp only[stepOp,makeSliceC,Option.bind_eq_bind,Option.bind_eq_some_iff] at hs
  obtain⟨_,_,_,_,_,_,_,_,_,_,_,_,_,_,hs⟩:=hs
  split at hs
  ·cases hs;exact new_len_le h _
  ·cases hs
 case store t x y=>
  simp only[stepOp,Option.bind_eq_bind,Option.bind_eq_some_iff,Option.some.injEq,Prod.mk.injEq] at hs
  obtain⟨p,hp,d,_,k,hst,_,rfl⟩:=hs
  unfold storeC at hst
  split at hst
  ·split at hst
   ·split at hst
    ·cases hst;simp
    ·cases hst
   ·cases hst
  ·cases hst
 case call k=>
  obtain⟨cal,args,ats⟩:=k
  cases cal with
  |builtin b=>
   cases b<;>simp only[Bool.false_eq_true] at ho
   case append=>
    simp only[stepOp,appendC,Option.bind_eq_bind,Option.bind_eq_some_iff] at hs
    obtain⟨_,_,_,_,x,hx,_,_,d,hd,_,_,_,_,_,_,_,_,_,_,_,_,_,_,hs⟩:=hs
    split at hs
    ·exact appendTo_len hs
    ·cases hs
   case copy=>
    simp only[stepOp,copyC,Option.bind_eq_bind,Option.bind_eq_some_iff] at hs
    obtain⟨_,_,x,hx,_,_,d,hd,_,_,_,_,_,_,_,_,hs⟩:=hs
    split at hs
    ·cases hs;exact Nat.le_refl _
    ·split at hs
     ·split at hs
      ·cases hs;simp
      ·cases hs
     ·cases hs
    ·cases hs
  |invoke r m=>cases ho
  |value f=>cases ho
theorem bytesEq (a b:ByteArray):(a==b)=true↔a=b:=MapKept.bytes_beq a b
theorem veq_eq {a b:Value}(h:veq a b=true):a=b:=by
 unfold veq at h
 split at h
 ·simp only[Bool.and_eq_true,decide_eq_true_eq] at h
  rw[h.1,h.2]
 ·rw[eq_of_beq h]
 ·rw[(bytesEq _ _).1 h]
 ·simp only[Bool.and_eq_true] at h
  rw[Nat.eq_of_beq_eq_true h.1,Nat.eq_of_beq_eq_true h.2]
 ·rfl
 ·cases h
theorem oeq_eq {a b:Option Nat}(h:oeq a b=true):a=b:=by
 unfold oeq at h
 split at h
 ·rfl
 ·rw[Nat.eq_of_beq_eq_true h]
 ·cases h
mutual
theorem ceq_eq:∀{a b:C},ceq a b=true→a=b
 | .v a,b,h=>by
  cases b<;>simp only[ceq,Bool.false_eq_true] at h
  rw[veq_eq h]
 | .fs xs l c,b,h=>by
  cases b<;>simp only[ceq,Bool.false_eq_true,Bool.and_eq_true] at h
  rw[ceqs_eq h.1,Nat.eq_of_beq_eq_true h.2.1,oeq_eq h.2.2]
 | .fp xs,b,h=>by
  cases b<;>simp only[ceq,Bool.false_eq_true] at h
  rw[ceqs_eq h]
 | .os l o n c,b,h=>by
  cases b<;>simp only[ceq,Bool.false_eq_true,Bool.and_eq_true] at h
  rw[Nat.eq_of_beq_eq_true h.1,Nat.eq_of_beq_eq_true h.2.1,Nat.eq_of_beq_eq_true h.2.2.1,oeq_eq h.2.2.2]
 | .op l o,b,h=>by
  cases b<;>simp only[ceq,Bool.false_eq_true,Bool.and_eq_true] at h
  rw[Nat.eq_of_beq_eq_true h.1,Nat.eq_of_beq_eq_true h.2]
 | .om l,b,h=>by
  cases b<;>simp only[ceq,Bool.false_eq_true] at h
  rw[Nat.eq_of_beq_eq_true h]
 | .fn f cs,b,h=>by
  cases b<;>simp only[ceq,Bool.false_eq_true] at h
 | .agg xs,b,h=>by
  cases b<;>simp only[ceq,Bool.false_eq_true] at h
  rw[ceqs_eq h]
 | .tup xs,b,h=>by
  cases b<;>simp only[ceq,Bool.false_eq_true] at h
  rw[ceqs_eq h]
theorem ceqs_eq:∀{a b:List C},ceqs a b=true→a=b
 |[],b,h=>by
  cases b<;>simp only[ceqs,Bool.false_eq_true] at h
  rfl
 |x::xs,b,h=>by
  cases b<;>simp only[ceqs,Bool.false_eq_true,Bool.and_eq_true] at h
  rw[ceq_eq h.1,ceqs_eq h.2]
end
theorem sameRow_eq {h h':Heap}{a:Nat}(H:sameRow h h' a=true):h'[a]?=h[a]?:=by
 unfold sameRow at H
 split at H
 ·rename_i x y hx hy
  rw[hx,hy]
  unfold nodeEq at H
  split at H
  ·rfl
  ·simp only[Bool.and_eq_true] at H
   rw[Nat.eq_of_beq_eq_true H.1,ceqs_eq H.2]
  ·cases H
 ·cases H
theorem chain0_of {o:Op}(h:chainOk o=true)(hv:isCallV o=false):chainOk0 o=true:=by
 unfold chainOk at h
 rw[hv,Bool.or_false] at h
 exact h
def isNew:Op→Bool
 | .alloc _|.box .. |.buildSlice .. |.makeSlice .. =>true
 |_=>false
theorem new_step {P:Program}{call:CallF}{env:Env}{h h':Heap}{o:Op}(ho:isNew o=true){c:C}(hs:stepOp P call none env h o=some (c,h')):
  ∃nd,h'=h++[nd]∧∀al k,(new k al nd).1=h.length→stepOp P call al env k o=some (c,(new k al nd).2):=by
 cases o<;>simp only[isNew,Bool.false_eq_true] at ho
 case alloc e=>
  simp only[stepOp,Option.bind_eq_bind,Option.bind_eq_some_iff,Option.some.injEq,Prod.mk.injEq] at hs
  obtain⟨z,hz,rfl,rfl⟩:=hs
  refine⟨.row 0 z,rfl,fun al k hk=>?_⟩
  simp only[stepOp,hz,Option.bind_eq_bind,Option.bind_some,hk]
  rfl
 case box e x=>
  simp only[stepOp,Option.bind_eq_bind,Option.bind_eq_some_iff] at hs
  obtain⟨d,hd,hs⟩:=hs
  split at hs
  ·rename_i hc
   simp only[Option.some.injEq,Prod.mk.injEq] at hs
   obtain⟨rfl,rfl⟩:=hs
   refine⟨.row 0 d.cells,rfl,fun al k hk=>?_⟩
   simp only[stepOp,hd,Option.bind_eq_bind,Option.bind_some,hk,if_pos hc]
   rfl
  ·cases hs
 case buildSlice t n ps=>
  simp only[stepOp,Option.bind_eq_bind,Option.bind_eq_some_iff] at hs
  obtain⟨qs,hq,hs⟩:=hs
  simp only[buildSliceC,Option.bind_eq_bind,Option.bind_eq_some_iff] at hs
  obtain⟨e,he,⟨s,cs⟩,hr,ds,hf,hs⟩:=hs
  split at hs
  ·rename_i hc
   simp only[Option.some.injEq,Prod.mk.injEq] at hs
   obtain⟨rfl,rfl⟩:=hs
   refine⟨.row s ds,rfl,fun al k hk=>?_⟩
   simp only[stepOp,hq,buildSliceC,he,hr,hf,Option.bind_eq_bind,Option.bind_some,hk,if_pos hc]
   rfl
  ·cases hs
 case makeSlice t x y=>
  simp only[stepOp,Option.bind_eq_bind,Option.bind_eq_some_iff] at hs
  obtain⟨d,hd,e,he,hs⟩:=hs
  simp only[makeSliceC,Option.bind_eq_bind,Option.bind_eq_some_iff] at hs
  obtain⟨t2,ht,⟨k1,n1⟩,hn,⟨k2,c1⟩,hc1,i,hi,⟨s,cs⟩,hr,hs⟩:=hs
  split at hs
  ·rename_i hc
   simp only[Option.some.injEq,Prod.mk.injEq] at hs
   obtain⟨rfl,rfl⟩:=hs
   refine⟨.row s cs,rfl,fun al k hk=>?_⟩
   simp only[stepOp,hd,he,makeSliceC,ht,hn,hc1,hi,hr,Option.bind_eq_bind,Option.bind_some,hk,if_pos hc]
   rfl
  ·cases hs
theorem new_sound {P:Program}{w:World}{X S:Nat→Prop}{φ:Nat→Loc}{h:Heap}{al:Option Nat}{o:Oper}{a:Act}{next:Act→World→Prop}{Q:Exit→Act→World→Prop}{call:CallF}(G:Good w X S φ h){env:Env}(hE:RelE w (badOf X φ h) S φ env a.tmps)(ok:AllocOk S h al){op:Op}(ho:o.op=op)(hnew:isNew op=true){c:C}{h':Heap}
  (hs:stepOp P call al env h op=some (c,h'))(hn:∀u w' S' φ',Good w' X S' φ' h'→Ext w S φ h w' S' φ' h'→Rel w' (badOf X φ' h') S' φ' c u→Names S S' h h' al→next (a.put o.dst u) w'):o.wp P a w next Q:=by
 have go:∀{s:Sem Value},(execOp a.eval o).run P w=(do pure (.value (←s)):Sem Next).run P w→Done w X S φ h al (s.run P w) c h'→o.wp P a w next Q:=fun {s} he hd=>by
  obtain⟨u,w',S',φ',hr,G',E,hrel,hnm⟩:=hd
  exact wp_value (u:=u) (w':=w') (by rw[he];simp[hr]) (hn u w' S' φ' G' E hrel hnm)
 cases op<;>simp only[isNew,Bool.false_eq_true] at hnew
 case alloc e=>
  simp only[stepOp,Option.bind_eq_bind,Option.bind_eq_some_iff,Option.some.injEq,Prod.mk.injEq] at hs
  obtain⟨z,hz,rfl,rfl⟩:=hs
  exact go (s:=Instr.alloc e true (.tuple #[])) (by simp[execOp,ho]) (alloc_sound G ok hz)
 case box e x=>
  simp only[stepOp,Option.bind_eq_bind,Option.bind_eq_some_iff] at hs
  obtain⟨d,hd,hs⟩:=hs
  split at hs
  ·rename_i hc
   simp only[Option.some.injEq,Prod.mk.injEq] at hs
   obtain⟨rfl,rfl⟩:=hs
   exact go (s:=Instr.box e (a.eval x)) (by simp[execOp,ho]) (box_sound G ok (ev_rel hE hd) hc)
  ·cases hs
 case buildSlice t n ps=>
  simp only[stepOp,Option.bind_eq_bind,Option.bind_eq_some_iff] at hs
  obtain⟨qs,hq,hs⟩:=hs
  exact go (s:=Instr.buildSlice t n (ps.map fun(i,x)=>(i,a.eval x))) (by simp[execOp,ho]) (buildSlice_sound G ok (by rw[map_toList_parts];exact evParts_rel hE hq) hs)
 case makeSlice t x y=>
  simp only[stepOp,Option.bind_eq_bind,Option.bind_eq_some_iff] at hs
  obtain⟨d,hd,e,he,hs⟩:=hs
  exact go (s:=Instr.makeSlice t (a.eval x) (a.eval y)) (by simp[execOp,ho]) (makeSlice_sound G ok (ev_rel hE hd) (ev_rel hE he) hs)
def Grows (h k:Heap):Prop:=∀(l:Nat) (nd:Node),h[l]?=some nd→k[l]?=some nd
theorem cellsAt_grow {h k:Heap}(g:Grows h k){x:C}{cs:List C}(e:cellsAt h x=some cs):cellsAt k x=some cs:=by
 unfold cellsAt at e⊢
 split at e
 ·rename_i l off
  split at e
  ·rename_i es cs' hl
   simp only[g _ _ hl]
   exact e
  ·cases e
 ·exact e
 ·cases e
theorem load_grow {P:Program}{call:CallF}{vals:FuncId→Bool}(hv:ValsOk vals call){al:Option Nat}{env:Env}{h k:Heap}{o:Op}(ho:loadOk vals env o=true){c:C}{h':Heap}(hs:stepOp P call al env h o=some (c,h'))(g:Grows h k):stepOp P call al env k o=some (c,k):=by
 cases o<;>simp only[loadOk,Bool.false_eq_true,reduceCtorEq] at ho
 case load t x=>
  simp only[stepOp,Option.bind_eq_bind,Option.bind_eq_some_iff,Option.some.injEq,Prod.mk.injEq] at hs⊢
  obtain⟨p,hp,r,hr,rfl,rfl⟩:=hs
  refine⟨p,hp,r,?_,rfl,trivial⟩
  simp only[loadC,Option.bind_eq_bind,Option.bind_eq_some_iff] at hr⊢
  obtain⟨cs,hcs,hr⟩:=hr
  exact⟨cs,cellsAt_grow g hcs,hr⟩
 case slice t x lo hi mx=>
  simp only[stepOp,Option.bind_eq_bind,Option.bind_eq_some_iff,Option.some.injEq,Prod.mk.injEq] at hs⊢
  obtain⟨p,hp,l,hl,m,hm,n,hn,r,hr,rfl,rfl⟩:=hs
  refine⟨p,hp,l,hl,m,hm,n,hn,r,?_,rfl,trivial⟩
  cases p with
  |os a off len cap=>
   have hn2:∃nd,h[a]?=some nd:=by
    unfold sliceC at hr
    split at hr
    ·cases hr
    ·simp only[Option.bind_eq_some_iff] at hr
     obtain⟨s,_,hr⟩:=hr
     split at hr
     ·rename_i hx;exact⟨_,hx⟩
     ·cases hr
    ·cases hr
   obtain⟨nd,hnd⟩:=hn2
   rw[←hr]
   exact(sliceC_row (fun a' _ _ _ e=>by cases e;rw[hnd,g _ _ hnd])).symm
  |_=>
   rw[←hr]
   exact(sliceC_row (fun a' _ _ _ e=>by cases e)).symm
 case call q=>
  split at ho
  ·rename_i f cs0 hg
   simp only[stepOp,Option.bind_eq_bind,Option.bind_eq_some_iff] at hs
   obtain⟨cal,args,ats⟩:=q
   cases cal with
   |builtin b=>cases hg
   |invoke r m=>cases hg
   |value f0=>
    simp only[stepOp,Option.bind_eq_bind,Option.bind_eq_some_iff] at hs⊢
    obtain⟨⟨f1,caps⟩,hg1,cs,hc,hcall⟩:=hs
    simp only at hg
    rw[hg] at hg1
    cases hg1
    exact⟨_,hg,cs,hc,(hv _ _ _ _ _ ho hcall).2 k (.inr g)⟩
  ·cases ho
end Go.Tm
namespace Go.Tm
structure DrawOk (N:Nat)(ops:Array Oper)(ds:List D):Prop where
 cover:∀i,i<ops.size→∃(p:Nat) (d:D),ds[p]?=some d∧d.ix=i
 inj:∀(p q:Nat) (d e:D),ds[p]?=some d→ds[q]?=some e→d.ix=e.ix→p=q
 op:∀(p:Nat) (d:D),ds[p]?=some d→∃o,ops[d.ix]?=some o∧toI N ops o=some d.i∧
  (∀a∈d.anc,∃e∈o.after,Region.binds .any e=true∧(a=e.on∨∃(q:Nat) (d':D),ds[q]?=some d'∧d'.ix=e.on∧a∈d'.anc))∧
  (∀e∈o.after,Region.binds .any e=true→∃(q:Nat) (d':D),q<p∧ds[q]?=some d'∧d'.ix=e.on)
 topo:∀(p:Nat) (d:D),ds[p]?=some d→∀a∈d.anc,∃(q:Nat) (d':D),q<p∧ds[q]?=some d'∧d'.ix=a
 comp:∀(p q:Nat) (d e:D) (t:Nat),p<q→ds[p]?=some d→ds[q]?=some e→(d.i.dst=some t∧(t∈uses e.i∨e.i.dst=some t)∨e.i.dst=some t∧t∈uses d.i)→d.ix∈e.anc
 cls:∀(p:Nat) (d:D),ds[p]?=some d→(d.cls=.pure→pureOk d.i.op=true∨isNew d.i.op=true)∧(d.cls=.chain→chainOk d.i.op=true)
 fr:∀(p q:Nat) (d e:D),p<q→ds[p]?=some d→ds[q]?=some e→d.cls=.pure→isNew d.i.op=true→e.cls=.load∨e.cls=.chain→d.ix∈e.anc
 fr2:∀(p q x:Nat) (d e g:D),p<q→ds[p]?=some d→ds[q]?=some e→ds[x]?=some g→d.cls=.chain→e.cls=.pure→isNew e.i.op=true→e.ix∈g.anc→d.ix∈g.anc
def putE (e:Env)(d:Option Nat)(c:C):Env:=
 match d with
 |some t=>(t,c)::e
 |none=>e
theorem St.put_eq (s:St)(d:Option Nat)(c:C):s.put d c=⟨putE s.env d c,s.heap⟩:=by cases d<;>rfl
section
variable {P:Program} {call:CallF}
structure RunD (P:Program)(call:CallF)(ds:List D)(s s':St)(rs:List Rec):Prop where
 len:rs.length=ds.length
 at_:∀(p:Nat) (r:Rec),rs[p]?=some r→∃d,ds[p]?=some d∧r.d=d∧recD P call d ⟨r.env,r.heap⟩=some r
 first:∀r:Rec,rs[0]?=some r→r.env=s.env∧r.heap=s.heap
 next:∀(p:Nat) (r r':Rec),rs[p]?=some r→rs[p+1]?=some r'→r'.env=putE r.env r.d.i.dst r.c∧r'.heap=r.heap'
 last:∀r:Rec,rs[rs.length-1]?=some r→s'.env=putE r.env r.d.i.dst r.c∧s'.heap=r.heap'
 none:rs=[]→s'=s
theorem recD_some {d:D}{s:St}{r:Rec}(h:recD P call d s=some r):r.d=d∧r.env=s.env∧r.heap=s.heap∧
  ∃b,wantedC s.env d.i.g=some b∧r.on=b∧(b=true→stepOp P call Option.none s.env s.heap d.i.op=some (r.c,r.heap'))∧(b=false→r.c=undefC∧r.heap'=s.heap):=by
 simp only[recD,Option.bind_eq_bind,Option.bind_eq_some_iff] at h
 obtain⟨b,hb,h⟩:=h
 cases b with
 |true=>
  simp only[if_true,Option.map_eq_some_iff] at h
  obtain⟨x,hx,rfl⟩:=h
  exact⟨rfl,rfl,rfl,true,hb,rfl,fun _=>hx,fun h=>by cases h⟩
 |false=>
  simp only[Bool.false_eq_true,if_false,Option.some.injEq] at h
  subst h
  exact⟨rfl,rfl,rfl,false,hb,rfl,fun h=>(by cases h),fun _=>⟨rfl,rfl⟩⟩
theorem recsD_run:∀{ds:List D} {s:St} {rs:List Rec} {s':St},recsD P call ds s=some (rs,s')→RunD P call ds s s' rs
 |[],s,rs,s',h=>by
  simp only[recsD,Option.some.injEq,Prod.mk.injEq] at h
  obtain⟨rfl,rfl⟩:=h
  exact⟨rfl,fun p r h=>by simp at h,fun r h=>by simp at h,fun p r r' h=>by simp at h,fun r h=>by simp at h,fun _=>rfl⟩
 |d::ds,s,rs,s',h=>by
  simp only[recsD,Option.bind_eq_bind,Option.bind_eq_some_iff,Option.some.injEq,Prod.mk.injEq] at h
  obtain⟨r,hr,⟨qs,s2⟩,hq,rfl,rfl⟩:=h
  obtain⟨h1,h2,h3,_⟩:=recD_some hr
  have R:=recsD_run hq
  rw[St.put_eq] at R
  refine⟨by simp[R.len],fun p x hx=>?_,fun x hx=>?_,fun p x y hx hy=>?_,fun x hx=>?_,fun h=>by cases h⟩
  ·cases p with
   |zero=>simp at hx;subst hx;exact⟨d,rfl,h1,by rw[h2,h3];exact hr⟩
   |succ p=>simpa using R.at_ p x (by simpa using hx)
  ·simp at hx;subst hx;exact⟨h2,h3⟩
  ·cases p with
   |zero=>
    simp at hx;subst hx
    obtain⟨e1,e2⟩:=R.first y (by simpa using hy)
    rw[h1,h2]
    exact⟨e1,e2⟩
   |succ p=>exact R.next p x y (by simpa using hx) (by simpa using hy)
  ·cases qs with
   |nil=>
    simp at hx;subst hx
    have:=R.none rfl
    simp only at this
    rw[this,h1,h2]
    exact⟨rfl,rfl⟩
   |cons q qs=>
    refine R.last x ?_
    simpa using hx
structure ChkOk (vals:FuncId→Bool)(rs:List Rec):Prop where
 load:∀(p:Nat) (r:Rec),rs[p]?=some r→r.on=true→r.d.cls=.load→loadOk vals r.env r.d.i.op=true
 pair:∀(p q:Nat) (r x:Rec),p<q→rs[p]?=some r→rs[q]?=some x→r.on=true→x.on=true→r.d.cls=.chain→(x.d.cls=.chain∨x.d.cls=.load)→r.d.ix∈x.d.anc
 apart:∀(p q:Nat) (r x:Rec),p<q→rs[p]?=some r→rs[q]?=some x→r.on=true→x.on=true→r.d.cls=.load→x.d.cls=.chain→r.d.ix∈x.d.anc∨Tm.apart r x=true
 len:∀(p:Nat) (r:Rec),rs[p]?=some r→r.on=true→r.d.cls=.chain→isCallV r.d.i.op=true→r.heap.length≤r.heap'.length
theorem chk_some {vals:FuncId→Bool}:∀{rs ls:List Rec} {cs:List Nat},chk vals rs ls cs=true→
  ChkOk vals rs∧(∀(q:Nat) (x:Rec),rs[q]?=some x→x.on=true→(x.d.cls=.chain∨x.d.cls=.load)→∀c∈cs,c∈x.d.anc)∧(∀(q:Nat) (x:Rec),rs[q]?=some x→x.on=true→x.d.cls=.chain→∀l∈ls,l.d.ix∈x.d.anc∨Tm.apart l x=true)
 |[],ls,cs,_=>⟨⟨fun p r h=>by simp at h,fun p q r x _ h=>by simp at h,fun p q r x _ h=>by simp at h,fun p r h=>by simp at h⟩,fun q x h=>by simp at h,fun q x h=>by simp at h⟩
 |r::rs,ls,cs,h=>by
  unfold chk at h
  by_cases hon:r.on=true
  ·rw[if_pos hon] at h
   cases hc:r.d.cls with
   |pure=>
    rw[hc] at h
    obtain⟨K,k1,k2⟩:=chk_some h
    refine⟨⟨fun p x hx ho hl=>?_,fun p q x y hpq hx hy ho ho' hl hl'=>?_,fun p q x y hpq hx hy ho ho' hl hl'=>?_,fun p x hx ho hl hv=>?_⟩,fun q x hx ho hl=>?_,fun q x hx ho hl=>?_⟩
    ·cases p with
     |zero=>simp at hx;subst hx;rw[hc] at hl;cases hl
     |succ p=>exact K.load p x (by simpa using hx) ho hl
    ·cases q with
     |zero=>omega
     |succ q=>cases p with
      |zero=>simp at hx;subst hx;rw[hc] at hl;cases hl
      |succ p=>exact K.pair p q x y (by omega) (by simpa using hx) (by simpa using hy) ho ho' hl hl'
    ·cases q with
     |zero=>omega
     |succ q=>cases p with
      |zero=>simp at hx;subst hx;rw[hc] at hl;cases hl
      |succ p=>exact K.apart p q x y (by omega) (by simpa using hx) (by simpa using hy) ho ho' hl hl'
    ·cases p with
     |zero=>simp at hx;subst hx;rw[hc] at hl;cases hl
     |succ p=>exact K.len p x (by simpa using hx) ho hl hv
    ·cases q with
     |zero=>simp at hx;subst hx;rw[hc] at hl;rcases hl with hl|hl<;>cases hl
     |succ q=>exact k1 q x (by simpa using hx) ho hl
    ·cases q with
     |zero=>simp at hx;subst hx;rw[hc] at hl;cases hl
     |succ q=>exact k2 q x (by simpa using hx) ho hl
   |load=>
    rw[hc] at h
    simp only[Bool.and_eq_true,List.all_eq_true,List.contains_iff_mem] at h
    obtain⟨⟨hcs,hlo⟩,h⟩:=h
    obtain⟨K,k1,k2⟩:=chk_some h
    refine⟨⟨fun p x hx ho hl=>?_,fun p q x y hpq hx hy ho ho' hl hl'=>?_,fun p q x y hpq hx hy ho ho' hl hl'=>?_,fun p x hx ho hl hv=>?_⟩,fun q x hx ho hl=>?_,fun q x hx ho hl=>?_⟩
    ·cases p with
     |zero=>simp at hx;subst hx;exact hlo
     |succ p=>exact K.load p x (by simpa using hx) ho hl
    ·cases q with
     |zero=>omega
     |succ q=>cases p with
      |zero=>simp at hx;subst hx;rw[hc] at hl;cases hl
      |succ p=>exact K.pair p q x y (by omega) (by simpa using hx) (by simpa using hy) ho ho' hl hl'
    ·cases q with
     |zero=>omega
     |succ q=>cases p with
      |zero=>simp at hx;subst hx;exact k2 q y (by simpa using hy) ho' hl' _ (by simp)
      |succ p=>exact K.apart p q x y (by omega) (by simpa using hx) (by simpa using hy) ho ho' hl hl'
    ·cases p with
     |zero=>simp at hx;subst hx;rw[hc] at hl;cases hl
     |succ p=>exact K.len p x (by simpa using hx) ho hl hv
    ·cases q with
     |zero=>simp at hx;subst hx;exact hcs
     |succ q=>exact k1 q x (by simpa using hx) ho hl
    ·cases q with
     |zero=>simp at hx;subst hx;rw[hc] at hl;cases hl
     |succ q=>exact fun l hl2=>k2 q x (by simpa using hx) ho hl l (by simp[hl2])
   |chain=>
    rw[hc] at h
    simp only[Bool.and_eq_true,List.all_eq_true,List.contains_iff_mem,Bool.or_eq_true (List.contains _ _)] at h
    obtain⟨⟨⟨hcs,hls⟩,hlen⟩,h⟩:=h
    obtain⟨K,k1,k2⟩:=chk_some h
    refine⟨⟨fun p x hx ho hl=>?_,fun p q x y hpq hx hy ho ho' hl hl'=>?_,fun p q x y hpq hx hy ho ho' hl hl'=>?_,fun p x hx ho hl hv=>?_⟩,fun q x hx ho hl=>?_,fun q x hx ho hl=>?_⟩
    ·cases p with
     |zero=>simp at hx;subst hx;rw[hc] at hl;cases hl
     |succ p=>exact K.load p x (by simpa using hx) ho hl
    ·cases q with
     |zero=>omega
     |succ q=>cases p with
      |zero=>simp at hx;subst hx;exact k1 q y (by simpa using hy) ho' hl' _ (by simp)
      |succ p=>exact K.pair p q x y (by omega) (by simpa using hx) (by simpa using hy) ho ho' hl hl'
    ·cases q with
     |zero=>omega
     |succ q=>cases p with
      |zero=>simp at hx;subst hx;rw[hc] at hl;cases hl
      |succ p=>exact K.apart p q x y (by omega) (by simpa using hx) (by simpa using hy) ho ho' hl hl'
    ·cases p with
     |zero=>simp at hx;subst hx;rw[hv] at hlen;simpa using hlen
     |succ p=>exact K.len p x (by simpa using hx) ho hl hv
    ·cases q with
     |zero=>simp at hx;subst hx;exact hcs
     |succ q=>exact fun c hc2=>k1 q x (by simpa using hx) ho hl c (by simp[hc2])
    ·cases q with
     |zero=>simp at hx;subst hx;exact hls
     |succ q=>exact k2 q x (by simpa using hx) ho hl
  ·rw[if_neg hon] at h
   obtain⟨K,k1,k2⟩:=chk_some h
   refine⟨⟨fun p x hx ho hl=>?_,fun p q x y hpq hx hy ho ho' hl hl'=>?_,fun p q x y hpq hx hy ho ho' hl hl'=>?_,fun p x hx ho hl hv=>?_⟩,fun q x hx ho hl=>?_,fun q x hx ho hl=>?_⟩
   ·cases p with
    |zero=>simp at hx;subst hx;exact absurd ho hon
    |succ p=>exact K.load p x (by simpa using hx) ho hl
   ·cases q with
    |zero=>omega
    |succ q=>cases p with
     |zero=>simp at hx;subst hx;exact absurd ho hon
     |succ p=>exact K.pair p q x y (by omega) (by simpa using hx) (by simpa using hy) ho ho' hl hl'
   ·cases q with
    |zero=>omega
    |succ q=>cases p with
     |zero=>simp at hx;subst hx;exact absurd ho hon
     |succ p=>exact K.apart p q x y (by omega) (by simpa using hx) (by simpa using hy) ho ho' hl hl'
   ·cases p with
    |zero=>simp at hx;subst hx;exact absurd ho hon
    |succ p=>exact K.len p x (by simpa using hx) ho hl hv
   ·cases q with
    |zero=>simp at hx;subst hx;exact absurd ho hon
    |succ q=>exact k1 q x (by simpa using hx) ho hl
   ·cases q with
    |zero=>simp at hx;subst hx;exact absurd ho hon
    |succ q=>exact k2 q x (by simpa using hx) ho hl
end
end Go.Tm
namespace Go.Tm
section
variable {P:Program} {call:CallF} {vals:FuncId→Bool} {N:Nat} {ops:Array Oper} {ds:List D} {st st':St} {rs:List Rec}
def hAt (rs:List Rec)(st':St)(q:Nat):Heap:=match rs[q]? with|some r=>r.heap|none=>st'.heap
def eAt (rs:List Rec)(st':St)(q:Nat):Env:=match rs[q]? with|some r=>r.env|none=>st'.env
theorem hAt_some {q:Nat}{r:Rec}(h:rs[q]?=some r):hAt rs st' q=r.heap:=by simp[hAt,h]
theorem eAt_some {q:Nat}{r:Rec}(h:rs[q]?=some r):eAt rs st' q=r.env:=by simp[eAt,h]
theorem run_step (R:RunD P call ds st st' rs){q:Nat}{r:Rec}(h:rs[q]?=some r):hAt rs st' (q+1)=r.heap'∧eAt rs st' (q+1)=putE r.env r.d.i.dst r.c:=by
 cases hn:rs[q+1]? with
 |some r'=>
  obtain⟨e1,e2⟩:=R.next q r r' h hn
  exact⟨by rw[hAt_some hn,e2],by rw[eAt_some hn,e1]⟩
 |none=>
  have hl:q<rs.length:=(List.getElem?_eq_some_iff.1 h).1
  have hl2:rs.length≤q+1:=List.getElem?_eq_none_iff.1 hn
  have e:rs.length-1=q:=by omega
  obtain⟨e1,e2⟩:=R.last r (by rw[e];exact h)
  exact⟨by simp only[hAt,hn];exact e2,by simp only[eAt,hn];exact e1⟩
theorem run_zero (R:RunD P call ds st st' rs):hAt rs st' 0=st.heap∧eAt rs st' 0=st.env:=by
 cases hn:rs[0]? with
 |some r=>
  obtain⟨e1,e2⟩:=R.first r hn
  exact⟨by rw[hAt_some hn,e2],by rw[eAt_some hn,e1]⟩
 |none=>
  have:rs=[]:=by
   cases rs with
   |nil=>rfl
   |cons x xs=>simp at hn
  have e:=R.none this
  exact⟨by simp only[hAt,hn,e],by simp only[eAt,hn,e]⟩
theorem run_rec (R:RunD P call ds st st' rs){q:Nat}{r:Rec}(h:rs[q]?=some r):ds[q]?=some r.d∧∃b,wantedC r.env r.d.i.g=some b∧r.on=b∧
  (b=true→stepOp P call none r.env r.heap r.d.i.op=some (r.c,r.heap'))∧(b=false→r.c=undefC∧r.heap'=r.heap):=by
 obtain⟨d,hd,e,hrec⟩:=R.at_ q r h
 obtain⟨_,_,_,h4⟩:=recD_some hrec
 exact⟨by rw[e];exact hd,by rw[e];exact h4⟩
def chR (r:Rec):Prop:=r.on=true∧r.d.cls=.chain
def frR (r:Rec):Prop:=r.on=true∧r.d.cls=.pure∧isNew r.d.i.op=true
theorem free_new (R:RunD P call ds st st' rs){q:Nat}{r:Rec}(h:rs[q]?=some r)(hf:frR r):∃nd,r.heap'=r.heap++[nd]∧∀al k,(new k al nd).1=r.heap.length→stepOp P call al r.env k r.d.i.op=some (r.c,(new k al nd).2):=by
 obtain⟨_,b,_,hon,h1,_⟩:=run_rec R h
 have hb:b=true:=by rw[←hon];exact hf.1
 exact new_step hf.2.2 (h1 hb)
theorem heap_quiet (R:RunD P call ds st st' rs)(ok:DrawOk N ops ds)(hv:ValsOk vals call)(K:ChkOk vals rs){q:Nat}{r:Rec}(h:rs[q]?=some r)(hc:¬chR r)(hf:¬frR r):r.heap'=r.heap:=by
 obtain⟨hd,b,_,hon,h1,h2⟩:=run_rec R h
 cases b with
 |false=>exact(h2 rfl).2
 |true=>
  cases hcl:r.d.cls with
  |pure=>
   rcases(ok.cls q _ hd).1 hcl with hp|hp
   ·exact(pure_any hp (h1 rfl)).1
   ·exact absurd ⟨hon,hcl,hp⟩ hf
  |load=>exact load_any hv (K.load q r h hon hcl) (h1 rfl)
  |chain=>exact absurd ⟨hon,hcl⟩ hc
theorem heap_const (R:RunD P call ds st st' rs)(ok:DrawOk N ops ds)(hv:ValsOk vals call)(K:ChkOk vals rs)(q:Nat):∀(k:Nat),q+k≤rs.length→(∀p r,q≤p→p<q+k→rs[p]?=some r→¬chR r∧¬frR r)→hAt rs st' (q+k)=hAt rs st' q
 |0,_,_=>rfl
 |k+1,hle,hn=>by
  have hr:rs[q+k]?=some (rs[q+k]'(by omega)):=List.getElem?_eq_getElem (by omega)
  have ih:=heap_const R ok hv K q k (by omega) (fun p r h1 h2 h3=>hn p r h1 (by omega) h3)
  rw[←Nat.add_assoc,(run_step R hr).1,heap_quiet R ok hv K hr (hn _ _ (by omega) (by omega) hr).1 (hn _ _ (by omega) (by omega) hr).2,←ih,hAt_some hr]
theorem heap_row (R:RunD P call ds st st' rs)(ok:DrawOk N ops ds)(hv:ValsOk vals call)(K:ChkOk vals rs)(q a:Nat)(ha:a<(hAt rs st' q).length):∀(k:Nat),q+k≤rs.length→
  (∀p r,q≤p→p<q+k→rs[p]?=some r→r.on=true→r.d.cls=.chain→rowStays r.env r.d.i.op r.heap r.heap' a=true)→(hAt rs st' (q+k))[a]?=(hAt rs st' q)[a]?∧a<(hAt rs st' (q+k)).length
 |0,_,_=>⟨rfl,ha⟩
 |k+1,hle,hn=>by
  have hr:rs[q+k]?=some (rs[q+k]'(by omega)):=List.getElem?_eq_getElem (by omega)
  obtain⟨ih,il⟩:=heap_row R ok hv K q a ha k (by omega) (fun p r h1 h2 h3=>hn p r h1 (by omega) h3)
  rw[←Nat.add_assoc,(run_step R hr).1]
  rw[hAt_some hr] at ih il
  by_cases hc:chR (rs[q+k]'(by omega))
  ·obtain⟨hd,b,_,hon,h1,_⟩:=run_rec R hr
   have hb:b=true:=by rw[←hon];exact hc.1
   have hst:=h1 hb
   have hch:=(ok.cls _ _ hd).2 hc.2
   have hs:=hn _ _ (by omega) (by omega) hr hc.1 hc.2
   unfold rowStays at hs
   by_cases hv':isCallV (rs[q+k]'(by omega)).d.i.op=true
   ·rw[if_pos hv'] at hs
    refine⟨?_,Nat.lt_of_lt_of_le il (K.len _ _ hr hc.1 hc.2 hv')⟩
    rw[sameRow_eq hs]
    exact ih
   ·rw[if_neg hv'] at hs
    have hch0:=chain0_of hch (by simpa using hv')
    refine⟨?_,Nat.lt_of_lt_of_le il (chain_len hch0 hst)⟩
    rw[chain_keeps hch0 hst il (of_decide_eq_true hs)]
    exact ih
  ·by_cases hf:frR (rs[q+k]'(by omega))
   ·obtain⟨nd,e,_⟩:=free_new R hr hf
    rw[e]
    exact⟨by rw[List.getElem?_append_left il];exact ih,by rw[List.length_append];omega⟩
   ·rw[heap_quiet R ok hv K hr hc hf]
    exact⟨ih,il⟩
theorem heap_up (R:RunD P call ds st st' rs)(ok:DrawOk N ops ds)(hv:ValsOk vals call)(K:ChkOk vals rs)(q:Nat):∀(k:Nat),q+k≤rs.length→(∀p r,q≤p→p<q+k→rs[p]?=some r→¬chR r)→
  Grows (hAt rs st' q) (hAt rs st' (q+k))∧(hAt rs st' q).length≤(hAt rs st' (q+k)).length∧∀l,(hAt rs st' q).length≤l→l<(hAt rs st' (q+k)).length→∃(x:Nat) (y:Rec),q≤x∧x<q+k∧rs[x]?=some y∧frR y∧y.heap.length=l
 |0,_,_=>⟨fun _ _ h=>h,Nat.le_refl _,fun l h1 h2=>by rw[Nat.add_zero] at h2;omega⟩
 |k+1,hle,hn=>by
  have hr:rs[q+k]?=some (rs[q+k]'(by omega)):=List.getElem?_eq_getElem (by omega)
  obtain⟨i1,i2,i3⟩:=heap_up R ok hv K q k (by omega) (fun p r h1 h2 h3=>hn p r h1 (by omega) h3)
  have hst:=(run_step R hr).1
  rw[←Nat.add_assoc,hst]
  rw[hAt_some hr] at i1 i2 i3
  by_cases hf:frR (rs[q+k]'(by omega))
  ·obtain⟨nd,e,_⟩:=free_new R hr hf
   rw[e]
   refine⟨fun l x hx=>?_,by rw[List.length_append];omega,fun l h1 h2=>?_⟩
   ·have:=i1 l x hx
    rw[List.getElem?_append_left (List.getElem?_eq_some_iff.1 this).1]
    exact this
   ·rw[List.length_append,List.length_cons,List.length_nil] at h2
    by_cases e2:l<(rs[q+k]'(by omega)).heap.length
    ·obtain⟨x,y,h3,h4,h5⟩:=i3 l h1 e2
     exact⟨x,y,h3,by omega,h5⟩
    ·exact⟨q+k,_,by omega,by omega,hr,hf,by omega⟩
  ·rw[heap_quiet R ok hv K hr (hn _ _ (by omega) (by omega) hr) hf]
   refine⟨i1,i2,fun l h1 h2=>?_⟩
   obtain⟨x,y,h3,h4,h5⟩:=i3 l h1 h2
   exact⟨x,y,h3,by omega,h5⟩
theorem heap_mono (R:RunD P call ds st st' rs)(ok:DrawOk N ops ds)(hv:ValsOk vals call)(K:ChkOk vals rs)(q:Nat):∀(k:Nat),q+k≤rs.length→(hAt rs st' q).length≤(hAt rs st' (q+k)).length
 |0,_=>Nat.le_refl _
 |k+1,hle=>by
  have hr:rs[q+k]?=some (rs[q+k]'(by omega)):=List.getElem?_eq_getElem (by omega)
  have ih:=heap_mono R ok hv K q k (by omega)
  rw[←Nat.add_assoc,(run_step R hr).1]
  rw[hAt_some hr] at ih
  refine Nat.le_trans ih ?_
  by_cases hc:chR (rs[q+k]'(by omega))
  ·obtain⟨hd,b,_,hon,h1,_⟩:=run_rec R hr
   have hb:b=true:=by rw[←hon];exact hc.1
   by_cases hv':isCallV (rs[q+k]'(by omega)).d.i.op=true
   ·exact K.len _ _ hr hc.1 hc.2 hv'
   ·exact chain_len (chain0_of ((ok.cls _ _ hd).2 hc.2) (by simpa using hv')) (h1 hb)
  ·by_cases hf:frR (rs[q+k]'(by omega))
   ·obtain⟨nd,e,_⟩:=free_new R hr hf
    rw[e,List.length_append];omega
   ·rw[heap_quiet R ok hv K hr hc hf];exact Nat.le_refl _
theorem heap_mono' (R:RunD P call ds st st' rs)(ok:DrawOk N ops ds)(hv:ValsOk vals call)(K:ChkOk vals rs){q p:Nat}(h:q≤p)(hp:p≤rs.length):(hAt rs st' q).length≤(hAt rs st' p).length:=by
 obtain⟨k,rfl⟩:∃k,p=q+k:=⟨p-q,by omega⟩
 exact heap_mono R ok hv K q k hp
theorem slot_lt (R:RunD P call ds st st' rs)(ok:DrawOk N ops ds)(hv:ValsOk vals call)(K:ChkOk vals rs){x y:Nat}{r s:Rec}(h:x<y)(hr:rs[x]?=some r)(hs:rs[y]?=some s)(hf:frR r):r.heap.length<s.heap.length:=by
 have hyl:=(List.getElem?_eq_some_iff.1 hs).1
 have h1:=heap_mono' R ok hv K (q:=x+1) (p:=y) (by omega) (by omega)
 rw[(run_step R hr).1,hAt_some hs] at h1
 obtain⟨nd,e,_⟩:=free_new R hr hf
 rw[e,List.length_append,List.length_cons,List.length_nil] at h1
 omega
theorem env_last (R:RunD P call ds st st' rs)(t:Nat)(c:C):∀(p:Nat),p≤rs.length→look (eAt rs st' p) t=some c→
  (∃(q:Nat) (r:Rec),q<p∧rs[q]?=some r∧r.d.i.dst=some t∧r.c=c∧∀(x:Nat) (y:Rec),q<x→x<p→rs[x]?=some y→y.d.i.dst≠some t)∨
  ((∀(x:Nat) (y:Rec),x<p→rs[x]?=some y→y.d.i.dst≠some t)∧look st.env t=some c)
 |0,_,h=>by
  rw[(run_zero R).2] at h
  exact .inr ⟨fun x y hx=>by omega,h⟩
 |p+1,hle,h=>by
  have hr:rs[p]?=some (rs[p]'(by omega)):=List.getElem?_eq_getElem (by omega)
  rw[(run_step R hr).2] at h
  by_cases hd:(rs[p]'(by omega)).d.i.dst=some t
  ·rw[hd] at h
   simp only[putE,look,if_true,Option.some.injEq] at h
   exact .inl ⟨p,_,by omega,hr,hd,h,fun x y h1 h2=>by omega⟩
  ·have h':look (eAt rs st' p) t=some c:=by
    rw[eAt_some hr]
    cases hdd:(rs[p]'(by omega)).d.i.dst with
    |none=>rw[hdd] at h;exact h
    |some u=>
     rw[hdd] at h hd
     simp only[putE,look] at h
     rw[if_neg (fun e=>hd (by rw[e]))] at h
     exact h
   rcases env_last R t c p (by omega) h' with ⟨q,r,hq,hrq,hdq,hcq,hno⟩|⟨hno,hb⟩
   ·refine .inl ⟨q,r,by omega,hrq,hdq,hcq,fun x y h1 h2 h3=>?_⟩
    by_cases e:x=p
    ·subst e;rw[hr] at h3;cases h3;exact hd
    ·exact hno x y h1 (by omega) h3
   ·refine .inr ⟨fun x y h1 h3=>?_,hb⟩
    by_cases e:x=p
    ·subst e;rw[hr] at h3;cases h3;exact hd
    ·exact hno x y (by omega) h3
theorem look_keepE_mem:∀(ks:List Nat) (env:Env) (t:Nat),t∈ks→look (keepE env ks) t=look env t
 |[],_,_,h=>by simp at h
 |k::ks,env,t,h=>by
  unfold keepE
  by_cases e:k=t
  ·subst e
   cases hk:look env k with
   |some c=>simp[look]
   |none=>
    simp only
    cases hl:look (keepE env ks) k with
    |none=>rfl
    |some c=>have:=look_keepE ks env k c hl;rw[hk] at this;cases this
  ·have hm:t∈ks:=by
    rcases List.mem_cons.1 h with h|h
    ·exact absurd h.symm e
    ·exact h
   cases hk:look env k with
   |some c=>simp only[look,if_neg e];exact look_keepE_mem ks env t hm
   |none=>exact look_keepE_mem ks env t hm
def Held (rs:List Rec)(listed:Array Bool)(q x:Nat)(y:Rec):Prop:=q≤x∧rs[x]?=some y∧frR y∧listed.getD y.d.ix false=true
def updL (φ:Nat→Loc)(s:Nat)(L:Loc):Nat→Loc:=fun l=>if l=s then L else φ l
def more (S:Nat→Prop)(s:Nat):Nat→Prop:=fun l=>S l∨l=s
def HX (X:Nat→Prop)(rs:List Rec)(listed:Array Bool)(q:Nat)(hb:Nat→Loc):Nat→Prop:=fun b=>X b∨∃x y,Held rs listed q x y∧(hb x).block=b
theorem updL_self (φ:Nat→Loc)(s:Nat)(L:Loc):updL φ s L s=L:=if_pos rfl
theorem updL_ne {φ:Nat→Loc}{s l:Nat}{L:Loc}(h:l≠s):updL φ s L l=φ l:=if_neg h
structure HoldOk (w:World)(bad S:Nat→Prop)(φ:Nat→Loc)(y:Rec)(L:Loc)(u:Value):Prop where
 node:∃nd,y.heap'=y.heap++[nd]∧nd≠ .dead∧OkNode w bad (more S y.heap.length) (updL φ y.heap.length L) y.heap.length nd
 val:Rel w bad (more S y.heap.length) (updL φ y.heap.length L) y.c u
theorem OkNode.moved {w w':World}{bad bad' S S':Nat→Prop}{φ φ':Nat→Loc}{l:Nat}{nd:Node}(k:Later w bad S φ w' bad' S' φ')(e:φ' l=φ l)(hb:w'.heap[(φ l).block]?=w.heap[(φ l).block]?)(h:OkNode w bad S φ l nd):OkNode w' bad' S' φ' l nd:=by
 cases nd with
 |dead=>trivial
 |row ez cs=>
  simp only[OkNode] at h⊢
  rw[e]
  obtain⟨h1,h2,h3,h4,h5⟩:=h
  refine⟨h1,h2,h3,fun j hj=>?_,RelAt.moved k h5 fun j u _ hu=>?_⟩
  ·rw[cell_of_heap hb,World.frozen?_of_block (a:=⟨(φ l).block,(φ l).base+j,none⟩) hb]
   exact h4 j hj
  ·rw[cell_of_heap hb];exact hu
 |map es clock=>
  simp only[OkNode] at h⊢
  rw[e,hb]
  exact h
theorem later_more {w w':World}{bad bad' S S':Nat→Prop}{φ φ':Nat→Loc}(k:Later w bad S φ w' bad' S' φ')(s:Nat)(L:Loc)(h1:¬S s)(h2:¬S' s):Later w bad (more S s) (updL φ s L) w' bad' (more S' s) (updL φ' s L):=
 ⟨k.cell,k.bad,k.size,fun l hl=>by
  rcases hl with hl|rfl
  ·obtain⟨a,b⟩:=k.names l hl
   refine⟨.inl a,?_⟩
   rw[updL_ne (fun e:l=s=>h1 (by rw[←e];exact hl)),updL_ne (fun e:l=s=>h2 (by rw[←e];exact a)),b]
  ·exact⟨.inr rfl,by rw[updL_self,updL_self]⟩⟩
theorem HoldOk.later {w w':World}{bad bad' S S':Nat→Prop}{φ φ':Nat→Loc}{y:Rec}{L:Loc}{u:Value}(H:HoldOk w bad S φ y L u)(k:Later w bad S φ w' bad' S' φ')(hb:w'.heap[L.block]?=w.heap[L.block]?)(h1:¬S y.heap.length)(h2:¬S' y.heap.length):HoldOk w' bad' S' φ' y L u:=by
 have k2:=later_more k y.heap.length L h1 h2
 obtain⟨nd,e1,e2,e3⟩:=H.node
 exact⟨⟨nd,e1,e2,e3.moved k2 (by rw[updL_self,updL_self]) (by rw[updL_self];exact hb)⟩,H.val.later k2⟩
theorem HX_same {X:Nat→Prop}{listed listed':Array Bool}{q q':Nat}{hb:Nat→Loc}(h:∀x y,Held rs listed' q' x y↔Held rs listed q x y):HX X rs listed' q' hb=HX X rs listed q hb:=by
 funext b
 unfold HX
 simp only[h]
structure Inv (ops:Array Oper)(ds:List D)(rs:List Rec)(st st':St)(N:Nat)(X:Nat→Prop)(w0:World)(S0:Nat→Prop)(φ0:Nat→Loc)(listed:Array Bool)(a:Act)(w:World)(S:Nat→Prop)(φ:Nat→Loc)(q:Nat)(kh:Heap)(hb:Nat→Loc)(hu:Nat→Value):Prop where
 size:listed.size=ops.size
 good:Good w (HX X rs listed q hb) S φ kh
 seq:SeqOk S kh
 tmps:a.tmps.size=N
 defers:a.defers=[]
 ext:Ext w0 S0 φ0 st.heap w S φ kh
 down:∀(p:Nat) (d:D),ds[p]?=some d→listed.getD d.ix false=true→∀x∈d.anc,listed.getD x false=true
 le:q≤rs.length
 before:∀(p:Nat) (r:Rec),p<q→rs[p]?=some r→r.on=true→r.d.cls=.chain→listed.getD r.d.ix false=true
 after:∀(p:Nat) (r:Rec),q≤p→rs[p]?=some r→r.on=true→r.d.cls=.chain→listed.getD r.d.ix false=false
 writ:∀(t p:Nat) (r:Rec),rs[p]?=some r→listed.getD r.d.ix false=true→r.d.i.dst=some t→
  (∀(x:Nat) (y:Rec),p<x→rs[x]?=some y→listed.getD y.d.ix false=true→y.d.i.dst≠some t)→¬Held rs listed q p r→∃u,a.tmps[t]?=some u∧Rel w (badOf (HX X rs listed q hb) φ kh) S φ r.c u
 base:∀(t:Nat) (c:C),(∀(x:Nat) (y:Rec),rs[x]?=some y→listed.getD y.d.ix false=true→y.d.i.dst≠some t)→look st.env t=some c→
  ∃u,a.tmps[t]?=some u∧Rel w (badOf (HX X rs listed q hb) φ kh) S φ c u
 klen:kh.length=(hAt rs st' q).length
 kat:∀l,kh[l]?=(hAt rs st' q)[l]?∨∃(x:Nat) (y:Rec),x<q∧rs[x]?=some y∧frR y∧listed.getD y.d.ix false=false∧y.heap.length=l
 pend:∀(x:Nat) (y:Rec),x<q→rs[x]?=some y→frR y→listed.getD y.d.ix false=false→kh[y.heap.length]?=some .dead∧¬S y.heap.length
 hold:∀(x:Nat) (y:Rec),Held rs listed q x y→HoldOk w (badOf (HX X rs listed q hb) φ kh) S φ y (hb x) (hu x)∧w0.heap.size≤(hb x).block∧¬X (hb x).block
 htmp:∀(x:Nat) (y:Rec) (t:Nat),Held rs listed q x y→y.d.i.dst=some t→(∀(z:Nat) (v:Rec),x<z→rs[z]?=some v→listed.getD v.d.ix false=true→v.d.i.dst≠some t)→a.tmps[t]?=some (hu x)
 hinj:∀(x x':Nat) (y y':Rec),Held rs listed q x y→Held rs listed q x' y'→(hb x).block=(hb x').block→x=x'
theorem getD_eq {listed:Array Bool}{i:Nat}(h:i<listed.size)(b c:Bool):listed.getD i b=listed.getD i c:=by simp[h]
theorem Inv.env (R:RunD P call ds st st' rs)(ok:DrawOk N ops ds){X:Nat→Prop}{w0 w:World}{S0 S:Nat→Prop}{φ0 φ:Nat→Loc}{listed:Array Bool}{a:Act}{q:Nat}{kh:Heap}{hb:Nat→Loc}{hu:Nat→Value}(I:Inv ops ds rs st st' N X w0 S0 φ0 listed a w S φ q kh hb hu)
  (hmax:q=rs.length∨∃c,rs[q]?=some c∧chR c)
  {p:Nat}{r:Rec}(hr:rs[p]?=some r)(hd:ds[p]?=some r.d)(hun:listed.getD r.d.ix false=false)(hanc:∀x∈r.d.anc,listed.getD x false=true):
  RelE w (badOf (HX X rs listed q hb) φ kh) S φ (keepE r.env (uses r.d.i)) a.tmps:=fun t c hc=>by
 by_cases hm:t∈uses r.d.i
 ·rw[look_keepE_mem _ _ _ hm,←eAt_some (st':=st') hr] at hc
  have hl:p<rs.length:=(List.getElem?_eq_some_iff.1 hr).1
  -- a writer of t that is listed is ahead of p
  have ahead:∀(x:Nat) (y:Rec),rs[x]?=some y→listed.getD y.d.ix false=true→y.d.i.dst=some t→x<p:=fun x y hy hly hdy=>by
   have hdy':=(run_rec R hy).1
   rcases Nat.lt_trichotomy x p with h|h|h
   ·exact h
   ·subst h;rw[hr] at hy;cases hy;rw[hun] at hly;cases hly
   ·have:=ok.comp p x r.d y.d t h hd hdy' (.inr ⟨hdy,hm⟩)
    have h2:=I.down x y.d hdy' hly _ this
    rw[hun] at h2;cases h2
  rcases env_last R t c p (by omega) hc with ⟨x,y,hx,hy,hdy,rfl,hno⟩|⟨hno,hb⟩
  ·have hdy':=(run_rec R hy).1
   have hya:=ok.comp x p y.d r.d t hx hdy' hd (.inl ⟨hdy,.inl hm⟩)
   have hly:=hanc _ hya
   refine I.writ t x y hy hly hdy (fun z v hz hv hlv hdv=>hno z v hz (ahead z v hv hlv hdv) hv hdv) fun⟨hq,_,hf,_⟩=>?_
   rcases hmax with e|⟨c,hc,hch⟩
   ·have:=(List.getElem?_eq_some_iff.1 hy).1;omega
   ·have hqx:q<x:=by
     rcases Nat.lt_or_ge q x with h|h
     ·exact h
     ·have:q=x:=by omega
      subst this;rw[hc] at hy;cases hy;have h1:=hch.2;rw[hf.2.1] at h1;cases h1
    have h2:=hanc _ (ok.fr2 q x p c.d y.d r.d hqx (run_rec R hc).1 hdy' hd hch.2 hf.2.1 hf.2.2 hya)
    rw[I.after q c (Nat.le_refl _) hc hch.1 hch.2] at h2
    cases h2
  ·exact I.base t c (fun z v hv hlv hdv=>hno z v (ahead z v hv hlv hdv) hv hdv) hb
 ·exfalso
  have:∀(ks:List Nat) (e:Env),t ∉ ks→look (keepE e ks) t=none:=by
   intro ks
   induction ks with
   |nil=>intro e _;rfl
   |cons k ks ih=>
    intro e hk
    unfold keepE
    cases hke:look e k with
    |some d=>simp only[look];rw[if_neg (fun e2=>hk (by simp[e2]))];exact ih e (fun h=>hk (by simp[h]))
    |none=>exact ih e (fun h=>hk (by simp[h]))
  rw[this _ _ hm] at hc
  cases hc
theorem Inv.put (R:RunD P call ds st st' rs)(ok:DrawOk N ops ds){X:Nat→Prop}{w0 w w':World}{S0 S S':Nat→Prop}{φ0 φ φ':Nat→Loc}{listed:Array Bool}{a:Act}{q q':Nat}{kh kh':Heap}{hb hb':Nat→Loc}{hu hu':Nat→Value}(I:Inv ops ds rs st st' N X w0 S0 φ0 listed a w S φ q kh hb hu)
  {p:Nat}{r:Rec}(hr:rs[p]?=some r)(hd:ds[p]?=some r.d)(hi:r.d.ix<ops.size)(hlt:∀t,r.d.i.dst=some t→t<N)(hun:listed.getD r.d.ix false=false)(hanc:∀x∈r.d.anc,listed.getD x false=true)
  {u:Value}(G:Good w' (HX X rs (listed.setIfInBounds r.d.ix true) q' hb') S' φ' kh')(sq:SeqOk S' kh')(E:Ext w0 S0 φ0 st.heap w' S' φ' kh')
  (L:Later w (badOf (HX X rs listed q hb) φ kh) S φ w' (badOf (HX X rs (listed.setIfInBounds r.d.ix true) q' hb') φ' kh') S' φ')
  (hrel:¬Held rs (listed.setIfInBounds r.d.ix true) q' p r→Rel w' (badOf (HX X rs (listed.setIfInBounds r.d.ix true) q' hb') φ' kh') S' φ' r.c u)
  (hqq:∀(x:Nat) (y:Rec),rs[x]?=some y→frR y→q≤x→q'≤x)(hqr:q≤q')
  (hkeep:∀(x:Nat) (y:Rec),Held rs listed q x y→w'.heap[(hb x).block]?=w.heap[(hb x).block]?∧¬S y.heap.length∧¬S' y.heap.length)
  (hbE:∀x,x≠p→hb' x=hb x)(huE:∀x,x≠p→hu' x=hu x)
  (hhp:Held rs (listed.setIfInBounds r.d.ix true) q' p r→(HoldOk w' (badOf (HX X rs (listed.setIfInBounds r.d.ix true) q' hb') φ' kh') S' φ' r (hb' p) (hu' p)∧w0.heap.size≤(hb' p).block∧¬X (hb' p).block)∧hu' p=u∧∀(x:Nat) (y:Rec),Held rs listed q x y→(hb x).block≠(hb' p).block)
  (hq:q'≤rs.length)(hbef:∀(x:Nat) (y:Rec),x<q'→rs[x]?=some y→y.on=true→y.d.cls=.chain→y.d.ix=r.d.ix∨listed.getD y.d.ix false=true)
  (haft:∀(x:Nat) (y:Rec),q'≤x→rs[x]?=some y→y.on=true→y.d.cls=.chain→y.d.ix≠r.d.ix∧listed.getD y.d.ix false=false)
  (hkl:kh'.length=(hAt rs st' q').length)(hka:∀l,kh'[l]?=(hAt rs st' q')[l]?∨∃(x:Nat) (y:Rec),x<q'∧rs[x]?=some y∧frR y∧x≠p∧listed.getD y.d.ix false=false∧y.heap.length=l)
  (hpe:∀(x:Nat) (y:Rec),x<q'→rs[x]?=some y→frR y→x≠p→listed.getD y.d.ix false=false→kh'[y.heap.length]?=some .dead∧¬S' y.heap.length):
  Inv ops ds rs st st' N X w0 S0 φ0 (listed.setIfInBounds r.d.ix true) (a.put r.d.i.dst u) w' S' φ' q' kh' hb' hu':=by
 have hset:∀x,(listed.setIfInBounds r.d.ix true).getD x false=true↔(x=r.d.ix∨listed.getD x false=true):=fun x=>by
  by_cases e:r.d.ix=x
  ·subst e
   have:r.d.ix<listed.size:=by rw[I.size];exact hi
   simp[this]
  ·rw[getD_set_ne false e]
   exact⟨.inr,fun h=>h.resolve_left (fun e2=>e e2.symm)⟩
 have hsetf:∀x,x≠r.d.ix→listed.getD x false=false→(listed.setIfInBounds r.d.ix true).getD x false=false:=fun x e h=>by
  rw[getD_set_ne false (fun e2=>e e2.symm)];exact h
 have same:∀t,r.d.i.dst≠some t→(a.put r.d.i.dst u).tmps[t]?=a.tmps[t]?:=fun t ht=>by
  cases hdd:r.d.i.dst with
  |none=>rfl
  |some d=>rw[hdd] at ht;simp only[Act.put];rw[Array.getElem?_setIfInBounds_ne (fun e=>ht (by rw[e]))]
 have mine:∀t,r.d.i.dst=some t→(a.put r.d.i.dst u).tmps[t]?=some u:=fun t hdt=>by
  have:=hlt t hdt
  rw[hdt]
  simp[Act.put,I.tmps,this]
 have isp:∀(x:Nat) (y:Rec),rs[x]?=some y→y.d.ix=r.d.ix→x=p:=fun x y hy e=>ok.inj x p y.d r.d (run_rec R hy).1 hd e
 -- a listed writer of what is written lies ahead
 have ahead:∀(t x:Nat) (y:Rec),r.d.i.dst=some t→rs[x]?=some y→listed.getD y.d.ix false=true→y.d.i.dst=some t→x<p:=fun t x y hdt hy hly hdy=>by
  have hdy':=(run_rec R hy).1
  rcases Nat.lt_trichotomy x p with h|h|h
  ·exact h
  ·subst h;rw[hr] at hy;cases hy;rw[hun] at hly;cases hly
  ·have:=ok.comp p x r.d y.d t h hd hdy' (.inl ⟨hdt,.inr hdy⟩)
   have h2:=I.down x y.d hdy' hly _ this
   rw[hun] at h2;cases h2
 -- those that are held beside the one that is made
 have other:∀(x:Nat) (y:Rec),Held rs (listed.setIfInBounds r.d.ix true) q' x y→x≠p→Held rs listed q x y:=fun x y h e=>by
  obtain⟨h1,h2,h3,h4⟩:=h
  refine⟨by omega,h2,h3,?_⟩
  rcases(hset _).1 h4 with h5|h5
  ·exact absurd (isp x y h2 h5) e
  ·exact h5
 refine⟨by simp[I.size],G,sq,by rw[Act.put_size];exact I.tmps,by rw[Act.put_defers'];exact I.defers,E,fun x d hx hl y hy=>?_,hq,fun x y hx hy ho hc=>?_,fun x y hx hy ho hc=>?_,fun t x y hy hl hdy hno hnh=>?_,fun t c hno hb=>?_,hkl,fun l=>?_,fun x y hx hy hf hl=>?_,fun x y h=>?_,fun x y t h hdy hno=>?_,fun x x' y y' h h' e=>?_⟩
 ·rw[hset] at hl⊢
  rcases hl with hl|hl
  ·have:x=p:=ok.inj x p d r.d hx hd hl
   subst this
   rw[hd] at hx;cases hx
   exact .inr (hanc y hy)
  ·exact .inr (I.down x d hx hl y hy)
 ·rw[hset];exact hbef x y hx hy ho hc
 ·obtain⟨h1,h2⟩:=haft x y hx hy ho hc;exact hsetf _ h1 h2
 ·rw[hset] at hl
  have hdy':=(run_rec R hy).1
  by_cases hdt:r.d.i.dst=some t
  ·have hxp:x=p:=by
    rcases hl with hl|hl
    ·exact isp x y hy hl
    ·exfalso
     have hlt2:=ahead t x y hdt hy hl hdy
     exact hno p r hlt2 hr (by rw[hset];exact .inl rfl) hdt
   subst hxp
   rw[hr] at hy;cases hy
   exact⟨u,mine t hdt,hrel hnh⟩
  ·rw[same t hdt]
   have hl':listed.getD y.d.ix false=true:=hl.resolve_left fun e=>by
    have:x=p:=isp x y hy e
    subst this;rw[hr] at hy;cases hy;exact hdt hdy
   obtain⟨v,hv,hrl⟩:=I.writ t x y hy hl' hdy (fun z v hz hv hlv=>hno z v hz hv (by rw[hset];exact .inr hlv)) fun⟨h1,h2,h3,h4⟩=>hnh ⟨hqq x y hy h3 h1,h2,h3,by rw[hset];exact .inr h4⟩
   exact⟨v,hv,Rel.later L hrl⟩
 ·have hdt:r.d.i.dst≠some t:=hno p r hr (by rw[hset];exact .inl rfl)
  rw[same t hdt]
  obtain⟨v,hv,hrl⟩:=I.base t c (fun z v hv hlv=>hno z v hv (by rw[hset];exact .inr hlv)) hb
  exact⟨v,hv,Rel.later L hrl⟩
 ·rcases hka l with h|⟨x,y,h1,h2,h3,h4,h5,h6⟩
  ·exact .inl h
  ·exact .inr ⟨x,y,h1,h2,h3,hsetf _ (fun e=>h4 (isp x y h2 e)) h5,h6⟩
 ·have hne:y.d.ix≠r.d.ix:=fun e=>by
   have:(listed.setIfInBounds r.d.ix true).getD y.d.ix false=true:=(hset _).2 (.inl e)
   rw[this] at hl;cases hl
  have hl2:listed.getD y.d.ix false=false:=by rw[getD_set_ne false (fun e=>hne e.symm)] at hl;exact hl
  exact hpe x y hx hy hf (fun e=>by subst e;rw[hr] at hy;cases hy;exact hne rfl) hl2
 ·by_cases e:x=p
  ·subst e
   have hyr:=h.2.1
   rw[hr] at hyr;cases hyr
   exact(hhp h).1
  ·have ho:=other x y h e
   obtain⟨k1,k2,k3⟩:=hkeep x y ho
   obtain⟨i1,i2,i3⟩:=I.hold x y ho
   rw[hbE x e,huE x e]
   exact⟨i1.later L k1 k2 k3,i2,i3⟩
 ·by_cases e:x=p
  ·subst e
   have hyr:=h.2.1
   rw[hr] at hyr;cases hyr
   rw[(hhp h).2.1]
   exact mine t hdy
  ·have ho:=other x y h e
   have hdt:r.d.i.dst≠some t:=fun hdt=>hno p r (ahead t x y hdt h.2.1 ho.2.2.2 hdy) hr (by rw[hset];exact .inl rfl) hdt
   rw[same t hdt,huE x e]
   exact I.htmp x y t ho hdy fun z v hz hv hlv=>hno z v hz hv (by rw[hset];exact .inr hlv)
 ·by_cases e1:x=p
  ·by_cases e2:x'=p
   ·omega
   ·exfalso
    subst e1
    have hyr:=h.2.1
    rw[hr] at hyr;cases hyr
    have ho:=other x' y' h' e2
    rw[hbE x' e2] at e
    exact(hhp h).2.2 x' y' ho e.symm
  ·by_cases e2:x'=p
   ·exfalso
    subst e2
    have hyr:=h'.2.1
    rw[hr] at hyr;cases hyr
    have ho:=other x y h e1
    rw[hbE x e1] at e
    exact(hhp h').2.2 x y ho e
   ·rw[hbE x e1,hbE x' e2] at e
    exact I.hinj x x' y y' (other x y h e1) (other x' y' h' e2) e
end
end Go.Tm
namespace Go.Tm
section
variable {P:Program} {call:CallF} {vals:FuncId→Bool} {N:Nat} {ops:Array Oper} {ds:List D} {st st':St} {rs:List Rec}
def padD (n:Nat)(h:Heap):Heap:=h++List.replicate n .dead
theorem pad_len (n:Nat)(h:Heap):(padD n h).length=h.length+n:=by simp[padD]
theorem pad_at {n:Nat}{h:Heap}{l:Nat}{nd:Node}(e:(padD n h)[l]?=some nd):h[l]?=some nd∨nd=.dead:=by
 unfold padD at e
 rcases Nat.lt_or_ge l h.length with hl|hl
 ·rw[List.getElem?_append_left hl] at e;exact .inl e
 ·rw[List.getElem?_append_right hl,List.getElem?_replicate] at e
  split at e
  ·cases e;exact .inr rfl
  ·cases e
theorem live_pad {n:Nat}{h:Heap}{l:Nat}:live (padD n h) l↔live h l:=by
 constructor
 ·rintro⟨nd,e,hd⟩
  rcases pad_at e with e|e
  ·exact⟨nd,e,hd⟩
  ·exact absurd e hd
 ·rintro⟨nd,e,hd⟩
  refine⟨nd,?_,hd⟩
  unfold padD
  rw[List.getElem?_append_left (List.getElem?_eq_some_iff.1 e).1]
  exact e
theorem bad_pad {X:Nat→Prop}{φ:Nat→Loc}{n:Nat}{h:Heap}:badOf X φ (padD n h)=badOf X φ h:=by
 funext b
 unfold badOf Own
 simp only[live_pad]
theorem good_pad {w:World}{X S:Nat→Prop}{φ:Nat→Loc}{h:Heap}{n:Nat}(G:Good w X S φ h):Good w X S φ (padD n h):=by
 refine⟨fun l nd e=>?_,fun l hl=>G.inS l (live_pad.1 hl),fun l hl=>G.size l (live_pad.1 hl),fun l m hl hm=>G.inj l m (live_pad.1 hl) (live_pad.1 hm),G.xlt,fun l hl=>G.apart l (live_pad.1 hl)⟩
 rw[bad_pad]
 rcases pad_at e with e|e
 ·exact G.node l nd e
 ·subst e;trivial
theorem ext_pad {w:World}{S:Nat→Prop}{φ:Nat→Loc}{h:Heap}{n:Nat}:Ext w S φ h w S φ (padD n h):=
 ⟨rfl,rfl,rfl,Nat.le_refl _,fun _ _ _=>rfl,fun _ h=>⟨h,rfl⟩,fun l hl=>.inl ⟨l,live_pad.1 hl,rfl⟩⟩
theorem new_names {S S':Nat→Prop}{h h':Heap}{al:Option Nat}(sq:SeqOk S h)(lt:∀s,al=some s→s<h.length)(n:Names S S' h h' al):SeqOk S' h'∧∀l,S' l→S l∨l=(new h al .dead).1:=by
 rcases n with ⟨rfl,e⟩|⟨rfl,e⟩
 ·exact⟨fun l hl=>by rw[e];exact sq l hl,fun l hl=>.inl hl⟩
 ·refine⟨fun l hl=>?_,fun l hl=>hl⟩
  rw[e]
  cases al with
  |none=>
   simp only[new,List.length_append,List.length_cons,List.length_nil] at hl⊢
   rcases hl with hl|hl
   ·have:=sq l hl;omega
   ·omega
  |some s=>
   simp only[new,List.length_set] at hl⊢
   rcases hl with hl|hl
   ·exact sq l hl
   ·have:=lt s rfl;omega
theorem heap_const' (R:RunD P call ds st st' rs)(ok:DrawOk N ops ds)(hv:ValsOk vals call)(K:ChkOk vals rs){q p:Nat}(hqp:q≤p)(hp:p≤rs.length)(hn:∀(x:Nat) (y:Rec),q≤x→x<p→rs[x]?=some y→¬chR y∧¬frR y):hAt rs st' p=hAt rs st' q:=by
 obtain⟨k,rfl⟩:∃k,p=q+k:=⟨p-q,by omega⟩
 exact heap_const R ok hv K q k hp hn
theorem heap_up' (R:RunD P call ds st st' rs)(ok:DrawOk N ops ds)(hv:ValsOk vals call)(K:ChkOk vals rs){q p:Nat}(hqp:q≤p)(hp:p≤rs.length)(hn:∀(x:Nat) (y:Rec),q≤x→x<p→rs[x]?=some y→¬chR y):
  Grows (hAt rs st' q) (hAt rs st' p)∧(hAt rs st' q).length≤(hAt rs st' p).length∧∀l,(hAt rs st' q).length≤l→l<(hAt rs st' p).length→∃(x:Nat) (y:Rec),q≤x∧x<p∧rs[x]?=some y∧frR y∧y.heap.length=l:=by
 obtain⟨k,rfl⟩:∃k,p=q+k:=⟨p-q,by omega⟩
 exact heap_up R ok hv K q k hp hn
def setAt {α:Type}(f:Nat→α)(p:Nat)(v:α):Nat→α:=fun x=>if x=p then v else f x
theorem setAt_self {α:Type}(f:Nat→α)(p:Nat)(v:α):setAt f p v p=v:=if_pos rfl
theorem setAt_ne {α:Type}{f:Nat→α}{p x:Nat}{v:α}(h:x≠p):setAt f p v x=f x:=if_neg h
mutual
theorem Rel.narrow {w w':World} {bad bad' S S':Nat→Prop} {φ φ':Nat→Loc} (e:∀l,S l→φ' l=φ l):∀{c:C} {u v:Value},Rel w bad S φ c u→Rel w' bad' S' φ' c v→Rel w' bad' S φ c v
 | .v x,u,v,_,h=>by simpa only[Rel] using h
 | .fs xs len cap,u,v,_,h=>by
  simp only[Rel] at h⊢
  rcases h with h|⟨b,o,cap',hu,hl,hc,hx⟩
  ·exact .inl h
  ·refine .inr ⟨b,o,cap',hu,hl,hc,?_⟩
   rcases hx with hx|⟨hb,hs,hx⟩
   ·exact .inl hx
   ·exact .inr ⟨hb,hs,RelAt.later ((Later.refl (w:=w') (bad:=bad') (S:=noName) (φ:=φ')).no φ' φ noName) hb hs hx⟩
 | .fp xs,u,v,_,h=>by
  simp only[Rel] at h⊢
  obtain⟨b,o,hu,hx⟩:=h
  refine⟨b,o,hu,?_⟩
  rcases hx with hx|⟨hb,hs,hx⟩
  ·exact .inl hx
  ·exact .inr ⟨hb,hs,RelAt.later ((Later.refl (w:=w') (bad:=bad') (S:=noName) (φ:=φ')).no φ' φ noName) hb hs hx⟩
 | .os l off len cap,u,v,k,h=>by
  simp only[Rel] at h k⊢
  rw[e l k.1] at h
  exact⟨k.1,h.2⟩
 | .op l off,u,v,k,h=>by
  simp only[Rel] at h k⊢
  rw[e l k.1] at h
  exact⟨k.1,h.2⟩
 | .om l,u,v,k,h=>by
  simp only[Rel] at h k⊢
  rw[e l k.1] at h
  exact⟨k.1,h.2⟩
 | .fn f caps,u,v,k,h=>by
  simp only[Rel] at h k⊢
  obtain⟨us,hu,h⟩:=h
  obtain⟨_,_,k⟩:=k
  exact⟨us,hu,RelL.narrow e k h⟩
 | .agg cs,u,v,k,h=>by
  simp only[Rel] at h k⊢
  obtain⟨us,hu,h,h1⟩:=h
  obtain⟨_,_,k,_⟩:=k
  exact⟨us,hu,RelL.narrow e k h,h1⟩
 | .tup cs,u,v,k,h=>by
  simp only[Rel] at h k⊢
  obtain⟨us,hu,h⟩:=h
  obtain⟨_,_,k⟩:=k
  exact⟨us,hu,RelL.narrow e k h⟩
theorem RelL.narrow {w w':World} {bad bad' S S':Nat→Prop} {φ φ':Nat→Loc} (e:∀l,S l→φ' l=φ l):∀{cs:List C} {us vs:List Value},RelL w bad S φ cs us→RelL w' bad' S' φ' cs vs→RelL w' bad' S φ cs vs
 |[],_,_,_,h=>by simpa only[RelL] using h
 |c::cs,us,vs,k,h=>by
  simp only[RelL] at h k⊢
  obtain⟨u,r,hu,hr,h⟩:=h
  obtain⟨_,_,_,kr,k⟩:=k
  exact⟨u,r,hu,Rel.narrow e kr hr,RelL.narrow e k h⟩
end
theorem RelAt.narrow {w w':World}{bad bad' S S':Nat→Prop}{φ φ':Nat→Loc}(e:∀l,S l→φ' l=φ l):∀{cs:List C} {b o b' o':Nat},RelAt w bad S φ cs b o→RelAt w' bad' S' φ' cs b' o'→RelAt w' bad' S φ cs b' o'
 |[],_,_,_,_,_,_=>by simp[RelAt]
 |c::cs,b,o,b',o',k,h=>by
  simp only[RelAt] at h k⊢
  obtain⟨⟨u,hu,hr,h1⟩,h⟩:=h
  obtain⟨⟨_,_,kr,_⟩,k⟩:=k
  exact⟨⟨u,hu,Rel.narrow e kr hr,h1⟩,RelAt.narrow e k h⟩
theorem OkNode.narrow {w w':World}{bad bad' S S':Nat→Prop}{φ φ':Nat→Loc}(e:∀l,S l→φ' l=φ l){l:Nat}(hl:φ' l=φ l){nd:Node}(k:OkNode w bad S φ l nd)(h:OkNode w' bad' S' φ' l nd):OkNode w' bad' S φ l nd:=by
 cases nd with
 |dead=>trivial
 |row ez cs=>
  simp only[OkNode] at h k⊢
  rw[hl] at h
  exact⟨h.1,h.2.1,h.2.2.1,h.2.2.2.1,RelAt.narrow e k.2.2.2.2 h.2.2.2.2⟩
 |map es clock=>
  simp only[OkNode] at h⊢
  rw[hl] at h
  exact h
theorem new_live {env:Env}{h h':Heap}{o:Op}(ho:isNew o=true){c:C}(hs:stepOp P call none env h o=some (c,h')){nd:Node}(e:h'=h++[nd]):nd≠ .dead:=by
 have key:∀(x y:Nat) (cs:List C),h'=(new h none (.row y cs)).2→nd≠ .dead:=fun _ y cs h2=>by
  have h3:h++[nd]=h++[.row y cs]:=by rw[←e,h2];rfl
  have h4:=List.append_cancel_left h3
  injection h4 with h4
  rw[h4];simp
 cases o<;>simp only[isNew,Bool.false_eq_true] at ho
 case alloc t=>
  simp only[stepOp,Option.bind_eq_bind,Option.bind_eq_some_iff,Option.some.injEq,Prod.mk.injEq] at hs
  obtain⟨z,hz,_,h2⟩:=hs
  exact key 0 _ _ h2.symm
 case box t x=>
  simp only[stepOp,Option.bind_eq_bind,Option.bind_eq_some_iff] at hs
  obtain⟨d,hd,hs⟩:=hs
  split at hs
  ·simp only[Option.some.injEq,Prod.mk.injEq] at hs
   exact key 0 _ _ hs.2.symm
  ·cases hs
 case buildSlice t n ps=>
  simp only[stepOp,Option.bind_eq_bind,Option.bind_eq_some_iff] at hs
  obtain⟨qs,hq,hs⟩:=hs
  simp only[buildSliceC,Option.bind_eq_bind,Option.bind_eq_some_iff] at hs
  obtain⟨_,_,⟨_,_⟩,_,_,_,hs⟩:=hs
  split at hs
  ·simp only[Option.some.injEq,Prod.mk.injEq] at hs
   exact key 0 _ _ hs.2.symm
  ·cases hs
 case makeSlice t x y=>
  simp only[stepOp,Option.bind_eq_bind,Option.bind_eq_some_iff] at hs
  obtain⟨d,hd,e2,he,hs⟩:=hs
  simp only[makeSliceC,Option.bind_eq_bind,Option.bind_eq_some_iff] at hs
  obtain⟨_,_,⟨_,_⟩,_,⟨_,_⟩,_,_,_,⟨_,_⟩,_,hs⟩:=hs
  split at hs
  ·simp only[Option.some.injEq,Prod.mk.injEq] at hs
   exact key 0 _ _ hs.2.symm
  ·cases hs
theorem Inv.adv1 (R:RunD P call ds st st' rs)(ok:DrawOk N ops ds)(hv:ValsOk vals call)(K:ChkOk vals rs){X:Nat→Prop}{w0 w:World}{S0 S:Nat→Prop}{φ0 φ:Nat→Loc}{listed:Array Bool}{a:Act}{q:Nat}{kh:Heap}{hb:Nat→Loc}{hu:Nat→Value}
  (I:Inv ops ds rs st st' N X w0 S0 φ0 listed a w S φ q kh hb hu){r:Rec}(hr:rs[q]?=some r)(hc:¬chR r):
  ∃S' φ' kh',Inv ops ds rs st st' N X w0 S0 φ0 listed a w S' φ' (q+1) kh' hb hu:=by
 have hql:q<rs.length:=(List.getElem?_eq_some_iff.1 hr).1
 have hnext:=(run_step R hr).1
 have hat:=hAt_some (st':=st') hr
 have bef:∀(p:Nat) (y:Rec),p<q+1→rs[p]?=some y→y.on=true→y.d.cls=.chain→listed.getD y.d.ix false=true:=fun p y hp hy ho hcl=>by
  by_cases e:p=q
  ·subst e;rw[hr] at hy;cases hy;exact absurd ⟨ho,hcl⟩ hc
  ·exact I.before p y (by omega) hy ho hcl
 have aft:∀(p:Nat) (y:Rec),q+1≤p→rs[p]?=some y→y.on=true→y.d.cls=.chain→listed.getD y.d.ix false=false:=fun p y hp hy ho hcl=>I.after p y (by omega) hy ho hcl
 by_cases hf:frR r
 ·obtain⟨nd0,hnd0,_⟩:=free_new R hr hf
  have hslot:r.heap.length=kh.length:=by rw[I.klen,hat]
  cases hl:listed.getD r.d.ix false with
  |false=>
   have hs:∀x y,Held rs listed (q+1) x y↔Held rs listed q x y:=fun x y=>⟨fun h=>⟨by have:=h.1;omega,h.2⟩,fun h=>⟨by
    have h1:=h.1
    by_cases e:x=q
    ·subst e
     have hy:=h.2.1
     rw[hr] at hy;cases hy
     have h4:=h.2.2.2
     rw[hl] at h4;cases h4
    ·omega,h.2⟩⟩
   have eX:=HX_same (X:=X) (hb:=hb) hs
   have eB:badOf (HX X rs listed (q+1) hb) φ (padD 1 kh)=badOf (HX X rs listed q hb) φ kh:=by rw[bad_pad,eX]
   refine⟨S,φ,padD 1 kh,I.size,by rw[eX];exact good_pad I.good,fun l hS=>by rw[pad_len];have:=I.seq l hS;omega,I.tmps,I.defers,I.ext.trans ext_pad,I.down,by omega,bef,aft,fun t p y hy hly hdy hno hnh=>?_,fun t c hno hb=>?_,?_,fun l=>?_,fun x y hx hy hfy hly=>?_,fun x y h=>?_,fun x y t h=>I.htmp x y t ((hs x y).1 h),fun x x' y y' h h'=>I.hinj x x' y y' ((hs x y).1 h) ((hs x' y').1 h')⟩
   ·rw[eB];exact I.writ t p y hy hly hdy hno fun h=>hnh ((hs p y).2 h)
   ·rw[eB];exact I.base t c hno hb
   ·rw[pad_len,hnext,hnd0,List.length_append,List.length_singleton,hslot]
   ·rw[hnext,hnd0]
    rcases Nat.lt_trichotomy l kh.length with h|h|h
    ·have e1:(padD 1 kh)[l]?=kh[l]?:=by unfold padD;rw[List.getElem?_append_left h]
     rw[e1,List.getElem?_append_left (by rw[hslot];exact h)]
     rcases I.kat l with h2|⟨x,y,h1,h2,h3,h4,h5⟩
     ·left;rw[h2,hat]
     ·exact .inr ⟨x,y,by omega,h2,h3,h4,h5⟩
    ·exact .inr ⟨q,r,by omega,hr,hf,hl,by rw[hslot,h]⟩
    ·left
     rw[List.getElem?_eq_none (by rw[pad_len];omega),List.getElem?_eq_none (by rw[List.length_append,hslot];simp;omega)]
   ·by_cases e:x=q
    ·subst e
     rw[hr] at hy;cases hy
     rw[hslot]
     refine⟨?_,fun h=>by have:=I.seq _ h;omega⟩
     unfold padD
     rw[List.getElem?_append_right (Nat.le_refl _),Nat.sub_self];rfl
    ·obtain⟨h1,h2⟩:=I.pend x y (by omega) hy hfy hly
     refine⟨?_,h2⟩
     unfold padD
     rw[List.getElem?_append_left (List.getElem?_eq_some_iff.1 h1).1];exact h1
   ·rw[eB];exact I.hold x y ((hs x y).1 h)
  |true=>
   have hme:Held rs listed q q r:=⟨Nat.le_refl _,hr,hf,hl⟩
   obtain⟨H,hw0,hnX⟩:=I.hold q r hme
   obtain⟨nd,hnd,hne,hok⟩:=H.node
   rw[hslot] at hok
   have hval:=H.val
   rw[hslot] at hval
   have up:∀x y,Held rs listed (q+1) x y→Held rs listed q x y:=fun x y h=>⟨by have:=h.1;omega,h.2⟩
   have old:∀l,S l→l≠kh.length:=fun l h e=>by have:=I.seq l h;omega
   have atk:∀l,l<kh.length→(kh++[nd])[l]?=kh[l]?:=fun l h=>List.getElem?_append_left h
   have atn:(kh++[nd])[kh.length]?=some nd:=by simp
   have lv:∀l,live (kh++[nd]) l→l≠kh.length→live kh l:=fun l ⟨x,h1,h2⟩ e=>by
    have h3:=(List.getElem?_eq_some_iff.1 h1).1
    rw[List.length_append,List.length_singleton] at h3
    rw[atk l (by omega)] at h1
    exact⟨x,h1,h2⟩
   have lvk:∀l,live kh l→l<kh.length:=fun l ⟨x,h1,_⟩=>(List.getElem?_eq_some_iff.1 h1).1
   have lvk2:∀l,live kh l→live (kh++[nd]) l:=fun l h=>by
    have:=lvk l h
    obtain⟨x,h1,h2⟩:=h
    exact⟨x,by rw[atk l this];exact h1,h2⟩
   have eB:badOf (HX X rs listed (q+1) hb) (updL φ kh.length (hb q)) (kh++[nd])=badOf (HX X rs listed q hb) φ kh:=by
    funext b
    refine propext ⟨?_,?_⟩
    ·rintro(h|⟨l,h1,h2⟩)
     ·refine .inl ?_
      rcases h with h|⟨x,y,h1,h2⟩
      ·exact .inl h
      ·exact .inr ⟨x,y,up x y h1,h2⟩
     ·by_cases e:l=kh.length
      ·rw[e,updL_self] at h2
       exact .inl (.inr ⟨q,r,hme,h2⟩)
      ·rw[updL_ne e] at h2
       exact .inr ⟨l,lv l h1 e,h2⟩
    ·rintro(h|⟨l,h1,h2⟩)
     ·rcases h with h|⟨x,y,h1,h2⟩
      ·exact .inl (.inl h)
      ·by_cases e:x=q
       ·subst e
        exact .inr ⟨kh.length,⟨nd,atn,hne⟩,by rw[updL_self];exact h2⟩
       ·exact .inl (.inr ⟨x,y,⟨by have:=h1.1;omega,h1.2⟩,h2⟩)
     ·have:=lvk l h1
      exact .inr ⟨l,lvk2 l h1,by rw[updL_ne (by omega)];exact h2⟩
   have k:Later w (badOf (HX X rs listed q hb) φ kh) S φ w (badOf (HX X rs listed (q+1) hb) (updL φ kh.length (hb q)) (kh++[nd])) (more S kh.length) (updL φ kh.length (hb q)):=
    ⟨fun _ _ _ _ _ h=>h,fun b _ h=>by rw[eB] at h;exact h,Nat.le_refl _,fun l h=>⟨.inl h,updL_ne (old l h)⟩⟩
   have hbx:HX X rs listed q hb (hb q).block:=.inr ⟨q,r,hme,rfl⟩
   refine⟨more S kh.length,updL φ kh.length (hb q),kh++[nd],I.size,⟨fun l x hx=>?_,fun l hx=>?_,fun l hx=>?_,fun l m hx hm e=>?_,fun b h=>?_,fun l hx h=>?_⟩,fun l h=>?_,I.tmps,I.defers,?_,I.down,by omega,bef,aft,fun t p y hy hly hdy hno hnh=>?_,fun t c hno hb=>?_,?_,fun l=>?_,fun x y hx hy hfy hly=>?_,fun x y h=>?_,fun x y t h=>I.htmp x y t (up x y h),fun x x' y y' h h'=>I.hinj x x' y y' (up x y h) (up x' y' h')⟩
   ·by_cases e:l=kh.length
    ·subst e
     rw[atn] at hx;cases hx
     rw[eB];exact hok
    ·have h3:=(List.getElem?_eq_some_iff.1 hx).1
     rw[List.length_append,List.length_singleton] at h3
     rw[atk l (by omega)] at hx
     exact(I.good.node l x hx).moved k (updL_ne e) rfl
   ·by_cases e:l=kh.length
    ·exact .inr e
    ·exact .inl (I.good.inS l (lv l hx e))
   ·by_cases e:l=kh.length
    ·rw[e,updL_self];exact I.good.xlt _ hbx
    ·rw[updL_ne e];exact I.good.size l (lv l hx e)
   ·by_cases e1:l=kh.length
    ·by_cases e2:m=kh.length
     ·omega
     ·exfalso
      rw[e1,updL_self,updL_ne e2] at e
      exact I.good.apart m (lv m hm e2) (by rw[←e];exact hbx)
    ·by_cases e2:m=kh.length
     ·exfalso
      rw[e2,updL_self,updL_ne e1] at e
      exact I.good.apart l (lv l hx e1) (by rw[e];exact hbx)
     ·rw[updL_ne e1,updL_ne e2] at e
      exact I.good.inj l m (lv l hx e1) (lv m hm e2) e
   ·refine I.good.xlt b ?_
    rcases h with h|⟨x,y,h1,h2⟩
    ·exact .inl h
    ·exact .inr ⟨x,y,up x y h1,h2⟩
   ·by_cases e:l=kh.length
    ·rw[e,updL_self] at h
     rcases h with h|⟨x,y,h1,h2⟩
     ·exact hnX h
     ·have:=I.hinj x q y r (up x y h1) hme h2
      have:=h1.1
      omega
    ·rw[updL_ne e] at h
     refine I.good.apart l (lv l hx e) ?_
     rcases h with h|⟨x,y,h1,h2⟩
     ·exact .inl h
     ·exact .inr ⟨x,y,up x y h1,h2⟩
   ·rw[List.length_append,List.length_singleton]
    rcases h with h|h
    ·have:=I.seq l h;omega
    ·omega
   ·refine⟨I.ext.os,I.ext.tape,I.ext.output,I.ext.size,I.ext.keep,fun l h=>?_,fun l h=>?_⟩
    ·obtain⟨h1,h2⟩:=I.ext.names l h
     exact⟨.inl h1,by rw[updL_ne (old l h1)];exact h2⟩
    ·by_cases e:l=kh.length
     ·rw[e,updL_self];exact .inr hw0
     ·rw[updL_ne e];exact I.ext.own l (lv l h e)
   ·by_cases e:p=q
    ·subst e
     rw[hr] at hy;cases hy
     exact⟨hu p,I.htmp p r t hme hdy hno,by rw[eB];exact hval⟩
    ·obtain⟨v,h1,h2⟩:=I.writ t p y hy hly hdy hno fun h=>hnh ⟨by have:=h.1;omega,h.2⟩
     exact⟨v,h1,h2.later k⟩
   ·obtain⟨v,h1,h2⟩:=I.base t c hno hb
    exact⟨v,h1,h2.later k⟩
   ·rw[hnext,hnd,List.length_append,List.length_append,hslot]
   ·rw[hnext,hnd]
    rcases Nat.lt_trichotomy l kh.length with h|h|h
    ·rw[atk l h,List.getElem?_append_left (by rw[hslot];exact h)]
     rcases I.kat l with h2|⟨x,y,h1,h2,h3,h4,h5⟩
     ·left;rw[h2,hat]
     ·exact .inr ⟨x,y,by omega,h2,h3,h4,h5⟩
    ·left
     rw[h,atn,←hslot];simp
    ·left
     rw[List.getElem?_eq_none (by rw[List.length_append];simp;omega),List.getElem?_eq_none (by rw[List.length_append,hslot];simp;omega)]
   ·by_cases e:x=q
    ·subst e
     rw[hr] at hy;cases hy
     rw[hl] at hly;cases hly
    ·obtain⟨h1,h2⟩:=I.pend x y (by omega) hy hfy hly
     have h3:=(List.getElem?_eq_some_iff.1 h1).1
     refine⟨by rw[atk _ h3];exact h1,fun h=>?_⟩
     rcases h with h|h
     ·exact h2 h
     ·omega
   ·obtain⟨h1,h2,h3⟩:=I.hold x y (up x y h)
    have hlt:=slot_lt R ok hv K (x:=q) (y:=x) (by have:=h.1;omega) hr h.2.1 hf
    refine⟨h1.later k rfl (fun hS=>?_) (fun hS=>?_),h2,h3⟩
    ·have:=I.seq _ hS;omega
    ·rcases hS with hS|hS
     ·have:=I.seq _ hS;omega
     ·omega
 ·have hs:∀x y,Held rs listed (q+1) x y↔Held rs listed q x y:=fun x y=>⟨fun h=>⟨by have:=h.1;omega,h.2⟩,fun h=>⟨by
   have h1:=h.1
   by_cases e:x=q
   ·subst e
    have hy:=h.2.1
    rw[hr] at hy;cases hy
    exact absurd h.2.2.1 hf
   ·omega,h.2⟩⟩
  have eX:=HX_same (X:=X) (hb:=hb) hs
  have hq:=heap_quiet R ok hv K hr hc hf
  refine⟨S,φ,kh,I.size,by rw[eX];exact I.good,I.seq,I.tmps,I.defers,I.ext,I.down,by omega,bef,aft,fun t p y hy hly hdy hno hnh=>?_,fun t c hno hb=>?_,?_,fun l=>?_,fun x y hx hy hfy hly=>?_,fun x y h=>?_,fun x y t h=>I.htmp x y t ((hs x y).1 h),fun x x' y y' h h'=>I.hinj x x' y y' ((hs x y).1 h) ((hs x' y').1 h')⟩
  ·rw[eX];exact I.writ t p y hy hly hdy hno fun h=>hnh ((hs p y).2 h)
  ·rw[eX];exact I.base t c hno hb
  ·rw[hnext,hq,I.klen,hat]
  ·rw[hnext,hq]
   rcases I.kat l with h|⟨x,y,h1,h2,h3,h4,h5⟩
   ·left;rw[h,hat]
   ·exact .inr ⟨x,y,by omega,h2,h3,h4,h5⟩
  ·by_cases e:x=q
   ·subst e;rw[hr] at hy;cases hy;exact absurd hfy hf
   ·exact I.pend x y (by omega) hy hfy hly
  ·rw[eX];exact I.hold x y ((hs x y).1 h)
theorem Inv.adv (R:RunD P call ds st st' rs)(ok:DrawOk N ops ds)(hv:ValsOk vals call)(K:ChkOk vals rs){X:Nat→Prop}{w0 w:World}{S0:Nat→Prop}{φ0:Nat→Loc}{listed:Array Bool}{a:Act}{hb:Nat→Loc}{hu:Nat→Value}:
  ∀(n:Nat) {S:Nat→Prop} {φ:Nat→Loc} {q:Nat} {kh:Heap},rs.length-q≤n→Inv ops ds rs st st' N X w0 S0 φ0 listed a w S φ q kh hb hu→∃S' φ' q' kh',Inv ops ds rs st st' N X w0 S0 φ0 listed a w S' φ' q' kh' hb hu∧(q'=rs.length∨∃c,rs[q']?=some c∧chR c)
 |0,S,φ,q,kh,hn,I=>⟨S,φ,q,kh,I,.inl (by have:=I.le;omega)⟩
 |n+1,S,φ,q,kh,hn,I=>by
  by_cases hq:q<rs.length
  ·have hr:rs[q]?=some rs[q]:=List.getElem?_eq_getElem hq
   by_cases hc:chR rs[q]
   ·exact⟨S,φ,q,kh,I,.inr ⟨_,hr,hc⟩⟩
   ·obtain⟨S',φ',kh',I'⟩:=I.adv1 R ok hv K hr hc
    exact Inv.adv R ok hv K n (by omega) I'
  ·exact⟨S,φ,q,kh,I,.inl (by have:=I.le;omega)⟩
theorem draw_step (hcall:CallOk P call)(hv:ValsOk vals call)(hvs:ValSound P vals call)(R:RunD P call ds st st' rs)(ok:DrawOk N ops ds)(K:ChkOk vals rs){X:Nat→Prop}{w0 w:World}{S0 S:Nat→Prop}{φ0 φ:Nat→Loc}{listed:Array Bool}{a:Act}{q:Nat}{kh:Heap}{hb:Nat→Loc}{hu:Nat→Value}
  (I:Inv ops ds rs st st' N X w0 S0 φ0 listed a w S φ q kh hb hu){i:Nat}(hi:i∈Region.ready .any ops listed){Q:Exit→Act→World→Prop}{next:Act→World→Prop}
  (hn:∀a' w' S' φ' q' kh' hb' hu',Inv ops ds rs st st' N X w0 S0 φ0 (listed.setIfInBounds i true) a' w' S' φ' q' kh' hb' hu'→next a' w'):wpOp P ops Q i next a w:=by
 obtain⟨S,φ,q,kh,I,hmax⟩:=Inv.adv R ok hv K _ (Nat.le_refl _) I
 obtain⟨hun0,o,ho,hall⟩:=mem_ready.1 hi
 have hlt:i<ops.size:=(Array.getElem?_eq_some_iff.1 ho).1
 obtain⟨p,d,hd,rfl⟩:=ok.cover i hlt
 have hpl:p<rs.length:=by rw[R.len];exact(List.getElem?_eq_some_iff.1 hd).1
 have hr:rs[p]?=some (rs[p]'hpl):=List.getElem?_eq_getElem hpl
 generalize rs[p]'hpl=r at hr
 obtain⟨hd',b,hwant,hon,hst,hoff⟩:=run_rec R hr
 rw[hd] at hd'
 cases hd'
 have hun:listed.getD r.d.ix false=false:=by rw[getD_eq (by rw[I.size];exact hlt) false true];exact hun0
 obtain⟨o',ho',htoI,hanc0,hpre⟩:=ok.op p r.d hd
 rw[ho] at ho'
 cases ho'
 obtain⟨hdst,hop,hdlt,_⟩:=toI_eq htoI
 have hdlt':∀t,r.d.i.dst=some t→t<N:=fun t ht=>hdlt t (by rw[←hdst];exact ht)
 have hanc:∀x∈r.d.anc,listed.getD x false=true:=fun x hx=>by
  obtain⟨e,he,hb,h⟩:=hanc0 x hx
  have hle:=hall e he hb
  rcases h with rfl|⟨y,d',hy,hyx,hxd⟩
  ·exact hle
  ·exact I.down y d' hy (by rw[hyx];exact hle) x hxd
 have hE:=I.env R ok hmax hr hd hun hanc
 -- chains that are listed and lie behind p do not have p ahead of them
 have notanc:∀(x:Nat) (y:Rec),rs[x]?=some y→listed.getD y.d.ix false=true→r.d.ix ∉ y.d.anc:=fun x y hy hly hm=>by
  have:=I.down x y.d (run_rec R hy).1 hly _ hm
  rw[hun] at this;cases this
 have hag:agree (opTmps r.d.i.op.operands.toList) r.env (keepE r.env (uses r.d.i)):=fun t ht=>(look_keepE_mem _ _ _ (by unfold uses;exact List.mem_append.2 (.inl ht))).symm
 have hwant':wantedC (keepE r.env (uses r.d.i)) r.d.i.g=some b:=by
  rw[←hwant]
  refine(wantedC_agree fun t b' hg=>?_).symm
  refine(look_keepE_mem _ _ _ ?_).symm
  unfold uses
  rw[hg]
  simp
 have hw:=wantedC_sound hE htoI hwant'
 have isp:∀(x:Nat) (y:Rec),rs[x]?=some y→y.d.ix=r.d.ix→x=p:=fun x y hy e=>ok.inj x p y.d r.d (run_rec R hy).1 hd e
 have hset:∀x,(listed.setIfInBounds r.d.ix true).getD x false=true↔(x=r.d.ix∨listed.getD x false=true):=fun x=>by
  by_cases e:r.d.ix=x
  ·subst e
   have:r.d.ix<listed.size:=by rw[I.size];exact hlt
   simp[this]
  ·rw[getD_set_ne false e]
   exact⟨.inr,fun h=>h.resolve_left (fun e2=>e e2.symm)⟩
 -- who is made at any time and is ahead of what loads or turns the heap
 have frees_before:r.on=true→(r.d.cls=.chain∨r.d.cls=.load)→∀(x:Nat) (y:Rec),x<p→rs[x]?=some y→frR y→listed.getD y.d.ix false=true:=fun _ hrc x y hx hy hf=>by
  have hm:=ok.fr x p y.d r.d hx (run_rec R hy).1 hd hf.2.1 hf.2.2 (by rcases hrc with h|h<;>simp[h])
  exact hanc _ hm
 have chains_before:r.on=true→(r.d.cls=.chain∨r.d.cls=.load)→∀(x:Nat) (y:Rec),x<p→rs[x]?=some y→chR y→x<q:=fun hro hrc x y hx hy hc=>by
  have hly:listed.getD y.d.ix false=true:=by
   rcases hrc with hrc|hrc
   ·exact hanc _ (K.pair x p y r hx hy hr hc.1 hro hc.2 (.inl hrc))
   ·exact hanc _ (K.pair x p y r hx hy hr hc.1 hro hc.2 (.inr hrc))
  rcases Nat.lt_or_ge x q with h|h
  ·exact h
  ·rw[I.after x y h hy hc.1 hc.2] at hly;cases hly
 have hpq:r.on=true→(r.d.cls=.chain∨r.d.cls=.load)→p≤q:=fun hro hrc=>by
  rcases hmax with e|⟨c,hc,hch⟩
  ·omega
  ·rcases Nat.lt_or_ge q p with h|h
   ·have:=chains_before hro hrc q c h hc hch;omega
   ·exact h
 -- no chain stands behind one that is still to be made
 have pend_chain:∀(x z:Nat) (y c:Rec),rs[x]?=some y→frR y→listed.getD y.d.ix false=false→x<z→z<q→rs[z]?=some c→chR c→False:=fun x z y c hy hf hl hxz hzq hc hch=>by
  have hm:=ok.fr x z y.d c.d hxz (run_rec R hy).1 (run_rec R hc).1 hf.2.1 hf.2.2 (.inr hch.2)
  have:=I.down z c.d (run_rec R hc).1 (I.before z c hzq hc hch.1 hch.2) _ hm
  rw[hl] at this;cases this
 -- what is held lies apart
 have far:∀(x:Nat) (y:Rec),Held rs listed q x y→(hb x).block<w.heap.size∧¬Own φ kh (hb x).block∧kh.length≤y.heap.length∧¬S y.heap.length:=fun x y h=>by
  have hbx:HX X rs listed q hb (hb x).block:=.inr ⟨x,y,h,rfl⟩
  have hxl:=(List.getElem?_eq_some_iff.1 h.2.1).1
  have hlen:kh.length≤y.heap.length:=by
   have:=heap_mono' R ok hv K h.1 (Nat.le_of_lt hxl)
   rw[hAt_some h.2.1,←I.klen] at this
   exact this
  refine⟨I.good.xlt _ hbx,fun⟨l,hl,e⟩=>I.good.apart l hl (by rw[e];exact hbx),hlen,fun hS=>?_⟩
  have:=I.seq _ hS
  omega
 unfold wpOp
 rw[ho]
 simp only
 rw[hw]
 have heldS:¬frR r∨p<q→∀x y,Held rs (listed.setIfInBounds r.d.ix true) q x y↔Held rs listed q x y:=fun hc x y=>⟨fun⟨h1,h2,h3,h4⟩=>⟨h1,h2,h3,by
   rcases(hset _).1 h4 with h|h
   ·exfalso
    have:=isp x y h2 h
    subst this
    rw[hr] at h2;cases h2
    rcases hc with hc|hc
    ·exact hc h3
    ·omega
   ·exact h⟩,fun⟨h1,h2,h3,h4⟩=>⟨h1,h2,h3,(hset _).2 (.inr h4)⟩⟩
 -- what goes on where the heap stays
 have stay:¬chR r→¬frR r→∀{u:Value} {w':World} {S':Nat→Prop} {φ':Nat→Loc},Good w' (HX X rs listed q hb) S' φ' kh→SeqOk S' kh→(∀l,S' l→S l)→Ext w S φ kh w' S' φ' kh→Rel w' (badOf (HX X rs listed q hb) φ' kh) S' φ' r.c u→next (a.put r.d.i.dst u) w':=
  fun hnc hnf u w' S' φ' G sq hS E hrel=>by
   have eX:=HX_same (X:=X) (hb:=hb) (heldS (.inl hnf))
   refine hn _ _ S' φ' q kh hb hu (I.put R ok hr hd hlt hdlt' hun hanc (by rw[eX];exact G) sq (I.ext.trans E) (by rw[eX];exact E.later) (fun _=>by rw[eX];exact hrel) (fun _ _ _ _ h=>h) (Nat.le_refl _) (fun x y h=>?_) (fun _ _=>rfl) (fun _ _=>rfl) (fun h=>absurd h.2.2.1 hnf) I.le (fun x y hx hy ho hc=>.inr (I.before x y hx hy ho hc)) (fun x y hx hy ho hc=>⟨fun e=>?_,I.after x y hx hy ho hc⟩) I.klen (fun l=>?_) (fun x y hx hy hf hne hl=>?_))
   ·obtain⟨f1,f2,f3,f4⟩:=far x y h
    exact⟨E.keep _ f1 f2,f4,fun hS'=>f4 (hS _ hS')⟩
   ·have:=isp x y hy e
    subst this;rw[hr] at hy;cases hy;exact hnc ⟨ho,hc⟩
   ·rcases I.kat l with h|⟨x,y,h1,h2,h3,h4,h5⟩
    ·exact .inl h
    ·exact .inr ⟨x,y,h1,h2,h3,fun e=>by subst e;rw[hr] at h2;cases h2;exact hnf h3,h4,h5⟩
   ·obtain⟨h1,h2⟩:=I.pend x y hx hy hf hl
    exact⟨h1,fun h=>h2 (hS _ h)⟩
 cases b with
 |false=>
  rw[if_neg (by simp),←hdst]
  refine stay (fun h=>by have:=h.1;rw[hon] at this;cases this) (fun h=>by have:=h.1;rw[hon] at this;cases this) I.good I.seq (fun _ h=>h) (Ext.refl _ _ _ _) ?_
  rw[(hoff rfl).1]
  exact undef_rel
 |true=>
  rw[if_pos rfl]
  refine .inl ?_
  have hst:=hst rfl
  cases hcl:r.d.cls with
  |pure=>
   have hcl2:¬chR r:=fun h=>by have:=h.2;rw[hcl] at this;cases this
   rcases(ok.cls p r.d hd).1 hcl with hpu|hpu
   ·have hnf:¬frR r:=fun h=>by
     have:=h.2.2
     cases hx:r.d.i.op<;>rw[hx] at this hpu<;>simp[isNew] at this<;>simp[pureOk] at hpu
    have hcv:¬isCallV r.d.i.op=true:=fun h=>by
     cases hx:r.d.i.op<;>rw[hx] at h hpu<;>simp only[isCallV,Bool.false_eq_true] at h
     rename_i z
     obtain⟨cal,args,ats⟩:=z
     cases cal<;>simp[pureOk] at hpu<;>simp at h
    have hp:=(pure_any hpu hst).2 kh
    rw[stepOp_agree hag] at hp
    refine op_sound hcall I.good I.seq hE I.seq.alloc hop.symm hp fun u w' S' φ' G' E' hrel hnm=>?_
    rw[←hdst]
    have hS:=names_same hcv hnm
    subst hS
    exact stay hcl2 hnf G' I.seq (fun _ h=>h) E' hrel
   ·have hfr:frR r:=⟨hon,hcl,hpu⟩
    obtain⟨nd,hnd,hstep⟩:=free_new R hr hfr
    have hlive:=new_live hpu hst hnd
    have hnext:=(run_step R hr).1
    rcases Nat.lt_or_ge p q with hpq|hqp
    ·-- it is made late,where room was left for it
     obtain⟨hdead,hnS⟩:=I.pend p r hpq hr hfr hun
     have hslot:r.heap.length<kh.length:=(List.getElem?_eq_some_iff.1 hdead).1
     have hp:=hstep (some r.heap.length) kh rfl
     rw[stepOp_agree hag] at hp
     have hok:AllocOk S kh (some r.heap.length):=⟨hnS,fun s e=>by cases e;exact hslot⟩
     refine new_sound I.good hE hok hop.symm hpu hp fun u w' S' φ' G' E' hrel hnm=>?_
     rw[←hdst]
     obtain⟨sq',hS'⟩:=new_names I.seq (fun s e=>by cases e;exact hslot) hnm
     have e2:(new kh (some r.heap.length) nd).2=kh.set r.heap.length nd:=rfl
     have e3:(new kh (some r.heap.length) .dead).1=r.heap.length:=rfl
     rw[e2] at G' E' hrel sq'
     rw[e3] at hS'
     have eX:=HX_same (X:=X) (hb:=hb) (heldS (.inr hpq))
     refine hn _ _ S' φ' q (kh.set r.heap.length nd) hb hu (I.put R ok hr hd hlt hdlt' hun hanc (by rw[eX];exact G') sq' (I.ext.trans E') (by rw[eX];exact E'.later) (fun _=>by rw[eX];exact hrel) (fun _ _ _ _ h=>h) (Nat.le_refl _) (fun x y h=>?_) (fun _ _=>rfl) (fun _ _=>rfl) (fun h=>by have:=h.1;omega) I.le (fun x y hx hy ho hc=>.inr (I.before x y hx hy ho hc)) (fun x y hx hy ho hc=>⟨fun e=>by
      have:=isp x y hy e
      subst this;rw[hr] at hy;cases hy;exact hcl2 ⟨ho,hc⟩,I.after x y hx hy ho hc⟩) (by rw[List.length_set];exact I.klen) (fun l=>?_) (fun x y hx hy hf hne hl=>?_))
     ·obtain⟨f1,f2,f3,f4⟩:=far x y h
      refine⟨E'.keep _ f1 f2,f4,fun h=>?_⟩
      rcases hS' _ h with h|h
      ·exact f4 h
      ·omega
     ·by_cases el:l=r.heap.length
      ·left
       subst el
       rw[List.getElem?_set_self hslot]
       have hup:=(heap_up' R ok hv K (q:=p+1) (p:=q) (by omega) I.le (fun z c h1 h2 h3 h4=>pend_chain p z r c hr hfr hun (by omega) h2 h3 h4)).1
       refine(hup _ nd ?_).symm
       rw[hnext,hnd];simp
      ·rw[List.getElem?_set_ne (fun e=>el e.symm)]
       rcases I.kat l with h|⟨x,y,h1,h2,h3,h4,h5⟩
       ·exact .inl h
       ·refine .inr ⟨x,y,h1,h2,h3,fun e=>?_,h4,h5⟩
        subst e;rw[hr] at h2;cases h2;exact el h5.symm
     ·obtain⟨h1,h2⟩:=I.pend x y hx hy hf hl
      have hd2:y.heap.length≠r.heap.length:=fun e=>by
       rcases Nat.lt_trichotomy x p with h|h|h
       ·have:=slot_lt R ok hv K h hy hr hf;omega
       ·exact hne h
       ·have:=slot_lt R ok hv K h hr hy hfr;omega
      refine⟨by rw[List.getElem?_set_ne (fun e=>hd2 e.symm)];exact h1,fun h=>?_⟩
      rcases hS' _ h with h|h
      ·exact h2 h
      ·exact hd2 h
    ·-- it is made ahead of its place:it is held
     have hlen:kh.length≤r.heap.length:=by
      have:=heap_mono' R ok hv K hqp (by omega)
      rw[hAt_some hr,←I.klen] at this
      exact this
     have hkl:(padD (r.heap.length-kh.length) kh).length=r.heap.length:=by rw[pad_len];omega
     have hp:=hstep none (padD (r.heap.length-kh.length) kh) hkl
     rw[stepOp_agree hag] at hp
     have hE2:RelE w (badOf (HX X rs listed q hb) φ (padD (r.heap.length-kh.length) kh)) S φ (keepE r.env (uses r.d.i)) a.tmps:=by rw[bad_pad];exact hE
     have sq2:SeqOk S (padD (r.heap.length-kh.length) kh):=fun l hl=>by rw[pad_len];have:=I.seq l hl;omega
     refine new_sound (good_pad I.good) hE2 sq2.alloc hop.symm hpu hp fun u w' S' φ' G' E' hrel hnm=>?_
     rw[←hdst]
     obtain⟨_,hS'⟩:=new_names sq2 (fun s e=>by cases e) hnm
     have e2:(new (padD (r.heap.length-kh.length) kh) none nd).2=padD (r.heap.length-kh.length) kh++[nd]:=rfl
     have e3:(new (padD (r.heap.length-kh.length) kh) none .dead).1=r.heap.length:=hkl
     rw[e2] at G' E' hrel
     rw[e3] at hS'
     generalize hkp:padD (r.heap.length-kh.length) kh=kp at G' E' hrel hkl
     have lvp:∀l,live kp l↔live kh l:=fun l=>by rw[←hkp];exact live_pad
     have lvk:∀l,live kh l→l<kh.length:=fun l ⟨x,h1,_⟩=>(List.getElem?_eq_some_iff.1 h1).1
     have ats:(kp++[nd])[r.heap.length]?=some nd:=by rw[←hkl];simp
     have lvs:live (kp++[nd]) r.heap.length:=⟨nd,ats,hlive⟩
     have lvo:∀l,live kh l→live (kp++[nd]) l:=fun l h=>by
      obtain⟨x,h1,h2⟩:=(lvp l).2 h
      exact⟨x,by rw[List.getElem?_append_left (List.getElem?_eq_some_iff.1 h1).1];exact h1,h2⟩
     have lvb:∀l,live (kp++[nd]) l→l≠r.heap.length→live kh l:=fun l ⟨x,h1,h2⟩ e=>by
      have h3:=(List.getElem?_eq_some_iff.1 h1).1
      rw[List.length_append,List.length_singleton,hkl] at h3
      rw[List.getElem?_append_left (by omega)] at h1
      exact(lvp l).1 ⟨x,h1,h2⟩
     have hφ:∀l,S l→φ' l=φ l:=fun l h=>(E'.names l h).2
     have hnew:¬Own φ kh (φ' r.heap.length).block:=fun⟨l,h1,h2⟩=>by
      have:=G'.inj l r.heap.length (lvo l h1) lvs (by rw[hφ l (I.good.inS l h1)];exact h2)
      have:=lvk l h1
      omega
     have hfresh:w.heap.size≤(φ' r.heap.length).block:=by
      rcases E'.own _ lvs with ⟨l,h1,h2⟩|h
      ·exact absurd ⟨l,(lvp l).1 h1,h2⟩ hnew
      ·exact h
     have hHself:Held rs (listed.setIfInBounds r.d.ix true) q p r:=⟨hqp,hr,hfr,(hset _).2 (.inl rfl)⟩
     have hHold:∀x y,Held rs (listed.setIfInBounds r.d.ix true) q x y→x≠p→Held rs listed q x y:=fun x y ⟨h1,h2,h3,h4⟩ e=>⟨h1,h2,h3,by
      rcases(hset _).1 h4 with h|h
      ·exact absurd (isp x y h2 h) e
      ·exact h⟩
     have hHup:∀x y,Held rs listed q x y→Held rs (listed.setIfInBounds r.d.ix true) q x y∧x≠p:=fun x y ⟨h1,h2,h3,h4⟩=>⟨⟨h1,h2,h3,(hset _).2 (.inr h4)⟩,fun e=>by subst e;rw[hr] at h2;cases h2;rw[hun] at h4;cases h4⟩
     generalize hL:φ' r.heap.length=L at hnew hfresh
     have hXX:∀b,HX X rs (listed.setIfInBounds r.d.ix true) q (setAt hb p L) b↔(HX X rs listed q hb b∨b=L.block):=fun b=>by
      constructor
      ·rintro(h|⟨x,y,h1,h2⟩)
       ·exact .inl (.inl h)
       ·by_cases e:x=p
        ·rw[e,setAt_self] at h2;exact .inr h2.symm
        ·rw[setAt_ne e] at h2;exact .inl (.inr ⟨x,y,hHold x y h1 e,h2⟩)
      ·rintro((h|⟨x,y,h1,h2⟩)|h)
       ·exact .inl h
       ·obtain⟨h3,h4⟩:=hHup x y h1
        exact .inr ⟨x,y,h3,by rw[setAt_ne h4];exact h2⟩
       ·exact .inr ⟨p,r,hHself,by rw[setAt_self];exact h.symm⟩
     have eB:badOf (HX X rs (listed.setIfInBounds r.d.ix true) q (setAt hb p L)) φ kh=badOf (HX X rs listed q hb) φ' (kp++[nd]):=by
      funext b
      refine propext ⟨?_,?_⟩
      ·rintro(h|⟨l,h1,h2⟩)
       ·rcases(hXX b).1 h with h|h
        ·exact .inl h
        ·exact .inr ⟨r.heap.length,lvs,by rw[hL];exact h.symm⟩
       ·exact .inr ⟨l,lvo l h1,by rw[hφ l (I.good.inS l h1)];exact h2⟩
      ·rintro(h|⟨l,h1,h2⟩)
       ·exact .inl ((hXX b).2 (.inl h))
       ·by_cases e:l=r.heap.length
        ·rw[e,hL] at h2
         exact .inl ((hXX b).2 (.inr h2.symm))
        ·have h3:=lvb l h1 e
         exact .inr ⟨l,h3,by rw[←hφ l (I.good.inS l h3)];exact h2⟩
     have ownp:∀b,Own φ kp b→Own φ kh b:=fun b ⟨l,h1,h2⟩=>⟨l,(lvp l).1 h1,h2⟩
     have hkeep:∀b,b<w.heap.size→¬Own φ kh b→w'.heap[b]?=w.heap[b]?:=fun b h1 h2=>E'.keep b h1 fun h=>h2 (ownp b h)
     have toMore:Later w' (badOf (HX X rs listed q hb) φ' (kp++[nd])) S' φ' w' (badOf (HX X rs (listed.setIfInBounds r.d.ix true) q (setAt hb p L)) φ kh) (more S r.heap.length) (updL φ r.heap.length L):=
      ⟨fun _ _ _ _ _ h=>h,fun b _ h=>by rw[eB] at h;exact h,Nat.le_refl _,fun l h=>by
       rcases hS' l h with h|h
       ·have hl:=I.seq l h
        exact⟨.inl h,by rw[updL_ne (by omega),hφ l h]⟩
       ·exact⟨.inr h,by rw[h,updL_self,hL]⟩⟩
     have hgood:Good w' (HX X rs (listed.setIfInBounds r.d.ix true) q (setAt hb p L)) S φ kh:=by
      refine⟨fun l x hx=>?_,I.good.inS,fun l hl=>Nat.lt_of_lt_of_le (I.good.size l hl) E'.size,I.good.inj,fun b h=>?_,fun l hl h=>?_⟩
      ·rw[eB]
       have hxl:=(List.getElem?_eq_some_iff.1 hx).1
       by_cases hxd:x=.dead
       ·subst hxd;trivial
       ·have hlv:live kh l:=⟨x,hx,hxd⟩
        have hx2:(kp++[nd])[l]?=some x:=by
         rw[List.getElem?_append_left (by rw[hkl];omega),←hkp]
         unfold padD
         rw[List.getElem?_append_left hxl];exact hx
        exact OkNode.narrow hφ (hφ l (I.good.inS l hlv)) (I.good.node l x hx) (G'.node l x hx2)
      ·rcases(hXX b).1 h with h|h
       ·exact Nat.lt_of_lt_of_le (I.good.xlt b h) E'.size
       ·have:=G'.size _ lvs
        rw[hL] at this
        rw[h];exact this
      ·rcases(hXX _).1 h with h|h
       ·exact I.good.apart l hl h
       ·exact hnew ⟨l,hl,h⟩
     refine hn _ _ S φ q kh (setAt hb p L) (setAt hu p u) (I.put R ok hr hd hlt hdlt' hun hanc hgood I.seq (I.ext.trans ⟨E'.os,E'.tape,E'.output,E'.size,hkeep,fun _ h=>⟨h,rfl⟩,fun l hl=>.inl ⟨l,hl,rfl⟩⟩) ⟨fun b o v hb hs hv=>?_,fun b hs h=>?_,E'.size,fun _ h=>⟨h,rfl⟩⟩ (fun h=>absurd hHself h) (fun _ _ _ _ h=>h) (Nat.le_refl _) (fun x y h=>?_) (fun x e=>setAt_ne e) (fun x e=>setAt_ne e) (fun _=>⟨⟨⟨⟨nd,hnd,hlive,?_⟩,?_⟩,?_,?_⟩,setAt_self ..,fun x y h e=>?_⟩) I.le (fun x y hx hy ho hc=>.inr (I.before x y hx hy ho hc)) (fun x y hx hy ho hc=>⟨fun e=>by
      have:=isp x y hy e
      subst this;rw[hr] at hy;cases hy;exact hcl2 ⟨ho,hc⟩,I.after x y hx hy ho hc⟩) I.klen (fun l=>?_) (fun x y hx hy hf hne hl=>I.pend x y hx hy hf hl))
     ·rw[cell_of_heap (hkeep b hs fun h=>hb (.inr h))];exact hv
     ·rcases h with h|h
      ·rcases(hXX b).1 h with h|h
       ·exact .inl h
       ·omega
      ·exact .inr h
     ·obtain⟨f1,f2,f3,f4⟩:=far x y h
      exact⟨hkeep _ f1 f2,f4,f4⟩
     ·have h1:=G'.node _ nd ats
      rw[setAt_self]
      refine OkNode.moved toMore ?_ rfl h1
      rw[updL_self,hL]
     ·rw[setAt_self,setAt_self]
      exact hrel.later toMore
     ·rw[setAt_self]
      exact Nat.le_trans I.ext.size hfresh
     ·rw[setAt_self]
      intro h
      have:=I.good.xlt _ (.inl h)
      omega
     ·rw[setAt_self] at e
      have:=(far x y h).1
      omega
     ·rcases I.kat l with h|⟨x,y,h1,h2,h3,h4,h5⟩
      ·exact .inl h
      ·exact .inr ⟨x,y,h1,h2,h3,by omega,h4,h5⟩
  |load=>
   have hlo:=K.load p r hr hon hcl
   have hnc:¬chR r:=fun h=>by have:=h.2;rw[hcl] at this;cases this
   have hnf:¬frR r:=fun h=>by have:=h.2.1;rw[hcl] at this;cases this
   -- what is still to be made lies behind
   have behind:∀l,l<r.heap.length→l<kh.length→kh[l]?=(hAt rs st' q)[l]?:=fun l hl _=>by
    rcases I.kat l with h|⟨x,y,h1,h2,h3,h4,h5⟩
    ·exact h
    ·exfalso
     rcases Nat.lt_trichotomy x p with h|h|h
     ·have:=frees_before hon (.inr hcl) x y h h2 h3
      rw[h4] at this;cases this
     ·subst h;rw[hr] at h2;cases h2;exact hnf h3
     ·have:=heap_mono' R ok hv K (q:=p) (p:=x) (by omega) (by have:=(List.getElem?_eq_some_iff.1 h2).1;omega)
      rw[hAt_some hr,hAt_some h2] at this
      omega
   have hp:stepOp P call none r.env kh r.d.i.op=some (r.c,kh):=by
    have hsame:=load_any hv hlo hst
    have hpq:p<q:=by
     have h1:=hpq hon (.inr hcl)
     rcases hmax with e|⟨c,hc,hch⟩
     ·omega
     ·rcases Nat.lt_or_ge p q with h|h
      ·exact h
      ·have:p=q:=by omega
       subst this;rw[hr] at hc;cases hc;have h2:=hch.2;rw[hcl] at h2;cases h2
    ·have hml:=heap_mono' R ok hv K (q:=p) (p:=q) (by omega) I.le
     rw[hAt_some hr] at hml
     by_cases hex:∃(x:Nat) (y:Rec),p≤x∧x<q∧rs[x]?=some y∧chR y
     ·have between:∀(x:Nat) (y:Rec),p≤x→x<q→rs[x]?=some y→y.on=true→y.d.cls=.chain→Tm.apart r y=true:=fun x y h1 h2 hy hyo hyc=>by
       have hpx:p<x:=by
        rcases Nat.lt_or_ge p x with h|h
        ·exact h
        ·have:x=p:=by omega
         subst this;rw[hr] at hy;cases hy;rw[hcl] at hyc;cases hyc
       exact(K.apart p x r y hpx hr hy hon hyo hcl hyc).resolve_left (notanc x y hy (I.before x y h2 hy hyo hyc))
      obtain⟨x,y,h1,h2,hy,hyo,hyc⟩:=hex
      have hap:=between x y h1 h2 hy hyo hyc
      unfold Tm.apart at hap
      cases hro:readRow r.env r.d.i.op with
      |none=>rw[hro] at hap;cases hap
      |some ro=>
       refine read_row hv hlo hro (fun a ea=>?_) hst
       subst ea
       have hlr:=read_lt hro hst
       have hlr2:=hlr
       rw[←hAt_some (st':=st') hr] at hlr
       obtain⟨k,hk⟩:∃k,q=p+k:=⟨q-p,by omega⟩
       have hrow:=(heap_row R ok hv K p a hlr k (by rw[←hk];exact I.le) fun x' y' g1 g2 hy' ho' hc'=>by
        have hap':=between x' y' g1 (by omega) hy' ho' hc'
        unfold Tm.apart at hap'
        rw[hro] at hap'
        exact hap').1
       rw[←hk] at hrow
       rw[behind a hlr2 (by rw[I.klen];omega),hrow,hAt_some hr]
     ·have hup:=(heap_up' R ok hv K (q:=p) (p:=q) (by omega) I.le (fun x y h1 h2 h3 h4=>hex ⟨x,y,h1,h2,h3,h4⟩)).1
      rw[hAt_some hr] at hup
      refine load_grow hv hlo hst fun l x hx=>?_
      have hl:=(List.getElem?_eq_some_iff.1 hx).1
      rw[behind l hl (by rw[I.klen];omega)]
      exact hup l x hx
   rw[stepOp_agree hag] at hp
   by_cases hcv:isCallV r.d.i.op=true
   ·obtain⟨z,hz⟩:∃z,r.d.i.op=.call z:=by
     cases hx:r.d.i.op<;>rw[hx] at hcv<;>simp[isCallV] at hcv
     exact⟨_,rfl⟩
    rw[hz] at hp hcv hlo
    have hva:∀f cs,calleeOf (keepE r.env (uses r.d.i)) z.callee=some (f,cs)→vals f=true:=fun f cs hf=>by
     have he:calleeOf r.env z.callee=calleeOf (keepE r.env (uses r.d.i)) z.callee:=by
      cases hx:z.callee with
      |value y=>
       simp only[calleeOf]
       rw[ev_agree hag (by rw[hz];simp[Op.operands,Call.operands,hx])]
      |_=>rfl
     simp only[loadOk,he,hf] at hlo
     exact hlo
    refine val_sound hcall hvs I.good I.seq hE (by rw[←hop];exact hz) hcv hva hp fun u w' G' E' hrel=>?_
    rw[←hdst]
    exact stay hnc hnf G' I.seq (fun _ h=>h) E' hrel
   ·refine op_sound hcall I.good I.seq hE I.seq.alloc hop.symm hp fun u w' S' φ' G' E' hrel hnm=>?_
    rw[←hdst]
    have hS:=names_same hcv hnm
    subst hS
    exact stay hnc hnf G' I.seq (fun _ h=>h) E' hrel
  |chain=>
   have hnf:¬frR r:=fun h=>by have:=h.2.1;rw[hcl] at this;cases this
   have hqp:q≤p:=by
    rcases Nat.lt_or_ge p q with h|h
    ·have:=I.before p r h hr hon hcl
     rw[hun] at this;cases this
    ·exact h
   have hpe:p=q:=Nat.le_antisymm (hpq hon (.inl hcl)) hqp
   have heq:hAt rs st' q=r.heap:=by rw[←hpe,hAt_some hr]
   have hk:kh=r.heap:=by
    refine List.ext_getElem? fun l=>?_
    rw[←heq]
    rcases I.kat l with h|⟨x,y,h1,h2,h3,h4,h5⟩
    ·exact h
    ·exfalso
     have:=frees_before hon (.inl hcl) x y (by omega) h2 h3
     rw[h4] at this;cases this
   have hnext:=(run_step R hr).1
   have hp:stepOp P call none (keepE r.env (uses r.d.i)) kh r.d.i.op=some (r.c,hAt rs st' (p+1)):=by
    rw[←stepOp_agree hag,hk,hnext]
    exact hst
   refine op_sound hcall I.good I.seq hE I.seq.alloc hop.symm hp fun u w' S' φ' G' E' hrel hnm=>?_
   rw[←hdst]
   have hs:∀x y,Held rs (listed.setIfInBounds r.d.ix true) (p+1) x y↔Held rs listed q x y:=fun x y=>by
    rw[←heldS (.inl hnf) x y]
    refine⟨fun h=>⟨by have:=h.1;omega,h.2⟩,fun h=>⟨?_,h.2⟩⟩
    have h1:=h.1
    by_cases e:x=p
    ·subst e
     have h2:=h.2.1
     rw[hr] at h2;cases h2
     exact absurd h.2.2.1 hnf
    ·omega
   have eX:=HX_same (X:=X) (hb:=hb) hs
   have sq':=I.seq.next hnm
   refine hn _ _ S' φ' (p+1) (hAt rs st' (p+1)) hb hu (I.put R ok hr hd hlt hdlt' hun hanc (by rw[eX];exact G') sq' (I.ext.trans E') (by rw[eX];exact E'.later) (fun _=>by rw[eX];exact hrel) (fun x y hy hf h=>?_) (by omega) (fun x y h=>?_) (fun _ _=>rfl) (fun _ _=>rfl) (fun h=>absurd h.2.2.1 hnf) (by omega) (fun x y hx hy ho hc=>?_) (fun x y hx hy ho hc=>?_) rfl (fun l=>.inl rfl) (fun x y hx hy hf hne hl=>?_))
   ·by_cases e:x=p
    ·subst e
     rw[hr] at hy;cases hy
     exact absurd hf hnf
    ·omega
   ·obtain⟨f1,f2,f3,f4⟩:=far x y h
    refine⟨E'.keep _ f1 f2,f4,fun hS=>?_⟩
    have h1:=sq' _ hS
    have h2:=(hs x y).2 h
    have hxl:=(List.getElem?_eq_some_iff.1 h.2.1).1
    have:=heap_mono' R ok hv K (q:=p+1) (p:=x) h2.1 (Nat.le_of_lt hxl)
    rw[hAt_some h.2.1] at this
    omega
   ·by_cases e:x=p
    ·subst e;rw[hr] at hy;cases hy;exact .inl rfl
    ·exact .inr (I.before x y (by omega) hy ho hc)
   ·refine⟨fun e=>?_,?_⟩
    ·have:=isp x y hy e
     omega
    ·exact I.after x y (by omega) hy ho hc
   ·exfalso
    have:=frees_before hon (.inl hcl) x y (by omega) hy hf
    rw[hl] at this;cases this
theorem draw_all (hcall:CallOk P call)(hv:ValsOk vals call)(hvs:ValSound P vals call)(R:RunD P call ds st st' rs)(ok:DrawOk N ops ds)(K:ChkOk vals rs){X:Nat→Prop}{w0:World}{S0:Nat→Prop}{φ0:Nat→Loc}{Q:Exit→Act→World→Prop}
  (hq:∀S' φ' a' w',At N X st' S' φ' a' w'→Ext w0 S0 φ0 st.heap w' S' φ' st'.heap→Q .normal a' w'):∀(fuel:Nat) {w:World} {S:Nat→Prop} {φ:Nat→Loc} {listed:Array Bool} {a:Act} {q:Nat} {kh:Heap} {hb:Nat→Loc} {hu:Nat→Value},
  Inv ops ds rs st st' N X w0 S0 φ0 listed a w S φ q kh hb hu→(listed.toList.count false≤fuel)→wpAny P .any ops Q fuel listed a w:=by
 -- behind all
 have fin:∀{w:World} {S:Nat→Prop} {φ:Nat→Loc} {listed:Array Bool} {a:Act} {q:Nat} {kh:Heap} {hb:Nat→Loc} {hu:Nat→Value},Inv ops ds rs st st' N X w0 S0 φ0 listed a w S φ q kh hb hu→Region.ready .any ops listed=[]→Q .normal a w:=by
  intro w S φ listed a q kh hb hu I h0
  obtain⟨S,φ,q,kh,I,hmax⟩:=Inv.adv R ok hv K _ (Nat.le_refl _) I
  have all:∀(p:Nat) (d:D),ds[p]?=some d→listed.getD d.ix false=true:=by
   intro p
   induction p using Nat.strongRecOn with
   |_ p ih=>
    intro d hd
    obtain⟨o,ho,_,_,hpre⟩:=ok.op p d hd
    have hlt:d.ix<ops.size:=(Array.getElem?_eq_some_iff.1 ho).1
    cases hl:listed.getD d.ix false with
    |true=>rfl
    |false=>
     exfalso
     have hm:d.ix∈Region.ready .any ops listed:=by
      refine mem_ready.2 ⟨by rw[getD_eq (by rw[I.size];exact hlt) true false];exact hl,o,ho,fun e he hb=>?_⟩
      obtain⟨q',d',hq',hd',hix⟩:=hpre e he hb
      rw[←hix]
      exact ih q' hq' d' hd'
     rw[h0] at hm
     cases hm
  have hlast:hAt rs st' rs.length=st'.heap:=by simp[hAt]
  have hel:eAt rs st' rs.length=st'.env:=by simp[eAt]
  have hqe:q=rs.length:=by
   rcases hmax with e|⟨c,hc,hch⟩
   ·exact e
   ·have h2:=I.after q c (Nat.le_refl _) hc hch.1 hch.2
    rw[all q c.d (run_rec R hc).1] at h2
    cases h2
  have nh:∀x y,¬Held rs listed q x y:=fun x y h=>by
   have h1:=h.1
   have:=(List.getElem?_eq_some_iff.1 h.2.1).1
   omega
  have eX:HX X rs listed q hb=X:=by
   funext b
   exact propext ⟨fun h=>h.elim (fun h=>h) fun⟨x,y,h1,_⟩=>absurd h1 (nh x y),.inl⟩
  have heq:st'.heap=kh:=by
   rw[←hlast,←hqe]
   refine List.ext_getElem? fun l=>?_
   rcases I.kat l with h|⟨x,y,_,h2,_,h4,_⟩
   ·exact h.symm
   ·rw[all x y.d (run_rec R h2).1] at h4;cases h4
  have hgd:=I.good
  rw[eX] at hgd
  refine hq S φ a w ⟨by rw[heq];exact hgd,by rw[heq];exact I.seq,fun t c hc=>?_,I.tmps,I.defers⟩ (by rw[heq];exact I.ext)
  rw[heq]
  rw[←hel] at hc
  rcases env_last R t c rs.length (Nat.le_refl _) hc with ⟨x,y,hx,hy,hdy,rfl,hno⟩|⟨hno,hb⟩
  ·have:=I.writ t x y hy (all x y.d (run_rec R hy).1) hdy (fun z v hz hv _=>hno z v hz ((List.getElem?_eq_some_iff.1 hv).1) hv) (nh x y)
   rw[eX] at this;exact this
  ·have:=I.base t c (fun z v hv _=>hno z v ((List.getElem?_eq_some_iff.1 hv).1) hv) hb
   rw[eX] at this;exact this
 intro fuel
 induction fuel with
 |zero=>
  intro w S φ listed a q kh hb hu I hf
  have hr:Region.ready .any ops listed=[]:=by
   cases hrd:Region.ready .any ops listed with
   |nil=>rfl
   |cons i l=>
    exfalso
    have hm:i∈Region.ready .any ops listed:=by rw[hrd];simp
    obtain⟨hun,o,ho,_⟩:=mem_ready.1 hm
    have hlt:i<listed.size:=by rw[I.size];exact(Array.getElem?_eq_some_iff.1 ho).1
    have:false∈listed.toList:=by
     have h2:listed[i]=false:=by simpa[hlt] using hun
     rw[←h2]
     exact Array.mem_toList_iff.2 (Array.getElem_mem hlt)
    have:=List.count_pos_iff.2 this
    omega
  exact⟨hr,fin I hr⟩
 |succ fuel ih=>
  intro w S φ listed a q kh hb hu I hf
  refine⟨fin I,fun i hi=>draw_step hcall hv hvs R ok K I hi fun a' w' S' φ' q' kh' hb' hu' I'=>ih I' ?_⟩
  obtain⟨hun,o,ho,_⟩:=mem_ready.1 hi
  have hlt:i<listed.size:=by rw[I.size];exact(Array.getElem?_eq_some_iff.1 ho).1
  have h2:listed[i]=false:=by simpa[hlt] using hun
  have hcnt:(listed.setIfInBounds i true).toList.count false+1=listed.toList.count false:=by
   simp only[Array.toList_setIfInBounds]
   have hlt':i<listed.toList.length:=by simpa using hlt
   have h3:listed.toList[i]=false:=by simpa using h2
   have hmem:false∈listed.toList:=by rw[←h3];exact List.getElem_mem hlt'
   have hpos:=List.count_pos_iff.2 hmem
   rw[List.count_set hlt',h3]
   have e:(true==false)=false:=rfl
   rw[e]
   simp only[beq_self_eq_true,if_true,Bool.false_eq_true,if_false,Nat.add_zero]
   exact Nat.sub_add_cancel hpos
  omega
theorem ext_drew {w:World}{S:Nat→Prop}{φ:Nat→Loc}{h:Heap}:Ext w S φ h { w with drawn:=w.drawn+1 } S φ h:=
 ⟨rfl,rfl,rfl,Nat.le_refl _,fun _ _ _=>rfl,fun _ h=>⟨h,rfl⟩,fun l hl=>.inl ⟨l,hl,rfl⟩⟩
theorem Good.same {w w':World}{X S:Nat→Prop}{φ:Nat→Loc}{h:Heap}(G:Good w X S φ h)(E:Ext w S φ h w' S φ h)(hk:∀b,b<w.heap.size→w'.heap[b]?=w.heap[b]?):Good w' X S φ h:=by
 have L:=E.later (X:=X)
 refine⟨fun l x hx=>?_,G.inS,fun l hl=>Nat.lt_of_lt_of_le (G.size l hl) E.size,G.inj,fun b hb=>Nat.lt_of_lt_of_le (G.xlt b hb) E.size,G.apart⟩
 have hok:=G.node l x hx
 cases x with
 |dead=>trivial
 |row ez cs=>
  simp only[OkNode] at hok⊢
  obtain⟨h1,h2,h3,h4,h5⟩:=hok
  have hs:=G.size l (live_of_row hx)
  refine⟨h1,h2,h3,fun j hj=>?_,RelAt.moved L h5 fun j u _ hu=>?_⟩
  ·rw[cell_of_heap (hk _ hs),World.frozen?_of_block (a:=⟨(φ l).block,(φ l).base+j,none⟩) (hk _ hs)]
   exact h4 j hj
  ·rw[cell_of_heap (hk _ hs)];exact hu
 |map es clock=>
  simp only[OkNode] at hok⊢
  rw[hk _ (G.size l ⟨_,hx,by simp⟩)]
  exact hok
theorem draw_sound (hcall:CallOk P call)(hv:ValsOk vals call)(hvs:ValSound P vals call)(hmix:P.follows .mixedOrders=true)(ok:DrawOk N ops ds)(hr:recsD P call ds st=some (rs,st'))(hc:chk vals rs [] []=true){id:Nat}{X S:Nat→Prop}{φ:Nat→Loc}{a:Act}{w:World}
  (A:At N X st S φ a w){Q:Exit→Act→World→Prop}(hq:∀S' φ' a' w',At N X st' S' φ' a' w'→Ext w S φ st.heap w' S' φ' st'.heap→Q .normal a' w'):(Code.region id ops true).wp P Q a w:=by
 have R:=recsD_run hr
 have K:=(chk_some hc).1
 have E0:Ext w S φ st.heap { w with drawn:=w.drawn+1 } S φ st.heap:=ext_drew
 have nh:∀x y,¬Held rs (Array.replicate ops.size false) 0 x y:=fun x y h=>by
  have h4:=h.2.2.2
  revert h4;simp only[Array.getD_eq_getD_getElem?,Array.getElem?_replicate];split<;>simp
 have eX:HX X rs (Array.replicate ops.size false) 0 (fun _=>default)=X:=by
  funext b
  exact propext ⟨fun h=>h.elim (fun h=>h) fun⟨x,y,h1,_⟩=>absurd h1 (nh x y),.inl⟩
 refine wp_region_any hmix (draw_all hcall hv hvs R ok K hq ops.size (q:=0) (kh:=st.heap) (w:={ w with drawn:=w.drawn+1 }) (S:=S) (φ:=φ) (hb:=fun _=>default) (hu:=fun _=>default) ⟨by simp,by rw[eX];exact A.good.same E0 (fun _ _=>rfl),A.seq,A.size,A.defers,
  E0,fun p d _ h=>?_,Nat.zero_le _,fun p r h=>by omega,fun p r _ hr _ _=>?_,fun t p r hr h=>?_,fun t c _ hb=>?_,by rw[(run_zero R).1],fun l=>.inl (by rw[(run_zero R).1]),fun x y hx=>by omega,fun x y h=>absurd h (nh x y),fun x y t h=>absurd h (nh x y),fun x x' y y' h=>absurd h (nh x y)⟩ ?_)
 ·exfalso;revert h;simp only[Array.getD_eq_getD_getElem?,Array.getElem?_replicate];split<;>simp
 ·simp only[Array.getD_eq_getD_getElem?,Array.getElem?_replicate];split<;>simp
 ·exfalso;revert h;simp only[Array.getD_eq_getD_getElem?,Array.getElem?_replicate];split<;>simp
 ·rw[eX];exact(A.env.later E0.later) t c hb
 ·simp
end
end Go.Tm
