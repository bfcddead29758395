/- The law returns true at every input. No condition. A part of its proof. -/
import Derived.Scope
import Derived.Test.YtkcimaibaicdcaaP3
set_option linter.unusedSimpArgs false
set_option linter.unusedVariables false
set_option maxHeartbeats 16000000
set_option maxRecDepth 100000
namespace Go.Tm
inductive Ann where
 |keep (l:List Nat)
 |draw (keep:List Nat) (ds:List (Nat×List Nat×Cls))
def annOf:K→List Ann
 | .reg _ k=>[.keep k]
 | .draw ds k=>[.draw k (ds.map fun d=>(d.ix,d.anc,d.cls))]
 | .seq a b=>annOf a++annOf b
 | .cond _ a b=>annOf a++annOf b
 | .block _ a=>annOf a
 | .loop k a=>.keep k::annOf a
 |_=>[]
def toIs (N:Nat)(ops:Array Oper):List Oper→Option (List I)
 |[]=>some []
 |o::r=>do
  let i ←toI N ops o
  let is ←toIs N ops r
  some (i::is)
def toDs (N:Nat)(ops:Array Oper):List (Nat×List Nat×Cls)→Option (List D)
 |[]=>some []
 |(ix,anc,cls)::r=>do
  let o ←ops[ix]?
  let i ←toI N ops o
  let ds ←toDs N ops r
  some (⟨ix,i,anc,cls⟩::ds)
def clash (d e:D):Bool:=
 (match d.i.dst with|some t=>(uses e.i).contains t||e.i.dst==some t|none=>false)||
 (match e.i.dst with|some t=>(uses d.i).contains t|none=>false)
def frB (d e:D):Bool:=
 match d.cls,e.cls with
 | .pure,.load=>isNew d.i.op
 | .pure,.chain=>isNew d.i.op
 |_,_=>false
def chB (all:List D)(g:D):Bool:=
 (List.range all.length).all fun q=>match all[q]? with
  |some e=>match e.cls with
   | .pure=>!(isNew e.i.op&&g.anc.contains e.ix)||(all.take q).all fun s=>match s.cls with
    | .chain=>g.anc.contains s.ix
    |_=>true
   |_=>true
  |none=>true
def clsB (d:D):Bool:=
 match d.cls with
 | .pure=>pureOk d.i.op||isNew d.i.op
 | .load=>true
 | .chain=>chainOk d.i.op
def okAt (ops:Array Oper)(all:List D)(p:Nat):Bool:=
 match all[p]? with
 |none=>true
 |some d=>
  let seen:=all.take p
  seen.all (fun s=>s.ix != d.ix)&&
  (match ops[d.ix]? with
   |some o=>d.anc.all (fun a=>o.after.toList.any fun e=>Region.binds .any e&&(a==e.on||all.any fun s=>s.ix==e.on&&s.anc.contains a))&&
    o.after.toList.all (fun e=>!Region.binds .any e||seen.any (fun s=>s.ix==e.on))
   |none=>false)&&
  d.anc.all (fun a=>seen.any fun s=>s.ix==a)&&
  seen.all (fun s=>!(clash s d||frB s d)||d.anc.contains s.ix)&&
  (chB all d&&clsB d)
def okD (ops:Array Oper)(all:List D):Bool:=
 (List.range ops.size).all (fun i=>all.any fun d=>d.ix==i)&&(List.range all.length).all (okAt ops all)
theorem any_get {α:Type}{l:List α}{f:α→Bool}(h:l.any f=true):∃(q:Nat) (x:α),l[q]?=some x∧f x=true:=by
 obtain⟨x,hx,hf⟩:=List.any_eq_true.1 h
 obtain⟨q,hq⟩:=List.mem_iff_getElem?.1 hx
 exact⟨q,x,hq,hf⟩
theorem toDs_get {N:Nat}{ops:Array Oper}:∀{l:List (Nat×List Nat×Cls)} {ds:List D},toDs N ops l=some ds→∀(p:Nat) (d:D),ds[p]?=some d→∃o,ops[d.ix]?=some o∧toI N ops o=some d.i
 |[],ds,h,p,d,hd=>by simp only[toDs,Option.some.injEq] at h;subst h;simp at hd
 |(ix,anc,cls)::l,ds,h,p,d,hd=>by
  simp only[toDs,Option.bind_eq_bind,Option.bind_eq_some_iff,Option.some.injEq] at h
  obtain⟨o,ho,i,hi,es,he,rfl⟩:=h
  cases p with
  |zero=>simp at hd;subst hd;exact⟨o,ho,hi⟩
  |succ p=>exact toDs_get he p d (by simpa using hd)
theorem drawOk_of {N:Nat}{ops:Array Oper}{l:List (Nat×List Nat×Cls)}{ds:List D}(h:toDs N ops l=some ds)(hok:okD ops ds=true):DrawOk N ops ds:=by
 unfold okD at hok
 rw[Bool.and_eq_true] at hok
 obtain⟨hcov,hat⟩:=hok
 have at_:∀(p:Nat) (d:D),ds[p]?=some d→okAt ops ds p=true:=fun p d hd=>List.all_eq_true.1 hat p (List.mem_range.2 (List.getElem?_eq_some_iff.1 hd).1)
 have tk:∀(p q:Nat) (d:D),(ds.take p)[q]?=some d→q<p∧ds[q]?=some d:=fun p q d hq=>by
  rw[List.getElem?_take] at hq
  split at hq
  ·exact⟨by assumption,hq⟩
  ·cases hq
 have tk':∀(p q:Nat) (d:D),q<p→ds[q]?=some d→d∈ds.take p:=fun p q d hq hd=>List.mem_iff_getElem?.2 ⟨q,by rw[List.getElem?_take,if_pos hq];exact hd⟩
 refine⟨fun i hi=>?_,fun p q d e hp hq hix=>?_,fun p d hd=>?_,fun p d hd a ha=>?_,fun p q d e t hpq hp hq hc=>?_,fun p d hd=>?_,fun p q d e hpq hp hq h3 h4 h5=>?_,fun p q x d e g hpq hp hq hg hc1 hc2 hc3 ha=>?_⟩
 ·obtain⟨q,x,hq,hx⟩:=any_get (List.all_eq_true.1 hcov i (List.mem_range.2 hi))
  exact⟨q,x,hq,by simpa using hx⟩
 ·rcases Nat.lt_trichotomy p q with h|h|h
  ·exfalso
   have:=at_ q e hq
   simp only[okAt,hq,Bool.and_eq_true] at this
   have:=List.all_eq_true.1 this.1.1.1.1 d (tk' q p d h hp)
   simp[hix] at this
  ·exact h
  ·exfalso
   have:=at_ p d hp
   simp only[okAt,hp,Bool.and_eq_true] at this
   have:=List.all_eq_true.1 this.1.1.1.1 e (tk' p q e h hq)
   simp[hix] at this
 ·obtain⟨o,ho,hi⟩:=toDs_get h p d hd
  have:=at_ p d hd
  simp only[okAt,hd,ho,Bool.and_eq_true] at this
  obtain⟨⟨⟨⟨_,hanc,hpre⟩,_⟩,_⟩,_⟩:=this
  refine⟨o,ho,hi,fun a ha=>?_,fun e he hb=>?_⟩
  ·obtain⟨e,he,hb⟩:=List.any_eq_true.1 (List.all_eq_true.1 hanc a ha)
   simp only[Bool.and_eq_true,Bool.or_eq_true,beq_iff_eq] at hb
   refine⟨e,Array.mem_toList_iff.1 he,hb.1,?_⟩
   rcases hb.2 with h1|h1
   ·exact .inl h1
   ·obtain⟨q,x,hq,hx⟩:=any_get h1
    simp only[Bool.and_eq_true,beq_iff_eq,List.contains_iff_mem] at hx
    exact .inr ⟨q,x,hq,hx.1,hx.2⟩
  ·have h2:=List.all_eq_true.1 hpre e (Array.mem_toList_iff.2 he)
   simp only[hb,Bool.not_true,Bool.false_or] at h2
   obtain⟨q,x,hq,hx⟩:=any_get h2
   obtain⟨h3,h4⟩:=tk p q x hq
   exact⟨q,x,h3,h4,by simpa using hx⟩
 ·have:=at_ p d hd
  simp only[okAt,hd,Bool.and_eq_true] at this
  obtain⟨q,x,hq,hx⟩:=any_get (List.all_eq_true.1 this.1.1.2 a ha)
  obtain⟨h3,h4⟩:=tk p q x hq
  exact⟨q,x,h3,h4,by simpa using hx⟩
 ·have:=at_ q e hq
  simp only[okAt,hq,Bool.and_eq_true] at this
  have h2:=List.all_eq_true.1 this.1.2 d (tk' q p d hpq hp)
  simp only[Bool.or_eq_true,Bool.not_eq_true',List.contains_iff_mem,Bool.or_eq_false_iff] at h2
  rcases h2 with ⟨h2,_⟩|h2
  ·exfalso
   have:clash d e=true:=by
    unfold clash
    rcases hc with ⟨h3,h4⟩|⟨h3,h4⟩
    ·rw[h3]
     rcases h4 with h4|h4
     ·simp[h4]
     ·simp[h4]
    ·rw[h3];simp[h4]
   rw[this] at h2;cases h2
  ·exact h2
 ·have:=at_ p d hd
  simp only[okAt,hd,Bool.and_eq_true] at this
  have hc:=this.2.2
  unfold clsB at hc
  exact⟨fun e=>by rw[e] at hc;simpa using hc,fun e=>by rw[e] at hc;exact hc⟩
 ·have:=at_ q e hq
  simp only[okAt,hq,Bool.and_eq_true] at this
  have h2:=List.all_eq_true.1 this.1.2 d (tk' q p d hpq hp)
  simp only[Bool.or_eq_true,Bool.not_eq_true',List.contains_iff_mem] at h2
  have key:frB d e=true→d.ix∈e.anc:=fun hf=>by
   rcases h2 with h2|h2
   ·rw[hf,Bool.or_true] at h2;cases h2
   ·exact h2
  refine key ?_
  unfold frB
  rcases h5 with h5|h5<;>rw[h3,h5]<;>exact h4
 ·have:=at_ x g hg
  simp only[okAt,hg,Bool.and_eq_true] at this
  have h2:=this.2.1
  unfold chB at h2
  have h3:=List.all_eq_true.1 h2 q (List.mem_range.2 (List.getElem?_eq_some_iff.1 hq).1)
  simp only[hq,hc2,hc3,Bool.true_and,Bool.or_eq_true,Bool.not_eq_true'] at h3
  rcases h3 with h3|h3
  ·rw[List.contains_iff_mem.2 ha] at h3;cases h3
  ·have h4:=List.all_eq_true.1 h3 d (tk' q p d hpq hp)
   simp only[hc1] at h4
   exact List.contains_iff_mem.1 h4
def ofCode (N:Nat):Code→List Ann→Option (K×List Ann)
 | .skip,ks=>some (.skip,ks)
 | .region _ ops false,.keep k::ks=>(toIs N ops ops.toList).map fun is=>(.reg is k,ks)
 | .region _ ops true,.draw k l::ks=>(toDs N ops l).bind fun ds=>if okD ops ds=true then some (.draw ds k,ks) else none
 | .seq a b,ks=>(ofCode N a ks).bind fun x=>(ofCode N b x.2).map fun y=>(.seq x.1 y.1,y.2)
 | .cond c a b,ks=>(ofCode N a ks).bind fun x=>(ofCode N b x.2).map fun y=>(.cond c x.1 y.1,y.2)
 | .block id a,ks=>(ofCode N a ks).map fun x=>(.block id x.1,x.2)
 | .loop a,.keep k::ks=>(ofCode N a ks).map fun x=>(.loop k x.1,x.2)
 | .exit id,ks=>some (.exit id,ks)
 | .ret,ks=>some (.ret,ks)
 | .scope a,ks=>ofCode N a ks
 | .label _,ks=>some (.skip,ks)
 |_,_=>none
section
variable {P:Program} {N:Nat} {X:Nat→Prop}
theorem runI_sound {call:CallF}(hcall:CallOk P call){ops:Array Oper}{Q:Exit→Act→World→Prop}:∀{l:List Oper} {is:List I},toIs N ops l=some is→∀{st st':St},runI P call is st=some st'→
  ∀{S:Nat→Prop} {φ:Nat→Loc} {a:Act} {w:World},At N X st S φ a w→(∀S' φ' a' w',At N X st' S' φ' a' w'→Ext w S φ st.heap w' S' φ' st'.heap→Q .normal a' w')→wpList P ops Q l a w
 |[],is,hi,st,st',hr,S,φ,a,w,A,hq=>by
  simp only[toIs,Option.some.injEq] at hi
  subst hi
  simp only[runI,Option.some.injEq] at hr
  subst hr
  exact hq S φ a w A (Ext.refl _ _ _ _)
 |o::l,is,hi,st,st',hr,S,φ,a,w,A,hq=>by
  simp only[toIs,Option.bind_eq_bind,Option.bind_eq_some_iff,Option.some.injEq] at hi
  obtain⟨i,hi,js,hj,rfl⟩:=hi
  simp only[runI,Option.bind_eq_bind,Option.bind_eq_some_iff] at hr
  obtain⟨st1,hs,hr⟩:=hr
  refine wpList_step fun K hK=>?_
  exact stepI_sound hcall hi hs A fun S1 φ1 a1 w1 A1 E1=>hK _ _ (runI_sound hcall hj hr A1 fun S2 φ2 a2 w2 A2 E2=>hq S2 φ2 a2 w2 A2 (E1.trans E2))
def Ctl.toExit:Ctl→Exit
 | .normal=>.normal
 | .exit id=>.exit id
 | .ret=>.ret
def PostC (N:Nat)(X:Nat→Prop)(ctl:Ctl)(st':St)(w:World)(S:Nat→Prop)(φ:Nat→Loc)(h:Heap):Exit→Act→World→Prop:=
 fun e a' w'=>e=ctl.toExit∧∃S' φ',At N X st' S' φ' a' w'∧Ext w S φ h w' S' φ' st'.heap
theorem At.keep {st:St}{S:Nat→Prop}{φ:Nat→Loc}{a:Act}{w:World}(A:At N X st S φ a w)(ks:List Nat):At N X ⟨keepE st.env ks,st.heap⟩ S φ a w:=
 ⟨A.good,A.seq,A.env.keep ks,A.size,A.defers⟩
def Sound (P:Program)(N:Nat)(c:Code)(f:St→Option (Ctl×St)):Prop:=
 ∀st ctl st',f st=some (ctl,st')→∀X S φ a w,At N X st S φ a w→c.wp P (PostC N X ctl st' w S φ st.heap) a w
theorem sound_seq {x y:Code}{f g:St→Option (Ctl×St)}(hx:Sound P N x f)(hy:Sound P N y g):Sound P N (.seq x y) fun st=>andThen (f st) g:=by
 intro st ctl st' h X S φ a w A
 replace h:andThen (f st) g=some (ctl,st'):=h
 unfold andThen at h
 refine wp_seq ?_
 split at h
 ·rename_i st1 hf
  refine Code.wp_mono (fun e a1 w1 hq=>?_) (hx st _ _ hf X S φ a w A)
  obtain⟨rfl,S1,φ1,A1,E1⟩:=hq
  exact Code.wp_mono (fun e a2 w2 hq=>by
   obtain⟨rfl,S2,φ2,A2,E2⟩:=hq
   exact⟨rfl,S2,φ2,A2,E1.trans E2⟩) (hy st1 _ _ h X S1 φ1 a1 w1 A1)
 ·rename_i hne
  refine Code.wp_mono (fun e a1 w1 hq=>?_) (hx st _ _ h X S φ a w A)
  have hq':=hq
  obtain⟨rfl,_⟩:=hq
  cases ctl with
  |normal=>exact absurd h (hne _)
  |exit id=>exact hq'
  |ret=>exact hq'
theorem sound_block {id:Nat}{x:Code}{f:St→Option (Ctl×St)}(hx:Sound P N x f):Sound P N (.block id x) fun st=>leaves id (f st):=by
 intro st ctl st' h X S φ a w A
 replace h:leaves id (f st)=some (ctl,st'):=h
 unfold leaves at h
 refine wp_block ?_
 split at h
 ·rename_i j st1 hf
  refine Code.wp_mono (fun e a1 w1 hq=>?_) (hx st _ _ hf X S φ a w A)
  obtain⟨rfl,S1,φ1,A1,E1⟩:=hq
  simp only[Ctl.toExit,Exit.inBlock]
  split at h
  ·rename_i e
   cases h
   rw[if_pos e]
   exact⟨rfl,S1,φ1,A1,E1⟩
  ·rename_i e
   cases h
   rw[if_neg e]
   exact⟨rfl,S1,φ1,A1,E1⟩
 ·rename_i hne
  refine Code.wp_mono (fun e a1 w1 hq=>?_) (hx st _ _ h X S φ a w A)
  have hq':=hq
  obtain⟨rfl,_⟩:=hq
  cases ctl with
  |normal=>exact hq'
  |exit id=>exact absurd h (hne _ _)
  |ret=>exact hq'
theorem rounds_sound {x:Code}{f:St→Option (Ctl×St)}(hx:Sound P N x f)(ks:List Nat){ctl:Ctl}{st':St}{w:World}{S:Nat→Prop}{φ:Nat→Loc}{h:Heap}:∀(n:Nat) (st:St),iter (fun s=>f ⟨keepE s.env ks,s.heap⟩) n st=some (ctl,st')→
  ∀S1 φ1 a1 w1,At N X st S1 φ1 a1 w1→Ext w S φ h w1 S1 φ1 st.heap→Code.rounds P x (PostC N X ctl st' w S φ h) n a1 w1
 |0,st,hi,_,_,_,_,_,_=>by cases hi
 |n+1,st,hi,S1,φ1,a1,w1,A1,E1=>by
  simp only[iter] at hi
  rw[rounds_succ]
  unfold andThen at hi
  split at hi
  ·rename_i st1 hf
   refine Code.wp_mono (fun e a2 w2 hq=>?_) (hx _ _ _ hf X S1 φ1 a1 w1 (A1.keep ks))
   obtain⟨rfl,S2,φ2,A2,E2⟩:=hq
   exact rounds_sound hx ks n st1 hi S2 φ2 a2 w2 A2 (E1.trans E2)
  ·rename_i hne
   refine Code.wp_mono (fun e a2 w2 hq=>?_) (hx _ _ _ hi X S1 φ1 a1 w1 (A1.keep ks))
   obtain⟨rfl,S2,φ2,A2,E2⟩:=hq
   cases ctl with
   |normal=>exact absurd hi (hne _)
   |exit id=>exact⟨rfl,S2,φ2,A2,E1.trans E2⟩
   |ret=>exact⟨rfl,S2,φ2,A2,E1.trans E2⟩
theorem sound_loop {x:Code}{f:St→Option (Ctl×St)}(hx:Sound P N x f)(ks:List Nat)(n:Nat):Sound P N (.loop x) fun st=>iter (fun s=>f ⟨keepE s.env ks,s.heap⟩) n st:=
 fun st ctl st' h X S φ a w A=>wp_loop_rounds n (rounds_sound hx ks n st h S φ a w A (Ext.refl _ _ _ _))
theorem sound_cond {c:Operand}{x y:Code}{f g:St→Option (Ctl×St)}(hx:Sound P N x f)(hy:Sound P N y g):Sound P N (.cond c x y) fun st=>((ev st.env c).bind boolOf).bind fun t=>if t=true then f st else g st:=by
 intro st ctl st' h X S φ a w A
 simp only[Option.bind_eq_some_iff] at h
 obtain⟨t,⟨d,hd,ht⟩,h⟩:=h
 have e:=boolOf_rel (ev_rel A.env hd) ht
 refine wp_cond (t:=t) e ?_
 cases t with
 |true=>exact hx st _ _ h X S φ a w A
 |false=>exact hy st _ _ h X S φ a w A
theorem exec_sound {call:CallF}{vals:FuncId→Bool}(hcall:CallOk P call)(hv:ValsOk vals call)(hvs:ValSound P vals call)(hmix:P.follows .mixedOrders=true)(n:Nat):∀(c:Code) (ks ks':List Ann) (k:K),ofCode N c ks=some (k,ks')→Sound P N c (exec P vals call n k)
 | .skip,ks,ks',k,h=>by
  simp only[ofCode,Option.some.injEq,Prod.mk.injEq] at h
  obtain⟨rfl,rfl⟩:=h
  intro st ctl st' h X S φ a w A
  simp only[exec,Option.some.injEq,Prod.mk.injEq] at h
  obtain⟨rfl,rfl⟩:=h
  exact wp_skip ⟨rfl,S,φ,A,Ext.refl _ _ _ _⟩
 | .region id ops draw,ks,ks',k,h=>by
  cases draw with
  |false=>
   cases ks with
   |nil=>simp[ofCode] at h
   |cons an ks=>
    cases an with
    |draw kp l=>simp[ofCode] at h
    |keep kp=>
     simp only[ofCode,Option.map_eq_some_iff,Prod.mk.injEq] at h
     obtain⟨is,his,rfl,rfl⟩:=h
     intro st ctl st' h X S φ a w A
     simp only[exec,Option.map_eq_some_iff,Prod.mk.injEq] at h
     obtain⟨st1,hr,rfl,rfl⟩:=h
     exact wp_region_list (runI_sound hcall his hr A fun S' φ' a' w' A' E'=>⟨rfl,S',φ',A'.keep kp,E'⟩)
  |true=>
   cases ks with
   |nil=>simp[ofCode] at h
   |cons an ks=>
    cases an with
    |keep kp=>simp[ofCode] at h
    |draw kp l=>
     simp only[ofCode,Option.bind_eq_some_iff] at h
     obtain⟨ds,hds,h⟩:=h
     split at h
     ·rename_i hok
      simp only[Option.some.injEq,Prod.mk.injEq] at h
      obtain⟨rfl,rfl⟩:=h
      intro st ctl st' h X S φ a w A
      simp only[exec,Option.bind_eq_some_iff] at h
      obtain⟨⟨rs,st1⟩,hr,h⟩:=h
      split at h
      ·rename_i hc
       simp only[Option.some.injEq,Prod.mk.injEq] at h
       obtain⟨rfl,rfl⟩:=h
       exact draw_sound hcall hv hvs hmix (drawOk_of hds hok) hr hc A fun S' φ' a' w' A' E'=>⟨rfl,S',φ',A'.keep kp,E'⟩
      ·cases h
     ·cases h
 | .seq x y,ks,ks',k,h=>by
  simp only[ofCode,Option.bind_eq_some_iff,Option.map_eq_some_iff,Prod.mk.injEq] at h
  obtain⟨⟨k1,ks1⟩,h1,⟨k2,ks2⟩,h2,rfl,rfl⟩:=h
  exact sound_seq (exec_sound hcall hv hvs hmix n x _ _ _ h1) (exec_sound hcall hv hvs hmix n y _ _ _ h2)
 | .cond c x y,ks,ks',k,h=>by
  simp only[ofCode,Option.bind_eq_some_iff,Option.map_eq_some_iff,Prod.mk.injEq] at h
  obtain⟨⟨k1,ks1⟩,h1,⟨k2,ks2⟩,h2,rfl,rfl⟩:=h
  exact sound_cond (exec_sound hcall hv hvs hmix n x _ _ _ h1) (exec_sound hcall hv hvs hmix n y _ _ _ h2)
 | .block id x,ks,ks',k,h=>by
  simp only[ofCode,Option.map_eq_some_iff,Prod.mk.injEq] at h
  obtain⟨⟨k1,ks1⟩,h1,rfl,rfl⟩:=h
  exact sound_block (exec_sound hcall hv hvs hmix n x _ _ _ h1)
 | .loop x,ks,ks',k,h=>by
  cases ks with
  |nil=>simp[ofCode] at h
  |cons an ks=>
   cases an with
   |draw kp l=>simp[ofCode] at h
   |keep kp=>
    simp only[ofCode,Option.map_eq_some_iff,Prod.mk.injEq] at h
    obtain⟨⟨k1,ks1⟩,h1,rfl,rfl⟩:=h
    exact sound_loop (exec_sound hcall hv hvs hmix n x _ _ _ h1) kp n
 | .exit id,ks,ks',k,h=>by
  simp only[ofCode,Option.some.injEq,Prod.mk.injEq] at h
  obtain⟨rfl,rfl⟩:=h
  intro st ctl st' h X S φ a w A
  simp only[exec,Option.some.injEq,Prod.mk.injEq] at h
  obtain⟨rfl,rfl⟩:=h
  exact wp_exit ⟨rfl,S,φ,A,Ext.refl _ _ _ _⟩
 | .ret,ks,ks',k,h=>by
  simp only[ofCode,Option.some.injEq,Prod.mk.injEq] at h
  obtain⟨rfl,rfl⟩:=h
  intro st ctl st' h X S φ a w A
  simp only[exec,Option.some.injEq,Prod.mk.injEq] at h
  obtain⟨rfl,rfl⟩:=h
  exact wp_ret ⟨rfl,S,φ,A,Ext.refl _ _ _ _⟩
 | .rangeFunc ..,ks,ks',k,h=>by simp[ofCode] at h
 | .scope x,ks,ks',k,h=>by
  have hx:=exec_sound hcall hv hvs hmix n x ks ks' k (by simpa only[ofCode] using h)
  intro st ctl st' h X S φ a w A
  refine wp_scope_straight (Code.wp_mono (fun e a' w' hq=>?_) (hx st ctl st' h X S φ a w A))
  obtain⟨rfl,hq⟩:=hq
  cases ctl<;>exact⟨rfl,hq⟩
 | .label l,ks,ks',k,h=>by
  simp only[ofCode,Option.some.injEq,Prod.mk.injEq] at h
  obtain⟨rfl,rfl⟩:=h
  intro st ctl st' h X S φ a w A
  simp only[exec,Option.some.injEq,Prod.mk.injEq] at h
  obtain⟨rfl,rfl⟩:=h
  exact wp_label ⟨rfl,S,φ,A,Ext.refl _ _ _ _⟩
 | .goto _,ks,ks',k,h=>by simp[ofCode] at h
 | .refuse _,ks,ks',k,h=>by simp[ofCode] at h
end
end Go.Tm
namespace Go.Tm
inductive Mode where
 |ref -- the callee works on the caller's heap
 |val -- the callee is given frozen trees,and gives back a frozen one
 |keep -- the same,and nil stays nil
 deriving DecidableEq
def mapC (f:C→Option C):List C→Option (List C)
 |[]=>some []
 |c::r=>do
  let d ←f c
  let ds ←mapC f r
  some (d::ds)
def view (cl:Bool)(h:Heap):Nat→C→Option C
 |0,_=>none
 |n+1,c=>
  match c with
  | .v (.slice none 0 0)=>some (.fs [] 0 none)
  | .v x=>some (.v x)
  | .fs xs len _=>if len=0 then some (.fs [] 0 none) else if cl=true then none else some (.fs xs len none)
  | .fp xs=>if cl=true then none else some (.fp xs)
  | .os l off len _=>if len=0 then some (.fs [] 0 none) else match h[l]? with
   |some (.row e cs)=>do
    let xs ←takeN (len*e) (cs.drop off)
    let ys ←mapC (view cl h n) xs
    some (.fs ys len none)
   |_=>none
  | .op l off=>match h[l]? with
   |some (.row _ cs)=>(mapC (view cl h n) (cs.drop off)).map .fp
   |_=>none
  | .om _=>none
  | .fn f caps=>(mapC (view cl h n) caps).map (.fn f)
  | .agg cs=>(mapC (view cl h n) cs).map .agg
  | .tup cs=>(mapC (view cl h n) cs).map .tup
def viewN (cl:Bool)(h:Heap):Nat→C→Option C
 |0,_=>none
 |n+1,c=>
  match c with
  | .v x=>some (.v x)
  | .fs xs len _=>if len=0 then some (.fs [] 0 none) else if cl=true then none else some (.fs xs len none)
  | .fp xs=>if cl=true then none else some (.fp xs)
  | .os l off len _=>if len=0 then some (.fs [] 0 none) else match h[l]? with
   |some (.row e cs)=>do
    let xs ←takeN (len*e) (cs.drop off)
    let ys ←mapC (viewN cl h n) xs
    some (.fs ys len none)
   |_=>none
  | .op l off=>match h[l]? with
   |some (.row _ cs)=>(mapC (viewN cl h n) (cs.drop off)).map .fp
   |_=>none
  | .om _=>none
  | .fn f caps=>(mapC (viewN cl h n) caps).map (.fn f)
  | .agg cs=>(mapC (viewN cl h n) cs).map .agg
  | .tup cs=>(mapC (viewN cl h n) cs).map .tup
def depth:Nat:=12
def enterE:Nat→List C→Env
 |_,[]=>[]
 |i,c::r=>(i,c)::enterE (i+1) r
def resC (P:Program)(env:Env)(h:Heap):List ResultVar→Option (List C)
 |[]=>some []
 | .tmp t::r=>do
  let c ←look env t
  let cs ←resC P env h r
  some (c::cs)
 | .cell x t::r=>do
  let p ←look env x
  let c ←loadC P h t p
  let cs ←resC P env h r
  some (c::cs)
def oneOr:List C→C
 |[c]=>c
 |cs=>.tup cs
def body (P:Program)(vals:FuncId→Bool)(call:CallF)(n:Nat)(fn:Func)(k:K)(cs:List C)(h:Heap):Option (C×Heap):=
 if cs.length≤fn.ntmps then
  match exec P vals call n k ⟨enterE 0 cs,h⟩ with
  |some (.exit _,_)=>none
  |some (_,st)=>(resC P st.env st.heap fn.results.toList).map fun rs=>(oneOr rs,st.heap)
  |none=>none
 else none
def byVal (run:List C→Heap→Option (C×Heap))(cs:List C)(h:Heap):Option C:=
 match mapC (view false [] depth) cs with
 |some vs=>(run vs []).bind fun r=>view false r.2 depth r.1
 |none=>(mapC (view false h depth) cs).bind fun vs=>(run vs []).bind fun r=>view true r.2 depth r.1
def byValN (run:List C→Heap→Option (C×Heap))(cs:List C)(h:Heap):Option C:=
 match mapC (viewN false [] depth) cs with
 |some vs=>(run vs []).bind fun r=>viewN false r.2 depth r.1
 |none=>(mapC (viewN false h depth) cs).bind fun vs=>(run vs []).bind fun r=>viewN true r.2 depth r.1
abbrev Tab:=FuncId→Option (K×Mode)
def valsOf (tab:Tab)(f:FuncId):Bool:=
 match tab f with
 |some (_,.val)=>true
 |some (_,.keep)=>true
 |_=>false
def callAt (P:Program)(tab:Tab):Nat→CallF
 |0=>fun _ _ _=>none
 |n+1=>fun f cs h=>
  match tab f,P.funcs[f]? with
  |some (k,m),some fn=>match m with
   | .ref=>body P (valsOf tab) (callAt P tab n) n fn k cs h
   | .val=>(byVal (body P (valsOf tab) (callAt P tab n) n fn k) cs h).map fun c=>(c,h)
   | .keep=>(byValN (body P (valsOf tab) (callAt P tab n) n fn k) cs h).map fun c=>(c,h)
  |_,_=>none
def TabOk (P:Program)(tab:Tab):Prop:=
 ∀f k m,tab f=some (k,m)→∃fn code ks ks',P.funcs[f]?=some fn∧(fn.name=="runtime.NumGoroutine")=false∧fn.body=some code∧ofCode fn.ntmps code ks=some (k,ks')
section
variable {P:Program} {w:World} {X S:Nat→Prop} {φ:Nat→Loc} {h:Heap}
theorem mapC_rel {w:World}{bad bad' S S':Nat→Prop}{φ φ':Nat→Loc}{f:C→Option C}(hf:∀c d u,f c=some d→Rel w bad S φ c u→Rel w bad' S' φ' d u):∀{cs ds:List C} {us:List Value},mapC f cs=some ds→RelL w bad S φ cs us→RelL w bad' S' φ' ds us
 |[],ds,us,h,hr=>by simp only[mapC,Option.some.injEq] at h;subst h;simpa only[RelL] using hr
 |c::cs,ds,us,h,hr=>by
  simp only[mapC,Option.bind_eq_bind,Option.bind_eq_some_iff,Option.some.injEq] at h
  obtain⟨d,hd,es,he,rfl⟩:=h
  simp only[RelL] at hr⊢
  obtain⟨u,r,rfl,hc,hr⟩:=hr
  exact⟨u,r,rfl,hf _ _ _ hd hc,mapC_rel hf he hr⟩
theorem mapC_relAt {w:World}{bad bad' S S':Nat→Prop}{φ φ':Nat→Loc}{f:C→Option C}(hf:∀c d u,f c=some d→Rel w bad S φ c u→Rel w bad' S' φ' d u):∀{cs ds:List C} {b o:Nat},mapC f cs=some ds→RelAt w bad S φ cs b o→RelAt w bad' S' φ' ds b o
 |[],ds,b,o,h,hr=>by simp only[mapC,Option.some.injEq] at h;subst h;simp[RelAt]
 |c::cs,ds,b,o,h,hr=>by
  simp only[mapC,Option.bind_eq_bind,Option.bind_eq_some_iff,Option.some.injEq] at h
  obtain⟨d,hd,es,he,rfl⟩:=h
  simp only[RelAt] at hr⊢
  obtain⟨⟨u,hu,hc,h1⟩,hr⟩:=hr
  exact⟨⟨u,hu,hf _ _ _ hd hc,h1⟩,mapC_relAt hf he hr⟩
theorem frozen_sub {bad Y:Nat→Prop}(hY:∀b,b<w.heap.size→Y b→bad b){xs:List C}{b o:Nat}(hb:¬bad b)(hs:b<w.heap.size)(φ':Nat→Loc)(hx:RelAt w bad noName φ xs b o):RelAt w Y noName φ' xs b o:=
 RelAt.later (w':=w) (bad':=Y) (S':=noName) (φ':=φ') ⟨fun _ _ _ _ _ h=>h,fun b hs hy=>hY b hs hy,Nat.le_refl _,fun _ h=>h.elim⟩ hb hs hx
theorem view_rel (G:Good w X S φ h){Y:Nat→Prop}{cl:Bool}(hown:∀l,live h l→¬Y (φ l).block)(hfr:cl=false→∀b,b<w.heap.size→Y b→badOf X φ h b)(φ':Nat→Loc):∀(n:Nat) (c t:C) (u:Value),view cl h n c=some t→Rel w (badOf X φ h) S φ c u→Rel w Y noName φ' t u
 |0,c,t,u,hv,_=>by simp[view] at hv
 |n+1,c,t,u,hv,hr=>by
  have ih:=view_rel G hown hfr φ' n
  have hf:∀c d u,view cl h n c=some d→Rel w (badOf X φ h) S φ c u→Rel w Y noName φ' d u:=ih
  unfold view at hv
  split at hv
  ·cases hv
   simp only[Rel] at hr⊢
   exact .inl ⟨⟨none,hr.1⟩,trivial,trivial,.inl trivial⟩
  ·cases hv
   simpa only[Rel] using hr
  ·rename_i xs len cap
   simp only[Rel] at hr
   split at hv
   ·rename_i h0
    cases hv
    simp only[Rel]
    rcases hr with ⟨⟨_,rfl⟩,_⟩|⟨b,o,cap',rfl,hle,_⟩
    ·exact .inl (by simp)
    ·exact .inr ⟨b,o,cap',by rw[h0],Nat.zero_le _,fun c hc=>(by cases hc),.inl trivial⟩
   ·split at hv
    ·cases hv
    ·rename_i h0 hcl
     cases hv
     have hcl':cl=false:=by simpa using hcl
     simp only[Rel]
     rcases hr with ⟨_,_,rfl,_⟩|⟨b,o,cap',rfl,hle,_,hx⟩
     ·exact absurd rfl h0
     ·exact .inr ⟨b,o,cap',rfl,hle,fun c hc=>(by cases hc),hx.imp id fun⟨hb,hs,hx⟩=>⟨fun hy=>hb (hfr hcl' b hs hy),hs,frozen_sub (hfr hcl') hb hs φ' hx⟩⟩
  ·split at hv
   ·cases hv
   ·rename_i xs hcl
    cases hv
    have hcl':cl=false:=by simpa using hcl
    simp only[Rel] at hr⊢
    obtain⟨b,o,rfl,hx⟩:=hr
    exact⟨b,o,rfl,hx.imp id fun⟨hb,hs,hx⟩=>⟨fun hy=>hb (hfr hcl' b hs hy),hs,frozen_sub (hfr hcl') hb hs φ' hx⟩⟩
  ·rename_i l off len cap
   simp only[Rel] at hr
   obtain⟨hS,b,o,cap',rfl,hle,_,hadr,_,_⟩:=hr
   split at hv
   ·rename_i h0
    cases hv
    simp only[Rel]
    exact .inr ⟨b,o,cap',by rw[h0],Nat.zero_le _,fun c hc=>(by cases hc),.inl trivial⟩
   ·rename_i h0
    split at hv
    ·rename_i e cs hl
     simp only[Option.bind_eq_bind,Option.bind_eq_some_iff,Option.some.injEq] at hv
     obtain⟨xs,hxs,ys,hys,rfl⟩:=hv
     simp only[takeN] at hxs
     split at hxs
     ·cases hxs
      simp only[Rel]
      have hok:=G.node l _ hl
      simp only[OkNode] at hok
      have hlv:=live_of_row hl
      obtain⟨rfl,rfl⟩:=hadr.resolve_left (by omega)
      exact .inr ⟨_,_,cap',rfl,hle,fun c hc=>(by cases hc),.inr ⟨hown l hlv,G.size l hlv,mapC_relAt hf hys (RelAt.take _ (RelAt.drop off hok.2.2.2.2))⟩⟩
     ·cases hxs
    ·cases hv
  ·rename_i l off
   split at hv
   ·rename_i e cs hl
    simp only[Option.map_eq_some_iff] at hv
    obtain⟨ys,hys,rfl⟩:=hv
    simp only[Rel] at hr⊢
    have hok:=G.node l _ hl
    simp only[OkNode] at hok
    have hlv:=live_of_row hl
    exact⟨_,_,hr.2,.inr ⟨hown l hlv,G.size l hlv,mapC_relAt hf hys (RelAt.drop off hok.2.2.2.2)⟩⟩
   ·cases hv
  ·cases hv
  ·simp only[Option.map_eq_some_iff] at hv
   obtain⟨ys,hys,rfl⟩:=hv
   simp only[Rel] at hr⊢
   obtain⟨us,hu,hr⟩:=hr
   exact⟨us,hu,mapC_rel hf hys hr⟩
  ·simp only[Option.map_eq_some_iff] at hv
   obtain⟨ys,hys,rfl⟩:=hv
   simp only[Rel] at hr⊢
   obtain⟨us,hu,hr,h1⟩:=hr
   exact⟨us,hu,mapC_rel hf hys hr,h1⟩
  ·simp only[Option.map_eq_some_iff] at hv
   obtain⟨ys,hys,rfl⟩:=hv
   simp only[Rel] at hr⊢
   obtain⟨us,hu,hr⟩:=hr
   exact⟨us,hu,mapC_rel hf hys hr⟩
theorem viewN_rel (G:Good w X S φ h){Y:Nat→Prop}{cl:Bool}(hown:∀l,live h l→¬Y (φ l).block)(hfr:cl=false→∀b,b<w.heap.size→Y b→badOf X φ h b)(φ':Nat→Loc):∀(n:Nat) (c t:C) (u:Value),viewN cl h n c=some t→Rel w (badOf X φ h) S φ c u→Rel w Y noName φ' t u
 |0,c,t,u,hv,_=>by simp[viewN] at hv
 |n+1,c,t,u,hv,hr=>by
  have ih:=viewN_rel G hown hfr φ' n
  have hf:∀c d u,viewN cl h n c=some d→Rel w (badOf X φ h) S φ c u→Rel w Y noName φ' d u:=ih
  unfold viewN at hv
  split at hv
  ·cases hv
   simpa only[Rel] using hr
  ·rename_i xs len cap
   simp only[Rel] at hr
   split at hv
   ·rename_i h0
    cases hv
    simp only[Rel]
    rcases hr with ⟨⟨_,rfl⟩,_⟩|⟨b,o,cap',rfl,hle,_⟩
    ·exact .inl (by simp)
    ·exact .inr ⟨b,o,cap',by rw[h0],Nat.zero_le _,fun c hc=>(by cases hc),.inl trivial⟩
   ·split at hv
    ·cases hv
    ·rename_i h0 hcl
     cases hv
     have hcl':cl=false:=by simpa using hcl
     simp only[Rel]
     rcases hr with ⟨_,_,rfl,_⟩|⟨b,o,cap',rfl,hle,_,hx⟩
     ·exact absurd rfl h0
     ·exact .inr ⟨b,o,cap',rfl,hle,fun c hc=>(by cases hc),hx.imp id fun⟨hb,hs,hx⟩=>⟨fun hy=>hb (hfr hcl' b hs hy),hs,frozen_sub (hfr hcl') hb hs φ' hx⟩⟩
  ·split at hv
   ·cases hv
   ·rename_i xs hcl
    cases hv
    have hcl':cl=false:=by simpa using hcl
    simp only[Rel] at hr⊢
    obtain⟨b,o,rfl,hx⟩:=hr
    exact⟨b,o,rfl,hx.imp id fun⟨hb,hs,hx⟩=>⟨fun hy=>hb (hfr hcl' b hs hy),hs,frozen_sub (hfr hcl') hb hs φ' hx⟩⟩
  ·rename_i l off len cap
   simp only[Rel] at hr
   obtain⟨hS,b,o,cap',rfl,hle,_,hadr,_,_⟩:=hr
   split at hv
   ·rename_i h0
    cases hv
    simp only[Rel]
    exact .inr ⟨b,o,cap',by rw[h0],Nat.zero_le _,fun c hc=>(by cases hc),.inl trivial⟩
   ·rename_i h0
    split at hv
    ·rename_i e cs hl
     simp only[Option.bind_eq_bind,Option.bind_eq_some_iff,Option.some.injEq] at hv
     obtain⟨xs,hxs,ys,hys,rfl⟩:=hv
     simp only[takeN] at hxs
     split at hxs
     ·cases hxs
      simp only[Rel]
      have hok:=G.node l _ hl
      simp only[OkNode] at hok
      have hlv:=live_of_row hl
      obtain⟨rfl,rfl⟩:=hadr.resolve_left (by omega)
      exact .inr ⟨_,_,cap',rfl,hle,fun c hc=>(by cases hc),.inr ⟨hown l hlv,G.size l hlv,mapC_relAt hf hys (RelAt.take _ (RelAt.drop off hok.2.2.2.2))⟩⟩
     ·cases hxs
    ·cases hv
  ·rename_i l off
   split at hv
   ·rename_i e cs hl
    simp only[Option.map_eq_some_iff] at hv
    obtain⟨ys,hys,rfl⟩:=hv
    simp only[Rel] at hr⊢
    have hok:=G.node l _ hl
    simp only[OkNode] at hok
    have hlv:=live_of_row hl
    exact⟨_,_,hr.2,.inr ⟨hown l hlv,G.size l hlv,mapC_relAt hf hys (RelAt.drop off hok.2.2.2.2)⟩⟩
   ·cases hv
  ·cases hv
  ·simp only[Option.map_eq_some_iff] at hv
   obtain⟨ys,hys,rfl⟩:=hv
   simp only[Rel] at hr⊢
   obtain⟨us,hu,hr⟩:=hr
   exact⟨us,hu,mapC_rel hf hys hr⟩
  ·simp only[Option.map_eq_some_iff] at hv
   obtain⟨ys,hys,rfl⟩:=hv
   simp only[Rel] at hr⊢
   obtain⟨us,hu,hr,h1⟩:=hr
   exact⟨us,hu,mapC_rel hf hys hr,h1⟩
  ·simp only[Option.map_eq_some_iff] at hv
   obtain⟨ys,hys,rfl⟩:=hv
   simp only[Rel] at hr⊢
   obtain⟨us,hu,hr⟩:=hr
   exact⟨us,hu,mapC_rel hf hys hr⟩
theorem enterE_look:∀(cs:List C) (i t:Nat) (c:C),look (enterE i cs) t=some c→i≤t∧cs[t-i]?=some c
 |[],i,t,c,h=>by simp[enterE,look] at h
 |d::cs,i,t,c,h=>by
  unfold enterE look at h
  by_cases e:i=t
  ·rw[if_pos e] at h
   cases h
   subst e
   simp
  ·rw[if_neg e] at h
   obtain⟨h1,h2⟩:=enterE_look cs (i+1) t c h
   refine⟨by omega,?_⟩
   have e2:t-i=(t-(i+1))+1:=by omega
   rw[e2]
   simpa using h2
theorem enter_rel {w:World}{bad S:Nat→Prop}{φ:Nat→Loc}{cs:List C}{us:List Value}(hr:RelL w bad S φ cs us)(r:Array Value):RelE w bad S φ (enterE 0 cs) (us.toArray++r):=fun t c hc=>by
 obtain⟨_,h2⟩:=enterE_look cs 0 t c hc
 obtain⟨u,hu,hrel⟩:=RelL.get hr h2
 refine⟨u,?_,hrel⟩
 have hlt:t<us.length:=(List.getElem?_eq_some_iff.1 hu).1
 rw[Array.getElem?_append_left (by simpa using hlt)]
 simpa using hu
theorem loadVar_asAddr {t:TypeId}{p c:C}{u:Value}(G:Good w X S φ h)(hp:Rel w (badOf X φ h) S φ p u)(hl:loadC P h t p=some c):
  ∃v,(do loadVar t (←asAddr u):Sem Value).run P w=.ok v w∧Rel w (badOf X φ h) S φ c v:=by
 obtain⟨v,hv,hr⟩:=load_sound G hp hl
 refine⟨v,?_,hr⟩
 have hp2:∃a,u=.pointer (some a):=by
  simp only[loadC,Option.bind_eq_bind,Option.bind_eq_some_iff] at hl
  obtain⟨cs,hcs,_⟩:=hl
  obtain⟨b,o,hu,_⟩:=cellsAt_rel G hp hcs
  exact⟨_,hu⟩
 obtain⟨a,rfl⟩:=hp2
 simpa[Instr.loadAt,Instr.sureAddr,asAddr] using hv
theorem resC_sound (G:Good w X S φ h){env:Env}{tmps:Array Value}(hE:RelE w (badOf X φ h) S φ env tmps):∀{rs:List ResultVar} {cs:List C},resC P env h rs=some cs→
  ∃vs,(rs.mapM (m:=Sem) fun|.tmp t=>pure (tmps.getD t undef)|.cell a t=>do loadVar t (←asAddr (tmps.getD a undef))).run P w=.ok vs w∧RelL w (badOf X φ h) S φ cs vs
 |[],cs,h=>by simp only[resC,Option.some.injEq] at h;subst h;exact⟨[],by simp,by simp[RelL]⟩
 | .tmp t::rs,cs,hh=>by
  simp only[resC,Option.bind_eq_bind,Option.bind_eq_some_iff,Option.some.injEq] at hh
  obtain⟨c,hc,ds,hd,rfl⟩:=hh
  obtain⟨vs,hrun,hrel⟩:=resC_sound G hE hd
  obtain⟨u,hu,hr⟩:=hE t c hc
  refine⟨u::vs,?_,by simp only[RelL];exact⟨u,vs,rfl,hr,hrel⟩⟩
  simp only[List.mapM_cons,Sem.run_bind,Sem.run_pure,Result.andThen_ok]
  rw[hrun]
  simp[hu]
 | .cell x t::rs,cs,hh=>by
  simp only[resC,Option.bind_eq_bind,Option.bind_eq_some_iff,Option.some.injEq] at hh
  obtain⟨p,hp,c,hc,ds,hd,rfl⟩:=hh
  obtain⟨vs,hrun,hrel⟩:=resC_sound G hE hd
  obtain⟨u,hu,hr⟩:=hE x p hp
  obtain⟨v,hv,hr2⟩:=loadVar_asAddr (P:=P) G hr hc
  refine⟨v::vs,?_,by simp only[RelL];exact⟨v,vs,rfl,hr2,hrel⟩⟩
  have hg:tmps.getD x undef=u:=by simp[hu]
  simp only[List.mapM_cons,Sem.run_bind,hg] at hv⊢
  rw[hv]
  simp only[Result.andThen_ok]
  rw[hrun]
  simp
theorem results_sound (G:Good w X S φ h){env:Env}{tmps:Array Value}(hE:RelE w (badOf X φ h) S φ env tmps){fn:Func}{cs:List C}(hc:resC P env h fn.results.toList=some cs):
  ∃v,(results fn tmps).run P w=.ok v w∧Rel w (badOf X φ h) S φ (oneOr cs) v:=by
 obtain⟨vs,hrun,hrel⟩:=resC_sound (P:=P) G hE hc
 refine⟨if hh:vs.toArray.size=1 then vs.toArray[0] else .tuple vs.toArray,?_,?_⟩
 ·unfold results
  rw[Array.mapM_eq_mapM_toList]
  simp only[Sem.run_bind,Sem.run_map] at hrun⊢
  erw [hrun]
  rfl
 ·cases cs with
  |nil=>
   simp only[RelL] at hrel
   subst hrel
   simp only[oneOr,Rel]
   exact⟨#[],rfl,by simp[RelL]⟩
  |cons c cs=>
   simp only[RelL] at hrel
   obtain⟨u,r,rfl,hr,hrel⟩:=hrel
   cases cs with
   |nil=>
    simp only[RelL] at hrel
    subst hrel
    simpa[oneOr] using hr
   |cons d cs=>
    have hl:=RelL.length hrel
    have hne:¬(u::r).toArray.size=1:=by simp at hl⊢;intro h0;simp[h0] at hl
    rw[dif_neg hne]
    simp only[oneOr,Rel]
    refine⟨_,rfl,?_⟩
    simp only[RelL] at hrel⊢
    exact⟨u,r,rfl,hr,hrel⟩
theorem body_sound {call:CallF}{vals:FuncId→Bool}(hcall:CallOk P call)(hv:ValsOk vals call)(hvs:ValSound P vals call)(hmix:P.follows .mixedOrders=true){n:Nat}{f:FuncId}{fn:Func}{code:Code}{k:K}{ks ks':List Ann}(hf:P.funcs[f]?=some fn)(hb:fn.body=some code)(hk:ofCode fn.ntmps code ks=some (k,ks'))
  {cs:List C}{h:Heap}{c:C}{h':Heap}(hbd:body P vals call n fn k cs h=some (c,h')){w:World}{X S:Nat→Prop}{φ:Nat→Loc}{us:List Value}(G:Good w X S φ h)(sq:SeqOk S h)(hr:RelL w (badOf X φ h) S φ cs us):
  Calls P f us.toArray w fun e w'=>∃u S' φ',e=.returned u∧Good w' X S' φ' h'∧Ext w S φ h w' S' φ' h'∧Rel w' (badOf X φ' h') S' φ' c u∧SeqOk S' h':=by
 unfold body at hbd
 split at hbd
 ·rename_i hle
  split at hbd
  ·cases hbd
  ·rename_i ctl st hne hex
   simp only[Option.map_eq_some_iff,Prod.mk.injEq] at hbd
   obtain⟨rs,hrs,rfl,rfl⟩:=hbd
   have hl:=RelL.length hr
   have A:At fn.ntmps X ⟨enterE 0 cs,h⟩ S φ { tmps:=us.toArray++Array.replicate (fn.ntmps-us.toArray.size) undef,defers:=[] } w:=
    ⟨G,sq,enter_rel hr _,by simp;omega,rfl⟩
   refine calls_of_wp hf hb (Code.wp_mono (fun e a' w' hq=>?_) (exec_sound hcall hv hvs hmix n code ks ks' k hk _ _ _ hex X S φ _ w A))
   obtain⟨rfl,S',φ',A',E'⟩:=hq
   obtain⟨v,hv,hrel⟩:=results_sound (P:=P) A'.good A'.env hrs
   cases ctl with
   |normal=>exact⟨A'.defers,v,hv,v,S',φ',rfl,A'.good,E',hrel,A'.seq⟩
   |exit id=>exact(hne _ rfl).elim
   |ret=>exact⟨A'.defers,v,hv,v,S',φ',rfl,A'.good,E',hrel,A'.seq⟩
  ·cases hbd
 ·cases hbd
theorem good_nil {w:World}{X:Nat→Prop}(hx:∀b,X b→b<w.heap.size):Good w X noName φ []:=
 ⟨fun l nd h=>by simp at h,fun l ⟨_,h,_⟩=>by simp at h,fun l ⟨_,h,_⟩=>by simp at h,fun l _ ⟨_,h,_⟩=>by simp at h,hx,fun l ⟨_,h,_⟩=>by simp at h⟩
theorem own_nil {b:Nat}:¬Own φ [] b:=fun⟨_,⟨_,h,_⟩,_⟩=>by simp at h
theorem good_same {w':World}(G:Good w X S φ h)(E:Ext w S φ h w' S φ h)(hk:∀b,b<w.heap.size→w'.heap[b]?=w.heap[b]?):Good w' X S φ h:=by
 have L:=E.later (X:=X)
 refine⟨fun l x hx=>?_,G.inS,fun l hl=>Nat.lt_of_lt_of_le (G.size l hl) E.size,G.inj,fun b hb=>Nat.lt_of_lt_of_le (G.xlt b hb) E.size,G.apart⟩
 have hok:=G.node l x hx
 cases x with
 |dead=>trivial
 |row ez cs=>
  simp only[OkNode] at hok⊢
  obtain⟨h1,h2,h3,h4,h5⟩:=hok
  have hs:=G.size l (live_of_row hx)
  refine⟨h1,h2,h3,fun j hj=>?_,RelAt.moved L h5 fun j u _ hu=>?_⟩
  ·rw[cell_of_heap (hk _ hs),World.frozen?_of_block (a:=⟨(φ l).block,(φ l).base+j,none⟩) (hk _ hs)]
   exact h4 j hj
  ·rw[cell_of_heap (hk _ hs)];exact hu
 |map es clock=>
  simp only[OkNode] at hok⊢
  rw[hk _ (G.size l ⟨_,hx,by simp⟩)]
  exact hok
theorem view_scal_some {h:Heap}{n:Nat}(v:Value):∃c,view false h (n+1) (.v v)=some c:=by
 unfold view
 split
 all_goals first|exact⟨_,rfl⟩|(simp_all)
theorem mapC_scal {f:C→Option C}(hf:∀v,∃c,f (.v v)=some c):∀{cs:List C},(∀x∈cs,∃v,x=C.v v)→∃vs,mapC f cs=some vs
 |[],_=>⟨[],rfl⟩
 |x::r,h=>by
  obtain⟨v,rfl⟩:=h x (List.mem_cons_self ..)
  obtain⟨c,hc⟩:=hf v
  obtain⟨vs,hvs⟩:=mapC_scal hf (cs:=r) fun x hx=>h x (List.mem_cons_of_mem _ hx)
  exact⟨c::vs,by simp[mapC,hc,hvs]⟩
theorem byVal_scal {run:List C→Heap→Option (C×Heap)}{cs:List C}{h:Heap}(k:Heap)(hc:∀x∈cs,∃v,x=C.v v):byVal run cs h=byVal run cs k:=by
 obtain⟨vs,hvs⟩:=mapC_scal (f:=view false [] depth) view_scal_some hc
 unfold byVal
 rw[hvs]
theorem byValN_scal {run:List C→Heap→Option (C×Heap)}{cs:List C}{h:Heap}(k:Heap)(hc:∀x∈cs,∃v,x=C.v v):byValN run cs h=byValN run cs k:=by
 obtain⟨vs,hvs⟩:=mapC_scal (f:=viewN false [] depth) (fun v=>⟨_,rfl⟩) hc
 unfold byValN
 rw[hvs]
theorem mapC_some {f g:C→Option C}(h:∀c d,f c=some d→g c=some d):∀{cs ds:List C},mapC f cs=some ds→mapC g cs=some ds
 |[],ds,e=>e
 |c::cs,ds,e=>by
  simp only[mapC,Option.bind_eq_bind,Option.bind_eq_some_iff,Option.some.injEq] at e⊢
  obtain⟨d,h1,es,h2,rfl⟩:=e
  exact⟨d,h _ _ h1,es,mapC_some h h2,rfl⟩
theorem view_more {cl:Bool}{h h':Heap}(hh:∀(l:Nat) (nd:Node),h[l]?=some nd→h'[l]?=some nd):∀(n:Nat) (c d:C),view cl h n c=some d→view false h' n c=some d
 |0,c,d,e=>by simp[view] at e
 |n+1,c,d,e=>by
  have ih:=view_more (cl:=cl) hh n
  unfold view at e
  split at e
  ·exact e
  ·rename_i x hx
   cases e
   unfold view
   split
   ·rename_i heq;cases heq;exact absurd rfl hx
   ·rename_i heq;cases heq;rfl
   all_goals (rename_i heq;cases heq)
  ·rename_i xs len cap
   simp only[view]
   split at e
   ·rename_i h0;cases e;rw[if_pos h0]
   ·rename_i h0
    split at e
    ·cases e
    ·cases e;rw[if_neg h0];rfl
  ·split at e
   ·cases e
   ·cases e;rfl
  ·rename_i l off len cap
   simp only[view]
   split at e
   ·rename_i h0;cases e;rw[if_pos h0]
   ·rename_i h0
    rw[if_neg h0]
    split at e
    ·rename_i es cs hl
     simp only[hh _ _ hl]
     simp only[Option.bind_eq_bind,Option.bind_eq_some_iff] at e⊢
     obtain⟨xs,h1,ys,h2,h3⟩:=e
     exact⟨xs,h1,ys,mapC_some ih h2,h3⟩
    ·cases e
  ·rename_i l off
   simp only[view]
   split at e
   ·rename_i es cs hl
    simp only[hh _ _ hl]
    simp only[Option.map_eq_some_iff] at e⊢
    obtain⟨ys,h2,h3⟩:=e
    exact⟨ys,mapC_some ih h2,h3⟩
   ·cases e
  ·cases e
  all_goals
   simp only[view]
   simp only[Option.map_eq_some_iff] at e⊢
   obtain⟨ys,h2,h3⟩:=e
   exact⟨ys,mapC_some ih h2,h3⟩
theorem viewN_more {cl:Bool}{h h':Heap}(hh:∀(l:Nat) (nd:Node),h[l]?=some nd→h'[l]?=some nd):∀(n:Nat) (c d:C),viewN cl h n c=some d→viewN false h' n c=some d
 |0,c,d,e=>by simp[viewN] at e
 |n+1,c,d,e=>by
  have ih:=viewN_more (cl:=cl) hh n
  unfold viewN at e
  split at e
  ·cases e;rfl
  ·rename_i xs len cap
   simp only[viewN]
   split at e
   ·rename_i h0;cases e;rw[if_pos h0]
   ·rename_i h0
    split at e
    ·cases e
    ·cases e;rw[if_neg h0];rfl
  ·split at e
   ·cases e
   ·cases e;rfl
  ·rename_i l off len cap
   simp only[viewN]
   split at e
   ·rename_i h0;cases e;rw[if_pos h0]
   ·rename_i h0
    rw[if_neg h0]
    split at e
    ·rename_i es cs hl
     simp only[hh _ _ hl]
     simp only[Option.bind_eq_bind,Option.bind_eq_some_iff] at e⊢
     obtain⟨xs,h1,ys,h2,h3⟩:=e
     exact⟨xs,h1,ys,mapC_some ih h2,h3⟩
    ·cases e
  ·rename_i l off
   simp only[viewN]
   split at e
   ·rename_i es cs hl
    simp only[hh _ _ hl]
    simp only[Option.map_eq_some_iff] at e⊢
    obtain⟨ys,h2,h3⟩:=e
    exact⟨ys,mapC_some ih h2,h3⟩
   ·cases e
  ·cases e
  all_goals
   simp only[viewN]
   simp only[Option.map_eq_some_iff] at e⊢
   obtain⟨ys,h2,h3⟩:=e
   exact⟨ys,mapC_some ih h2,h3⟩
theorem byVal_grow {run:List C→Heap→Option (C×Heap)}{cs:List C}{h k:Heap}(g:∀(l:Nat) (nd:Node),h[l]?=some nd→k[l]?=some nd){d:C}(hd:byVal run cs h=some d):byVal run cs k=some d:=by
 unfold byVal at hd⊢
 split at hd
 ·exact hd
 ·simp only[Option.bind_eq_some_iff] at hd⊢
  obtain⟨vs,h1,h2⟩:=hd
  exact⟨vs,mapC_some (view_more (cl:=false) g depth) h1,h2⟩
theorem byValN_grow {run:List C→Heap→Option (C×Heap)}{cs:List C}{h k:Heap}(g:∀(l:Nat) (nd:Node),h[l]?=some nd→k[l]?=some nd){d:C}(hd:byValN run cs h=some d):byValN run cs k=some d:=by
 unfold byValN at hd⊢
 split at hd
 ·exact hd
 ·simp only[Option.bind_eq_some_iff] at hd⊢
  obtain⟨vs,h1,h2⟩:=hd
  exact⟨vs,mapC_some (viewN_more (cl:=false) g depth) h1,h2⟩
theorem vals_ok {tab:Tab}:∀n,ValsOk (valsOf tab) (callAt P tab n)
 |0=>fun f cs h c h' _ hc=>by simp[callAt] at hc
 |n+1=>fun f cs h c h' hf hc=>by
  unfold valsOf at hf
  split at hf
  ·rename_i k hk
   simp only[callAt] at hc⊢
   split at hc
   ·rename_i k' m fn htab hfn
    rw[hk] at htab
    cases htab
    simp only[Option.map_eq_some_iff,Prod.mk.injEq] at hc
    obtain⟨d,hd,rfl,rfl⟩:=hc
    refine⟨rfl,fun q hq=>?_⟩
    have hd':byVal (body P (valsOf tab) (callAt P tab n) n fn k) cs q=some d:=by
     rcases hq with hq|hq
     ·rw[←byVal_scal (h:=h) q hq];exact hd
     ·exact byVal_grow hq hd
    simp only[hk,hfn,hd',Option.map_some]
   ·cases hc
  ·rename_i k hk
   simp only[callAt] at hc⊢
   split at hc
   ·rename_i k' m fn htab hfn
    rw[hk] at htab
    cases htab
    simp only[Option.map_eq_some_iff,Prod.mk.injEq] at hc
    obtain⟨d,hd,rfl,rfl⟩:=hc
    refine⟨rfl,fun q hq=>?_⟩
    have hd':byValN (body P (valsOf tab) (callAt P tab n) n fn k) cs q=some d:=by
     rcases hq with hq|hq
     ·rw[←byValN_scal (h:=h) q hq];exact hd
     ·exact byValN_grow hq hd
    simp only[hk,hfn,hd',Option.map_some]
   ·cases hc
  ·cases hf
theorem callAt_both {tab:Tab}(hmix:P.follows .mixedOrders=true)(ht:TabOk P tab):∀n,CallOk P (callAt P tab n)∧ValSound P (valsOf tab) (callAt P tab n)
 |0=>⟨fun f cs h c h' hc=>by simp[callAt] at hc,fun f cs h c h' _ hc=>by simp[callAt] at hc⟩
 |n+1=>by
  obtain⟨ih,ihv⟩:=callAt_both hmix ht n
  have hvs:ValSound P (valsOf tab) (callAt P tab (n+1)):=fun f cs h c h' hvf hc w X S φ us G sq hr=>by
   simp only[callAt] at hc
   split at hc
   ·rename_i k m fn htab hfn
    obtain⟨fn',code,ks,ks',hfn',hname,hb,hk⟩:=ht f k m htab
    rw[hfn] at hfn'
    cases hfn'
    cases m with
    |ref=>simp[valsOf,htab] at hvf
    |val=>
     simp only[Option.map_eq_some_iff,Prod.mk.injEq] at hc
     obtain⟨c',hv,rfl,rfl⟩:=hc
     have hbad:∀b,badOf X φ h b→b<w.heap.size:=fun b hb=>by
      rcases hb with hb|⟨l,hl,rfl⟩
      ·exact G.xlt b hb
      ·exact G.size l hl
     have sq0:SeqOk noName []:=fun l hl=>hl.elim
     have frame:∀{w':World} {S':Nat→Prop} {φ':Nat→Loc} {h2:Heap},Ext w noName φ [] w' S' φ' h2→Ext w S φ h w' S φ h:=fun E=>
      ⟨E.os,E.tape,E.output,E.size,fun b hb _=>E.keep b hb own_nil,fun l hl=>⟨hl,rfl⟩,fun l hl=>.inl ⟨l,hl,rfl⟩⟩
     have nil2:∀{Y:Nat→Prop} {b:Nat},badOf Y φ [] b→Y b:=fun hb=>hb.resolve_right own_nil
     unfold byVal at hv
     split at hv
     ·rename_i vs hvs
      simp only[Option.bind_eq_some_iff] at hv
      obtain⟨⟨r,h2⟩,hbd,hvr⟩:=hv
      -- the arguments,with no heap
      have G0:Good w (badOf X φ h) noName φ []:=good_nil hbad
      have hargs:RelL w (badOf (badOf X φ h) φ []) noName φ vs us:=by
       refine mapC_rel (bad:=badOf X φ h) (S:=S) (φ:=φ) (fun c d u hcd hrel=>?_) hvs hr
       have G1:Good w (badOf X φ h) S φ []:=⟨fun l nd h=>by simp at h,fun l ⟨_,h,_⟩=>by simp at h,fun l ⟨_,h,_⟩=>by simp at h,fun l _ ⟨_,h,_⟩=>by simp at h,hbad,fun l ⟨_,h,_⟩=>by simp at h⟩
       have hr1:Rel w (badOf (badOf X φ h) φ []) S φ c u:=Rel.later ⟨fun _ _ _ _ _ h=>h,fun b _ hb=>nil2 hb,Nat.le_refl _,fun _ h=>⟨h,rfl⟩⟩ hrel
       have hr2:=view_rel G1 (Y:=badOf X φ h) (cl:=false) (fun l ⟨_,h,_⟩=>by simp at h) (fun _ b _ hb=>.inl hb) φ depth _ _ _ hcd hr1
       exact Rel.later ⟨fun _ _ _ _ _ h=>h,fun b _ hb=>nil2 hb,Nat.le_refl _,fun _ h=>h.elim⟩ hr2
      refine(body_sound ih (vals_ok n) ihv hmix hfn hb hk hbd G0 sq0 hargs).mono fun e w' ⟨u,S',φ',he,G',E,hrel,sq'⟩=>?_
      have E':=frame E
      refine⟨u,he,good_same G E' (fun b hb=>E.keep b hb own_nil),E',?_⟩
      have hr2:=view_rel G' (Y:=badOf X φ h) (cl:=false) (fun l hl=>G'.apart l hl) (fun _ b _ hb=>.inl hb) φ depth _ _ _ hvr hrel
      exact Rel.later ⟨fun _ _ _ _ _ h=>h,fun b _ hb=>hb,Nat.le_refl _,fun _ h=>h.elim⟩ hr2
     ·simp only[Option.bind_eq_some_iff] at hv
      obtain⟨vs,hvs,⟨r,h2⟩,hbd,hvr⟩:=hv
      have G0:Good w X noName φ []:=good_nil G.xlt
      have hargs:RelL w (badOf X φ []) noName φ vs us:=by
       refine mapC_rel (bad:=badOf X φ h) (S:=S) (φ:=φ) (fun c d u hcd hrel=>?_) hvs hr
       have hr2:=view_rel G (Y:=X) (cl:=false) G.apart (fun _ b _ hb=>.inl hb) φ depth _ _ _ hcd hrel
       exact Rel.later ⟨fun _ _ _ _ _ h=>h,fun b _ hb=>nil2 hb,Nat.le_refl _,fun _ h=>h.elim⟩ hr2
      refine(body_sound ih (vals_ok n) ihv hmix hfn hb hk hbd G0 sq0 hargs).mono fun e w' ⟨u,S',φ',he,G',E,hrel,sq'⟩=>?_
      have E':=frame E
      refine⟨u,he,good_same G E' (fun b hb=>E.keep b hb own_nil),E',?_⟩
      have hr2:=view_rel G' (Y:=fun b=>b<w.heap.size) (cl:=true) (fun l hl hlt=>?_) (fun h=>by cases h) φ depth _ _ _ hvr hrel
      ·exact Rel.later ⟨fun _ _ _ _ _ h=>h,fun b _ hb=>hbad b hb,Nat.le_refl _,fun _ h=>h.elim⟩ hr2
      ·rcases E.own l hl with ho|ho
       ·exact own_nil ho
       ·omega
    |keep=>
     simp only[Option.map_eq_some_iff,Prod.mk.injEq] at hc
     obtain⟨c',hv,rfl,rfl⟩:=hc
     have hbad:∀b,badOf X φ h b→b<w.heap.size:=fun b hb=>by
      rcases hb with hb|⟨l,hl,rfl⟩
      ·exact G.xlt b hb
      ·exact G.size l hl
     have sq0:SeqOk noName []:=fun l hl=>hl.elim
     have frame:∀{w':World} {S':Nat→Prop} {φ':Nat→Loc} {h2:Heap},Ext w noName φ [] w' S' φ' h2→Ext w S φ h w' S φ h:=fun E=>
      ⟨E.os,E.tape,E.output,E.size,fun b hb _=>E.keep b hb own_nil,fun l hl=>⟨hl,rfl⟩,fun l hl=>.inl ⟨l,hl,rfl⟩⟩
     have nil2:∀{Y:Nat→Prop} {b:Nat},badOf Y φ [] b→Y b:=fun hb=>hb.resolve_right own_nil
     unfold byValN at hv
     split at hv
     ·rename_i vs hvs
      simp only[Option.bind_eq_some_iff] at hv
      obtain⟨⟨r,h2⟩,hbd,hvr⟩:=hv
      -- the arguments,with no heap
      have G0:Good w (badOf X φ h) noName φ []:=good_nil hbad
      have hargs:RelL w (badOf (badOf X φ h) φ []) noName φ vs us:=by
       refine mapC_rel (bad:=badOf X φ h) (S:=S) (φ:=φ) (fun c d u hcd hrel=>?_) hvs hr
       have G1:Good w (badOf X φ h) S φ []:=⟨fun l nd h=>by simp at h,fun l ⟨_,h,_⟩=>by simp at h,fun l ⟨_,h,_⟩=>by simp at h,fun l _ ⟨_,h,_⟩=>by simp at h,hbad,fun l ⟨_,h,_⟩=>by simp at h⟩
       have hr1:Rel w (badOf (badOf X φ h) φ []) S φ c u:=Rel.later ⟨fun _ _ _ _ _ h=>h,fun b _ hb=>nil2 hb,Nat.le_refl _,fun _ h=>⟨h,rfl⟩⟩ hrel
       have hr2:=viewN_rel G1 (Y:=badOf X φ h) (cl:=false) (fun l ⟨_,h,_⟩=>by simp at h) (fun _ b _ hb=>.inl hb) φ depth _ _ _ hcd hr1
       exact Rel.later ⟨fun _ _ _ _ _ h=>h,fun b _ hb=>nil2 hb,Nat.le_refl _,fun _ h=>h.elim⟩ hr2
      refine(body_sound ih (vals_ok n) ihv hmix hfn hb hk hbd G0 sq0 hargs).mono fun e w' ⟨u,S',φ',he,G',E,hrel,sq'⟩=>?_
      have E':=frame E
      refine⟨u,he,good_same G E' (fun b hb=>E.keep b hb own_nil),E',?_⟩
      have hr2:=viewN_rel G' (Y:=badOf X φ h) (cl:=false) (fun l hl=>G'.apart l hl) (fun _ b _ hb=>.inl hb) φ depth _ _ _ hvr hrel
      exact Rel.later ⟨fun _ _ _ _ _ h=>h,fun b _ hb=>hb,Nat.le_refl _,fun _ h=>h.elim⟩ hr2
     ·simp only[Option.bind_eq_some_iff] at hv
      obtain⟨vs,hvs,⟨r,h2⟩,hbd,hvr⟩:=hv
      have G0:Good w X noName φ []:=good_nil G.xlt
      have hargs:RelL w (badOf X φ []) noName φ vs us:=by
       refine mapC_rel (bad:=badOf X φ h) (S:=S) (φ:=φ) (fun c d u hcd hrel=>?_) hvs hr
       have hr2:=viewN_rel G (Y:=X) (cl:=false) G.apart (fun _ b _ hb=>.inl hb) φ depth _ _ _ hcd hrel
       exact Rel.later ⟨fun _ _ _ _ _ h=>h,fun b _ hb=>nil2 hb,Nat.le_refl _,fun _ h=>h.elim⟩ hr2
      refine(body_sound ih (vals_ok n) ihv hmix hfn hb hk hbd G0 sq0 hargs).mono fun e w' ⟨u,S',φ',he,G',E,hrel,sq'⟩=>?_
      have E':=frame E
      refine⟨u,he,good_same G E' (fun b hb=>E.keep b hb own_nil),E',?_⟩
      have hr2:=viewN_rel G' (Y:=fun b=>b<w.heap.size) (cl:=true) (fun l hl hlt=>?_) (fun h=>by cases h) φ depth _ _ _ hvr hrel
      ·exact Rel.later ⟨fun _ _ _ _ _ h=>h,fun b _ hb=>hbad b hb,Nat.le_refl _,fun _ h=>h.elim⟩ hr2
      ·rcases E.own l hl with ho|ho
       ·exact own_nil ho
       ·omega
   ·cases hc
  refine⟨fun f cs h c h' hc=>?_,hvs⟩
  have hc0:=hc
  simp only[callAt] at hc
  split at hc
  ·rename_i k m fn htab hfn
   obtain⟨fn',code,ks,ks',hfn',hname,hb,hk⟩:=ht f k m htab
   rw[hfn] at hfn'
   cases hfn'
   refine⟨⟨fn,code,hfn,hname,hb⟩,fun w X S φ us G sq hr=>?_⟩
   cases m with
   |ref=>
    simp only at hc
    exact(body_sound ih (vals_ok n) ihv hmix hfn hb hk hc G sq hr).mono fun e w' ⟨u,S',φ',he,G',E,hrel,sq'⟩=>⟨u,S',φ',he,G',E,hrel,.inr sq'⟩
   |val=>exact(hvs f cs h c h' (by simp[valsOf,htab]) hc0 w X S φ us G sq hr).mono fun e w' ⟨u,he,G',E,hr⟩=>⟨u,S,φ,he,by
     obtain rfl:=(vals_ok (n+1) f cs h c h' (by simp[valsOf,htab]) hc0).1;exact G',by
     obtain rfl:=(vals_ok (n+1) f cs h c h' (by simp[valsOf,htab]) hc0).1;exact E,by
     obtain rfl:=(vals_ok (n+1) f cs h c h' (by simp[valsOf,htab]) hc0).1;exact hr,.inl ⟨rfl,rfl,(vals_ok (n+1) f cs h c h' (by simp[valsOf,htab]) hc0).1⟩⟩
   |keep=>exact(hvs f cs h c h' (by simp[valsOf,htab]) hc0 w X S φ us G sq hr).mono fun e w' ⟨u,he,G',E,hr⟩=>⟨u,S,φ,he,by
     obtain rfl:=(vals_ok (n+1) f cs h c h' (by simp[valsOf,htab]) hc0).1;exact G',by
     obtain rfl:=(vals_ok (n+1) f cs h c h' (by simp[valsOf,htab]) hc0).1;exact E,by
     obtain rfl:=(vals_ok (n+1) f cs h c h' (by simp[valsOf,htab]) hc0).1;exact hr,.inl ⟨rfl,rfl,(vals_ok (n+1) f cs h c h' (by simp[valsOf,htab]) hc0).1⟩⟩
  ·cases hc
theorem callAt_ok {tab:Tab}(hmix:P.follows .mixedOrders=true)(ht:TabOk P tab)(n:Nat):CallOk P (callAt P tab n):=(callAt_both hmix ht n).1
end
end Go.Tm
