/- The law returns true at every input. No condition. A part of its proof. -/
import Derived.Test.YtkcimaibaicdcaaI15
set_option linter.unusedSimpArgs false
set_option linter.unusedVariables false
namespace Go.Proofs.Ytkcimaibaicdcaa.Tk
open Go.Tm Go.Tm.Tab
set_option maxRecDepth 100000
abbrev zz:ByteArray:=⟨#[122,122]⟩
abbrev yy:ByteArray:=⟨#[121,121]⟩
abbrev qm:ByteArray:=⟨#[63]⟩
abbrev xx0:ByteArray:=⟨#[120,120,48]⟩
abbrev xx1:ByteArray:=⟨#[120,120,49]⟩
def addW (w:Nat)(s:ByteArray)(m:Tm.Module):Tm.Module:=
 if w=0 then { m with globals:=m.globals++[⟨zz,[]⟩] }
 else if w=1 then { m with externs:=m.externs++[⟨yy,[],3⟩] }
 else if w=2 then { m with globals:=m.globals++[⟨qm,[1]⟩] }
 else { m with tables:=m.tables++[⟨s,[-2]⟩] }
theorem addW0 (s:ByteArray)(m:Tm.Module):addW 0 s m={ m with globals:=m.globals++[⟨zz,[]⟩] }:=rfl
theorem addW1 (s:ByteArray)(m:Tm.Module):addW 1 s m={ m with externs:=m.externs++[⟨yy,[],3⟩] }:=rfl
theorem addW2 (s:ByteArray)(m:Tm.Module):addW 2 s m={ m with globals:=m.globals++[⟨qm,[1]⟩] }:=rfl
theorem addW3 (s:ByteArray)(m:Tm.Module):addW 3 s m={ m with tables:=m.tables++[⟨s,[-2]⟩] }:=rfl
theorem check2 {m:Tm.Module}(h:limitsB m=false):checkN m=2:=by unfold checkN;rw[if_pos h]
theorem check1 {m:Tm.Module}(h:limitsB m=true)(h1:formedB m=false):checkN m=1:=by unfold checkN;rw[if_neg (by rw[h];decide),if_pos h1]
theorem check3 {m:Tm.Module}(h:limitsB m=true)(h1:formedB m=true)(h2:namedB m=false):checkN m=3:=by unfold checkN;rw[if_neg (by rw[h];decide),if_neg (by rw[h1];decide),if_pos h2]
theorem check4 {m:Tm.Module}(h:limitsB m=true)(h1:formedB m=true)(h2:namedB m=true)(h3:knownB m=false):checkN m=4:=by
 unfold checkN;rw[if_neg (by rw[h];decide),if_neg (by rw[h1];decide),if_neg (by rw[h2];decide),if_pos h3]
theorem limits_iff (m:Tm.Module):limitsB m=true↔m.funcs.length≤24∧m.externs.length≤12∧m.globals.length≤12∧m.tables.length≤6∧(∀x∈m.externs,¬ moreX x=true)∧(∀x∈m.globals,¬ moreG x=true)∧(∀x∈m.tables,¬ moreT x=true)∧∀x∈m.funcs,¬ moreF x=true:=by
 unfold limitsB
 simp only[Bool.and_eq_true,Bool.not_eq_true',Bool.or_eq_false_iff,decide_eq_false_iff_not,List.any_eq_false]
 constructor
 ·rintro⟨⟨⟨⟨h1,h2⟩,h3⟩,h4⟩,h5,h6,h7,h8⟩;exact⟨by omega,by omega,by omega,by omega,h5,h6,h7,h8⟩
 ·rintro⟨h1,h2,h3,h4,h5,h6,h7,h8⟩;exact⟨⟨⟨⟨by omega,by omega⟩,by omega⟩,by omega⟩,h5,h6,h7,h8⟩
theorem formed_iff (m:Tm.Module):formedB m=true↔(∀x∈m.externs,¬ badX x=true)∧∀x∈m.funcs,¬ badF x=true:=by
 unfold formedB
 simp only[Bool.and_eq_true,Bool.not_eq_true',List.any_eq_false]
theorem named_iff (m:Tm.Module):namedB m=true↔(∀s∈namesOf m,nameB s=true)∧(namesOf m).Nodup:=by
 unfold namedB
 rw[Bool.not_eq_true',any_no]
 generalize namesOf m=L
 constructor
 ·intro h
  have h':∀(i:Nat) (hi:i<L.length),nameB L[i]=true∧L[i] ∉ L.take i:=fun i hi=>by
   have:=h i hi
   unfold badN at this
   rw[List.getD_eq_getElem?_getD,List.getElem?_eq_getElem hi,Option.getD_some,Bool.or_eq_false_iff,Bool.not_eq_false',decide_eq_false_iff_not] at this
   exact⟨this.1,fun hm=>this.2 (List.count_pos_iff.2 hm)⟩
  refine⟨fun s hs=> ?_,List.pairwise_iff_getElem.2 fun i j hi hj hij e=> ?_⟩
  ·obtain⟨i,hi,rfl⟩:=List.getElem_of_mem hs
   exact(h' i hi).1
  ·exact(h' j hj).2 (List.mem_take_iff_getElem.2 ⟨i,by omega,e⟩)
 ·rintro⟨h1,h2⟩ i hi
  unfold badN
  rw[List.getD_eq_getElem?_getD,List.getElem?_eq_getElem hi,Option.getD_some,Bool.or_eq_false_iff,Bool.not_eq_false',decide_eq_false_iff_not]
  refine⟨h1 _ (List.getElem_mem _),fun hm=> ?_⟩
  obtain⟨j,hj,e⟩:=List.mem_take_iff_getElem.1 (List.count_pos_iff.1 hm)
  exact(List.pairwise_iff_getElem.1 h2) j i (by omega) hi (by omega) e
theorem order_ext {m:Tm.Module}(h:12<m.externs.length):checkN m=2:=check2 (by
 cases c:limitsB m with
 |false=>rfl
 |true=>have:=((limits_iff m).1 c).2.1;omega)
theorem order_check {m:Tm.Module}(h0:checkN m=0)(hg:m.globals.length≤10)(ht:m.tables.length≤4)(n1:xx0 ∉ namesOf m)(n2:xx1 ∉ namesOf m){a b:Nat}(ha:a<4)(hb:b<4)
  (hx:(addW b xx1 (addW a xx0 m)).externs.length≤12):checkN (addW b xx1 (addW a xx0 m))=([2,1,3,4]:List Int).getD (min a b) 0:=by
 obtain⟨h1,h2,h3,h4,_⟩:=check_zero h0
 obtain⟨l1,l2,l3,l4,l5,l6,l7,l8⟩:=(limits_iff m).1 h1
 obtain⟨f1,f2⟩:=(formed_iff m).1 h2
 obtain⟨e1,e2⟩:=(named_iff m).1 h3
 have more1:moreG ⟨zz,[]⟩=true:=rfl
 have more2:¬ moreG ⟨qm,[1]⟩=true:=by decide
 have more3:¬ moreX ⟨yy,[],3⟩=true:=by decide
 have more4:∀s,¬ moreT ⟨s,[-2]⟩=true:=fun s=>by unfold moreT;simp
 have bad1:badX ⟨yy,[],3⟩=true:=by decide
 have nq:nameB qm=false:=by decide
 have nx0:nameB xx0=true:=by decide
 have nx1:nameB xx1=true:=by decide
 have hne:xx0≠xx1:=by decide
 have zero:a=0∨b=0→limitsB (addW b xx1 (addW a xx0 m))=false:=fun hz=>by
  cases c:limitsB (addW b xx1 (addW a xx0 m)) with
  |false=>rfl
  |true=>
   exfalso
   have:=((limits_iff _).1 c).2.2.2.2.2.1 ⟨zz,[]⟩ (by
    rcases hz with rfl|rfl
    ·rcases(by omega:b=0∨b=1∨b=2∨b=3) with rfl|rfl|rfl|rfl<;>simp[addW0,addW1,addW2,addW3]
    ·simp[addW0])
   exact this more1
 have lim:a≠0→b≠0→limitsB (addW b xx1 (addW a xx0 m))=true:=fun ha0 hb0=>by
  rw[limits_iff]
  rcases(by omega:a=1∨a=2∨a=3) with rfl|rfl|rfl<;>rcases(by omega:b=1∨b=2∨b=3) with rfl|rfl|rfl<;>
   simp only[addW1,addW2,addW3,List.length_append,List.length_cons,List.length_nil,List.mem_append,List.mem_singleton,or_imp,forall_and,forall_eq] at hx⊢ <;>
   (refine⟨by omega,by omega,by omega,by omega, ?_, ?_, ?_,l8⟩<;>simp_all only[not_false_eq_true,and_self,implies_true,Bool.not_eq_true])
 have frm:a≠0→b≠0→a=1∨b=1→formedB (addW b xx1 (addW a xx0 m))=false:=fun ha0 hb0 h=>by
  cases c:formedB (addW b xx1 (addW a xx0 m)) with
  |false=>rfl
  |true=>
   exfalso
   refine((formed_iff _).1 c).1 ⟨yy,[],3⟩ ?_ bad1
   rcases(by omega:a=1∨a=2∨a=3) with rfl|rfl|rfl<;>rcases(by omega:b=1∨b=2∨b=3) with rfl|rfl|rfl<;>first|omega|simp[addW1,addW2,addW3]
 have frm':a≠0→b≠0→a≠1→b≠1→formedB (addW b xx1 (addW a xx0 m))=true:=fun ha0 hb0 ha1 hb1=>by
  rw[formed_iff]
  rcases(by omega:a=2∨a=3) with rfl|rfl<;>rcases(by omega:b=2∨b=3) with rfl|rfl<;>exact⟨f1,f2⟩
 have nam:a≠0→b≠0→a≠1→b≠1→a=2∨b=2→namedB (addW b xx1 (addW a xx0 m))=false:=fun ha0 hb0 ha1 hb1 h=>by
  cases c:namedB (addW b xx1 (addW a xx0 m)) with
  |false=>rfl
  |true=>
   exfalso
   have:=((named_iff _).1 c).1 qm (by
    rcases(by omega:a=2∨a=3) with rfl|rfl<;>rcases(by omega:b=2∨b=3) with rfl|rfl<;>first|omega|simp[addW1,addW2,addW3,namesOf])
   rw[nq] at this;cases this
 have nam':a=3→b=3→namedB (addW b xx1 (addW a xx0 m))=true:=fun ha3 hb3=>by
  subst ha3;subst hb3
  have pm:(namesOf (addW 3 xx1 (addW 3 xx0 m))).Perm (xx0::xx1::namesOf m):=by
   simp only[addW3,namesOf,List.map_append,List.map_cons,List.map_nil,List.append_assoc,List.cons_append,List.nil_append]
   rw[←List.append_assoc, ←List.append_assoc, ←List.append_assoc (List.map _ m.externs), ←List.append_assoc (_++_) (List.map _ m.tables)]
   refine List.perm_middle.trans (List.Perm.cons _ ?_)
   exact List.perm_middle
  rw[named_iff,pm.nodup_iff]
  refine⟨fun s hs=> ?_, ?_⟩
  ·rcases List.mem_cons.1 (pm.mem_iff.1 hs) with rfl|hs
   ·exact nx0
   rcases List.mem_cons.1 hs with rfl|hs
   ·exact nx1
   exact e1 s hs
  ·rw[List.nodup_cons,List.nodup_cons]
   exact⟨fun h=>(List.mem_cons.1 h).elim hne n1,n2,e2⟩
 have kno:a=3→b=3→knownB (addW b xx1 (addW a xx0 m))=false:=fun ha3 hb3=>by
  subst ha3;subst hb3
  have bt:∀n,badTb n ⟨xx1,[-2]⟩=true:=fun n=>by unfold badTb badY;simp
  unfold knownB
  rw[Bool.and_eq_false_iff]
  left
  rw[Bool.not_eq_false',List.any_eq_true]
  exact⟨⟨xx1,[-2]⟩,by simp[addW3],bt _⟩
 rcases(by omega:a=0∨b=0∨(a≠0∧b≠0)) with h|h|⟨hp,hq⟩
 ·rw[check2 (zero (.inl h)),show min a b=0 by omega];rfl
 ·rw[check2 (zero (.inr h)),show min a b=0 by omega];rfl
 rcases(by omega:a=1∨b=1∨(a≠1∧b≠1)) with h|h|⟨hr,hs⟩
 ·rw[check1 (lim hp hq) (frm hp hq (.inl h)),show min a b=1 by omega];rfl
 ·rw[check1 (lim hp hq) (frm hp hq (.inr h)),show min a b=1 by omega];rfl
 rcases(by omega:a=2∨b=2∨(a=3∧b=3)) with h|h|⟨ht,hu⟩
 ·rw[check3 (lim hp hq) (frm' hp hq hr hs) (nam hp hq hr hs (.inl h)),show min a b=2 by omega];rfl
 ·rw[check3 (lim hp hq) (frm' hp hq hr hs) (nam hp hq hr hs (.inr h)),show min a b=2 by omega];rfl
 ·rw[check4 (lim hp hq) (frm' hp hq hr hs) (nam' ht hu) (kno ht hu),show min a b=3 by omega];rfl
end Go.Proofs.Ytkcimaibaicdcaa.Tk
namespace Go.Tm
def szF:Nat→Nat
 |0=>3
 |1=>2
 |2=>2
 |_=>5
def kM (m:Module):Nat→Nat
 |0=>m.externs.length
 |1=>m.globals.length
 |2=>m.tables.length
 |_=>m.funcs.length
def vsM (m:Module):Nat→List C
 |0=>m.externs.flatMap encExtern
 |1=>m.globals.flatMap encGlobal
 |2=>m.tables.flatMap encTable
 |_=>m.funcs.flatMap encFunc
structure OAt (h:Heap)(o:Nat)(m:Module)(c:Nat→C):Prop where
 cell:h[o]?=some (.row 0 [c 0,c 1,c 2,c 3])
 parts:∃(X:Nat→Nat→Prop) (col:Nat→Nat),col o=4∧∀j,j<4→RowV h (X j) 3 (szF j) (c j) (kM m j) (vsM m j)∧∀y,X j y∨locC (c j)=some y→col y=j
theorem RowV.deeper {h:Heap}{X:Nat→Prop}{d e s k:Nat}{c:C}{vs:List C}(H:RowV h X d s c k vs)(he:d≤e):RowV h X e s c k vs:=by
 obtain⟨cells,h1,h2,h3,h4⟩:=H
 exact⟨cells,h1,h2,h3,h4.deeper he⟩
theorem OAt.view {h:Heap}{o:Nat}{m:Module}{c:Nat→C}(H:OAt h o m c)(n:Nat):mapC (view false h (n+6)) [.agg [c 0,c 1,c 2,c 3]]=some [.agg (encModule m)]:=by
 obtain⟨X,col,_,hp⟩:=H.parts
 have s:∀j,j<4→Tm.view false h (n+5) (c j)=some (.fs (vsM m j) (kM m j) none):=fun j hj=>by
  have:=(hp j hj).1.sees h (fun _ _=>rfl) (n+1)
  simp only[mapC_cons,mapC_nil,Option.bind_eq_some_iff,Option.some.injEq] at this
  obtain⟨d,hd,_,rfl,hq⟩:=this
  simp only[List.cons.injEq,and_true] at hq
  rw[←hq];exact hd
 rw[mapC_cons,view_agg]
 simp only[mapC_cons,mapC_nil,s 0 (by decide),s 1 (by decide),s 2 (by decide),s 3 (by decide),Option.bind_some,Option.map_some]
 rfl
theorem OAt.append {h pre:Heap}{o:Nat}{m m':Module}{c:Nat→C}(H:OAt h o m c)(j:Nat)(hj:j<4)(hle:h.length≤pre.length)(hpre:∀y,y<h.length→pre[y]?=h[y]?){X':Nat→Prop}{elem ws:List C}(S:Sees pre X' 3 elem ws)
  (hX':∀y,X' y→h.length≤y∧y<pre.length)(he:elem.length=szF j)(hm:kM m j+1≤maxRow)(hk:∀i,i<4→kM m' i=if i=j then kM m j+1 else kM m i)(hv:∀i,i<4→vsM m' i=if i=j then vsM m j++ws else vsM m i):
  ∃h5,appendTo (pre++[.row (szF j) elem]) none (szF j) 1 elem (c j)=some (.os (pre++[Node.row (szF j) elem]).length 0 (kM m j+1) none,h5)∧h5[o]?=some (.row 0 [c 0,c 1,c 2,c 3])∧
   ∀c':Nat→C,(∀i,i<4→c' i=if i=j then .os (pre++[Node.row (szF j) elem]).length 0 (kM m j+1) none else c i)→OAt (h5.set o (.row 0 [c' 0,c' 1,c' 2,c' 3])) o m' c':=by
 obtain⟨hc,X,col,ho,hp⟩:=H
 have hol:=(List.getElem?_eq_some_iff.1 hc).1
 have keep:∀y,y<h.length→(pre++[Node.row (szF j) elem])[y]?=h[y]?:=fun y hy=>by
  rw[List.getElem?_append_left (by omega)];exact hpre y hy
 have ll:(pre++[Node.row (szF j) elem]).length=pre.length+1:=by simp
 have hs:0<szF j:=by unfold szF;split<;>decide
 obtain⟨h5,a1,a2,a3,a4⟩:=((hp j hj).1.mono (h':=pre++[Node.row (szF j) elem]) (by omega) fun l hl _=>keep l hl).append 1 (S.mono (h':=pre++[Node.row (szF j) elem]) fun l hl=>List.getElem?_append_left (hX' l hl).2) (fun y hy=>by have:=hX' y hy;omega)
  (fun l hl hq=>by have:=(hp j hj).1.lt hl;have:=hX' l hq;omega) hs (by decide) (by omega) hm
 have hoj:∀i,i<4→locC (c i)≠some o:=fun i hi e=>by have:=(hp i hi).2 o (.inr e);omega
 have e9:h5[o]?=some (.row 0 [c 0,c 1,c 2,c 3]):=by rw[a3 o (by omega) (hoj j hj),keep o hol];exact hc
 refine⟨h5,a1,e9,fun c' hc'=>⟨List.getElem?_set_self (by omega),fun i y=>if i=j then X j y∨X' y else X i y,fun y=>if y<h.length then col y else j,by dsimp only;rw[if_pos hol];exact ho,fun i hi=> ?_⟩⟩
 by_cases hij:i=j
 ·subst hij
  rw[hc' i hi,hk i hi,hv i hi]
  simp only[if_true]
  refine⟨a4.mono (by rw[List.length_set];omega) fun l _ hl=>List.getElem?_set_ne fun e=> ?_,fun y hy=> ?_⟩
  ·subst e
   rcases hl with (hl|hl)|hl
   ·have:=(hp i hi).2 o (.inl hl);omega
   ·have:=hX' o hl;omega
   ·cases hl;omega
  ·rcases hy with (hy|hy)|hy
   ·have:=(hp i hi).2 y (.inl hy)
    split<;>omega
   ·have:=hX' y hy
    rw[if_neg (by omega)]
   ·cases hy
    rw[if_neg (by omega)]
 ·rw[hc' i hi,hk i hi,hv i hi]
  simp only[if_neg hij]
  obtain⟨cells,q1,q2,q3,q4⟩:=(hp i hi).1
  refine⟨RowV.mono (h:=h) ⟨cells,q1,q2,q3,q4⟩ (by rw[List.length_set];omega) fun l hl hq=> ?_,fun y hy=> ?_⟩
  ·have hcl:=(hp i hi).2 l hq
   rw[List.getElem?_set_ne (fun e=>by subst e;omega),a3 l (by omega) (fun e=>hij (by rw[←hcl];exact(hp j hj).2 l (.inr e))),keep l hl]
  ·have hlt:y<h.length:=hy.elim (q3 y) q1.lt
   rw[if_pos hlt]
   exact(hp i hi).2 y hy
theorem ModAt.oAt {h:Heap}{n0 n1 n2 n3:Nat}{ce cg ct cf:C}{css:List (List C)}{A B:Nat→Nat}{m:Module}(H:ModAt h n0 n1 n2 n3 ce cg ct cf css A B m)(h1:n1≤n2)(h2:n2≤n3)(h3:n3≤h.length)(hn:n0≤n1):
  ∃c:Nat→C,c 0=ce∧c 1=cg∧c 2=ct∧c 3=cf∧OAt (h++[.row 0 [ce,cg,ct,cf]]) h.length m c:=by
 obtain⟨⟨Xe,e1,e2⟩,⟨Xg,g1,g2⟩,⟨Xt,t1,t2⟩,fa⟩:=H
 have f1:=fa.rowV
 have up:∀ {X d s c k vs},RowV h X d s c k vs→RowV (h++[Node.row 0 [ce,cg,ct,cf]]) X d s c k vs:=fun H=>H.mono (by simp) fun l hl _=>List.getElem?_append_left hl
 refine⟨fun i=>match i with|0=>ce|1=>cg|2=>ct|_=>cf,rfl,rfl,rfl,rfl,by simp,fun i=>match i with|0=>Xe|1=>Xg|2=>Xt|_=>fun x=>∃j,j<m.funcs.length∧A j≤x∧x<B j,fun y=>if y<n1 then 0 else if y<n2 then 1 else if y<n3 then 2 else if y<h.length then 3 else 4, ?_,fun j hj=> ?_⟩
 ·dsimp only;rw[if_neg (by omega),if_neg (by omega),if_neg (by omega),if_neg (by omega)]
 rcases(by omega:j=0∨j=1∨j=2∨j=3) with rfl|rfl|rfl|rfl
 ·exact⟨(up e1).deeper (by decide),fun y hy=>by have:=e2 y hy;dsimp only;rw[if_pos (by omega)]⟩
 ·exact⟨(up g1).deeper (by decide),fun y hy=>by have:=g2 y hy;dsimp only;rw[if_neg (by omega),if_pos (by omega)]⟩
 ·exact⟨(up t1).deeper (by decide),fun y hy=>by have:=t2 y hy;dsimp only;rw[if_neg (by omega),if_neg (by omega),if_pos (by omega)]⟩
 ·refine⟨up f1,fun y hy=> ?_⟩
  have:n3≤y∧y<h.length:=by
   rcases hy with ⟨j,hj,hy⟩|hy
   ·have:=fa.mid j hj;omega
   ·have:=fa.far y hy;have:=fa.row.lt hy;omega
  dsimp only;rw[if_neg (by omega),if_neg (by omega),if_neg (by omega),if_pos (by omega)]
end Go.Tm
namespace Go.Proofs.Ytkcimaibaicdcaa.Tk
open Go.Tm Go.Tm.Tab
set_option maxRecDepth 100000
theorem nat0:((0:Nat):Int)=0:=rfl
theorem nat1:((1:Nat):Int)=1:=rfl
theorem nat2:((2:Nat):Int)=2:=rfl
theorem nat3:((3:Nat):Int)=3:=rfl
theorem w01:IntKind.i64.wrap (0+1)=1:=by decide
theorem w11:IntKind.i64.wrap (1+1)=2:=by decide
theorem w480:IntKind.i64.wrap (48+0)=48:=by decide
theorem w481:IntKind.i64.wrap (48+1)=49:=by decide
theorem op_convert {P:Program}{call:CallF}{al:Option Nat}{e:Env}{h:Heap}(s d:TypeId)(x:Operand):stepOp P call al e h (.convert s d x)=(ev e x).bind fun c=>(convC P h s d c).bind fun c'=>some (c',h):=rfl
theorem conv48 {h:Heap}:convC Try.prog h 3 5 (.v (.int .i64 48))=some (.v (.int .u8 48)):=show pureV Try.prog (convert 3 5 (.int .i64 48))=some (.v (.int .u8 48)) by kernel_rfl
theorem conv49 {h:Heap}:convC Try.prog h 3 5 (.v (.int .i64 49))=some (.v (.int .u8 49)):=show pureV Try.prog (convert 3 5 (.int .i64 49))=some (.v (.int .u8 49)) by kernel_rfl
theorem isb:isBytes Try.prog 80 9=true:=by kernel_rfl
theorem conv_os {P:Program}{h:Heap}{s d:TypeId}(l off n:Nat)(cap:Option Nat):convC P h s d (.os l off n cap)=if isBytes P s d=true then(srcOf h 1 (.os l off n cap)).bind fun r=>(bytesOf r.2).map fun ns=>.v (.string (strOf ns)) else none:=rfl
theorem byt48:bytesOf [.v (.int .u8 48)]=some [48]:=rfl
theorem byt49:bytesOf [.v (.int .u8 49)]=some [49]:=rfl
theorem str48:strOf [48]=⟨#[48]⟩:=by rfl
theorem str49:strOf [49]=⟨#[49]⟩:=by rfl
theorem cat48 {x y:Operand}:binC Try.prog .add 9 x y (.v (.string ⟨#[120,120]⟩)) (.v (.string ⟨#[48]⟩))=some (.v (.string ⟨#[120,120,48]⟩)):=by rfl
theorem cat49 {x y:Operand}:binC Try.prog .add 9 x y (.v (.string ⟨#[120,120]⟩)) (.v (.string ⟨#[49]⟩))=some (.v (.string ⟨#[120,120,49]⟩)):=by rfl
set_option maxHeartbeats 2000000 in
theorem order_s00 {k:Nat} {m:Tm.Module} {h:Heap} {o:Nat} {c:Nat→C} (H:OAt h o m c) (hm:m.globals.length≤20) (b:Int):
  ∃c' h',exec Try.prog (valsOf tab) (callAt Try.prog tab k) k k14b0 ⟨[(1,int 0),(2,int b),(7,.op o 0),(8,int 0)],h⟩=some (.normal,⟨[(1,int 0),(2,int b),(7,.op o 0),(8,int 1)],h'⟩)∧OAt h' o (addW 0 xx0 m) c':=by
 have hmr:(2:Nat)^22<maxRow:=by decide
 have ll:(h++[Tm.Node.row 1 [C.v (.int .u8 48)]]).length=h.length+1:=by simp
 obtain⟨h5,a1,e9,fin⟩:=H.append 1 (by decide) (pre:=h) (X':=fun _=>False) (elem:=[str (⟨#[122,122]⟩:ByteArray),(.v (.slice none 0 0))]) (ws:=[str zz,ints []]) (m':=addW 0 xx0 m) (by simp) (fun y hy=>by first|rfl|(rw[List.getElem?_append_left (by simp;omega),List.getElem?_append_left hy])|exact List.getElem?_append_left hy)
  ((Sees.str (by decide)).cons (fun g hg n=>rfl)) (fun y hy=>by first|exact hy.elim|(subst hy;simp)) rfl (by show m.globals.length+1≤maxRow;omega)
  (fun i hi=>by rcases(by omega:i=0∨i=1∨i=2∨i=3) with rfl|rfl|rfl|rfl<;>first|rfl|(simp[addW0,kM]))
  (fun i hi=>by rcases(by omega:i=0∨i=1∨i=2∨i=3) with rfl|rfl|rfl|rfl<;>first|rfl|(simp[addW0,vsM,encExtern,encGlobal,encTable]))
 have a2:appendTo (h++[Tm.Node.row 2 [str (⟨#[122,122]⟩:ByteArray),(.v (.slice none 0 0))]]) none 2 1 [str (⟨#[122,122]⟩:ByteArray),(.v (.slice none 0 0))] (c 1)=some ((.os (h++[Tm.Node.row 2 [str (⟨#[122,122]⟩:ByteArray),(.v (.slice none 0 0))]]).length 0 (m.globals.length+1) none),h5):=a1
 have g:=H.cell
 have gp:=fun N:Tm.Node=>show(h++[N])[o]?=some (.row 0 [c 0,c 1,c 2,c 3]) by rw[List.getElem?_append_left (List.getElem?_eq_some_iff.1 g).1];exact g
 refine⟨fun i=>if i=1 then(.os (h++[Tm.Node.row 2 [str (⟨#[122,122]⟩:ByteArray),(.v (.slice none 0 0))]]).length 0 (m.globals.length+1) none) else c i,h5.set o (Tm.Node.row 0 [c 0,(.os (h++[Tm.Node.row 2 [str (⟨#[122,122]⟩:ByteArray),(.v (.slice none 0 0))]]).length 0 (m.globals.length+1) none),c 2,c 3]), ?_,fin _ fun i _=>rfl⟩
 simp +decide -implicitDefEqProofs only[k14b0,go_sem,g,gp,a2,e9,w01,w11,w480,w481,op_convert,conv48,conv49,isb,conv_os,byt48,byt49,str48,str49,cat48,cat49]
set_option maxHeartbeats 2000000 in
theorem order_s01 {k:Nat} {m:Tm.Module} {h:Heap} {o:Nat} {c:Nat→C} (H:OAt h o m c) (hm:m.externs.length≤20) (b:Int):
  ∃c' h',exec Try.prog (valsOf tab) (callAt Try.prog tab k) k k14b0 ⟨[(1,int 1),(2,int b),(7,.op o 0),(8,int 0)],h⟩=some (.normal,⟨[(1,int 1),(2,int b),(7,.op o 0),(8,int 1)],h'⟩)∧OAt h' o (addW 1 xx0 m) c':=by
 have hmr:(2:Nat)^22<maxRow:=by decide
 have ll:(h++[Tm.Node.row 1 [C.v (.int .u8 48)]]).length=h.length+1:=by simp
 obtain⟨h5,a1,e9,fin⟩:=H.append 0 (by decide) (pre:=h) (X':=fun _=>False) (elem:=[str (⟨#[121,121]⟩:ByteArray),(.v (.slice none 0 0)),int 3]) (ws:=[str yy,ints [],int 3]) (m':=addW 1 xx0 m) (by simp) (fun y hy=>by first|rfl|(rw[List.getElem?_append_left (by simp;omega),List.getElem?_append_left hy])|exact List.getElem?_append_left hy)
  ((Sees.str (by decide)).cons (fun g hg n=>rfl)) (fun y hy=>by first|exact hy.elim|(subst hy;simp)) rfl (by show m.externs.length+1≤maxRow;omega)
  (fun i hi=>by rcases(by omega:i=0∨i=1∨i=2∨i=3) with rfl|rfl|rfl|rfl<;>first|rfl|(simp[addW1,kM]))
  (fun i hi=>by rcases(by omega:i=0∨i=1∨i=2∨i=3) with rfl|rfl|rfl|rfl<;>first|rfl|(simp[addW1,vsM,encExtern,encGlobal,encTable]))
 have a2:appendTo (h++[Tm.Node.row 3 [str (⟨#[121,121]⟩:ByteArray),(.v (.slice none 0 0)),int 3]]) none 3 1 [str (⟨#[121,121]⟩:ByteArray),(.v (.slice none 0 0)),int 3] (c 0)=some ((.os (h++[Tm.Node.row 3 [str (⟨#[121,121]⟩:ByteArray),(.v (.slice none 0 0)),int 3]]).length 0 (m.externs.length+1) none),h5):=a1
 have g:=H.cell
 have gp:=fun N:Tm.Node=>show(h++[N])[o]?=some (.row 0 [c 0,c 1,c 2,c 3]) by rw[List.getElem?_append_left (List.getElem?_eq_some_iff.1 g).1];exact g
 refine⟨fun i=>if i=0 then(.os (h++[Tm.Node.row 3 [str (⟨#[121,121]⟩:ByteArray),(.v (.slice none 0 0)),int 3]]).length 0 (m.externs.length+1) none) else c i,h5.set o (Tm.Node.row 0 [(.os (h++[Tm.Node.row 3 [str (⟨#[121,121]⟩:ByteArray),(.v (.slice none 0 0)),int 3]]).length 0 (m.externs.length+1) none),c 1,c 2,c 3]), ?_,fin _ fun i _=>rfl⟩
 simp +decide -implicitDefEqProofs only[k14b0,go_sem,g,gp,a2,e9,w01,w11,w480,w481,op_convert,conv48,conv49,isb,conv_os,byt48,byt49,str48,str49,cat48,cat49]
set_option maxHeartbeats 2000000 in
theorem order_s02 {k:Nat} {m:Tm.Module} {h:Heap} {o:Nat} {c:Nat→C} (H:OAt h o m c) (hm:m.globals.length≤20) (b:Int):
  ∃c' h',exec Try.prog (valsOf tab) (callAt Try.prog tab k) k k14b0 ⟨[(1,int 2),(2,int b),(7,.op o 0),(8,int 0)],h⟩=some (.normal,⟨[(1,int 2),(2,int b),(7,.op o 0),(8,int 1)],h'⟩)∧OAt h' o (addW 2 xx0 m) c':=by
 have hmr:(2:Nat)^22<maxRow:=by decide
 have ll:(h++[Tm.Node.row 1 [C.v (.int .u8 48)]]).length=h.length+1:=by simp
 obtain⟨h5,a1,e9,fin⟩:=H.append 1 (by decide) (pre:=(h++[Tm.Node.row 1 [int 1]])) (X':=fun y=>y=h.length) (elem:=[str (⟨#[63]⟩:ByteArray),.os h.length 0 1 (some 1)]) (ws:=[str qm,ints [1]]) (m':=addW 2 xx0 m) (by simp) (fun y hy=>by first|rfl|(rw[List.getElem?_append_left (by simp;omega),List.getElem?_append_left hy])|exact List.getElem?_append_left hy)
  ((Sees.str (by decide)).cons fun g hg n=>by rw[mapC_cons,mapC_nil,show(1:Nat)=[(1:Int)].length from rfl,view_os_ints (n:=n+1) (xs:=[1]) (by rw[hg _ rfl];simp)];rfl) (fun y hy=>by first|exact hy.elim|(subst hy;simp)) rfl (by show m.globals.length+1≤maxRow;omega)
  (fun i hi=>by rcases(by omega:i=0∨i=1∨i=2∨i=3) with rfl|rfl|rfl|rfl<;>first|rfl|(simp[addW2,kM]))
  (fun i hi=>by rcases(by omega:i=0∨i=1∨i=2∨i=3) with rfl|rfl|rfl|rfl<;>first|rfl|(simp[addW2,vsM,encExtern,encGlobal,encTable]))
 have a2:appendTo ((h++[Tm.Node.row 1 [int 1]])++[Tm.Node.row 2 [str (⟨#[63]⟩:ByteArray),.os h.length 0 1 (some 1)]]) none 2 1 [str (⟨#[63]⟩:ByteArray),.os h.length 0 1 (some 1)] (c 1)=some ((.os ((h++[Tm.Node.row 1 [int 1]])++[Tm.Node.row 2 [str (⟨#[63]⟩:ByteArray),.os h.length 0 1 (some 1)]]).length 0 (m.globals.length+1) none),h5):=a1
 have g:=H.cell
 have gp:=fun N:Tm.Node=>show(h++[N])[o]?=some (.row 0 [c 0,c 1,c 2,c 3]) by rw[List.getElem?_append_left (List.getElem?_eq_some_iff.1 g).1];exact g
 refine⟨fun i=>if i=1 then(.os ((h++[Tm.Node.row 1 [int 1]])++[Tm.Node.row 2 [str (⟨#[63]⟩:ByteArray),.os h.length 0 1 (some 1)]]).length 0 (m.globals.length+1) none) else c i,h5.set o (Tm.Node.row 0 [c 0,(.os ((h++[Tm.Node.row 1 [int 1]])++[Tm.Node.row 2 [str (⟨#[63]⟩:ByteArray),.os h.length 0 1 (some 1)]]).length 0 (m.globals.length+1) none),c 2,c 3]), ?_,fin _ fun i _=>rfl⟩
 simp +decide -implicitDefEqProofs only[k14b0,go_sem,g,gp,a2,e9,w01,w11,w480,w481,op_convert,conv48,conv49,isb,conv_os,byt48,byt49,str48,str49,cat48,cat49]
set_option maxHeartbeats 2000000 in
theorem order_s03 {k:Nat} {m:Tm.Module} {h:Heap} {o:Nat} {c:Nat→C} (H:OAt h o m c) (hm:m.tables.length≤20) (b:Int):
  ∃c' h',exec Try.prog (valsOf tab) (callAt Try.prog tab k) k k14b0 ⟨[(1,int 3),(2,int b),(7,.op o 0),(8,int 0)],h⟩=some (.normal,⟨[(1,int 3),(2,int b),(7,.op o 0),(8,int 1)],h'⟩)∧OAt h' o (addW 3 xx0 m) c':=by
 have hmr:(2:Nat)^22<maxRow:=by decide
 have ll:(h++[Tm.Node.row 1 [C.v (.int .u8 48)]]).length=h.length+1:=by simp
 obtain⟨h5,a1,e9,fin⟩:=H.append 2 (by decide) (pre:=(h++[Tm.Node.row 1 [.v (.int .u8 48)]]++[Tm.Node.row 1 [int (-2)]])) (X':=fun y=>y=h.length+1) (elem:=[str (⟨#[120,120,48]⟩:ByteArray),.os (h++[Tm.Node.row 1 [.v (.int .u8 48)]]).length 0 1 (some 1)]) (ws:=[str xx0,ints [-2]]) (m':=addW 3 xx0 m) (by simp) (fun y hy=>by first|rfl|(rw[List.getElem?_append_left (by simp;omega),List.getElem?_append_left hy])|exact List.getElem?_append_left hy)
  ((Sees.str (by decide)).cons fun g hg n=>by have hv:Tm.view false g (n+3) (.os (h.length+1) 0 1 (some 1))=some (ints [-2]):=view_os_ints (n:=n+1) (xs:=[-2]) (by rw[hg _ rfl];simp);rw[mapC_cons,mapC_nil,ll,hv];rfl) (fun y hy=>by first|exact hy.elim|(subst hy;simp)) rfl (by show m.tables.length+1≤maxRow;omega)
  (fun i hi=>by rcases(by omega:i=0∨i=1∨i=2∨i=3) with rfl|rfl|rfl|rfl<;>first|rfl|(simp[addW3,kM]))
  (fun i hi=>by rcases(by omega:i=0∨i=1∨i=2∨i=3) with rfl|rfl|rfl|rfl<;>first|rfl|(simp[addW3,vsM,encExtern,encGlobal,encTable]))
 have a2:appendTo ((h++[Tm.Node.row 1 [.v (.int .u8 48)]]++[Tm.Node.row 1 [int (-2)]])++[Tm.Node.row 2 [str (⟨#[120,120,48]⟩:ByteArray),.os (h++[Tm.Node.row 1 [.v (.int .u8 48)]]).length 0 1 (some 1)]]) none 2 1 [str (⟨#[120,120,48]⟩:ByteArray),.os (h++[Tm.Node.row 1 [.v (.int .u8 48)]]).length 0 1 (some 1)] (c 2)=some ((.os ((h++[Tm.Node.row 1 [.v (.int .u8 48)]]++[Tm.Node.row 1 [int (-2)]])++[Tm.Node.row 2 [str (⟨#[120,120,48]⟩:ByteArray),.os (h++[Tm.Node.row 1 [.v (.int .u8 48)]]).length 0 1 (some 1)]]).length 0 (m.tables.length+1) none),h5):=a1
 have g:=H.cell
 have gp:=fun N:Tm.Node=>show(h++[N])[o]?=some (.row 0 [c 0,c 1,c 2,c 3]) by rw[List.getElem?_append_left (List.getElem?_eq_some_iff.1 g).1];exact g
 refine⟨fun i=>if i=2 then(.os ((h++[Tm.Node.row 1 [.v (.int .u8 48)]]++[Tm.Node.row 1 [int (-2)]])++[Tm.Node.row 2 [str (⟨#[120,120,48]⟩:ByteArray),.os (h++[Tm.Node.row 1 [.v (.int .u8 48)]]).length 0 1 (some 1)]]).length 0 (m.tables.length+1) none) else c i,h5.set o (Tm.Node.row 0 [c 0,c 1,(.os ((h++[Tm.Node.row 1 [.v (.int .u8 48)]]++[Tm.Node.row 1 [int (-2)]])++[Tm.Node.row 2 [str (⟨#[120,120,48]⟩:ByteArray),.os (h++[Tm.Node.row 1 [.v (.int .u8 48)]]).length 0 1 (some 1)]]).length 0 (m.tables.length+1) none),c 3]), ?_,fin _ fun i _=>rfl⟩
 simp +decide -implicitDefEqProofs only[k14b0,go_sem,g,gp,a2,e9,w01,w11,w480,w481,op_convert,conv48,conv49,isb,conv_os,byt48,byt49,str48,str49,cat48,cat49]
set_option maxHeartbeats 2000000 in
theorem order_s10 {k:Nat} {m:Tm.Module} {h:Heap} {o:Nat} {c:Nat→C} (H:OAt h o m c) (hm:m.globals.length≤20) (a:Int):
  ∃c' h',exec Try.prog (valsOf tab) (callAt Try.prog tab k) k k14b0 ⟨[(1,int a),(2,int 0),(7,.op o 0),(8,int 1)],h⟩=some (.normal,⟨[(1,int a),(2,int 0),(7,.op o 0),(8,int 2)],h'⟩)∧OAt h' o (addW 0 xx1 m) c':=by
 have hmr:(2:Nat)^22<maxRow:=by decide
 have ll:(h++[Tm.Node.row 1 [C.v (.int .u8 49)]]).length=h.length+1:=by simp
 obtain⟨h5,a1,e9,fin⟩:=H.append 1 (by decide) (pre:=h) (X':=fun _=>False) (elem:=[str (⟨#[122,122]⟩:ByteArray),(.v (.slice none 0 0))]) (ws:=[str zz,ints []]) (m':=addW 0 xx1 m) (by simp) (fun y hy=>by first|rfl|(rw[List.getElem?_append_left (by simp;omega),List.getElem?_append_left hy])|exact List.getElem?_append_left hy)
  ((Sees.str (by decide)).cons (fun g hg n=>rfl)) (fun y hy=>by first|exact hy.elim|(subst hy;simp)) rfl (by show m.globals.length+1≤maxRow;omega)
  (fun i hi=>by rcases(by omega:i=0∨i=1∨i=2∨i=3) with rfl|rfl|rfl|rfl<;>first|rfl|(simp[addW0,kM]))
  (fun i hi=>by rcases(by omega:i=0∨i=1∨i=2∨i=3) with rfl|rfl|rfl|rfl<;>first|rfl|(simp[addW0,vsM,encExtern,encGlobal,encTable]))
 have a2:appendTo (h++[Tm.Node.row 2 [str (⟨#[122,122]⟩:ByteArray),(.v (.slice none 0 0))]]) none 2 1 [str (⟨#[122,122]⟩:ByteArray),(.v (.slice none 0 0))] (c 1)=some ((.os (h++[Tm.Node.row 2 [str (⟨#[122,122]⟩:ByteArray),(.v (.slice none 0 0))]]).length 0 (m.globals.length+1) none),h5):=a1
 have g:=H.cell
 have gp:=fun N:Tm.Node=>show(h++[N])[o]?=some (.row 0 [c 0,c 1,c 2,c 3]) by rw[List.getElem?_append_left (List.getElem?_eq_some_iff.1 g).1];exact g
 refine⟨fun i=>if i=1 then(.os (h++[Tm.Node.row 2 [str (⟨#[122,122]⟩:ByteArray),(.v (.slice none 0 0))]]).length 0 (m.globals.length+1) none) else c i,h5.set o (Tm.Node.row 0 [c 0,(.os (h++[Tm.Node.row 2 [str (⟨#[122,122]⟩:ByteArray),(.v (.slice none 0 0))]]).length 0 (m.globals.length+1) none),c 2,c 3]), ?_,fin _ fun i _=>rfl⟩
 simp +decide -implicitDefEqProofs only[k14b0,go_sem,g,gp,a2,e9,w01,w11,w480,w481,op_convert,conv48,conv49,isb,conv_os,byt48,byt49,str48,str49,cat48,cat49]
set_option maxHeartbeats 2000000 in
theorem order_s11 {k:Nat} {m:Tm.Module} {h:Heap} {o:Nat} {c:Nat→C} (H:OAt h o m c) (hm:m.externs.length≤20) (a:Int):
  ∃c' h',exec Try.prog (valsOf tab) (callAt Try.prog tab k) k k14b0 ⟨[(1,int a),(2,int 1),(7,.op o 0),(8,int 1)],h⟩=some (.normal,⟨[(1,int a),(2,int 1),(7,.op o 0),(8,int 2)],h'⟩)∧OAt h' o (addW 1 xx1 m) c':=by
 have hmr:(2:Nat)^22<maxRow:=by decide
 have ll:(h++[Tm.Node.row 1 [C.v (.int .u8 49)]]).length=h.length+1:=by simp
 obtain⟨h5,a1,e9,fin⟩:=H.append 0 (by decide) (pre:=h) (X':=fun _=>False) (elem:=[str (⟨#[121,121]⟩:ByteArray),(.v (.slice none 0 0)),int 3]) (ws:=[str yy,ints [],int 3]) (m':=addW 1 xx1 m) (by simp) (fun y hy=>by first|rfl|(rw[List.getElem?_append_left (by simp;omega),List.getElem?_append_left hy])|exact List.getElem?_append_left hy)
  ((Sees.str (by decide)).cons (fun g hg n=>rfl)) (fun y hy=>by first|exact hy.elim|(subst hy;simp)) rfl (by show m.externs.length+1≤maxRow;omega)
  (fun i hi=>by rcases(by omega:i=0∨i=1∨i=2∨i=3) with rfl|rfl|rfl|rfl<;>first|rfl|(simp[addW1,kM]))
  (fun i hi=>by rcases(by omega:i=0∨i=1∨i=2∨i=3) with rfl|rfl|rfl|rfl<;>first|rfl|(simp[addW1,vsM,encExtern,encGlobal,encTable]))
 have a2:appendTo (h++[Tm.Node.row 3 [str (⟨#[121,121]⟩:ByteArray),(.v (.slice none 0 0)),int 3]]) none 3 1 [str (⟨#[121,121]⟩:ByteArray),(.v (.slice none 0 0)),int 3] (c 0)=some ((.os (h++[Tm.Node.row 3 [str (⟨#[121,121]⟩:ByteArray),(.v (.slice none 0 0)),int 3]]).length 0 (m.externs.length+1) none),h5):=a1
 have g:=H.cell
 have gp:=fun N:Tm.Node=>show(h++[N])[o]?=some (.row 0 [c 0,c 1,c 2,c 3]) by rw[List.getElem?_append_left (List.getElem?_eq_some_iff.1 g).1];exact g
 refine⟨fun i=>if i=0 then(.os (h++[Tm.Node.row 3 [str (⟨#[121,121]⟩:ByteArray),(.v (.slice none 0 0)),int 3]]).length 0 (m.externs.length+1) none) else c i,h5.set o (Tm.Node.row 0 [(.os (h++[Tm.Node.row 3 [str (⟨#[121,121]⟩:ByteArray),(.v (.slice none 0 0)),int 3]]).length 0 (m.externs.length+1) none),c 1,c 2,c 3]), ?_,fin _ fun i _=>rfl⟩
 simp +decide -implicitDefEqProofs only[k14b0,go_sem,g,gp,a2,e9,w01,w11,w480,w481,op_convert,conv48,conv49,isb,conv_os,byt48,byt49,str48,str49,cat48,cat49]
set_option maxHeartbeats 2000000 in
theorem order_s12 {k:Nat} {m:Tm.Module} {h:Heap} {o:Nat} {c:Nat→C} (H:OAt h o m c) (hm:m.globals.length≤20) (a:Int):
  ∃c' h',exec Try.prog (valsOf tab) (callAt Try.prog tab k) k k14b0 ⟨[(1,int a),(2,int 2),(7,.op o 0),(8,int 1)],h⟩=some (.normal,⟨[(1,int a),(2,int 2),(7,.op o 0),(8,int 2)],h'⟩)∧OAt h' o (addW 2 xx1 m) c':=by
 have hmr:(2:Nat)^22<maxRow:=by decide
 have ll:(h++[Tm.Node.row 1 [C.v (.int .u8 49)]]).length=h.length+1:=by simp
 obtain⟨h5,a1,e9,fin⟩:=H.append 1 (by decide) (pre:=(h++[Tm.Node.row 1 [int 1]])) (X':=fun y=>y=h.length) (elem:=[str (⟨#[63]⟩:ByteArray),.os h.length 0 1 (some 1)]) (ws:=[str qm,ints [1]]) (m':=addW 2 xx1 m) (by simp) (fun y hy=>by first|rfl|(rw[List.getElem?_append_left (by simp;omega),List.getElem?_append_left hy])|exact List.getElem?_append_left hy)
  ((Sees.str (by decide)).cons fun g hg n=>by rw[mapC_cons,mapC_nil,show(1:Nat)=[(1:Int)].length from rfl,view_os_ints (n:=n+1) (xs:=[1]) (by rw[hg _ rfl];simp)];rfl) (fun y hy=>by first|exact hy.elim|(subst hy;simp)) rfl (by show m.globals.length+1≤maxRow;omega)
  (fun i hi=>by rcases(by omega:i=0∨i=1∨i=2∨i=3) with rfl|rfl|rfl|rfl<;>first|rfl|(simp[addW2,kM]))
  (fun i hi=>by rcases(by omega:i=0∨i=1∨i=2∨i=3) with rfl|rfl|rfl|rfl<;>first|rfl|(simp[addW2,vsM,encExtern,encGlobal,encTable]))
 have a2:appendTo ((h++[Tm.Node.row 1 [int 1]])++[Tm.Node.row 2 [str (⟨#[63]⟩:ByteArray),.os h.length 0 1 (some 1)]]) none 2 1 [str (⟨#[63]⟩:ByteArray),.os h.length 0 1 (some 1)] (c 1)=some ((.os ((h++[Tm.Node.row 1 [int 1]])++[Tm.Node.row 2 [str (⟨#[63]⟩:ByteArray),.os h.length 0 1 (some 1)]]).length 0 (m.globals.length+1) none),h5):=a1
 have g:=H.cell
 have gp:=fun N:Tm.Node=>show(h++[N])[o]?=some (.row 0 [c 0,c 1,c 2,c 3]) by rw[List.getElem?_append_left (List.getElem?_eq_some_iff.1 g).1];exact g
 refine⟨fun i=>if i=1 then(.os ((h++[Tm.Node.row 1 [int 1]])++[Tm.Node.row 2 [str (⟨#[63]⟩:ByteArray),.os h.length 0 1 (some 1)]]).length 0 (m.globals.length+1) none) else c i,h5.set o (Tm.Node.row 0 [c 0,(.os ((h++[Tm.Node.row 1 [int 1]])++[Tm.Node.row 2 [str (⟨#[63]⟩:ByteArray),.os h.length 0 1 (some 1)]]).length 0 (m.globals.length+1) none),c 2,c 3]), ?_,fin _ fun i _=>rfl⟩
 simp +decide -implicitDefEqProofs only[k14b0,go_sem,g,gp,a2,e9,w01,w11,w480,w481,op_convert,conv48,conv49,isb,conv_os,byt48,byt49,str48,str49,cat48,cat49]
set_option maxHeartbeats 2000000 in
theorem order_s13 {k:Nat} {m:Tm.Module} {h:Heap} {o:Nat} {c:Nat→C} (H:OAt h o m c) (hm:m.tables.length≤20) (a:Int):
  ∃c' h',exec Try.prog (valsOf tab) (callAt Try.prog tab k) k k14b0 ⟨[(1,int a),(2,int 3),(7,.op o 0),(8,int 1)],h⟩=some (.normal,⟨[(1,int a),(2,int 3),(7,.op o 0),(8,int 2)],h'⟩)∧OAt h' o (addW 3 xx1 m) c':=by
 have hmr:(2:Nat)^22<maxRow:=by decide
 have ll:(h++[Tm.Node.row 1 [C.v (.int .u8 49)]]).length=h.length+1:=by simp
 obtain⟨h5,a1,e9,fin⟩:=H.append 2 (by decide) (pre:=(h++[Tm.Node.row 1 [.v (.int .u8 49)]]++[Tm.Node.row 1 [int (-2)]])) (X':=fun y=>y=h.length+1) (elem:=[str (⟨#[120,120,49]⟩:ByteArray),.os (h++[Tm.Node.row 1 [.v (.int .u8 49)]]).length 0 1 (some 1)]) (ws:=[str xx1,ints [-2]]) (m':=addW 3 xx1 m) (by simp) (fun y hy=>by first|rfl|(rw[List.getElem?_append_left (by simp;omega),List.getElem?_append_left hy])|exact List.getElem?_append_left hy)
  ((Sees.str (by decide)).cons fun g hg n=>by have hv:Tm.view false g (n+3) (.os (h.length+1) 0 1 (some 1))=some (ints [-2]):=view_os_ints (n:=n+1) (xs:=[-2]) (by rw[hg _ rfl];simp);rw[mapC_cons,mapC_nil,ll,hv];rfl) (fun y hy=>by first|exact hy.elim|(subst hy;simp)) rfl (by show m.tables.length+1≤maxRow;omega)
  (fun i hi=>by rcases(by omega:i=0∨i=1∨i=2∨i=3) with rfl|rfl|rfl|rfl<;>first|rfl|(simp[addW3,kM]))
  (fun i hi=>by rcases(by omega:i=0∨i=1∨i=2∨i=3) with rfl|rfl|rfl|rfl<;>first|rfl|(simp[addW3,vsM,encExtern,encGlobal,encTable]))
 have a2:appendTo ((h++[Tm.Node.row 1 [.v (.int .u8 49)]]++[Tm.Node.row 1 [int (-2)]])++[Tm.Node.row 2 [str (⟨#[120,120,49]⟩:ByteArray),.os (h++[Tm.Node.row 1 [.v (.int .u8 49)]]).length 0 1 (some 1)]]) none 2 1 [str (⟨#[120,120,49]⟩:ByteArray),.os (h++[Tm.Node.row 1 [.v (.int .u8 49)]]).length 0 1 (some 1)] (c 2)=some ((.os ((h++[Tm.Node.row 1 [.v (.int .u8 49)]]++[Tm.Node.row 1 [int (-2)]])++[Tm.Node.row 2 [str (⟨#[120,120,49]⟩:ByteArray),.os (h++[Tm.Node.row 1 [.v (.int .u8 49)]]).length 0 1 (some 1)]]).length 0 (m.tables.length+1) none),h5):=a1
 have g:=H.cell
 have gp:=fun N:Tm.Node=>show(h++[N])[o]?=some (.row 0 [c 0,c 1,c 2,c 3]) by rw[List.getElem?_append_left (List.getElem?_eq_some_iff.1 g).1];exact g
 refine⟨fun i=>if i=2 then(.os ((h++[Tm.Node.row 1 [.v (.int .u8 49)]]++[Tm.Node.row 1 [int (-2)]])++[Tm.Node.row 2 [str (⟨#[120,120,49]⟩:ByteArray),.os (h++[Tm.Node.row 1 [.v (.int .u8 49)]]).length 0 1 (some 1)]]).length 0 (m.tables.length+1) none) else c i,h5.set o (Tm.Node.row 0 [c 0,c 1,(.os ((h++[Tm.Node.row 1 [.v (.int .u8 49)]]++[Tm.Node.row 1 [int (-2)]])++[Tm.Node.row 2 [str (⟨#[120,120,49]⟩:ByteArray),.os (h++[Tm.Node.row 1 [.v (.int .u8 49)]]).length 0 1 (some 1)]]).length 0 (m.tables.length+1) none),c 3]), ?_,fin _ fun i _=>rfl⟩
 simp +decide -implicitDefEqProofs only[k14b0,go_sem,g,gp,a2,e9,w01,w11,w480,w481,op_convert,conv48,conv49,isb,conv_os,byt48,byt49,str48,str49,cat48,cat49]
end Go.Proofs.Ytkcimaibaicdcaa.Tk
namespace Go.Proofs.Ytkcimaibaicdcaa.Tk
open Go.Tm Go.Tm.Tab
set_option maxRecDepth 100000
theorem i64_and255 (n:Int):0≤Go.bits .and .i64 n 255:=by
 have h:(BitVec.ofInt 64 255).toNat=2^8-1:=by decide
 have key:(BitVec.ofInt 64 n &&& BitVec.ofInt 64 255).toNat=(n % ((2^64:Nat):Int)).toNat % 2^8:=by
  rw[BitVec.toNat_and,BitVec.toNat_ofInt,h,Nat.and_two_pow_sub_one_eq_mod]
 have e:Go.bits .and .i64 n 255=n % 256:=by
  show IntKind.i64.wrap ((BitVec.ofInt 64 n &&& BitVec.ofInt 64 255).toNat:Nat)=n % 256
  rw[key,IntKind.wrap_i64]
  omega
 omega
theorem low4 (x:Int):∃a:Nat,a<4∧Int.tmod (Go.bits .and .i64 x 255) 4=(a:Int):=by
 have h1:=Int.tmod_nonneg 4 (i64_and255 x)
 have h2:=Int.tmod_lt_of_pos (Go.bits .and .i64 x 255) (show(0:Int)<4 by decide)
 exact⟨(Int.tmod (Go.bits .and .i64 x 255) 4).toNat,by omega,by omega⟩
theorem addW_le (w:Nat)(s:ByteArray)(m:Tm.Module):(addW w s m).externs.length≤m.externs.length+1∧(addW w s m).globals.length≤m.globals.length+1∧(addW w s m).tables.length≤m.tables.length+1∧(addW w s m).funcs=m.funcs:=by
 unfold addW
 split
 ·simp
 split
 ·simp
 split<;>simp
theorem addW_fine {w:Nat}{s:ByteArray}{m:Tm.Module}(F:FineM m)(h1:m.externs.length≤13)(h2:m.globals.length≤13)(h3:m.tables.length≤7)(hs:s.size≤40):FineM (addW w s m):=by
 obtain⟨e1,e2,e3,e4⟩:=addW_le w s m
 refine⟨by omega,by omega,by omega,by rw[e4];exact F.funcs,fun x hx=> ?_,fun x hx=> ?_,fun x hx=> ?_,fun x hx=>F.fn x (by rw[←e4];exact hx)⟩
 all_goals
  unfold addW at hx
  repeat' split at hx
  all_goals first
   |exact F.ext x hx
   |exact F.glo x hx
   |exact F.tbl x hx
   |(rcases List.mem_append.1 hx with hx|hx<;>first|exact F.ext x hx|exact F.glo x hx|exact F.tbl x hx|(rw[List.mem_singleton] at hx;subst hx;first|exact⟨by decide,by decide⟩|exact⟨hs,by simp⟩))
theorem order_l {k:Nat}(hk:20≤k){m:Tm.Module}{h:Heap}{o:Nat}{c:Nat→C}(H:OAt h o m c)(h1:m.externs.length≤18)(h2:m.globals.length≤18)(h3:m.tables.length≤18){a b:Nat}(ha:a<4)(hb:b<4):
  ∃c' h',Tm.Loop Try.prog (valsOf tab) (callAt Try.prog tab k) k [1,2,7,8] k14b0 k ⟨[(1,int a),(2,int b),(7,.op o 0),(8,int 0)],h⟩=some (.exit 0,⟨[(1,int a),(2,int b),(7,.op o 0),(8,int 2),(53,bool false)],h'⟩)∧OAt h' o (addW b xx1 (addW a xx0 m)) c':=by
 obtain⟨k',rfl⟩:∃k',k=k'+3:=⟨k-3,by omega⟩
 obtain⟨c1,g1,s1,H1⟩:∃c' h',exec Try.prog (valsOf tab) (callAt Try.prog tab (k'+3)) (k'+3) k14b0 ⟨[(1,int a),(2,int b),(7,.op o 0),(8,int 0)],h⟩=some (.normal,⟨[(1,int a),(2,int b),(7,.op o 0),(8,int 1)],h'⟩)∧OAt h' o (addW a xx0 m) c':=by
  rcases(by omega:a=0∨a=1∨a=2∨a=3) with rfl|rfl|rfl|rfl
  ·exact order_s00 H (by omega) b
  ·exact order_s01 H (by omega) b
  ·exact order_s02 H (by omega) b
  ·exact order_s03 H (by omega) b
 obtain⟨e1,e2,e3,e4⟩:=addW_le a xx0 m
 obtain⟨c2,g2,s2,H2⟩:∃c' h',exec Try.prog (valsOf tab) (callAt Try.prog tab (k'+3)) (k'+3) k14b0 ⟨[(1,int a),(2,int b),(7,.op o 0),(8,int 1)],g1⟩=some (.normal,⟨[(1,int a),(2,int b),(7,.op o 0),(8,int 2)],h'⟩)∧OAt h' o (addW b xx1 (addW a xx0 m)) c':=by
  rcases(by omega:b=0∨b=1∨b=2∨b=3) with rfl|rfl|rfl|rfl
  ·exact order_s10 H1 (by omega) a
  ·exact order_s11 H1 (by omega) a
  ·exact order_s12 H1 (by omega) a
  ·exact order_s13 H1 (by omega) a
 refine⟨c2,g2, ?_,H2⟩
 have s3:exec Try.prog (valsOf tab) (callAt Try.prog tab (k'+3)) (k'+3) k14b0 ⟨[(1,int a),(2,int b),(7,.op o 0),(8,int 2)],g2⟩=some (.exit 0,⟨[(1,int a),(2,int b),(7,.op o 0),(8,int 2),(53,bool false)],g2⟩):=by
  simp +decide -implicitDefEqProofs only[k14b0,go_sem]
 rw[Tm.Loop_succ]
 simp +decide -implicitDefEqProofs only[go_sem,s1]
 rw[Tm.Loop_succ]
 simp +decide -implicitDefEqProofs only[go_sem,s2]
 rw[Tm.Loop_succ]
 simp +decide -implicitDefEqProofs only[go_sem,s3]
end Go.Proofs.Ytkcimaibaicdcaa.Tk
namespace Go.Proofs.Ytkcimaibaicdcaa.Tk
open Go.Tm Go.Tm.Tab
set_option maxRecDepth 100000
theorem oat_len {h:Heap}{o:Nat}{m:Tm.Module}{c:Nat→C}(H:OAt h o m c):lenS (c 0)=some (int m.externs.length):=by
 obtain⟨X,col,_,hp⟩:=H.parts
 exact(hp 0 (by decide)).1.lenS
theorem op_min2 {P:Program}{call:CallF}{al:Option Nat}{e:Env}{h:Heap}(x y:Operand)(ts:Array TypeId):stepOp P call al e h (.call ⟨.builtin .min, #[x,y],ts⟩)=(evs e [x,y]).bind fun cs=>(scalars cs).bind fun xs=>(pureV P (Builtin.min_ #[] 0 xs.toArray)).bind fun r=>some (r,h):=rfl
theorem scal2 (a b:Value):scalars [.v a,.v b]=some [a,b]:=rfl
set_option maxHeartbeats 8000000 in
theorem wfOrder (m:Tm.Module) (hl:∀f∈m.funcs,∀b∈f.blocks,b.ins.length<2^45) (x1 x2:Int):Runs Try.prog tab (2^36+400) 14 [.agg (encModule m),int x1,int x2] (bool true):=by
 refine Runs.by (rs:=[.tmp 6]) (N:=115) rfl Try.func14 rfl rfl (by simp) fun k hk=> ?_
 have h49:∀h,callAt Try.prog tab k 49 [] h=some (bool true,h):=fun h=>first6 k (by omega) [] h rfl
 obtain⟨t,hft,hF⟩:=fit_runs m hl
 have h42:∀h,callAt Try.prog tab k 42 [.agg [externs m.externs,globals m.globals,tables m.tables,funcs m.funcs]] h=some (bool t,h):=fun h=>hft k (by omega) _ h (by rw[enc_module];simp +decide -implicitDefEqProofs only[depth,go_sem])
 rw[enc_module]
 cases t with
 |false=>simp +decide -implicitDefEqProofs only[k14,go_sem,h49,h42];exact⟨_,_,rfl,rfl⟩
 |true=>
 obtain⟨F,hc⟩:=hF rfl
 have h60:∀(s:ByteArray) h,callAt Try.prog tab k 60 [.agg [externs m.externs,globals m.globals,tables m.tables,funcs m.funcs],str s] h=some (bool (decide (s∈namesOf m)),h):=fun s h=>named60_runs m F s k (by omega) _ h (by rw[enc_module];simp +decide -implicitDefEqProofs only[depth,go_sem])
 have q1:=h60 ⟨#[122,122]⟩
 have q2:=h60 ⟨#[121,121]⟩
 have q3:=h60 ⟨#[120,120,48]⟩
 have q4:=h60 ⟨#[120,120,49]⟩
 cases c1:decide ((m.globals.length:Int)>10) with
 |true=>simp +decide -implicitDefEqProofs only[k14,go_sem,h49,h42,c1];exact⟨_,_,rfl,rfl⟩
 |false=>
 cases c2:decide ((m.tables.length:Int)>4) with
 |true=>simp +decide -implicitDefEqProofs only[k14,go_sem,h49,h42,c1,c2];exact⟨_,_,rfl,rfl⟩
 |false=>
 cases n1:decide (zz∈namesOf m) with
 |true=>rw[n1] at q1;simp +decide -implicitDefEqProofs only[k14,go_sem,h49,h42,c1,c2,q1];exact⟨_,_,rfl,rfl⟩
 |false=>
 rw[n1] at q1
 cases n2:decide (yy∈namesOf m) with
 |true=>rw[n2] at q2;simp +decide -implicitDefEqProofs only[k14,go_sem,h49,h42,c1,c2,q1,q2];exact⟨_,_,rfl,rfl⟩
 |false=>
 rw[n2] at q2
 cases n3:decide (xx0∈namesOf m) with
 |true=>rw[n3] at q3;simp +decide -implicitDefEqProofs only[k14,go_sem,h49,h42,c1,c2,q1,q2,q3];exact⟨_,_,rfl,rfl⟩
 |false=>
 rw[n3] at q3
 cases n4:decide (xx1∈namesOf m) with
 |true=>rw[n4] at q4;simp +decide -implicitDefEqProofs only[k14,go_sem,h49,h42,c1,c2,q1,q2,q3,q4];exact⟨_,_,rfl,rfl⟩
 |false=>
 rw[n4] at q4
 have d1:=of_decide_eq_false c1
 have d2:=of_decide_eq_false c2
 have lim:=(limits_iff m).1 (check_zero hc).1
 obtain⟨k,rfl⟩:∃k',k=k'+1:=⟨k-1,by omega⟩
 obtain⟨ce,cg,ct,cf,css,A,B,i1,i2,i3,g0,h47,p1,p2,p3,p4,p5,p6⟩:=copy_ref (k:=k) (by omega) m F [Tm.Node.row 0 [externs m.externs,globals m.globals,tables m.tables,funcs m.funcs]]
 rw[enc_module] at h47
 obtain⟨c,rfl,rfl,rfl,rfl,O⟩:=p6.oAt p2 p3 p4 p1
 obtain⟨a,ha,ea⟩:=low4 x1
 obtain⟨b,hb,eb⟩:=low4 x2
 have ra:=bin_rem (P:=Try.prog) (t:=3) (x:=.tmp 47) (y:=.const (.int .i64 4)) (a:=Go.bits .and .i64 x1 255) (b:=4) (by decide)
 have rb:=bin_rem (P:=Try.prog) (t:=3) (x:=.tmp 50) (y:=.const (.int .i64 4)) (a:=Go.bits .and .i64 x2 255) (b:=4) (by decide)
 rw[ea] at ra
 rw[eb] at rb
 obtain⟨c',g2,L,O2⟩:=order_l (k:=k+1) (by omega) O (by omega) (by omega) (by omega) ha hb
 obtain⟨l1,l2,l3,l4⟩:=addW_le a xx0 m
 have F2:FineM (addW b xx1 (addW a xx0 m)):=addW_fine (addW_fine F (by omega) (by omega) (by omega) (by decide)) (by omega) (by omega) (by omega) (by decide)
 have h53:callAt Try.prog tab (k+1) 53 [.agg [c' 0,c' 1,c' 2,c' 3]] g2=some (int (checkN (addW b xx1 (addW a xx0 m))),g2):=wcheck_runs _ F2 (k+1) (by omega) _ g2 (O2.view 6)
 have ln:=oat_len O2
 have g:=O2.cell
 have cells:∀j,j<4→(c j).isCell=true:=fun j hj=>by
  obtain⟨X,col,_,hp⟩:=O.parts
  exact(hp j hj).1.cell
 have s0:=cells 0 (by decide)
 have s1:=cells 1 (by decide)
 have s2:=cells 2 (by decide)
 have s3:=cells 3 (by decide)
 have and1:∀(x y:Operand) (u v:Int),binC Try.prog .and 3 x y (.v (.int .i64 u)) (.v (.int .i64 v))=some (.v (.int .i64 (Go.bits .and .i64 u v))):=fun _ _ _ _=>rfl
 cases c0:decide (((addW b xx1 (addW a xx0 m)).externs.length:Int)>12) with
 |true=>
  rw[order_ext (by have:=of_decide_eq_true c0;omega)] at h53
  simp +decide -implicitDefEqProofs only[k14,go_sem,h49,h42,c1,c2,q1,q2,q3,q4,h47,set_new,s0,s1,s2,s3,and1,ra,rb,L,g,ln,c0,h53]
  exact⟨_,_,rfl,rfl⟩
 |false=>
  have E:=order_check hc (by omega) (by omega) (of_decide_eq_false n3) (of_decide_eq_false n4) ha hb (by have:=of_decide_eq_false c0;omega)
  rw[E] at h53
  clear E
  rcases(by omega:a=0∨a=1∨a=2∨a=3) with rfl|rfl|rfl|rfl
  ·rcases(by omega:b=0∨b=1∨b=2∨b=3) with rfl|rfl|rfl|rfl
   ·have h53':callAt Try.prog tab (k+1) 53 [.agg [c' 0,c' 1,c' 2,c' 3]] g2=some (int 2,g2):=h53
    simp only[nat0,nat1,nat2,nat3] at ra rb L
    have hm:pureV Try.prog (Builtin.min_ #[] 0 [.int .i64 0,.int .i64 0].toArray)=some (int 0):=by kernel_rfl
    simp +decide -implicitDefEqProofs only[k14,go_sem,h49,h42,c1,c2,q1,q2,q3,q4,h47,set_new,s0,s1,s2,s3,and1,ra,rb,L,g,ln,c0,h53',op_min2,scal2,hm]
    exact⟨_,_,rfl,rfl⟩
   ·have h53':callAt Try.prog tab (k+1) 53 [.agg [c' 0,c' 1,c' 2,c' 3]] g2=some (int 2,g2):=h53
    simp only[nat0,nat1,nat2,nat3] at ra rb L
    have hm:pureV Try.prog (Builtin.min_ #[] 0 [.int .i64 0,.int .i64 1].toArray)=some (int 0):=by kernel_rfl
    simp +decide -implicitDefEqProofs only[k14,go_sem,h49,h42,c1,c2,q1,q2,q3,q4,h47,set_new,s0,s1,s2,s3,and1,ra,rb,L,g,ln,c0,h53',op_min2,scal2,hm]
    exact⟨_,_,rfl,rfl⟩
   ·have h53':callAt Try.prog tab (k+1) 53 [.agg [c' 0,c' 1,c' 2,c' 3]] g2=some (int 2,g2):=h53
    simp only[nat0,nat1,nat2,nat3] at ra rb L
    have hm:pureV Try.prog (Builtin.min_ #[] 0 [.int .i64 0,.int .i64 2].toArray)=some (int 0):=by kernel_rfl
    simp +decide -implicitDefEqProofs only[k14,go_sem,h49,h42,c1,c2,q1,q2,q3,q4,h47,set_new,s0,s1,s2,s3,and1,ra,rb,L,g,ln,c0,h53',op_min2,scal2,hm]
    exact⟨_,_,rfl,rfl⟩
   ·have h53':callAt Try.prog tab (k+1) 53 [.agg [c' 0,c' 1,c' 2,c' 3]] g2=some (int 2,g2):=h53
    simp only[nat0,nat1,nat2,nat3] at ra rb L
    have hm:pureV Try.prog (Builtin.min_ #[] 0 [.int .i64 0,.int .i64 3].toArray)=some (int 0):=by kernel_rfl
    simp +decide -implicitDefEqProofs only[k14,go_sem,h49,h42,c1,c2,q1,q2,q3,q4,h47,set_new,s0,s1,s2,s3,and1,ra,rb,L,g,ln,c0,h53',op_min2,scal2,hm]
    exact⟨_,_,rfl,rfl⟩
  ·rcases(by omega:b=0∨b=1∨b=2∨b=3) with rfl|rfl|rfl|rfl
   ·have h53':callAt Try.prog tab (k+1) 53 [.agg [c' 0,c' 1,c' 2,c' 3]] g2=some (int 2,g2):=h53
    simp only[nat0,nat1,nat2,nat3] at ra rb L
    have hm:pureV Try.prog (Builtin.min_ #[] 0 [.int .i64 1,.int .i64 0].toArray)=some (int 0):=by kernel_rfl
    simp +decide -implicitDefEqProofs only[k14,go_sem,h49,h42,c1,c2,q1,q2,q3,q4,h47,set_new,s0,s1,s2,s3,and1,ra,rb,L,g,ln,c0,h53',op_min2,scal2,hm]
    exact⟨_,_,rfl,rfl⟩
   ·have h53':callAt Try.prog tab (k+1) 53 [.agg [c' 0,c' 1,c' 2,c' 3]] g2=some (int 1,g2):=h53
    simp only[nat0,nat1,nat2,nat3] at ra rb L
    have hm:pureV Try.prog (Builtin.min_ #[] 0 [.int .i64 1,.int .i64 1].toArray)=some (int 1):=by kernel_rfl
    simp +decide -implicitDefEqProofs only[k14,go_sem,h49,h42,c1,c2,q1,q2,q3,q4,h47,set_new,s0,s1,s2,s3,and1,ra,rb,L,g,ln,c0,h53',op_min2,scal2,hm]
    exact⟨_,_,rfl,rfl⟩
   ·have h53':callAt Try.prog tab (k+1) 53 [.agg [c' 0,c' 1,c' 2,c' 3]] g2=some (int 1,g2):=h53
    simp only[nat0,nat1,nat2,nat3] at ra rb L
    have hm:pureV Try.prog (Builtin.min_ #[] 0 [.int .i64 1,.int .i64 2].toArray)=some (int 1):=by kernel_rfl
    simp +decide -implicitDefEqProofs only[k14,go_sem,h49,h42,c1,c2,q1,q2,q3,q4,h47,set_new,s0,s1,s2,s3,and1,ra,rb,L,g,ln,c0,h53',op_min2,scal2,hm]
    exact⟨_,_,rfl,rfl⟩
   ·have h53':callAt Try.prog tab (k+1) 53 [.agg [c' 0,c' 1,c' 2,c' 3]] g2=some (int 1,g2):=h53
    simp only[nat0,nat1,nat2,nat3] at ra rb L
    have hm:pureV Try.prog (Builtin.min_ #[] 0 [.int .i64 1,.int .i64 3].toArray)=some (int 1):=by kernel_rfl
    simp +decide -implicitDefEqProofs only[k14,go_sem,h49,h42,c1,c2,q1,q2,q3,q4,h47,set_new,s0,s1,s2,s3,and1,ra,rb,L,g,ln,c0,h53',op_min2,scal2,hm]
    exact⟨_,_,rfl,rfl⟩
  ·rcases(by omega:b=0∨b=1∨b=2∨b=3) with rfl|rfl|rfl|rfl
   ·have h53':callAt Try.prog tab (k+1) 53 [.agg [c' 0,c' 1,c' 2,c' 3]] g2=some (int 2,g2):=h53
    simp only[nat0,nat1,nat2,nat3] at ra rb L
    have hm:pureV Try.prog (Builtin.min_ #[] 0 [.int .i64 2,.int .i64 0].toArray)=some (int 0):=by kernel_rfl
    simp +decide -implicitDefEqProofs only[k14,go_sem,h49,h42,c1,c2,q1,q2,q3,q4,h47,set_new,s0,s1,s2,s3,and1,ra,rb,L,g,ln,c0,h53',op_min2,scal2,hm]
    exact⟨_,_,rfl,rfl⟩
   ·have h53':callAt Try.prog tab (k+1) 53 [.agg [c' 0,c' 1,c' 2,c' 3]] g2=some (int 1,g2):=h53
    simp only[nat0,nat1,nat2,nat3] at ra rb L
    have hm:pureV Try.prog (Builtin.min_ #[] 0 [.int .i64 2,.int .i64 1].toArray)=some (int 1):=by kernel_rfl
    simp +decide -implicitDefEqProofs only[k14,go_sem,h49,h42,c1,c2,q1,q2,q3,q4,h47,set_new,s0,s1,s2,s3,and1,ra,rb,L,g,ln,c0,h53',op_min2,scal2,hm]
    exact⟨_,_,rfl,rfl⟩
   ·have h53':callAt Try.prog tab (k+1) 53 [.agg [c' 0,c' 1,c' 2,c' 3]] g2=some (int 3,g2):=h53
    simp only[nat0,nat1,nat2,nat3] at ra rb L
    have hm:pureV Try.prog (Builtin.min_ #[] 0 [.int .i64 2,.int .i64 2].toArray)=some (int 2):=by kernel_rfl
    simp +decide -implicitDefEqProofs only[k14,go_sem,h49,h42,c1,c2,q1,q2,q3,q4,h47,set_new,s0,s1,s2,s3,and1,ra,rb,L,g,ln,c0,h53',op_min2,scal2,hm]
    exact⟨_,_,rfl,rfl⟩
   ·have h53':callAt Try.prog tab (k+1) 53 [.agg [c' 0,c' 1,c' 2,c' 3]] g2=some (int 3,g2):=h53
    simp only[nat0,nat1,nat2,nat3] at ra rb L
    have hm:pureV Try.prog (Builtin.min_ #[] 0 [.int .i64 2,.int .i64 3].toArray)=some (int 2):=by kernel_rfl
    simp +decide -implicitDefEqProofs only[k14,go_sem,h49,h42,c1,c2,q1,q2,q3,q4,h47,set_new,s0,s1,s2,s3,and1,ra,rb,L,g,ln,c0,h53',op_min2,scal2,hm]
    exact⟨_,_,rfl,rfl⟩
  ·rcases(by omega:b=0∨b=1∨b=2∨b=3) with rfl|rfl|rfl|rfl
   ·have h53':callAt Try.prog tab (k+1) 53 [.agg [c' 0,c' 1,c' 2,c' 3]] g2=some (int 2,g2):=h53
    simp only[nat0,nat1,nat2,nat3] at ra rb L
    have hm:pureV Try.prog (Builtin.min_ #[] 0 [.int .i64 3,.int .i64 0].toArray)=some (int 0):=by kernel_rfl
    simp +decide -implicitDefEqProofs only[k14,go_sem,h49,h42,c1,c2,q1,q2,q3,q4,h47,set_new,s0,s1,s2,s3,and1,ra,rb,L,g,ln,c0,h53',op_min2,scal2,hm]
    exact⟨_,_,rfl,rfl⟩
   ·have h53':callAt Try.prog tab (k+1) 53 [.agg [c' 0,c' 1,c' 2,c' 3]] g2=some (int 1,g2):=h53
    simp only[nat0,nat1,nat2,nat3] at ra rb L
    have hm:pureV Try.prog (Builtin.min_ #[] 0 [.int .i64 3,.int .i64 1].toArray)=some (int 1):=by kernel_rfl
    simp +decide -implicitDefEqProofs only[k14,go_sem,h49,h42,c1,c2,q1,q2,q3,q4,h47,set_new,s0,s1,s2,s3,and1,ra,rb,L,g,ln,c0,h53',op_min2,scal2,hm]
    exact⟨_,_,rfl,rfl⟩
   ·have h53':callAt Try.prog tab (k+1) 53 [.agg [c' 0,c' 1,c' 2,c' 3]] g2=some (int 3,g2):=h53
    simp only[nat0,nat1,nat2,nat3] at ra rb L
    have hm:pureV Try.prog (Builtin.min_ #[] 0 [.int .i64 3,.int .i64 2].toArray)=some (int 2):=by kernel_rfl
    simp +decide -implicitDefEqProofs only[k14,go_sem,h49,h42,c1,c2,q1,q2,q3,q4,h47,set_new,s0,s1,s2,s3,and1,ra,rb,L,g,ln,c0,h53',op_min2,scal2,hm]
    exact⟨_,_,rfl,rfl⟩
   ·have h53':callAt Try.prog tab (k+1) 53 [.agg [c' 0,c' 1,c' 2,c' 3]] g2=some (int 4,g2):=h53
    simp only[nat0,nat1,nat2,nat3] at ra rb L
    have hm:pureV Try.prog (Builtin.min_ #[] 0 [.int .i64 3,.int .i64 3].toArray)=some (int 3):=by kernel_rfl
    simp +decide -implicitDefEqProofs only[k14,go_sem,h49,h42,c1,c2,q1,q2,q3,q4,h47,set_new,s0,s1,s2,s3,and1,ra,rb,L,g,ln,c0,h53',op_min2,scal2,hm]
    exact⟨_,_,rfl,rfl⟩
end Go.Proofs.Ytkcimaibaicdcaa.Tk
