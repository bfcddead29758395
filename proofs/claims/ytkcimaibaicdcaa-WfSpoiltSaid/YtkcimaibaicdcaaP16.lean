/- The law returns true at every input. No condition. A part of its proof. -/
import Derived.Test.YtkcimaibaicdcaaP15
set_option linter.unusedSimpArgs false
set_option linter.unusedVariables false
set_option maxHeartbeats 16000000
set_option maxRecDepth 100000
namespace Go.Proofs.Ytkcimaibaicdcaa.Tk
open Go.Tm Go.Tm.Tab
abbrev zz:ByteArray:=⟨#[122,122]⟩
abbrev qm:ByteArray:=⟨#[63]⟩
theorem check2 {m:Tm.Module}(h:limitsB m=false):checkN m=2:=by unfold checkN;rw[if_pos h]
theorem check1 {m:Tm.Module}(h:limitsB m=true)(h1:formedB m=false):checkN m=1:=by unfold checkN;rw[if_neg (by rw[h];decide),if_pos h1]
theorem check3 {m:Tm.Module}(h:limitsB m=true)(h1:formedB m=true)(h2:namedB m=false):checkN m=3:=by unfold checkN;rw[if_neg (by rw[h];decide),if_neg (by rw[h1];decide),if_pos h2]
theorem check4 {m:Tm.Module}(h:limitsB m=true)(h1:formedB m=true)(h2:namedB m=true)(h3:knownB m=false):checkN m=4:=by
 unfold checkN;rw[if_neg (by rw[h];decide),if_neg (by rw[h1];decide),if_neg (by rw[h2];decide),if_pos h3]
theorem limits_iff (m:Tm.Module):limitsB m=true↔m.funcs.length≤24∧m.externs.length≤12∧m.globals.length≤12∧m.tables.length≤6∧(∀x∈m.externs,¬moreX x=true)∧(∀x∈m.globals,¬moreG x=true)∧(∀x∈m.tables,¬moreT x=true)∧∀x∈m.funcs,¬moreF x=true:=by
 unfold limitsB
 simp only[Bool.and_eq_true,Bool.not_eq_true',Bool.or_eq_false_iff,decide_eq_false_iff_not,List.any_eq_false]
 constructor
 ·rintro⟨⟨⟨⟨h1,h2⟩,h3⟩,h4⟩,h5,h6,h7,h8⟩;exact⟨by omega,by omega,by omega,by omega,h5,h6,h7,h8⟩
 ·rintro⟨h1,h2,h3,h4,h5,h6,h7,h8⟩;exact⟨⟨⟨⟨by omega,by omega⟩,by omega⟩,by omega⟩,h5,h6,h7,h8⟩
theorem formed_iff (m:Tm.Module):formedB m=true↔(∀x∈m.externs,¬badX x=true)∧∀x∈m.funcs,¬badF x=true:=by
 unfold formedB
 simp only[Bool.and_eq_true,Bool.not_eq_true',List.any_eq_false]
theorem named_iff (m:Tm.Module):namedB m=true↔(∀s∈namesOf m,nameB s=true)∧(namesOf m).Nodup:=by
 unfold namedB
 rw[Bool.not_eq_true',any_no]
 generalize namesOf m=L
 constructor
 ·intro h
  have h':∀(i:Nat) (hi:i<L.length),nameB L[i]=true∧L[i] ∉ L.take i:=fun i hi=>by
   have:=h i hi
   unfold badN at this
   rw[List.getD_eq_getElem?_getD,List.getElem?_eq_getElem hi,Option.getD_some,Bool.or_eq_false_iff,Bool.not_eq_false',decide_eq_false_iff_not] at this
   exact⟨this.1,fun hm=>this.2 (List.count_pos_iff.2 hm)⟩
  refine⟨fun s hs=>?_,List.pairwise_iff_getElem.2 fun i j hi hj hij e=>?_⟩
  ·obtain⟨i,hi,rfl⟩:=List.getElem_of_mem hs
   exact(h' i hi).1
  ·exact(h' j hj).2 (List.mem_take_iff_getElem.2 ⟨i,by omega,e⟩)
 ·rintro⟨h1,h2⟩ i hi
  unfold badN
  rw[List.getD_eq_getElem?_getD,List.getElem?_eq_getElem hi,Option.getD_some,Bool.or_eq_false_iff,Bool.not_eq_false',decide_eq_false_iff_not]
  refine⟨h1 _ (List.getElem_mem _),fun hm=>?_⟩
  obtain⟨j,hj,e⟩:=List.mem_take_iff_getElem.1 (List.count_pos_iff.1 hm)
  exact(List.pairwise_iff_getElem.1 h2) j i (by omega) hi (by omega) e
end Go.Proofs.Ytkcimaibaicdcaa.Tk
namespace Go.Tm
def szF:Nat→Nat
 |0=>3
 |1=>2
 |2=>2
 |_=>5
def kM (m:Module):Nat→Nat
 |0=>m.externs.length
 |1=>m.globals.length
 |2=>m.tables.length
 |_=>m.funcs.length
def vsM (m:Module):Nat→List C
 |0=>m.externs.flatMap encExtern
 |1=>m.globals.flatMap encGlobal
 |2=>m.tables.flatMap encTable
 |_=>m.funcs.flatMap encFunc
structure OAt (h:Heap)(o:Nat)(m:Module)(c:Nat→C):Prop where
 cell:h[o]?=some (.row 0 [c 0,c 1,c 2,c 3])
 parts:∃(X:Nat→Nat→Prop) (col:Nat→Nat),col o=4∧∀j,j<4→RowV h (X j) 3 (szF j) (c j) (kM m j) (vsM m j)∧∀y,X j y∨locC (c j)=some y→col y=j
theorem RowV.deeper {h:Heap}{X:Nat→Prop}{d e s k:Nat}{c:C}{vs:List C}(H:RowV h X d s c k vs)(he:d≤e):RowV h X e s c k vs:=by
 obtain⟨cells,h1,h2,h3,h4⟩:=H
 exact⟨cells,h1,h2,h3,h4.deeper he⟩
theorem OAt.view {h:Heap}{o:Nat}{m:Module}{c:Nat→C}(H:OAt h o m c)(n:Nat):mapC (view false h (n+6)) [.agg [c 0,c 1,c 2,c 3]]=some [.agg (encModule m)]:=by
 obtain⟨X,col,_,hp⟩:=H.parts
 have s:∀j,j<4→Tm.view false h (n+5) (c j)=some (.fs (vsM m j) (kM m j) none):=fun j hj=>by
  have:=(hp j hj).1.sees h (fun _ _=>rfl) (n+1)
  simp only[mapC_cons,mapC_nil,Option.bind_eq_some_iff,Option.some.injEq] at this
  obtain⟨d,hd,_,rfl,hq⟩:=this
  simp only[List.cons.injEq,and_true] at hq
  rw[←hq];exact hd
 rw[mapC_cons,view_agg]
 simp only[mapC_cons,mapC_nil,s 0 (by decide),s 1 (by decide),s 2 (by decide),s 3 (by decide),Option.bind_some,Option.map_some]
 rfl
theorem OAt.append {h pre:Heap}{o:Nat}{m m':Module}{c:Nat→C}(H:OAt h o m c)(j:Nat)(hj:j<4)(hle:h.length≤pre.length)(hpre:∀y,y<h.length→pre[y]?=h[y]?){X':Nat→Prop}{elem ws:List C}(S:Sees pre X' 3 elem ws)
  (hX':∀y,X' y→h.length≤y∧y<pre.length)(he:elem.length=szF j)(hm:kM m j+1≤maxRow)(hk:∀i,i<4→kM m' i=if i=j then kM m j+1 else kM m i)(hv:∀i,i<4→vsM m' i=if i=j then vsM m j++ws else vsM m i):
  ∃h5,appendTo (pre++[.row (szF j) elem]) none (szF j) 1 elem (c j)=some (.os (pre++[Node.row (szF j) elem]).length 0 (kM m j+1) none,h5)∧h5[o]?=some (.row 0 [c 0,c 1,c 2,c 3])∧
   ∀c':Nat→C,(∀i,i<4→c' i=if i=j then .os (pre++[Node.row (szF j) elem]).length 0 (kM m j+1) none else c i)→OAt (h5.set o (.row 0 [c' 0,c' 1,c' 2,c' 3])) o m' c':=by
 obtain⟨hc,X,col,ho,hp⟩:=H
 have hol:=(List.getElem?_eq_some_iff.1 hc).1
 have keep:∀y,y<h.length→(pre++[Node.row (szF j) elem])[y]?=h[y]?:=fun y hy=>by
  rw[List.getElem?_append_left (by omega)];exact hpre y hy
 have ll:(pre++[Node.row (szF j) elem]).length=pre.length+1:=by simp
 have hs:0<szF j:=by unfold szF;split<;>decide
 obtain⟨h5,a1,a2,a3,a4⟩:=((hp j hj).1.mono (h':=pre++[Node.row (szF j) elem]) (by omega) fun l hl _=>keep l hl).append 1 (S.mono (h':=pre++[Node.row (szF j) elem]) fun l hl=>List.getElem?_append_left (hX' l hl).2) (fun y hy=>by have:=hX' y hy;omega)
  (fun l hl hq=>by have:=(hp j hj).1.lt hl;have:=hX' l hq;omega) hs (by decide) (by omega) hm
 have hoj:∀i,i<4→locC (c i)≠some o:=fun i hi e=>by have:=(hp i hi).2 o (.inr e);omega
 have e9:h5[o]?=some (.row 0 [c 0,c 1,c 2,c 3]):=by rw[a3 o (by omega) (hoj j hj),keep o hol];exact hc
 refine⟨h5,a1,e9,fun c' hc'=>⟨List.getElem?_set_self (by omega),fun i y=>if i=j then X j y∨X' y else X i y,fun y=>if y<h.length then col y else j,by dsimp only;rw[if_pos hol];exact ho,fun i hi=>?_⟩⟩
 by_cases hij:i=j
 ·subst hij
  rw[hc' i hi,hk i hi,hv i hi]
  simp only[if_true]
  refine⟨a4.mono (by rw[List.length_set];omega) fun l _ hl=>List.getElem?_set_ne fun e=>?_,fun y hy=>?_⟩
  ·subst e
   rcases hl with (hl|hl)|hl
   ·have:=(hp i hi).2 o (.inl hl);omega
   ·have:=hX' o hl;omega
   ·cases hl;omega
  ·rcases hy with (hy|hy)|hy
   ·have:=(hp i hi).2 y (.inl hy)
    split<;>omega
   ·have:=hX' y hy
    rw[if_neg (by omega)]
   ·cases hy
    rw[if_neg (by omega)]
 ·rw[hc' i hi,hk i hi,hv i hi]
  simp only[if_neg hij]
  obtain⟨cells,q1,q2,q3,q4⟩:=(hp i hi).1
  refine⟨RowV.mono (h:=h) ⟨cells,q1,q2,q3,q4⟩ (by rw[List.length_set];omega) fun l hl hq=>?_,fun y hy=>?_⟩
  ·have hcl:=(hp i hi).2 l hq
   rw[List.getElem?_set_ne (fun e=>by subst e;omega),a3 l (by omega) (fun e=>hij (by rw[←hcl];exact(hp j hj).2 l (.inr e))),keep l hl]
  ·have hlt:y<h.length:=hy.elim (q3 y) q1.lt
   rw[if_pos hlt]
   exact(hp i hi).2 y hy
theorem ModAt.oAt {h:Heap}{n0 n1 n2 n3:Nat}{ce cg ct cf:C}{css:List (List C)}{A B:Nat→Nat}{m:Module}(H:ModAt h n0 n1 n2 n3 ce cg ct cf css A B m)(h1:n1≤n2)(h2:n2≤n3)(h3:n3≤h.length)(hn:n0≤n1):
  ∃c:Nat→C,c 0=ce∧c 1=cg∧c 2=ct∧c 3=cf∧OAt (h++[.row 0 [ce,cg,ct,cf]]) h.length m c:=by
 obtain⟨⟨Xe,e1,e2⟩,⟨Xg,g1,g2⟩,⟨Xt,t1,t2⟩,fa⟩:=H
 have f1:=fa.rowV
 have up:∀{X d s c k vs},RowV h X d s c k vs→RowV (h++[Node.row 0 [ce,cg,ct,cf]]) X d s c k vs:=fun H=>H.mono (by simp) fun l hl _=>List.getElem?_append_left hl
 refine⟨fun i=>match i with|0=>ce|1=>cg|2=>ct|_=>cf,rfl,rfl,rfl,rfl,by simp,fun i=>match i with|0=>Xe|1=>Xg|2=>Xt|_=>fun x=>∃j,j<m.funcs.length∧A j≤x∧x<B j,fun y=>if y<n1 then 0 else if y<n2 then 1 else if y<n3 then 2 else if y<h.length then 3 else 4,?_,fun j hj=>?_⟩
 ·dsimp only;rw[if_neg (by omega),if_neg (by omega),if_neg (by omega),if_neg (by omega)]
 rcases(by omega:j=0∨j=1∨j=2∨j=3) with rfl|rfl|rfl|rfl
 ·exact⟨(up e1).deeper (by decide),fun y hy=>by have:=e2 y hy;dsimp only;rw[if_pos (by omega)]⟩
 ·exact⟨(up g1).deeper (by decide),fun y hy=>by have:=g2 y hy;dsimp only;rw[if_neg (by omega),if_pos (by omega)]⟩
 ·exact⟨(up t1).deeper (by decide),fun y hy=>by have:=t2 y hy;dsimp only;rw[if_neg (by omega),if_neg (by omega),if_pos (by omega)]⟩
 ·refine⟨up f1,fun y hy=>?_⟩
  have:n3≤y∧y<h.length:=by
   rcases hy with ⟨j,hj,hy⟩|hy
   ·have:=fa.mid j hj;omega
   ·have:=fa.far y hy;have:=fa.row.lt hy;omega
  dsimp only;rw[if_neg (by omega),if_neg (by omega),if_neg (by omega),if_pos (by omega)]
theorem flat_get {s:Nat}:∀{L:List (List C)},(∀r∈L,r.length=s)→∀(k off:Nat),off<s→L.flatten[k*s+off]?=(L[k]?).bind fun r=>r[off]?
 |[],_,k,off,_=>by simp
 |r::L,hs,0,off,ho=>by
  have:=hs r (by simp)
  rw[List.flatten_cons,Nat.zero_mul,Nat.zero_add,List.getElem?_append_left (by omega)];simp
 |r::L,hs,k+1,off,ho=>by
  have hr:=hs r (by simp)
  have e:(k+1)*s+off=r.length+(k*s+off):=by rw[Nat.add_mul,hr];omega
  rw[List.flatten_cons,e,List.getElem?_append_right (by omega),Nat.add_sub_cancel_left,flat_get (fun x hx=>hs x (by simp[hx])) k off ho];simp
theorem flat_set {s:Nat}:∀{L:List (List C)},(∀r∈L,r.length=s)→∀(k off:Nat) (v:C),off<s→L.flatten.set (k*s+off) v=(L.set k ((L.getD k []).set off v)).flatten
 |[],_,k,off,v,_=>by simp
 |r::L,hs,0,off,v,ho=>by
  have:=hs r (by simp)
  rw[List.flatten_cons,Nat.zero_mul,Nat.zero_add,List.set_append_left _ _ (by omega)];simp
 |r::L,hs,k+1,off,v,ho=>by
  have hr:=hs r (by simp)
  have e:(k+1)*s+off=r.length+(k*s+off):=by rw[Nat.add_mul,hr];omega
  rw[List.flatten_cons,e,List.set_append_right _ _ (by omega),Nat.add_sub_cancel_left,flat_set (fun x hx=>hs x (by simp[hx])) k off v ho];simp
theorem put_one {cs:List C}{k:Nat}{v:C}(h:k<cs.length):put cs k [v]=cs.set k v:=by
 simp only[put,List.length_cons,List.length_nil]
 rw[List.set_eq_take_append_cons_drop,if_pos h];simp
theorem flatMap_flat {α:Type}(f:α→List C)(l:List α):l.flatMap f=(l.map f).flatten:=by rw[List.flatMap_def]
def All:Nat→Prop:=fun _=>True
theorem Sees.all {h:Heap}{X:Nat→Prop}{d:Nat}{cs vs:List C}(H:Sees h X d cs vs):Sees h All d cs vs:=H.wider fun _ _=>trivial
theorem RowC.at {h:Heap}{c:C}{s k:Nat}{cells:List C}(H:RowC h c s cells k)(hk:0<k):∃l,c=.os l 0 k none∧h[l]?=some (.row s cells):=by
 obtain⟨_,⟨h0,_⟩|h1⟩:=H
 ·omega
 ·exact h1
theorem BlksAt.change {h g:Heap}{a b:Nat}{bc:List C}{bs:List Block}(H:BlksAt h a b bc bs){j:Nat}{c':C}{b':Block}(keep:∀(k l:Nat),k≠j→bc[k]?.bind locC=some l→g[l]?=h[l]?)(S:Sees g All 3 [c'] [encBlock b']):Sees g All 3 (bc.set j c') ((bs.set j b').map encBlock):=
 sees_map (by simp[H.len]) fun k c x hc hx=>by
  by_cases e:j=k
  ·subst e
   have h1:j<(bc.set j c').length:=(List.getElem?_eq_some_iff.1 hc).1
   have h2:j<(bs.set j b').length:=(List.getElem?_eq_some_iff.1 hx).1
   rw[List.length_set] at h1 h2
   rw[List.getElem?_set_self h1] at hc
   rw[List.getElem?_set_self h2] at hx
   cases hc;cases hx;exact S
  ·rw[List.getElem?_set_ne e] at hc hx
   have h1:=(H.each k c hc).1
   rw[blkAt_get hx] at h1
   refine((Sees.mono (h:=h) (h':=g) (GrowE.sees h1 fun g x n=>view_encIns x g n) fun l hl=>?_).all).deeper (by decide)
   exact keep k l (fun q=>e q.symm) (by rw[hc];exact hl)
theorem BlksAt.more {h g:Heap}{a b:Nat}{bc:List C}{bs:List Block}(H:BlksAt h a b bc bs){c':C}{b':Block}(keep:∀(k l:Nat),bc[k]?.bind locC=some l→g[l]?=h[l]?)(S:Sees g All 3 [c'] [encBlock b']):Sees g All 3 (bc++[c']) ((bs++[b']).map encBlock):=by
 rw[List.map_append]
 refine Sees.append (sees_map H.len fun k c x hc hx=>?_) S
 have h1:=(H.each k c hc).1
 rw[blkAt_get hx] at h1
 refine((Sees.mono (h:=h) (h':=g) (GrowE.sees h1 fun g x n=>view_encIns x g n) fun l hl=>?_).all).deeper (by decide)
 exact keep k l (by rw[hc];exact hl)
theorem blks_row {g:Heap}{l n:Nat}{cap:Option Nat}{bc:List C}{bs:List Block}(hl:g[l]?=some (.row 1 bc))(hlen:bc.length=n)(hn:bs.length=n)(S:Sees g All 3 bc (bs.map encBlock)):Sees g All 4 [.os l 0 n cap] [blocks bs]:=by
 have:=Sees.row (cap:=cap) hl (k:=n) (by omega) S trivial
 unfold blocks
 rw[hn]
 exact this
theorem fn_sees {g:Heap}{cp cb:C}{nm:ByteArray}{o:Bool}{ps:List Int}{r:Int}{bs:List Block}(Sp:Sees g All 2 [cp] [ints ps])(Sb:Sees g All 4 [cb] [blocks bs]):Sees g All 4 [str nm,bool o,cp,int r,cb] (encFunc ⟨nm,o,ps,r,bs⟩):=
 (Sees.str (by decide)).cons ((Sees.bool (by decide)).cons ((Sp.deeper (by decide)).cons ((Sees.int (by decide)).cons Sb)))
theorem FnsAt.change {h g:Heap}{lo:Nat}{cf:C}{fs:List Func}{css:List (List C)}{A B:Nat→Nat}(H:FnsAt h lo cf fs css A B){k:Nat}(hk:k<fs.length){lf:Nat}{cap:Option Nat}(hcf:cf=.os lf 0 fs.length cap){cs':List C}{f':Func}(hrow:g[lf]?=some (.row 5 (css.set k cs').flatten))(h5:cs'.length=5)
  (keep:∀l,lo≤l→l<h.length→¬(A k≤l∧l<B k)→l≠lf→g[l]?=h[l]?)(S:Sees g All 4 cs' (encFunc f')):Sees g All 5 [cf] [funcs (fs.set k f')]:=by
 have S2:Sees g All 4 (css.set k cs').flatten ((fs.set k f').flatMap encFunc):=by
  refine sees_flat (by simp[H.len]) fun j cs x hc hx=>?_
  by_cases e:k=j
  ·subst e
   have h1:k<css.length:=by rw[H.len];exact hk
   rw[List.getElem?_set_self h1] at hc
   rw[List.getElem?_set_self hk] at hx
   cases hc;cases hx;exact S
  ·rw[List.getElem?_set_ne e] at hc hx
   have hj:=(List.getElem?_eq_some_iff.1 hx).1
   refine((Sees.mono (h:=h) (h':=g) (H.each j cs x hc hx).sees fun l hl=>?_).all).deeper (by decide)
   have hm:=H.mid j hj
   refine keep l (by omega) (by omega) (fun q=>?_) (fun q=>?_)
   ·rcases Nat.lt_or_gt_of_ne e with e|e
    ·have:=H.asc k j e hj;omega
    ·have:=H.asc j k e hk;omega
   ·subst q
    rw[hcf] at H
    exact(H.far l rfl).2 j hj hl
 have hlen:(css.set k cs').flatten.length=fs.length*5:=by
  have h1:∀r∈css.set k cs',r.length=5:=fun r hr=>by
   rcases List.mem_or_eq_of_mem_set hr with hr|rfl
   ·obtain⟨j,hj,e⟩:=List.getElem_of_mem hr
    have hf:j<fs.length:=by rw[←H.len];exact hj
    obtain⟨cp,cb,bc,e2,_⟩:=H.each j r fs[j] (by rw[List.getElem?_eq_getElem hj,e]) (List.getElem?_eq_getElem hf)
    rw[e2];rfl
   ·exact h5
  have:∀(L:List (List C)),(∀r∈L,r.length=5)→L.flatten.length=L.length*5:=fun L=>by
   induction L with
   |nil=>intro _;rfl
   |cons r L ih=>intro hL;rw[List.flatten_cons,List.length_append,hL r (by simp),ih (fun x hx=>hL x (by simp[hx])),List.length_cons];omega
  rw[this _ h1,List.length_set,H.len]
 have:=Sees.row (cap:=cap) hrow hlen S2 trivial
 rw[hcf]
 unfold funcs
 rw[List.length_set]
 exact this
theorem mod_view {h g:Heap}{n0 n1 n2 n3:Nat}{ce cg ct cf:C}{css:List (List C)}{A B:Nat→Nat}{m:Module}(H:ModAt h n0 n1 n2 n3 ce cg ct cf css A B m)(h1:n0≤n1)(h2:n1≤n2)(h3:n2≤n3)(h4:n3≤h.length)(hle:h.length≤g.length)(keep:∀l,n0≤l→l<n3→g[l]?=h[l]?){fs:List Func}(S:Sees g All 5 [cf] [funcs fs])(n:Nat):
  mapC (view false g (n+6)) [.agg [ce,cg,ct,cf]]=some [.agg (encModule { m with funcs:=fs })]:=by
 obtain⟨⟨Xe,e1,e2⟩,⟨Xg,g1,g2⟩,⟨Xt,t1,t2⟩,fa⟩:=H
 have s0:Sees g All 5 [ce] [externs m.externs]:=((e1.mono hle fun l _ hl=>keep l (e2 l hl).1 (by have:=(e2 l hl).2;omega)).sees.deeper (by decide)).all
 have s1:Sees g All 5 [cg] [globals m.globals]:=((g1.mono hle fun l _ hl=>keep l (by have:=(g2 l hl).1;omega) (by have:=(g2 l hl).2;omega)).sees.deeper (by decide)).all
 have s2:Sees g All 5 [ct] [tables m.tables]:=((t1.mono hle fun l _ hl=>keep l (by have:=(t2 l hl).1;omega) (t2 l hl).2).sees.deeper (by decide)).all
 have s:=(s0.cons (s1.cons (s2.cons S))) g (fun _ _=>rfl) n
 rw[mapC_cons,view_agg,s]
 rfl
end Go.Tm
namespace Go.Proofs.Ytkcimaibaicdcaa.Tk
open Go.Tm Go.Tm.Tab
def stopI:Ins:=⟨30,0,0,0,0,[],[]⟩
abbrev mainS:ByteArray:=⟨#[77,97,105,110]⟩
def setIns (f:Tm.Func)(b:Nat)(l:List Ins):Tm.Func:={ f with blocks:=f.blocks.set b ⟨l⟩ }
def setFn (m:Tm.Module)(k:Nat)(f:Tm.Func):Tm.Module:={ m with funcs:=m.funcs.set k f }
theorem blk_at {l:List Block}{b:Nat}(hb:b<l.length):blkAt l b=l[b]:=by
 unfold blkAt;rw[Int.toNat_natCast,List.getD_eq_getElem?_getD,List.getElem?_eq_getElem hb];rfl
theorem size_set:∀{l:List Block} {b:Nat} (h:b<l.length) (x:Block),sizeOfL (l.set b x)+l[b].ins.length=sizeOfL l+x.ins.length
 |c::l,0,_,x=>by simp[sizeOfL];omega
 |c::l,b+1,h,x=>by
  have:=size_set (l:=l) (b:=b) (by simpa using h) x
  simp only[List.set_cons_succ,sizeOfL,List.map_cons,List.sum_cons,List.getElem_cons_succ] at this⊢
  omega
theorem more_same {f f':Tm.Func}(hp:f'.params=f.params)(hb:1≤f'.blocks.length∧f'.blocks.length≤40)(hs:sizeOfL f'.blocks≤300)(h:¬moreF f=true):¬moreF f'=true:=by
 unfold moreF at h⊢
 rw[hp]
 simp only[Bool.or_eq_true,decide_eq_true_eq,not_or] at h⊢
 exact⟨⟨⟨h.1.1.1,by omega⟩,by omega⟩,by omega⟩
theorem limits_set {m:Tm.Module}{k:Nat}{f':Tm.Func}(h:limitsB m=true)(hf:¬moreF f'=true):limitsB (setFn m k f')=true:=by
 obtain⟨l1,l2,l3,l4,l5,l6,l7,l8⟩:=(limits_iff m).1 h
 rw[limits_iff]
 refine⟨by simpa[setFn] using l1,l2,l3,l4,l5,l6,l7,fun x hx=>?_⟩
 rcases List.mem_or_eq_of_mem_set hx with hx|rfl
 ·exact l8 x hx
 ·exact hf
theorem formed_set {m:Tm.Module}{k:Nat}{f':Tm.Func}(h:formedB m=true)(hf:¬badF f'=true):formedB (setFn m k f')=true:=by
 obtain⟨f1,f2⟩:=(formed_iff m).1 h
 rw[formed_iff]
 refine⟨f1,fun x hx=>?_⟩
 rcases List.mem_or_eq_of_mem_set hx with hx|rfl
 ·exact f2 x hx
 ·exact hf
theorem badF_parts {f:Tm.Func}:¬badF f=true↔badO f.out f.result=false∧f.params.any (badP f.out)=false∧∀b∈f.blocks,∀x∈b.ins,shapeB x=true:=by
 unfold badF badB2 badI
 simp only[Bool.or_eq_true,not_or,Bool.not_eq_true,List.any_eq_false,Bool.not_eq_true',Bool.not_eq_false]
theorem badF_setIns {f:Tm.Func}{b:Nat}{l:List Ins}(h:¬badF f=true)(hl:∀x∈l,shapeB x=true):¬badF (setIns f b l)=true:=by
 rw[badF_parts] at h⊢
 refine⟨h.1,h.2.1,fun c hc x hx=>?_⟩
 rcases List.mem_or_eq_of_mem_set hc with hc|rfl
 ·exact h.2.2 c hc x hx
 ·exact hl x hx
theorem mem_set_self {α:Type}{l:List α}{i:Nat}(h:i<l.length)(x:α):x∈l.set i x:=List.mem_iff_getElem.2 ⟨i,by simpa using h,by simp⟩
theorem fn_get {m:Tm.Module}{k:Nat}(hk:k<m.funcs.length):fnAt m.funcs k∈m.funcs:=by
 unfold fnAt;rw[Int.toNat_natCast,List.getD_eq_getElem?_getD,List.getElem?_eq_getElem hk];exact List.getElem_mem _
structure Spot (m:Tm.Module)(k b:Nat):Prop where
 ok:checkN m=0
 hk:k<m.funcs.length
 hb:b<(fnAt m.funcs k).blocks.length
 few:(fnAt m.funcs k).blocks.length≤17
 size:sizeOfL (fnAt m.funcs k).blocks≤91
theorem size_blk {l:List Block}{b:Nat}(h:b<l.length):(blkAt l b).ins.length≤sizeOfL l:=by
 have:=size_set h ⟨[]⟩
 rw[blk_at h]
 simp at this
 omega
theorem size_setIns {f:Tm.Func}{b:Nat}(hb:b<f.blocks.length)(l:List Ins):sizeOfL (setIns f b l).blocks+(blkAt f.blocks b).ins.length=sizeOfL f.blocks+l.length:=by
 rw[blk_at hb];exact size_set hb ⟨l⟩
theorem Spot.limits {m:Tm.Module}{k b:Nat}(S:Spot m k b){l:List Ins}(hl:l.length≤(blkAt (fnAt m.funcs k).blocks b).ins.length+1):limitsB (setFn m k (setIns (fnAt m.funcs k) b l))=true:=by
 obtain⟨h1,_⟩:=check_zero S.ok
 refine limits_set h1 (more_same (f:=fnAt m.funcs k) rfl ?_ ?_ (((limits_iff m).1 h1).2.2.2.2.2.2.2 _ (fn_get S.hk)))
 ·have:=S.hb;have:=S.few;simp[setIns];omega
 ·have:=size_setIns S.hb l;have:=S.size;omega
theorem spoil_form {m:Tm.Module}{k b:Nat}(S:Spot m k b){i:Nat}(hi:i<(blkAt (fnAt m.funcs k).blocks b).ins.length){x:Ins}(hx:shapeB x=false):checkN (setFn m k (setIns (fnAt m.funcs k) b ((blkAt (fnAt m.funcs k).blocks b).ins.set i x)))=1:=by
 refine check1 (S.limits (by rw[List.length_set];omega)) ?_
 cases c:formedB (setFn m k (setIns (fnAt m.funcs k) b ((blkAt (fnAt m.funcs k).blocks b).ins.set i x))) with
 |false=>rfl
 |true=>
  exfalso
  have h:=((formed_iff _).1 c).2 _ (mem_set_self S.hk _)
  rw[badF_parts] at h
  have:=h.2.2 _ (mem_set_self S.hb _) x (mem_set_self hi x)
  rw[hx] at this;cases this
theorem shape31 (x:Ins):shapeB { x with op:=31 }=false:=rfl
theorem shape5 (x:Ins):shapeB { x with type:=5 }=false:=by
 have:(cdOf { x with type:=5 }).tg=true:=rfl
 unfold shapeB shapedS
 rw[this,Bool.or_true,if_pos rfl]
 split<;>rfl
theorem spoil_main {m:Tm.Module}{k b:Nat}(S:Spot m k b):checkN (setFn m k { fnAt m.funcs k with name:=mainS })=3:=by
 obtain⟨h1,h2,h3,_⟩:=check_zero S.ok
 have hm:=((limits_iff m).1 h1).2.2.2.2.2.2.2 _ (fn_get S.hk)
 have hf:=((formed_iff m).1 h2).2 _ (fn_get S.hk)
 refine check3 (limits_set h1 hm) (formed_set h2 hf) ?_
 cases c:namedB (setFn m k { fnAt m.funcs k with name:=mainS }) with
 |false=>rfl
 |true=>
  exfalso
  have:=((named_iff _).1 c).1 mainS (List.mem_append_right _ (List.mem_map.2 ⟨_,mem_set_self S.hk _,rfl⟩))
  exact absurd this (by decide)
theorem spoil_twice {m:Tm.Module}{k b:Nat}(S:Spot m k b)(hg:m.globals.length≤10):checkN { m with globals:=m.globals++[⟨(fnAt m.funcs k).name,[0]⟩] }=3:=by
 obtain⟨h1,h2,h3,_⟩:=check_zero S.ok
 obtain⟨l1,l2,l3,l4,l5,l6,l7,l8⟩:=(limits_iff m).1 h1
 refine check3 ((limits_iff _).2 ⟨l1,l2,by simp;omega,l4,l5,fun x hx=>?_,l7,l8⟩) ((formed_iff _).2 ((formed_iff m).1 h2)) ?_
 ·rcases List.mem_append.1 hx with hx|hx
  ·exact l6 x hx
  ·rw[List.mem_singleton.1 hx];unfold moreG;simp
 cases c:namedB { m with globals:=m.globals++[⟨(fnAt m.funcs k).name,[0]⟩] } with
 |false=>rfl
 |true=>
  exfalso
  have hn:=((named_iff _).1 c).2
  simp only[namesOf,List.map_append,List.map_cons,List.map_nil,List.append_assoc] at hn
  have hin:(fnAt m.funcs k).name∈m.tables.map (·.name)++m.funcs.map (·.name):=List.mem_append_right _ (List.mem_map.2 ⟨_,fn_get S.hk,rfl⟩)
  have h4:=(List.nodup_append.1 (List.nodup_append.1 (List.nodup_append.1 hn).2.1).2.1).2.2
  exact h4 _ (List.mem_singleton.2 rfl) _ hin rfl
theorem spoil_empty {m:Tm.Module}:checkN { m with globals:=m.globals++[⟨zz,[]⟩] }=2:=check2 (by
 cases c:limitsB { m with globals:=m.globals++[⟨zz,[]⟩] } with
 |false=>rfl
 |true=>
  exfalso
  have:=((limits_iff _).1 c).2.2.2.2.2.1 ⟨zz,[]⟩ (by simp)
  exact this rfl)
theorem spoil_table {m:Tm.Module}{k b:Nat}(S:Spot m k b)(ht:m.tables.length≤4)(hz:zz ∉ namesOf m):checkN { m with tables:=m.tables++[⟨zz,[(m.funcs.length:Int)]⟩] }=4:=by
 obtain⟨h1,h2,h3,_⟩:=check_zero S.ok
 obtain⟨l1,l2,l3,l4,l5,l6,l7,l8⟩:=(limits_iff m).1 h1
 obtain⟨e1,e2⟩:=(named_iff m).1 h3
 refine check4 ((limits_iff _).2 ⟨l1,l2,l3,by simp;omega,l5,l6,fun x hx=>?_,l8⟩) ((formed_iff _).2 ((formed_iff m).1 h2)) ?_ ?_
 ·rcases List.mem_append.1 hx with hx|hx
  ·exact l7 x hx
  ·rw[List.mem_singleton.1 hx];unfold moreT;simp
 ·have pm:(namesOf { m with tables:=m.tables++[⟨zz,[(m.funcs.length:Int)]⟩] }).Perm (zz::namesOf m):=by
   simp only[namesOf,List.map_append,List.map_cons,List.map_nil,List.append_assoc,List.cons_append,List.nil_append]
   rw[←List.append_assoc,←List.append_assoc,←List.append_assoc (List.map _ m.externs),←List.append_assoc (_++_) (List.map _ m.tables)]
   exact List.perm_middle
  rw[named_iff,pm.nodup_iff]
  refine⟨fun s hs=>?_,List.nodup_cons.2 ⟨hz,e2⟩⟩
  rcases List.mem_cons.1 (pm.mem_iff.1 hs) with rfl|hs
  ·decide
  ·exact e1 s hs
 ·unfold knownB
  rw[Bool.and_eq_false_iff]
  left
  rw[Bool.not_eq_false',List.any_eq_true]
  refine⟨⟨zz,[(m.funcs.length:Int)]⟩,by simp,?_⟩
  unfold badTb badY;simp
theorem check5 {m:Tm.Module}(h:limitsB m=true)(h1:formedB m=true)(h2:namedB m=true)(h3:knownB m=true)(h4:(m.funcs.any fun f=>!flowsB f.blocks)=true):checkN m=5:=by
 unfold checkN;rw[if_neg (by rw[h];decide),if_neg (by rw[h1];decide),if_neg (by rw[h2];decide),if_neg (by rw[h3];decide),if_pos h4]
theorem check6 {m:Tm.Module}(h:limitsB m=true)(h1:formedB m=true)(h2:namedB m=true)(h3:knownB m=true)(h4:(m.funcs.any fun f=>!flowsB f.blocks)=false)(h5:(m.funcs.any fun f=>!usedB f)=true):checkN m=6:=by
 unfold checkN;rw[if_neg (by rw[h];decide),if_neg (by rw[h1];decide),if_neg (by rw[h2];decide),if_neg (by rw[h3];decide),if_neg (by rw[h4];decide),if_pos h5]
theorem names_set {m:Tm.Module}{k:Nat}(hk:k<m.funcs.length){f':Tm.Func}(hn:f'.name=(fnAt m.funcs k).name):namesOf (setFn m k f')=namesOf m:=by
 have e:(m.funcs.set k f').map (·.name)=m.funcs.map (·.name):=by
  rw[List.map_set,hn]
  apply List.ext_getElem (by simp)
  intro i h1 h2
  rw[List.getElem_set]
  split
  ·rename_i e
   subst e
   unfold fnAt
   rw[Int.toNat_natCast,List.getD_eq_getElem?_getD,List.getElem?_eq_getElem hk,List.getElem_map];rfl
  ·rfl
 unfold namesOf setFn
 rw[e]
theorem named_set {m:Tm.Module}{k:Nat}(hk:k<m.funcs.length){f':Tm.Func}(hn:f'.name=(fnAt m.funcs k).name)(h:namedB m=true):namedB (setFn m k f')=true:=by
 rw[named_iff] at h⊢
 rw[names_set hk hn];exact h
theorem known_set {m:Tm.Module}{k:Nat}{f':Tm.Func}(h:knownB m=true)(hf:∀b∈f'.blocks,∀x∈b.ins,badSI m.externs.length m.globals.length m.tables.length m.funcs.length x=false):knownB (setFn m k f')=true:=by
 unfold knownB at h⊢
 rw[Bool.and_eq_true,Bool.not_eq_true',Bool.not_eq_true'] at h⊢
 have e:(setFn m k f').funcs.length=m.funcs.length:=by simp[setFn]
 rw[e]
 refine⟨h.1,?_⟩
 have h2:=List.any_eq_false.1 h.2
 rw[List.any_eq_false]
 intro x hx
 rcases List.mem_or_eq_of_mem_set hx with hx|rfl
 ·exact h2 x hx
 ·unfold badSF
  rw[Bool.not_eq_true,List.any_eq_false]
  intro b hb
  unfold badSB
  rw[Bool.not_eq_true,List.any_eq_false]
  intro y hy
  show ¬badSI m.externs.length m.globals.length m.tables.length m.funcs.length y=true
  rw[hf b hb y hy];decide
theorem known_ins {m:Tm.Module}(h:knownB m=true){f:Tm.Func}(hf:f∈m.funcs):∀b∈f.blocks,∀x∈b.ins,badSI m.externs.length m.globals.length m.tables.length m.funcs.length x=false:=by
 intro b hb x hx
 unfold knownB at h
 rw[Bool.and_eq_true,Bool.not_eq_true',Bool.not_eq_true',List.any_eq_false,List.any_eq_false] at h
 have h2:=h.2 f hf
 unfold badSF at h2
 rw[Bool.not_eq_true,List.any_eq_false] at h2
 have h3:=h2 b hb
 unfold badSB at h3
 rw[Bool.not_eq_true,List.any_eq_false] at h3
 simpa using h3 x hx
theorem any_set {m:Tm.Module}{k:Nat}(hk:k<m.funcs.length){f':Tm.Func}{p:Tm.Func→Bool}(h:p f'=true):((setFn m k f').funcs.any p)=true:=List.any_eq_true.2 ⟨f',mem_set_self hk _,h⟩
theorem none_set {m:Tm.Module}{k:Nat}{f':Tm.Func}{p:Tm.Func→Bool}(h:∀f∈m.funcs,p f=true)(h':p f'=true):((setFn m k f').funcs.any fun f=>!p f)=false:=by
 rw[List.any_eq_false]
 intro x hx
 rcases List.mem_or_eq_of_mem_set hx with hx|rfl
 ·rw[h x hx];decide
 ·rw[h'];decide
theorem flow_row {l:List Block}(h:flowsB l=true){b:Nat}(hb:b<l.length):(blkAt l b).ins.length≠0∧(∀k:Nat,k<(blkAt l b).ins.length→badE (decide ((b:Int)=0)) (blkAt l b).ins k=false)∧(lastOf (blkAt l b).ins).into.any (badTo l.length)=false∧twiceB (lastOf (blkAt l b).ins).into=false:=by
 unfold flowsB at h
 rw[Bool.and_eq_true,Bool.not_eq_true',any_no] at h
 have h1:=h.1 b hb
 unfold badBW badW at h1
 rw[Bool.or_eq_false_iff,Bool.or_eq_false_iff,Bool.or_eq_false_iff,any_no] at h1
 have:=of_decide_eq_false h1.1
 exact⟨by omega,h1.2.1,h1.2.2.1,h1.2.2.2⟩
theorem ends_last {l:List Block}(h:flowsB l=true){b:Nat}(hb:b<l.length):endsB (lastOf (blkAt l b).ins).op=true:=by
 obtain⟨h1,h2,_⟩:=flow_row h hb
 have:=h2 ((blkAt l b).ins.length-1) (by omega)
 unfold badE at this
 rw[Bool.or_eq_false_iff,Bool.not_eq_false'] at this
 have e:=of_decide_eq_true this.1
 have c:(((blkAt l b).ins.length-1:Nat):Int)=((blkAt l b).ins.length:Int)-1:=by omega
 rw[c,decide_eq_true rfl] at e
 exact e
theorem blk_set {l:List Block}{b:Nat}(hb:b<l.length)(x:Block):blkAt (l.set b x) b=x:=by
 rw[blk_at (by simpa using hb),List.getElem_set_self]
theorem blk_other {l:List Block}{b c:Nat}(h:b≠c)(x:Block):blkAt (l.set b x) c=blkAt l c:=by
 unfold blkAt;rw[Int.toNat_natCast,List.getD_eq_getElem?_getD,List.getD_eq_getElem?_getD,List.getElem?_set_ne h]
theorem insAt_getE {l:List Ins}{k:Nat}(h:k<l.length):insAt l k=l[k]:=by
 unfold insAt;rw[Int.toNat_natCast,List.getD_eq_getElem?_getD,List.getElem?_eq_getElem h];rfl
theorem spoil_more {m:Tm.Module}{k b:Nat}(S:Spot m k b):checkN (setFn m k (setIns (fnAt m.funcs k) b ((blkAt (fnAt m.funcs k).blocks b).ins++[stopI])))=5:=by
 obtain⟨h1,h2,h3,h4,h5,_⟩:=check_zero S.ok
 have hf:=fn_get S.hk
 have hb:=S.hb
 have hF:=h5 _ hf
 have hbad:=((formed_iff m).1 h2).2 _ hf
 have hmem:blkAt (fnAt m.funcs k).blocks b∈(fnAt m.funcs k).blocks:=blkAt_mem ⟨by omega,by omega⟩
 have hins:∀x∈(blkAt (fnAt m.funcs k).blocks b).ins++[stopI],shapeB x=true:=fun x hx=>by
  rcases List.mem_append.1 hx with hx|hx
  ·exact(badF_parts.1 hbad).2.2 _ hmem x hx
  ·rw[List.mem_singleton.1 hx];decide
 refine check5 (S.limits (by simp)) (formed_set h2 (badF_setIns hbad hins)) (named_set S.hk rfl h3) (known_set h4 fun c hc x hx=>?_) (any_set S.hk ?_)
 ·rcases List.mem_or_eq_of_mem_set hc with hc|rfl
  ·exact known_ins h4 hf c hc x hx
  ·rcases List.mem_append.1 hx with hx|hx
   ·exact known_ins h4 hf _ hmem x hx
   ·rw[List.mem_singleton.1 hx];rfl
 ·rw[Bool.not_eq_true']
  cases c:flowsB (setIns (fnAt m.funcs k) b ((blkAt (fnAt m.funcs k).blocks b).ins++[stopI])).blocks with
  |false=>rfl
  |true=>
   exfalso
   obtain⟨q0,_⟩:=flow_row hF hb
   have he:=ends_last hF hb
   obtain⟨_,q1,_⟩:=flow_row c (b:=b) (by simpa[setIns] using hb)
   have e:(blkAt (setIns (fnAt m.funcs k) b ((blkAt (fnAt m.funcs k).blocks b).ins++[stopI])).blocks b).ins=(blkAt (fnAt m.funcs k).blocks b).ins++[stopI]:=by
    show(blkAt ((fnAt m.funcs k).blocks.set b _) b).ins=_
    rw[blk_set hb]
   rw[e] at q1
   generalize (blkAt (fnAt m.funcs k).blocks b).ins=l at q0 he q1
   have:=q1 (l.length-1) (by simp;omega)
   unfold badE at this
   rw[Bool.or_eq_false_iff,Bool.not_eq_false'] at this
   have e1:=of_decide_eq_true this.1
   have e2:insAt (l++[stopI]) ((l.length-1:Nat):Int)=lastOf l:=by
    unfold lastOf
    rw[show(l.length:Int)-1=((l.length-1:Nat):Int) by omega,insAt_getE (by simp;omega),insAt_getE (by omega),List.getElem_append_left]
   rw[e2,he] at e1
   have:=of_decide_eq_true e1.symm
   simp at this;omega
theorem fold_from {n:Nat}:∀{x out:List Int} {v:Int},v∈x.foldl (addTo n) out→v∈out∨v∈x
 |[],out,v,h=>.inl h
 |t::x,out,v,h=>by
  rcases fold_from (x:=x) h with h|h
  ·unfold addTo at h
   split at h
   ·rcases List.mem_append.1 h with h|h
    ·exact .inl h
    ·rw[List.mem_singleton.1 h];exact .inr (by simp)
   ·exact .inl h
  ·exact .inr (by simp[h])
theorem next_from {l:List Block}{b v:Int}(h:v∈nextOf l b):v∈(lastI l b).into∧goes l b:=by
 unfold nextOf at h
 split at h
 ·rename_i g
  exact⟨(fold_from h).resolve_left (by simp),g⟩
 ·cases h
def moreBlk (f:Tm.Func):Tm.Func:={ f with blocks:=f.blocks++[⟨[stopI]⟩] }
theorem spoil_block {m:Tm.Module}{k b:Nat}(S:Spot m k b):checkN (setFn m k (moreBlk (fnAt m.funcs k)))=5:=by
 obtain⟨h1,h2,h3,h4,h5,_⟩:=check_zero S.ok
 have hf:=fn_get S.hk
 have hF:=h5 _ hf
 have hbad:=((formed_iff m).1 h2).2 _ hf
 have hm:=((limits_iff m).1 h1).2.2.2.2.2.2.2 _ hf
 have hb:=S.hb
 have hsz:sizeOfL (moreBlk (fnAt m.funcs k)).blocks=sizeOfL (fnAt m.funcs k).blocks+1:=by simp[moreBlk,sizeOfL]
 refine check5 (limits_set h1 (more_same (f:=fnAt m.funcs k) rfl (by have:=S.few;simp[moreBlk];omega) (by have:=S.size;omega) hm)) (formed_set h2 ?_) (named_set S.hk rfl h3) (known_set h4 fun c hc x hx=>?_) (any_set S.hk ?_)
 ·rw[badF_parts] at hbad⊢
  refine⟨hbad.1,hbad.2.1,fun c hc x hx=>?_⟩
  rcases List.mem_append.1 hc with hc|hc
  ·exact hbad.2.2 c hc x hx
  ·rw[List.mem_singleton.1 hc] at hx
   rw[List.mem_singleton.1 hx];decide
 ·rcases List.mem_append.1 hc with hc|hc
  ·exact known_ins h4 hf c hc x hx
  ·rw[List.mem_singleton.1 hc] at hx
   rw[List.mem_singleton.1 hx];rfl
 ·rw[Bool.not_eq_true']
  show flowsB ((fnAt m.funcs k).blocks++[⟨[stopI]⟩])=false
  cases c:flowsB ((fnAt m.funcs k).blocks++[⟨[stopI]⟩]) with
  |false=>rfl
  |true=>
   exfalso
   have rows:=fun b (hb:b<(fnAt m.funcs k).blocks.length)=>flow_row hF hb
   generalize (fnAt m.funcs k).blocks=l at c rows hb
   have hr:=(flow_ok c).met l.length (by simp)
   have:(l.length:Int)≠(l.length:Int):=hr.closed (S:=fun v=>v≠(l.length:Int)) (by simp;omega) fun x hx y hy _=>by
    obtain⟨y1,g⟩:=next_from hy
    obtain⟨g0,g1,g2,g3⟩:=g
    have hx2:x<(l.length:Int):=by simp at g1;omega
    have e:blkAt (l++[⟨[stopI]⟩]) x=blkAt l x:=by
     unfold blkAt;rw[List.getD_eq_getElem?_getD,List.getD_eq_getElem?_getD,List.getElem?_append_left (by omega)]
    have hl:=(rows x.toNat (by omega)).2.2.1
    rw[Int.toNat_of_nonneg g0,List.any_eq_false] at hl
    unfold lastI at y1
    rw[e] at y1
    have:=hl y y1
    unfold badTo at this
    simp at this
    omega
   exact this rfl
def loadI (v:Int):Ins:=⟨20,1,v,0,0,[v],[]⟩
theorem shape_load (v:Int):shapeB (loadI v)=decide (v≥1):=rfl
theorem insAt_cons (x:Ins)(l:List Ins)(k:Nat):insAt (x::l) ((k+1:Nat):Int)=insAt l k:=by
 unfold insAt;rw[Int.toNat_natCast,Int.toNat_natCast,List.getD_cons_succ]
theorem lastOf_cons (x:Ins){l:List Ins}(h:l.length≠0):lastOf (x::l)=lastOf l:=by
 unfold lastOf
 rw[show(((x::l).length:Nat):Int)-1=(((l.length-1)+1:Nat):Int) by simp;omega,insAt_cons,show(l.length:Int)-1=((l.length-1:Nat):Int) by omega]
def preB (l:List Block)(b:Nat)(v:Int):List Block:=l.set b ⟨loadI v::(blkAt l b).ins⟩
theorem pre_len (l:List Block)(b:Nat)(v:Int):(preB l b v).length=l.length:=by simp[preB]
theorem pre_at {l:List Block}{b:Nat}(hb:b<l.length)(v:Int):(blkAt (preB l b v) b).ins=loadI v::(blkAt l b).ins:=by unfold preB;rw[blk_set hb]
theorem pre_other {l:List Block}{b c:Nat}(h:b≠c)(v:Int):blkAt (preB l b v) c=blkAt l c:=blk_other h _
theorem pre_last {l:List Block}{b:Nat}(hb:b<l.length)(h:(blkAt l b).ins.length≠0)(v:Int)(c:Nat):lastOf (blkAt (preB l b v) c).ins=lastOf (blkAt l c).ins:=by
 by_cases e:b=c
 ·subst e;rw[pre_at hb,lastOf_cons _ h]
 ·rw[pre_other e]
theorem pre_nil {l:List Block}{b:Nat}(hb:b<l.length)(h:(blkAt l b).ins.length≠0)(v:Int)(c:Nat):(blkAt (preB l b v) c).ins≠[]↔(blkAt l c).ins≠[]:=by
 by_cases e:b=c
 ·subst e;rw[pre_at hb]
  constructor
  ·intro _ q;rw[q] at h;simp at h
  ·intro _ q;cases q
 ·rw[pre_other e]
theorem next_pre {l:List Block}{b:Nat}(hb:b<l.length)(h:(blkAt l b).ins.length≠0)(v:Int):nextOf (preB l b v)=nextOf l:=by
 funext c
 by_cases c0:0≤c
 ·have hl:=pre_last hb h v c.toNat
  have hn:=pre_nil hb h v c.toNat
  rw[Int.toNat_of_nonneg c0] at hl hn
  have e:lastI (preB l b v) c=lastI l c:=hl
  have g:goes (preB l b v) c↔goes l c:=by unfold goes;rw[pre_len,e,hn]
  unfold nextOf
  rw[pre_len,e]
  by_cases q:goes l c
  ·rw[if_pos q,if_pos (g.2 q)]
  ·rw[if_neg q,if_neg (fun z=>q (g.1 z))]
 ·unfold nextOf
  rw[if_neg (fun z=>c0 z.1),if_neg (fun z=>c0 z.1)]
theorem prevFrom_congr {l l':List Block}(h:nextOf l=nextOf l'):∀(d i:Nat) (acc:List (List Int)),prevFrom l d i acc=prevFrom l' d i acc
 |0,i,acc=>rfl
 |d+1,i,acc=>by rw[prevFrom,prevFrom,h,prevFrom_congr h]
theorem prev_pre {l:List Block}{b:Nat}(hb:b<l.length)(h:(blkAt l b).ins.length≠0)(v:Int):prevOf (preB l b v)=prevOf l:=by
 unfold prevOf;rw[pre_len,prevFrom_congr (next_pre hb h v)]
theorem reach_pre {l:List Block}{b:Nat}(hb:b<l.length)(h:(blkAt l b).ins.length≠0)(v:Int):reachOf (preB l b v)=reachOf l:=by
 unfold reachOf;rw[pre_len,next_pre hb h]
theorem beh_first {l:List Ins}{k:Nat}(h:l.length≠0)(hk:0<k)(hp:phiB (insAt l 0)=false):beh l k=true:=by
 cases l with
 |nil=>exact absurd rfl h
 |cons x r=>
  obtain⟨k,rfl⟩:∃q,k=q+1:=⟨k-1,by omega⟩
  have:insAt (x::r) 0=x:=rfl
  rw[this] at hp
  unfold beh
  rw[List.take_succ_cons,List.any_cons,hp];rfl
theorem flows_pre {l:List Block}{b:Nat}(hb:b<l.length)(hF:flowsB l=true)(hp:phiB (insAt (blkAt l b).ins 0)=false)(v:Int):flowsB (preB l b v)=true:=by
 obtain⟨q0,q1,q2,q3⟩:=flow_row hF hb
 have hF':=hF
 unfold flowsB at hF'⊢
 rw[Bool.and_eq_true,Bool.and_eq_true,Bool.not_eq_true',Bool.not_eq_true',Bool.not_eq_true'] at hF'⊢
 rw[reach_pre hb q0,prev_pre hb q0,pre_len]
 refine⟨?_,hF'.2.1,?_⟩
 ·rw[any_no]
  intro c hc
  by_cases e:b=c
  ·subst e
   unfold badBW badW
   rw[pre_len,pre_at hb,lastOf_cons _ q0,q2,q3]
   generalize (blkAt l b).ins=r at q0 q1 hp
   rw[Bool.or_false,Bool.or_false,Bool.or_eq_false_iff,any_no]
   refine⟨by simp;omega,fun k hk=>?_⟩
   unfold badE
   cases k with
   |zero=>
    have e1:insAt (loadI v::r) ((0:Nat):Int)=loadI v:=rfl
    rw[e1]
    have e2:decide (((0:Nat):Int)=((loadI v::r).length:Int)-1)=false:=decide_eq_false (by simp;omega)
    rw[e2];rfl
   |succ k=>
    have hk':k<r.length:=by simp at hk;omega
    have h2:=q1 k hk'
    unfold badE at h2
    rw[Bool.or_eq_false_iff] at h2
    have np:phiB (insAt r k)=false:=by
     by_cases k0:k=0
     ·subst k0;exact hp
     ·have:=h2.2
      rw[beh_first q0 (by omega) hp,Bool.true_or,Bool.and_true] at this
      exact this
    rw[insAt_cons,np,Bool.false_and,Bool.or_false]
    have e2:decide (((k+1:Nat):Int)=((loadI v::r).length:Int)-1)=decide ((k:Int)=(r.length:Int)-1):=decide_eq_decide.2 (by simp;omega)
    rw[e2];exact h2.1
  ·have:=(any_no.1 hF'.1) c hc
   unfold badBW at this⊢
   rw[pre_len,pre_other e];exact this
 ·rw[any_no]
  intro c hc
  have:=(any_no.1 hF'.2.2) c hc
  by_cases e:b=c
  ·subst e
   unfold badBP at this⊢
   rw[pre_at hb,List.any_cons,this,Bool.or_false]
   rfl
  ·unfold badBP at this⊢
   rw[pre_other e];exact this
theorem flows_phi {l:List Block}{b:Nat}(hb:b<l.length)(h0:(blkAt l b).ins.length≠0)(hp:phiB (insAt (blkAt l b).ins 0)=true)(v:Int):flowsB (preB l b v)=false:=by
 cases c:flowsB (preB l b v) with
 |false=>rfl
 |true=>
  exfalso
  obtain⟨_,q1,_⟩:=flow_row c (b:=b) (by rw[pre_len];exact hb)
  rw[pre_at hb] at q1
  have:=q1 1 (by simp;omega)
  unfold badE at this
  rw[Bool.or_eq_false_iff] at this
  have e:insAt (loadI v::(blkAt l b).ins) ((1:Nat):Int)=insAt (blkAt l b).ins 0:=insAt_cons _ _ 0
  have h2:=this.2
  rw[e,hp] at h2
  exact absurd h2 (by simp[beh,phiB,loadI])
theorem home_first {np:Nat}{L:List Block}{P R:List (Nat×Nat)}{b:Nat}(hR:posOf L=P++([(b,0)]++R)){w:Int}(hw:w=((np+P.length+1:Nat):Int)):homeAt np L w=(b:Int):=by
 unfold homeAt homeU
 rw[hR,hw,Int.toNat_natCast,List.getD_eq_getElem?_getD,List.getElem?_append_right (by simp),List.length_replicate,show np+P.length+1-(np+1)=P.length by omega,
  List.map_append,List.getElem?_append_right (by simp),List.length_map,Nat.sub_self]
 rfl
theorem used_pre (f:Tm.Func){b:Nat}(hb:b<f.blocks.length)(v:Int):usedB { f with blocks:=preB f.blocks b v }=false:=by
 cases c:usedB { f with blocks:=preB f.blocks b v } with
 |false=>rfl
 |true=>
  exfalso
  unfold usedB at c
  rw[Bool.and_eq_true,Bool.not_eq_true',Bool.not_eq_true',any_no,any_no] at c
  have hb':b<(preB f.blocks b v).length:=by rw[pre_len];exact hb
  have n1:=c.1 b hb'
  have u1:=c.2 b hb'
  unfold badNB at n1
  unfold badUB at u1
  have hat:=pre_at hb v
  have hlen:0<(blkAt (preB f.blocks b v) b).ins.length:=by rw[hat];simp
  rw[any_no] at n1 u1
  have n2:=n1 0 hlen
  have u2:=u1 0 hlen
  have hi:insAt (blkAt (preB f.blocks b v) b).ins ((0:Nat):Int)=loadI v:=by rw[hat];rfl
  unfold badNm at n2
  unfold badUX at u2
  rw[hi] at n2 u2
  rw[any_no] at u2
  have u3:=u2 0 (show 0<([v]:List Int).length by simp)
  have ht:tyI (loadI v)=true:=rfl
  rw[ht,Bool.true_and,Bool.not_eq_false'] at n2
  have hv:v=((f.params.length+(posU (preB f.blocks b v) b 0).length+1:Nat):Int):=of_decide_eq_true n2
  unfold badA at u3
  rw[Bool.or_eq_false_iff] at u3
  have r0:rd (loadI v).args ((0:Nat):Int)=v:=rfl
  have hph:phiB (loadI v)=false:=rfl
  have u4:=u3.2
  rw[r0,hph] at u4
  have c1:decide (v≤((f.params.length:Nat):Int))=false:=decide_eq_false (by omega)
  have u4':(!decide (v≤(f.params.length:Int))&&!thereB f.params.length (preB f.blocks b v) b 0 false v (rd (loadI v).into ((0:Nat):Int)))=false:=u4
  rw[c1] at u4'
  have home:homeAt f.params.length (preB f.blocks b v) v=(b:Int):=by
   obtain⟨R,hR,_⟩:=posU_rest hb' (k:=1) (by omega)
   have hnx:=posU_next (preB f.blocks b v) b 0
   rw[hi,if_pos ht] at hnx
   rw[hnx,List.append_assoc] at hR
   exact home_first hR hv
  have c2:thereB f.params.length (preB f.blocks b v) b 0 false v (rd (loadI v).into ((0:Nat):Int))=false:=by
   unfold thereB
   rw[if_neg (by decide),home,decide_eq_true rfl,if_pos rfl]
   exact decide_eq_false (by omega)
  rw[c2] at u4'
  exact absurd u4' (by decide)
theorem spoil_load {m:Tm.Module}{k b:Nat}(S:Spot m k b){v:Int}(hv:v≥1):checkN (setFn m k (setIns (fnAt m.funcs k) b (loadI v::(blkAt (fnAt m.funcs k).blocks b).ins)))=if phiB (insAt (blkAt (fnAt m.funcs k).blocks b).ins 0)=true then 5 else 6:=by
 obtain⟨h1,h2,h3,h4,h5,h6,_⟩:=check_zero S.ok
 have hf:=fn_get S.hk
 have hb:=S.hb
 have hF:=h5 _ hf
 have hbad:=((formed_iff m).1 h2).2 _ hf
 have hmem:blkAt (fnAt m.funcs k).blocks b∈(fnAt m.funcs k).blocks:=blkAt_mem ⟨by omega,by omega⟩
 have hins:∀x∈loadI v::(blkAt (fnAt m.funcs k).blocks b).ins,shapeB x=true:=fun x hx=>by
  rcases List.mem_cons.1 hx with rfl|hx
  ·rw[shape_load];exact decide_eq_true hv
  ·exact(badF_parts.1 hbad).2.2 _ hmem x hx
 have c1:=S.limits (l:=loadI v::(blkAt (fnAt m.funcs k).blocks b).ins) (by simp)
 have c2:formedB (setFn m k (setIns (fnAt m.funcs k) b (loadI v::(blkAt (fnAt m.funcs k).blocks b).ins)))=true:=formed_set h2 (badF_setIns hbad hins)
 have c3:=named_set S.hk (f':=setIns (fnAt m.funcs k) b (loadI v::(blkAt (fnAt m.funcs k).blocks b).ins)) rfl h3
 have c4:knownB (setFn m k (setIns (fnAt m.funcs k) b (loadI v::(blkAt (fnAt m.funcs k).blocks b).ins)))=true:=known_set h4 fun c hc x hx=>by
  rcases List.mem_or_eq_of_mem_set hc with hc|rfl
  ·exact known_ins h4 hf c hc x hx
  ·rcases List.mem_cons.1 hx with rfl|hx
   ·rfl
   ·exact known_ins h4 hf _ hmem x hx
 obtain⟨q0,_⟩:=flow_row hF hb
 cases hp:phiB (insAt (blkAt (fnAt m.funcs k).blocks b).ins 0) with
 |true=>
  rw[if_pos rfl]
  refine check5 c1 c2 c3 c4 (any_set S.hk ?_)
  rw[Bool.not_eq_true']
  exact flows_phi hb q0 hp v
 |false=>
  rw[if_neg (by decide)]
  refine check6 c1 c2 c3 c4 (none_set (p:=fun f=>flowsB f.blocks) h5 (flows_pre hb hF hp v)) (any_set S.hk ?_)
  rw[Bool.not_eq_true']
  exact used_pre (fnAt m.funcs k) hb v
structure SpAt (h:Heap)(o:Nat)(m:Tm.Module)(kk bb lf lb li:Nat)(ce cg ct cp:C)(css:List (List C))(bc:List C):Prop where
 cell:h[o]?=some (.row 0 [ce,cg,ct,.os lf 0 m.funcs.length none])
 top:h.length=o+1
 hk:kk<m.funcs.length
 hb:bb<(fnAt m.funcs kk).blocks.length
 row:h[lf]?=some (.row 5 css.flatten)
 five:∀r∈css,r.length=5
 len:css.length=m.funcs.length
 fn:css[kk]?=some [str (fnAt m.funcs kk).name,bool (fnAt m.funcs kk).out,cp,int (fnAt m.funcs kk).result,.os lb 0 (fnAt m.funcs kk).blocks.length none]
 brow:h[lb]?=some (.row 1 bc)
 blen:bc.length=(fnAt m.funcs kk).blocks.length
 bcell:bc[bb]?=some (.os li 0 (blkAt (fnAt m.funcs kk).blocks bb).ins.length none)
 irow:h[li]?=some (.row 7 ((blkAt (fnAt m.funcs kk).blocks bb).ins.flatMap encIns))
 lfo:lf<o
 lbo:lb<o
 lio:li<o
 fb:lf≠lb
 fi:lf≠li
 bi:lb≠li
 view:∀(g:Heap) (cs':List C) (f':Tm.Func),h.length≤g.length→(∀l,l<o→l≠lf→l≠lb→l≠li→g[l]?=h[l]?)→g[lf]?=some (.row 5 (css.set kk cs').flatten)→cs'.length=5→Sees g All 4 cs' (encFunc f')→
  ∀n,mapC (Tm.view false g (n+6)) [.agg [ce,cg,ct,.os lf 0 m.funcs.length none]]=some [.agg (encModule (setFn m kk f'))]
 par:∀g:Heap,(∀l,l<o→l≠lf→l≠lb→l≠li→g[l]?=h[l]?)→Sees g All 2 [cp] [ints (fnAt m.funcs kk).params]
 blk:∀(g:Heap) (c':C) (b':Block),(∀l,l<o→l≠lf→l≠lb→l≠li→g[l]?=h[l]?)→Sees g All 3 [c'] [encBlock b']→Sees g All 3 (bc.set bb c') (((fnAt m.funcs kk).blocks.set bb b').map encBlock)
 more:∀(g:Heap) (c':C) (b':Block),(∀l,l<o→l≠lf→l≠lb→g[l]?=h[l]?)→Sees g All 3 [c'] [encBlock b']→Sees g All 3 (bc++[c']) (((fnAt m.funcs kk).blocks++[b']).map encBlock)
 same:∀g:Heap,(∀l,l<o→l≠lf→g[l]?=h[l]?)→Sees g All 4 [.os lb 0 (fnAt m.funcs kk).blocks.length none] [blocks (fnAt m.funcs kk).blocks]
theorem fnAt_get {m:Tm.Module}{k:Nat}(hk:k<m.funcs.length):m.funcs[k]?=some (fnAt m.funcs k):=by
 unfold fnAt;rw[Int.toNat_natCast,List.getD_eq_getElem?_getD,List.getElem?_eq_getElem hk];rfl
theorem ModAt.up {h h':Heap}{n0 n1 n2 n3:Nat}{ce cg ct cf:C}{css:List (List C)}{A B:Nat→Nat}{m:Tm.Module}(H:ModAt h n0 n1 n2 n3 ce cg ct cf css A B m)(hle:h.length≤h'.length)(hX:∀l,l<h.length→h'[l]?=h[l]?):ModAt h' n0 n1 n2 n3 ce cg ct cf css A B m:=by
 obtain⟨⟨Xe,e1,e2⟩,⟨Xg,g1,g2⟩,⟨Xt,t1,t2⟩,fa⟩:=H
 exact⟨⟨Xe,e1.mono hle fun l hl _=>hX l hl,e2⟩,⟨Xg,g1.mono hle fun l hl _=>hX l hl,g2⟩,⟨Xt,t1.mono hle fun l hl _=>hX l hl,t2⟩,fa.mono hle fun l _ hl=>hX l hl⟩
theorem sp_at {g0:Heap}{n0 n1 n2 n3:Nat}{ce cg ct cf:C}{css:List (List C)}{A B:Nat→Nat}{m:Tm.Module}(H:ModAt g0 n0 n1 n2 n3 ce cg ct cf css A B m)(h1:n0≤n1)(h2:n1≤n2)(h3:n2≤n3)(h4:n3≤g0.length)
  {kk bb:Nat}(hk:kk<m.funcs.length)(hb:bb<(fnAt m.funcs kk).blocks.length)(hi:0<(blkAt (fnAt m.funcs kk).blocks bb).ins.length):
  ∃lf lb li cp bc,cf=.os lf 0 m.funcs.length none∧SpAt (g0++[.row 0 [ce,cg,ct,cf]]) g0.length m kk bb lf lb li ce cg ct cp css bc:=by
 have hlt:∀l,l<g0.length→(g0++[Tm.Node.row 0 [ce,cg,ct,cf]])[l]?=g0[l]?:=fun l hl=>List.getElem?_append_left hl
 have HU:=ModAt.up (h':=g0++[Tm.Node.row 0 [ce,cg,ct,cf]]) H (by simp) hlt
 have FA:=H.2.2.2
 obtain⟨lf,rfl,hrow⟩:=FA.row.at (by omega)
 have hfar:=FA.far lf rfl
 have hkc:kk<css.length:=by rw[FA.len];exact hk
 have hcs:css[kk]?=some css[kk]:=List.getElem?_eq_getElem hkc
 have E:=FA.each kk _ _ hcs (fnAt_get hk)
 have hmid:=FA.mid kk hk
 obtain⟨cp,cb,bc,ecs,q1,q2,q3,q4,q5⟩:=E
 obtain⟨lb,rfl,hbrow⟩:=q2.at (by omega)
 have hlb:=q5 lb rfl
 have hbc:bb<bc.length:=by rw[q3.len];exact hb
 have hbcell:bc[bb]?=some bc[bb]:=List.getElem?_eq_getElem hbc
 obtain⟨b1,b2⟩:=q3.each bb _ hbcell
 obtain⟨li,eli,hirow⟩:=RowC.at b1 hi
 have hli:=b2 li (by rw[eli];rfl)
 rw[eli] at hbcell
 have hbli:lb≠li:=fun e=>hlb.2.2 bb (by rw[hbcell];show some li=some lb;rw[e])
 have hfb:lf≠lb:=fun e=>hfar.2 kk hk (by rw[e];omega)
 have hfi:lf≠li:=fun e=>hfar.2 kk hk (by rw[e];omega)
 have hlfo:=FA.row.lt (l:=lf) rfl
 have hlbo:lb<g0.length:=by omega
 have hlio:li<g0.length:=by omega
 have htop:(g0++[Tm.Node.row 0 [ce,cg,ct,C.os lf 0 m.funcs.length none]]).length=g0.length+1:=by simp
 have five:∀r∈css,r.length=5:=fun r hr=>by
  obtain⟨j,hj,e⟩:=List.getElem_of_mem hr
  have hf:j<m.funcs.length:=by rw[←FA.len];exact hj
  obtain⟨_,_,_,e2,_⟩:=FA.each j r _ (by rw[List.getElem?_eq_getElem hj,e]) (fnAt_get hf)
  rw[e2];rfl
 refine⟨lf,lb,li,cp,bc,rfl,⟨by simp,htop,hk,hb,by rw[hlt lf hlfo];exact hrow,five,FA.len,by rw[hcs,ecs],by rw[hlt lb hlbo];exact hbrow,q3.len,hbcell,by rw[hlt li hlio];exact hirow,hlfo,hlbo,hlio,hfb,hfi,hbli,?_,?_,?_,?_,?_⟩⟩
 ·intro g cs' f' hle keep hr h5 S n
  have hA:n3≤A kk:=hmid.1
  have S2:=FA.change hk (lf:=lf) (cap:=none) rfl (g:=g) hr h5 (fun l hl hl2 hn hne=>by
   rw[keep l hl2 hne (fun e=>hn (by rw[e];omega)) (fun e=>hn (by rw[e];omega)),hlt l hl2]) S
  have:=mod_view HU h1 h2 h3 (by omega) hle (fun l _ hl=>keep l (by omega) (by omega) (by omega) (by omega)) S2 n
  exact this
 ·intro g keep
  refine(Sees.mono (h:=g0) (h':=g) q1.ints fun l hl=>?_).all
  have:=q4 l hl
  have e:=keep l (by omega) (fun e=>hfar.2 kk hk (by rw[←e];omega)) (fun e=>this.2.2.1 (by rw[e];rfl)) (fun e=>this.2.2.2 bb (by rw[hbcell,e];rfl))
  rw[e,hlt l (by omega)]
 ·intro g c' b' keep S
  refine q3.change (fun k l hne hl=>?_) S
  obtain⟨d,hd,hl2⟩:=Option.bind_eq_some_iff.1 hl
  have hr:=(q3.each k d hd).2 l hl2
  have e:=keep l (by omega) (fun e=>hfar.2 kk hk (by rw[←e];omega)) (fun e=>hlb.2.2 k (by rw[hl,e])) (fun e=>hne (q3.apart k bb li (by rw[hl,e]) (by rw[hbcell];rfl)))
  rw[e,hlt l (by omega)]
 ·intro g c' b' keep S
  refine q3.more (fun k l hl=>?_) S
  obtain⟨d,hd,hl2⟩:=Option.bind_eq_some_iff.1 hl
  have hr:=(q3.each k d hd).2 l hl2
  have e:=keep l (by omega) (fun e=>hfar.2 kk hk (by rw[←e];omega)) (fun e=>hlb.2.2 k (by rw[hl,e]))
  rw[e,hlt l (by omega)]
 ·intro g keep
  refine blks_row (l:=lb) (bc:=bc) ?_ q3.len rfl ?_
  ·rw[keep lb hlbo (Ne.symm hfb),hlt lb hlbo];exact hbrow
  ·refine((Sees.mono (h:=g0) (h':=g) q3.sees fun l hl=>?_).all).deeper (by decide)
   rw[keep l (by omega) (fun e=>hfar.2 kk hk (by rw[←e];omega)),hlt l (by omega)]
end Go.Proofs.Ytkcimaibaicdcaa.Tk
namespace Go.Tm
def fK:K→K
 | .seq a _=>a
 |k=>k
def sK:K→K
 | .seq _ b=>b
 |k=>k
end Go.Tm
namespace Go.Proofs.Ytkcimaibaicdcaa.Tk
open Go.Tm Go.Tm.Tab
theorem and16 (x:Int):0≤Go.bits .and .i64 x 65535:=by
 have h:(BitVec.ofInt 64 65535).toNat=2^16-1:=by decide
 have key:(BitVec.ofInt 64 x &&& BitVec.ofInt 64 65535).toNat=(x % ((2^64:Nat):Int)).toNat % 2^16:=by
  rw[BitVec.toNat_and,BitVec.toNat_ofInt,h,Nat.and_two_pow_sub_one_eq_mod]
 have e:Go.bits .and .i64 x 65535=x % 65536:=by
  show IntKind.i64.wrap ((BitVec.ofInt 64 x &&& BitVec.ofInt 64 65535).toNat:Nat)=x % 65536
  rw[key,IntKind.wrap_i64]
  omega
 omega
theorem and8 (x:Int):0≤Go.bits .and .i64 x 255:=by
 have h:(BitVec.ofInt 64 255).toNat=2^8-1:=by decide
 have key:(BitVec.ofInt 64 x &&& BitVec.ofInt 64 255).toNat=(x % ((2^64:Nat):Int)).toNat % 2^8:=by
  rw[BitVec.toNat_and,BitVec.toNat_ofInt,h,Nat.and_two_pow_sub_one_eq_mod]
 have e:Go.bits .and .i64 x 255=x % 256:=by
  show IntKind.i64.wrap ((BitVec.ofInt 64 x &&& BitVec.ofInt 64 255).toNat:Nat)=x % 256
  rw[key,IntKind.wrap_i64]
  omega
 omega
theorem low9 (x:Int):∃a:Nat,a<9∧Int.tmod (Go.bits .and .i64 x 255) 9=(a:Int):=by
 have h1:=Int.tmod_nonneg 9 (and8 x)
 have h2:=Int.tmod_lt_of_pos (Go.bits .and .i64 x 255) (show(0:Int)<9 by decide)
 exact⟨(Int.tmod (Go.bits .and .i64 x 255) 9).toNat,by omega,by omega⟩
theorem low16 (x:Int){n:Nat}(hn:0<n):∃a:Nat,a<n∧Int.tmod (Go.bits .and .i64 x 65535) (n:Int)=(a:Int):=by
 have h1:=Int.tmod_nonneg (n:Int) (and16 x)
 have h2:=Int.tmod_lt_of_pos (Go.bits .and .i64 x 65535) (show(0:Int)<n by omega)
 exact⟨(Int.tmod (Go.bits .and .i64 x 65535) n).toNat,by omega,by omega⟩
theorem and1:∀(x y:Operand) (u v:Int),binC Try.prog .and 3 x y (.v (.int .i64 u)) (.v (.int .i64 v))=some (.v (.int .i64 (Go.bits .and .i64 u v))):=fun _ _ _ _=>rfl
section
variable {vals:FuncId→Bool} {call:CallF} {n:Nat} {h:Heap} {o:Nat} {m:Tm.Module} {kk bb lf lb li:Nat} {ce cg ct cp:C} {css:List (List C)} {bc:List C}
theorem d4 (S:SpAt h o m kk bb lf lb li ce cg ct cp css bc)(xk:Int)(c2 c3 c4:C)(ek:Int.tmod (Go.bits .and .i64 xk 65535) (m.funcs.length:Int)=(kk:Int)):
  exec Try.prog vals call n (fK (sK (sK (sK (sK k13))))) ⟨[(1,int xk),(2,c2),(3,c3),(4,c4),(5,.op 0 0),(11,.op o 0)],h⟩=some (.normal,⟨[(2,c2),(3,c3),(4,c4),(5,.op 0 0),(11,.op o 0),(12,.op lf (kk*5))],h⟩):=by
 have hc:=S.cell
 have hk:=S.hk
 have b1:0≤(kk:Int)∧(kk:Int)<(m.funcs.length:Int):=by omega
 have r:=bin_rem (P:=Try.prog) (t:=3) (x:=.tmp 49) (y:=.tmp 52) (a:=Go.bits .and .i64 xk 65535) (b:=(m.funcs.length:Int)) (by omega)
 rw[ek] at r
 simp +decide -implicitDefEqProofs only[k13,fK,sK,go_sem,hc,and1,r,b1,Int.toNat_natCast,Nat.zero_add]
theorem SpAt.blocks (S:SpAt h o m kk bb lf lb li ce cg ct cp css bc)(off:Nat)(ho:off<5):(css.flatten.drop (kk*5+off)).head?=[str (fnAt m.funcs kk).name,bool (fnAt m.funcs kk).out,cp,int (fnAt m.funcs kk).result,.os lb 0 (fnAt m.funcs kk).blocks.length none][off]?:=by
 rw[List.head?_drop,flat_get S.five kk off ho,S.fn];rfl
theorem SpAt.ins (S:SpAt h o m kk bb lf lb li ce cg ct cp css bc):(bc.drop bb).head?=some (.os li 0 (blkAt (fnAt m.funcs kk).blocks bb).ins.length none):=by
 rw[List.head?_drop,S.bcell]
theorem d5 (S:SpAt h o m kk bb lf lb li ce cg ct cp css bc)(xb:Int)(c3 c4:C)(eb:Int.tmod (Go.bits .and .i64 xb 65535) ((fnAt m.funcs kk).blocks.length:Int)=(bb:Int)):
  exec Try.prog vals call n (fK (sK (sK (sK (sK (sK k13)))))) ⟨[(2,int xb),(3,c3),(4,c4),(5,.op 0 0),(11,.op o 0),(12,.op lf (kk*5))],h⟩=some (.normal,⟨[(3,c3),(4,c4),(5,.op 0 0),(11,.op o 0),(12,.op lf (kk*5)),(13,.op lb bb)],h⟩):=by
 have hr:=S.row
 have hb:=S.hb
 have b1:0≤(bb:Int)∧(bb:Int)<((fnAt m.funcs kk).blocks.length:Int):=by omega
 have r:=bin_rem (P:=Try.prog) (t:=3) (x:=.tmp 60) (y:=.tmp 65) (a:=Go.bits .and .i64 xb 65535) (b:=((fnAt m.funcs kk).blocks.length:Int)) (by omega)
 rw[eb] at r
 have g:(css.flatten.drop (kk*5+4)).head?=some (.os lb 0 (fnAt m.funcs kk).blocks.length none):=S.blocks 4 (by decide)
 simp +decide -implicitDefEqProofs only[k13,fK,sK,go_sem,hr,g,and1,r,b1,Int.toNat_natCast,Nat.zero_add,Nat.mul_one]
theorem d6 (S:SpAt h o m kk bb lf lb li ce cg ct cp css bc){ii:Nat}(hi:ii<(blkAt (fnAt m.funcs kk).blocks bb).ins.length)(xi:Int)(c4:C)(ei:Int.tmod (Go.bits .and .i64 xi 65535) ((blkAt (fnAt m.funcs kk).blocks bb).ins.length:Int)=(ii:Int)):
  exec Try.prog vals call n (fK (sK (sK (sK (sK (sK (sK k13))))))) ⟨[(3,int xi),(4,c4),(5,.op 0 0),(11,.op o 0),(12,.op lf (kk*5)),(13,.op lb bb)],h⟩=some (.normal,⟨[(4,c4),(5,.op 0 0),(11,.op o 0),(12,.op lf (kk*5)),(13,.op lb bb),(14,.op li (ii*7))],h⟩):=by
 have hr:=S.brow
 have b1:0≤(ii:Int)∧(ii:Int)<((blkAt (fnAt m.funcs kk).blocks bb).ins.length:Int):=by omega
 have r:=bin_rem (P:=Try.prog) (t:=3) (x:=.tmp 73) (y:=.tmp 78) (a:=Go.bits .and .i64 xi 65535) (b:=((blkAt (fnAt m.funcs kk).blocks bb).ins.length:Int)) (by omega)
 rw[ei] at r
 have g:=S.ins
 simp +decide -implicitDefEqProofs only[k13,fK,sK,go_sem,hr,g,and1,r,b1,Int.toNat_natCast,Nat.zero_add,Nat.add_zero]
end
end Go.Proofs.Ytkcimaibaicdcaa.Tk
namespace Go.Tm
theorem flat_plain (L:List Ins)(g:Heap):Sees g All 2 (L.flatMap encIns) (L.flatMap encIns):=fun h _ n=>by
 induction L with
 |nil=>rfl
 |cons x r ih=>rw[List.flatMap_cons];exact mapC_append (view_encIns x h (n+1)) ih
theorem ins_row {g:Heap}{l n:Nat}{cap:Option Nat}{L:List Ins}{cells:List C}(hl:g[l]?=some (.row 7 cells))(hc:cells.length=n*7)(hn:L.length=n)(S:Sees g All 2 cells (L.flatMap encIns)):Sees g All 3 [.os l 0 n cap] [encBlock ⟨L⟩]:=by
 have:=Sees.row (cap:=cap) hl hc S trivial
 unfold encBlock inss
 rw[hn];exact this
theorem ins_len (L:List Ins):(L.flatMap encIns).length=L.length*7:=flat_len (enc:=encIns) (s:=7) (fun _=>rfl) L
theorem ins_set {L:List Ins}{i off:Nat}{v:C}{y:Ins}(hi:i<L.length)(ho:off<7)(hy:(encIns (insAt L i)).set off v=encIns y):(L.flatMap encIns).set (i*7+off) v=(L.set i y).flatMap encIns:=by
 rw[flatMap_flat,flatMap_flat,flat_set (s:=7) (fun r hr=>by obtain⟨x,_,rfl⟩:=List.mem_map.1 hr;rfl) i off v ho,List.map_set]
 congr 1
 have:(L.map encIns).getD i []=encIns (insAt L i):=by
  unfold insAt
  rw[Int.toNat_natCast,List.getD_eq_getElem?_getD,List.getElem?_map,List.getD_eq_getElem?_getD,List.getElem?_eq_getElem hi];rfl
 rw[this,hy]
theorem set_same {α:Type}{l:List α}{i:Nat}{x:α}(h:l[i]?=some x):l.set i x=l:=by
 obtain⟨hi,rfl⟩:=List.getElem?_eq_some_iff.1 h
 exact List.set_getElem_self hi
end Go.Tm
namespace Go.Proofs.Ytkcimaibaicdcaa.Tk
open Go.Tm Go.Tm.Tab
section
variable {vals:FuncId→Bool} {call:CallF} {n:Nat} {h:Heap} {o:Nat} {m:Tm.Module} {kk bb lf lb li:Nat} {ce cg ct cp:C} {css:List (List C)} {bc:List C}
def Seen (g:Heap)(o:Nat)(m:Tm.Module):Prop:=∃c0 c1 c2 c3,g[o]?=some (.row 0 [c0,c1,c2,c3])∧∀n,mapC (Tm.view false g (n+6)) [.agg [c0,c1,c2,c3]]=some [.agg (encModule m)]
theorem SpAt.setIns (S:SpAt h o m kk bb lf lb li ce cg ct cp css bc){g:Heap}(hle:h.length≤g.length)(keep:∀l,l<o→l≠lf→l≠lb→l≠li→g[l]?=h[l]?)(ho:g[o]?=h[o]?)(hf:g[lf]?=h[lf]?){c':C}(hb:g[lb]?=some (.row 1 (bc.set bb c'))){L:List Ins}(hL:Sees g All 3 [c'] [encBlock ⟨L⟩]):
  Seen g o (setFn m kk (setIns (fnAt m.funcs kk) bb L)):=by
 refine⟨ce,cg,ct,_,by rw[ho];exact S.cell,fun n=>?_⟩
 have hcs:=set_same S.fn
 refine S.view g _ _ hle keep (by rw[hcs,hf];exact S.row) rfl (fn_sees (S.par g keep) ?_) n
 exact blks_row hb (by rw[List.length_set];exact S.blen) (by simp[Go.Proofs.Ytkcimaibaicdcaa.Tk.setIns]) (S.blk g c' ⟨L⟩ keep hL)
theorem s0 (S:SpAt h o m kk bb lf lb li ce cg ct cp css bc)(h0:0<li){ii:Nat}(hi:ii<(blkAt (fnAt m.funcs kk).blocks bb).ins.length)(xw:Int)(ew:Int.tmod (Go.bits .and .i64 xw 255) 9=0):
  ∃g,exec Try.prog vals call n (fK (sK (sK (sK (sK (sK (sK (sK (sK k13))))))))) ⟨[(4,int xw),(5,.op 0 0),(11,.op o 0),(12,.op lf (kk*5)),(13,.op lb bb),(14,.op li (ii*7)),(15,int 1)],h⟩=some (.normal,⟨[(5,.op 0 0),(11,.op o 0),(15,int 1)],g⟩)∧
   Seen g o (setFn m kk (setIns (fnAt m.funcs kk) bb ((blkAt (fnAt m.funcs kk).blocks bb).ins.set ii { insAt (blkAt (fnAt m.funcs kk).blocks bb).ins ii with op:=31 })))∧g[0]?=h[0]?:=by
 have r:=bin_rem (P:=Try.prog) (t:=3) (x:=.tmp 82) (y:=.const (.int .i64 9)) (a:=Go.bits .and .i64 xw 255) (b:=9) (by decide)
 rw[ew] at r
 have hr:=S.irow
 have hl:=ins_len (blkAt (fnAt m.funcs kk).blocks bb).ins
 have c:ii*7+1≤((blkAt (fnAt m.funcs kk).blocks bb).ins.flatMap encIns).length:=by omega
 have p:put ((blkAt (fnAt m.funcs kk).blocks bb).ins.flatMap encIns) (ii*7) [.v (.int .i64 31)]=((blkAt (fnAt m.funcs kk).blocks bb).ins.set ii { insAt (blkAt (fnAt m.funcs kk).blocks bb).ins ii with op:=31 }).flatMap encIns:=by
  rw[put_one (by omega)]
  exact ins_set (i:=ii) (off:=0) hi (by decide) rfl
 have hlt:=S.lio
 have htop:=S.top
 refine⟨h.set li (.row 7 (((blkAt (fnAt m.funcs kk).blocks bb).ins.set ii { insAt (blkAt (fnAt m.funcs kk).blocks bb).ins ii with op:=31 }).flatMap encIns)),by simp +decide -implicitDefEqProofs only[k13,fK,sK,go_sem,and1,r,hr,c,p,Nat.add_zero],?_,List.getElem?_set_ne (by omega)⟩
 refine S.setIns (by simp) (fun l _ _ _ hne=>List.getElem?_set_ne (Ne.symm hne)) (List.getElem?_set_ne (by omega)) (List.getElem?_set_ne (Ne.symm S.fi)) (c':=.os li 0 (blkAt (fnAt m.funcs kk).blocks bb).ins.length none) ?_ ?_
 ·rw[List.getElem?_set_ne (Ne.symm S.bi),set_same S.bcell];exact S.brow
 ·exact ins_row (List.getElem?_set_self (by omega)) (by rw[ins_len,List.length_set]) (by rw[List.length_set]) (flat_plain _ _)
theorem s1 (S:SpAt h o m kk bb lf lb li ce cg ct cp css bc)(h0:0<li){ii:Nat}(hi:ii<(blkAt (fnAt m.funcs kk).blocks bb).ins.length)(xw:Int)(ew:Int.tmod (Go.bits .and .i64 xw 255) 9=1):
  ∃g,exec Try.prog vals call n (fK (sK (sK (sK (sK (sK (sK (sK (sK k13))))))))) ⟨[(4,int xw),(5,.op 0 0),(11,.op o 0),(12,.op lf (kk*5)),(13,.op lb bb),(14,.op li (ii*7)),(15,int 1)],h⟩=some (.normal,⟨[(5,.op 0 0),(11,.op o 0),(15,int 1)],g⟩)∧
   Seen g o (setFn m kk (setIns (fnAt m.funcs kk) bb ((blkAt (fnAt m.funcs kk).blocks bb).ins.set ii { insAt (blkAt (fnAt m.funcs kk).blocks bb).ins ii with type:=5 })))∧g[0]?=h[0]?:=by
 have r:=bin_rem (P:=Try.prog) (t:=3) (x:=.tmp 82) (y:=.const (.int .i64 9)) (a:=Go.bits .and .i64 xw 255) (b:=9) (by decide)
 rw[ew] at r
 have hr:=S.irow
 have hl:=ins_len (blkAt (fnAt m.funcs kk).blocks bb).ins
 have c:ii*7+1+1≤((blkAt (fnAt m.funcs kk).blocks bb).ins.flatMap encIns).length:=by omega
 have p:put ((blkAt (fnAt m.funcs kk).blocks bb).ins.flatMap encIns) (ii*7+1) [.v (.int .i64 5)]=((blkAt (fnAt m.funcs kk).blocks bb).ins.set ii { insAt (blkAt (fnAt m.funcs kk).blocks bb).ins ii with type:=5 }).flatMap encIns:=by
  rw[put_one (by omega)]
  exact ins_set (i:=ii) (off:=1) hi (by decide) rfl
 have hlt:=S.lio
 have htop:=S.top
 refine⟨h.set li (.row 7 (((blkAt (fnAt m.funcs kk).blocks bb).ins.set ii { insAt (blkAt (fnAt m.funcs kk).blocks bb).ins ii with type:=5 }).flatMap encIns)),by simp +decide -implicitDefEqProofs only[k13,fK,sK,go_sem,and1,r,hr,c,p,Nat.add_zero],?_,List.getElem?_set_ne (by omega)⟩
 refine S.setIns (by simp) (fun l _ _ _ hne=>List.getElem?_set_ne (Ne.symm hne)) (List.getElem?_set_ne (by omega)) (List.getElem?_set_ne (Ne.symm S.fi)) (c':=.os li 0 (blkAt (fnAt m.funcs kk).blocks bb).ins.length none) ?_ ?_
 ·rw[List.getElem?_set_ne (Ne.symm S.bi),set_same S.bcell];exact S.brow
 ·exact ins_row (List.getElem?_set_self (by omega)) (by rw[ins_len,List.length_set]) (by rw[List.length_set]) (flat_plain _ _)
theorem s2 (S:SpAt h o m kk bb lf lb li ce cg ct cp css bc)(h0:0<lf){ii:Nat}(xw:Int)(ew:Int.tmod (Go.bits .and .i64 xw 255) 9=2):
  ∃g,exec Try.prog vals call n (fK (sK (sK (sK (sK (sK (sK (sK (sK k13))))))))) ⟨[(4,int xw),(5,.op 0 0),(11,.op o 0),(12,.op lf (kk*5)),(13,.op lb bb),(14,.op li (ii*7)),(15,int 1)],h⟩=some (.normal,⟨[(5,.op 0 0),(11,.op o 0),(15,int 3)],g⟩)∧
   Seen g o (setFn m kk { fnAt m.funcs kk with name:=mainS })∧g[0]?=h[0]?:=by
 have r:=bin_rem (P:=Try.prog) (t:=3) (x:=.tmp 82) (y:=.const (.int .i64 9)) (a:=Go.bits .and .i64 xw 255) (b:=9) (by decide)
 rw[ew] at r
 have hr:=S.row
 have hk:=S.hk
 have hfl:css.flatten.length=m.funcs.length*5:=by
  have:∀(L:List (List C)),(∀r∈L,r.length=5)→L.flatten.length=L.length*5:=fun L=>by
   induction L with
   |nil=>intro _;rfl
   |cons r L ih=>intro hL;rw[List.flatten_cons,List.length_append,hL r (by simp),ih (fun x hx=>hL x (by simp[hx])),List.length_cons];omega
  rw[this _ S.five,S.len]
 have c:kk*5+1≤css.flatten.length:=by omega
 have hget:css.getD kk []=[str (fnAt m.funcs kk).name,bool (fnAt m.funcs kk).out,cp,int (fnAt m.funcs kk).result,.os lb 0 (fnAt m.funcs kk).blocks.length none]:=by rw[List.getD_eq_getElem?_getD,S.fn];rfl
 have p:put css.flatten (kk*5) [.v (.string mainS)]=(css.set kk [str mainS,bool (fnAt m.funcs kk).out,cp,int (fnAt m.funcs kk).result,.os lb 0 (fnAt m.funcs kk).blocks.length none]).flatten:=by
  have e:=flat_set S.five kk 0 (str mainS) (by decide)
  rw[put_one (by omega)]
  rw[hget] at e
  exact e
 have hlt:=S.lfo
 have htop:=S.top
 refine⟨h.set lf (.row 5 (css.set kk [str mainS,bool (fnAt m.funcs kk).out,cp,int (fnAt m.funcs kk).result,.os lb 0 (fnAt m.funcs kk).blocks.length none]).flatten),by simp +decide -implicitDefEqProofs only[k13,fK,sK,go_sem,and1,r,hr,c,p,Nat.add_zero],?_,List.getElem?_set_ne (by omega)⟩
 refine⟨ce,cg,ct,_,by rw[List.getElem?_set_ne (by omega)];exact S.cell,fun n=>?_⟩
 have keep:∀(N:Tm.Node) (l:Nat),l<o→l≠lf→(h.set lf N)[l]?=h[l]?:=fun N l _ hne=>List.getElem?_set_ne (Ne.symm hne)
 exact S.view _ [str mainS,bool (fnAt m.funcs kk).out,cp,int (fnAt m.funcs kk).result,.os lb 0 (fnAt m.funcs kk).blocks.length none] { fnAt m.funcs kk with name:=mainS } (by simp) (fun l hl hf _ _=>keep _ l hl hf) (List.getElem?_set_self (by omega)) rfl (fn_sees (S.par _ fun l hl hf _ _=>keep _ l hl hf) (S.same _ fun l hl hf=>keep _ l hl hf)) n
end
abbrev stopC:List C:=[.v (.int .i64 30),.v (.int .i64 0),.v (.int .i64 0),.v (.int .i64 0),.v (.int .i64 0),.v (.slice none 0 0),.v (.slice none 0 0)]
theorem stop_sees {g:Heap}:Sees g All 2 stopC (encIns stopI):=fun _ _ _=>rfl
section
variable {vals:FuncId→Bool} {call:CallF} {n:Nat} {h:Heap} {o:Nat} {m:Tm.Module} {kk bb lf lb li:Nat} {ce cg ct cp:C} {css:List (List C)} {bc:List C}
theorem s6 (S:SpAt h o m kk bb lf lb li ce cg ct cp css bc)(h0:0<li∧0<lb)(hn:(blkAt (fnAt m.funcs kk).blocks bb).ins.length≤91){ii:Nat}(xw:Int)(ew:Int.tmod (Go.bits .and .i64 xw 255) 9=6):
  ∃g,exec Try.prog vals call n (fK (sK (sK (sK (sK (sK (sK (sK (sK k13))))))))) ⟨[(4,int xw),(5,.op 0 0),(11,.op o 0),(12,.op lf (kk*5)),(13,.op lb bb),(14,.op li (ii*7)),(15,int 1)],h⟩=some (.normal,⟨[(5,.op 0 0),(11,.op o 0),(15,int 5)],g⟩)∧
   Seen g o (setFn m kk (setIns (fnAt m.funcs kk) bb ((blkAt (fnAt m.funcs kk).blocks bb).ins++[stopI])))∧g[0]?=h[0]?:=by
 have hmr:(2:Nat)^22<maxRow:=by decide
 have r:=bin_rem (P:=Try.prog) (t:=3) (x:=.tmp 82) (y:=.const (.int .i64 9)) (a:=Go.bits .and .i64 xw 255) (b:=9) (by decide)
 rw[ew] at r
 have hb:=S.brow
 have hi:=S.ins
 have hlt:=S.lio
 have hlt2:=S.lbo
 have htop:=S.top
 have hbi:=S.bi
 have hbl:bb<bc.length:=by rw[S.blen];exact S.hb
 have hl:=ins_len (blkAt (fnAt m.funcs kk).blocks bb).ins
 have up:∀(N:Tm.Node) (l:Nat),l<h.length→(h++[N])[l]?=h[l]?:=fun N l hl=>List.getElem?_append_left hl
 have a1:=app_os (h:=h++[Tm.Node.row 7 stopC]) (s:=7) (l:=li) (len:=(blkAt (fnAt m.funcs kk).blocks bb).ins.length) (cells:=(blkAt (fnAt m.funcs kk).blocks bb).ins.flatMap encIns) stopC 1 (by rw[up _ _ (by omega)];exact S.irow) (by decide) hl (by decide) (by omega)
 have e7:(List.set (h++[Tm.Node.row 7 stopC]) li Tm.Node.dead++[Tm.Node.row 7 ((blkAt (fnAt m.funcs kk).blocks bb).ins.flatMap encIns++stopC)])[lb]?=some (.row 1 bc):=by
  rw[List.getElem?_append_left (by simp<;>omega),List.getElem?_set_ne (Ne.symm hbi),up _ _ (by omega)];exact hb
 have c:bb+1≤bc.length:=by omega
 have p:∀v:C,put bc bb [v]=bc.set bb v:=fun v=>put_one hbl
 refine⟨(List.set (h++[Tm.Node.row 7 stopC]) li Tm.Node.dead++[Tm.Node.row 7 ((blkAt (fnAt m.funcs kk).blocks bb).ins.flatMap encIns++stopC)]).set lb (.row 1 (bc.set bb (.os (h++[Tm.Node.row 7 stopC]).length 0 ((blkAt (fnAt m.funcs kk).blocks bb).ins.length+1) none))),by simp +decide -implicitDefEqProofs only[k13,fK,sK,go_sem,and1,r,hb,hi,a1,e7,c,p,Nat.add_zero],?_,?_⟩
 ·refine S.setIns (c':=.os (h++[Tm.Node.row 7 stopC]).length 0 ((blkAt (fnAt m.funcs kk).blocks bb).ins.length+1) none) (by simp<;>omega) (fun l hl h1 h2 h3=>?_) ?_ ?_ (List.getElem?_set_self (by simp<;>omega)) ?_
  ·rw[List.getElem?_set_ne (Ne.symm h2),List.getElem?_append_left (by simp<;>omega),List.getElem?_set_ne (Ne.symm h3),up _ _ (by omega)]
  ·rw[List.getElem?_set_ne (by omega),List.getElem?_append_left (by simp<;>omega),List.getElem?_set_ne (by omega),up _ _ (by omega)]
  ·rw[List.getElem?_set_ne (Ne.symm S.fb),List.getElem?_append_left (by have:=S.lfo;simp;omega),List.getElem?_set_ne (Ne.symm S.fi),up _ _ (by have:=S.lfo;omega)]
  ·refine ins_row (cells:=(blkAt (fnAt m.funcs kk).blocks bb).ins.flatMap encIns++stopC) ?_ (by rw[List.length_append,hl];simp[Nat.add_mul]) (by simp) ?_
   ·rw[List.getElem?_set_ne (by simp<;>omega),List.getElem?_append_right (by simp)];simp
   ·rw[List.flatMap_append]
    exact(flat_plain _ _).append stop_sees
 ·rw[List.getElem?_set_ne (by omega),List.getElem?_append_left (by simp<;>omega),List.getElem?_set_ne (by omega),up _ _ (by omega)]
theorem s7 (S:SpAt h o m kk bb lf lb li ce cg ct cp css bc)(h0:0<lf∧0<lb)(hn:(fnAt m.funcs kk).blocks.length≤17){ii:Nat}(xw:Int)(ew:Int.tmod (Go.bits .and .i64 xw 255) 9=7):
  ∃g,exec Try.prog vals call n (fK (sK (sK (sK (sK (sK (sK (sK (sK k13))))))))) ⟨[(4,int xw),(5,.op 0 0),(11,.op o 0),(12,.op lf (kk*5)),(13,.op lb bb),(14,.op li (ii*7)),(15,int 1)],h⟩=some (.normal,⟨[(5,.op 0 0),(11,.op o 0),(15,int 5)],g⟩)∧
   Seen g o (setFn m kk (moreBlk (fnAt m.funcs kk)))∧g[0]?=h[0]?:=by
 have hmr:(2:Nat)^22<maxRow:=by decide
 have r:=bin_rem (P:=Try.prog) (t:=3) (x:=.tmp 82) (y:=.const (.int .i64 9)) (a:=Go.bits .and .i64 xw 255) (b:=9) (by decide)
 rw[ew] at r
 have hk:=S.hk
 have hfr:=S.row
 have hlt:=S.lfo
 have hlt2:=S.lbo
 have htop:=S.top
 have hfb:=S.fb
 have hfl:css.flatten.length=m.funcs.length*5:=by
  have:∀(L:List (List C)),(∀r∈L,r.length=5)→L.flatten.length=L.length*5:=fun L=>by
   induction L with
   |nil=>intro _;rfl
   |cons r L ih=>intro hL;rw[List.flatten_cons,List.length_append,hL r (by simp),ih (fun x hx=>hL x (by simp[hx])),List.length_cons];omega
  rw[this _ S.five,S.len]
 have g4:(css.flatten.drop (kk*5+4)).head?=some (.os lb 0 (fnAt m.funcs kk).blocks.length none):=S.blocks 4 (by decide)
 have hget:css.getD kk []=[str (fnAt m.funcs kk).name,bool (fnAt m.funcs kk).out,cp,int (fnAt m.funcs kk).result,.os lb 0 (fnAt m.funcs kk).blocks.length none]:=by rw[List.getD_eq_getElem?_getD,S.fn];rfl
 have len1:(h++[Tm.Node.row 7 stopC]).length=h.length+1:=by simp
 have up:∀(l:Nat),l<h.length→(h++[Tm.Node.row 7 stopC]++[Tm.Node.row 1 [.os h.length 0 1 (some 1)]])[l]?=h[l]?:=fun l hl=>by
  rw[List.getElem?_append_left (by omega),List.getElem?_append_left hl]
 have a1:=app_os (h:=h++[Tm.Node.row 7 stopC]++[Tm.Node.row 1 [.os h.length 0 1 (some 1)]]) (s:=1) (l:=lb) (len:=(fnAt m.funcs kk).blocks.length) (cells:=bc) [.os h.length 0 1 (some 1)] 1 (by rw[up _ (by omega)];exact S.brow) (by decide) (by rw[S.blen];omega) (by decide) (by omega)
 have len2:(h++[Tm.Node.row 7 stopC]++[Tm.Node.row 1 [.os h.length 0 1 (some 1)]]).length=h.length+2:=by simp
 have gG:(h++[Tm.Node.row 7 stopC]++[Tm.Node.row 1 [.os h.length 0 1 (some 1)]])[h.length+1]?=some (.row 1 [.os h.length 0 1 (some 1)]):=by rw[List.getElem?_append_right (by omega),len1,Nat.sub_self];rfl
 generalize hG:h++[Tm.Node.row 7 stopC]++[Tm.Node.row 1 [.os h.length 0 1 (some 1)]]=G at up a1 len2 gG
 have e7:(List.set G lb Tm.Node.dead++[Tm.Node.row 1 (bc++[.os h.length 0 1 (some 1)])])[lf]?=some (.row 5 css.flatten):=by
  rw[List.getElem?_append_left (by rw[List.length_set,len2];omega),List.getElem?_set_ne (Ne.symm hfb),up _ (by omega)];exact hfr
 have c:kk*5+4+1≤css.flatten.length:=by omega
 have p:put css.flatten (kk*5+4) [.os G.length 0 ((fnAt m.funcs kk).blocks.length+1) none]=(css.set kk [str (fnAt m.funcs kk).name,bool (fnAt m.funcs kk).out,cp,int (fnAt m.funcs kk).result,.os G.length 0 ((fnAt m.funcs kk).blocks.length+1) none]).flatten:=by
  have e:=flat_set S.five kk 4 (.os G.length 0 ((fnAt m.funcs kk).blocks.length+1) none) (by decide)
  rw[put_one (by omega)]
  rw[hget] at e
  exact e
 have old:∀(N:Tm.Node) (l:Nat),l<h.length→l≠lf→l≠lb→((List.set G lb Tm.Node.dead++[Tm.Node.row 1 (bc++[.os h.length 0 1 (some 1)])]).set lf N)[l]?=h[l]?:=fun N l hl h1 h2=>by
  rw[List.getElem?_set_ne (Ne.symm h1),List.getElem?_append_left (by rw[List.length_set,len2];omega),List.getElem?_set_ne (Ne.symm h2),up _ hl]
 refine⟨(List.set G lb Tm.Node.dead++[Tm.Node.row 1 (bc++[.os h.length 0 1 (some 1)])]).set lf (.row 5 (css.set kk [str (fnAt m.funcs kk).name,bool (fnAt m.funcs kk).out,cp,int (fnAt m.funcs kk).result,.os G.length 0 ((fnAt m.funcs kk).blocks.length+1) none]).flatten),by simp +decide -implicitDefEqProofs only[k13,fK,sK,go_sem,and1,r,hfr,g4,len1,hG,gG,a1,e7,c,p,Nat.add_zero],?_,old _ 0 (by omega) (by omega) (by omega)⟩
 refine⟨ce,cg,ct,_,by rw[old _ o (by omega) (by omega) (by omega)];exact S.cell,fun n=>?_⟩
 refine S.view _ [str (fnAt m.funcs kk).name,bool (fnAt m.funcs kk).out,cp,int (fnAt m.funcs kk).result,.os G.length 0 ((fnAt m.funcs kk).blocks.length+1) none] (moreBlk (fnAt m.funcs kk)) (by rw[List.length_set,List.length_append,List.length_set,len2];omega) (fun l hl h1 h2 _=>old _ l (by omega) h1 h2) (List.getElem?_set_self (by rw[List.length_append,List.length_set,len2];omega)) rfl (fn_sees (S.par _ fun l hl h1 h2 _=>old _ l (by omega) h1 h2) ?_) n
 refine blks_row (bc:=bc++[.os h.length 0 1 (some 1)]) ?_ (by simp[S.blen]) (by simp[moreBlk]) ?_
 ·rw[List.getElem?_set_ne (by omega),List.getElem?_append_right (by rw[List.length_set];omega),List.length_set,Nat.sub_self];rfl
 ·refine S.more _ _ ⟨[stopI]⟩ (fun l hl h1 h2=>old _ l (by omega) h1 h2) ?_
  refine ins_row (l:=h.length) (cells:=stopC) (L:=[stopI]) ?_ rfl rfl stop_sees
  rw[List.getElem?_set_ne (by omega),List.getElem?_append_left (by rw[List.length_set,len2];omega),List.getElem?_set_ne (by omega),←hG,List.getElem?_append_left (by omega)]
  simp
end
end Go.Proofs.Ytkcimaibaicdcaa.Tk
namespace Go.Tm
theorem app_ahead {h:Heap}{l k:Nat}{E ys:List C}(hl:h[l]?=some (.row 7 E))(hE:E.length=7)(hk:0<k)(hm:1+k≤maxRow):
  appendTo h none 7 k ys (.os l 0 1 (some 1))=some (.os h.length 0 (1+k) none,h++[.row 7 (E++ys)]):=by
 simp only[appendTo,hl]
 rw[if_pos ⟨trivial,hm⟩,if_neg (by omega)]
 have:takeN (1*7) (E.drop 0)=some E:=by
  unfold takeN
  rw[if_pos (by rw[List.drop_zero];omega),List.drop_zero,List.take_of_length_le (by omega)]
 rw[this]
 simp only[newRow,new_none_1,new_none_2]
end Go.Tm
namespace Go.Proofs.Ytkcimaibaicdcaa.Tk
open Go.Tm Go.Tm.Tab
abbrev loadC (v:Int)(l:Nat):List C:=[.v (.int .i64 20),.v (.int .i64 1),.v (.int .i64 v),.v (.int .i64 0),.v (.int .i64 0),.os l 0 1 (some 1),.v (.slice none 0 0)]
theorem load_sees {g:Heap}{v:Int}{l:Nat}(hl:g[l]?=some (.row 1 [int v])):Sees g All 2 (loadC v l) (encIns (loadI v)):=fun h hh n=>by
 have e:h[l]?=some (.row 1 (([v]:List Int).map int)):=by rw[hh l trivial];exact hl
 have:=view_os_ints (cl:=false) (n:=n) (cap:=some 1) e
 have this':Tm.view false h (n+2) (.os l 0 1 (some 1))=some (ints [v]):=this
 simp only[loadC,mapC_cons,mapC_nil,this',Option.bind_some]
 rfl
section
variable {h:Heap} {o:Nat} {m:Tm.Module} {kk bb lf lb li:Nat} {ce cg ct cp:C} {css:List (List C)} {bc:List C}
theorem s8 (S:SpAt h o m kk bb lf lb li ce cg ct cp css bc)(h0:0<li∧0<lb)(F:Fine (fnAt m.funcs kk))(hp:(fnAt m.funcs kk).params.length≤20)(hn:(blkAt (fnAt m.funcs kk).blocks bb).ins.length≤91)(h1:0<(blkAt (fnAt m.funcs kk).blocks bb).ins.length){k n:Nat}(hk:201≤k){ii:Nat}(xw:Int)(ew:Int.tmod (Go.bits .and .i64 xw 255) 9=8):
  ∃g,exec Try.prog (valsOf tab) (callAt Try.prog tab k) n (fK (sK (sK (sK (sK (sK (sK (sK (sK k13))))))))) ⟨[(4,int xw),(5,.op 0 0),(11,.op o 0),(12,.op lf (kk*5)),(13,.op lb bb),(14,.op li (ii*7)),(15,int 1)],h⟩=some (.normal,⟨if phiB (insAt (blkAt (fnAt m.funcs kk).blocks bb).ins 0)=true then[(5,.op 0 0),(11,.op o 0),(15,int 5)] else[(5,.op 0 0),(11,.op o 0),(15,int 6),(120,bool false)],g⟩)∧
   Seen g o (setFn m kk (setIns (fnAt m.funcs kk) bb (loadI ((typesOf (fnAt m.funcs kk)).length:Int)::(blkAt (fnAt m.funcs kk).blocks bb).ins)))∧g[0]?=h[0]?:=by
 have hmr:(2:Nat)^22<maxRow:=by decide
 have r:=bin_rem (P:=Try.prog) (t:=3) (x:=.tmp 82) (y:=.const (.int .i64 9)) (a:=Go.bits .and .i64 xw 255) (b:=9) (by decide)
 rw[ew] at r
 have hfr:=S.row
 have hb:=S.brow
 have hi:=S.ins
 have hir:=S.irow
 have hlt:=S.lio
 have hlt2:=S.lbo
 have hlt3:=S.lfo
 have htop:=S.top
 have hbi:=S.bi
 have hbl:bb<bc.length:=by rw[S.blen];exact S.hb
 have hl:=ins_len (blkAt (fnAt m.funcs kk).blocks bb).ins
 have hN:(typesOf (fnAt m.funcs kk)).length<2^20:=by
  have b1:=F.blocks
  have hle:=tsB_le 91 (fnAt m.funcs kk).blocks fun b hb=>F.ins b hb
  have hle2:(fnAt m.funcs kk).blocks.length*91≤17*91:=Nat.mul_le_mul_right _ b1
  simp[typesOf];omega
 have hvw:∀n,mapC (Tm.view false h (n+5)) [.agg [str (fnAt m.funcs kk).name,bool (fnAt m.funcs kk).out,cp,int (fnAt m.funcs kk).result,.os lb 0 (fnAt m.funcs kk).blocks.length none]]=some [.agg (encFunc (fnAt m.funcs kk))]:=fun n=>by
  have:=fn_sees (nm:=(fnAt m.funcs kk).name) (o:=(fnAt m.funcs kk).out) (r:=(fnAt m.funcs kk).result) (S.par h fun _ _ _ _ _=>rfl) (S.same h fun _ _ _=>rfl) h (fun _ _=>rfl) n
  rw[mapC_cons,view_agg,this];rfl
 have h59:callAt Try.prog tab k 59 [.agg [str (fnAt m.funcs kk).name,bool (fnAt m.funcs kk).out,cp,int (fnAt m.funcs kk).result,.os lb 0 (fnAt m.funcs kk).blocks.length none]] h=some (int (((typesOf (fnAt m.funcs kk)).length:Int)-1),h):=values_runs (fnAt m.funcs kk) F hp k hk _ h (hvw 7)
 have w1:IntKind.i64.wrap (((typesOf (fnAt m.funcs kk)).length:Int)-1+1)=((typesOf (fnAt m.funcs kk)).length:Int):=by rw[wrap_in (by omega) (by omega)];omega
 have tk5:takeN 5 (css.flatten.drop (kk*5))=some [str (fnAt m.funcs kk).name,bool (fnAt m.funcs kk).out,cp,int (fnAt m.funcs kk).result,.os lb 0 (fnAt m.funcs kk).blocks.length none]:=by
  have hc:=S.fn
  have f5:=S.five
  have:∀(L:List (List C)) (k:Nat) (x:List C),(∀r∈L,r.length=5)→L[k]?=some x→takeN 5 (L.flatten.drop (k*5))=some x:=fun L=>by
   induction L with
   |nil=>intro k x _ h;simp at h
   |cons r L ih=>
    intro k x hL hx
    have hr:=hL r (by simp)
    cases k with
    |zero=>
     simp at hx;subst hx
     rw[List.flatten_cons,Nat.zero_mul,List.drop_zero]
     unfold takeN
     rw[if_pos (by simp;omega),List.take_append_of_le_length (by omega),List.take_of_length_le (by omega)]
    |succ k=>
     rw[List.flatten_cons,show(k+1)*5=r.length+k*5 by omega,List.drop_append,List.drop_eq_nil_of_le (by omega),List.nil_append,Nat.add_sub_cancel_left]
     exact ih k x (fun y hy=>hL y (by simp[hy])) (by simpa using hx)
  exact this css kk _ f5 hc
 have tk7:takeN ((blkAt (fnAt m.funcs kk).blocks bb).ins.length*7) ((blkAt (fnAt m.funcs kk).blocks bb).ins.flatMap encIns)=some ((blkAt (fnAt m.funcs kk).blocks bb).ins.flatMap encIns):=by
  unfold takeN;rw[if_pos (by omega),List.take_of_length_le (by omega)]
 have len1:(h++[Tm.Node.row 1 [C.v (.int .i64 ((typesOf (fnAt m.funcs kk)).length:Int))]]).length=h.length+1:=by simp
 have up:∀(l:Nat),l<h.length→(h++[Tm.Node.row 1 [C.v (.int .i64 ((typesOf (fnAt m.funcs kk)).length:Int))]]++[Tm.Node.row 7 (loadC ((typesOf (fnAt m.funcs kk)).length:Int) h.length)])[l]?=h[l]?:=fun l hl=>by
  rw[List.getElem?_append_left (by omega),List.getElem?_append_left hl]
 have len2:(h++[Tm.Node.row 1 [C.v (.int .i64 ((typesOf (fnAt m.funcs kk)).length:Int))]]++[Tm.Node.row 7 (loadC ((typesOf (fnAt m.funcs kk)).length:Int) h.length)]).length=h.length+2:=by simp
 have gE:(h++[Tm.Node.row 1 [C.v (.int .i64 ((typesOf (fnAt m.funcs kk)).length:Int))]]++[Tm.Node.row 7 (loadC ((typesOf (fnAt m.funcs kk)).length:Int) h.length)])[h.length+1]?=some (.row 7 (loadC ((typesOf (fnAt m.funcs kk)).length:Int) h.length)):=by rw[List.getElem?_append_right (by omega),len1,Nat.sub_self];rfl
 have gV:(h++[Tm.Node.row 1 [C.v (.int .i64 ((typesOf (fnAt m.funcs kk)).length:Int))]]++[Tm.Node.row 7 (loadC ((typesOf (fnAt m.funcs kk)).length:Int) h.length)])[h.length]?=some (.row 1 [int ((typesOf (fnAt m.funcs kk)).length:Int)]):=by rw[List.getElem?_append_left (by omega)];simp
 generalize hG:h++[Tm.Node.row 1 [C.v (.int .i64 ((typesOf (fnAt m.funcs kk)).length:Int))]]++[Tm.Node.row 7 (loadC ((typesOf (fnAt m.funcs kk)).length:Int) h.length)]=G at up len2 gE gV
 have a1:=app_ahead (ys:=(blkAt (fnAt m.funcs kk).blocks bb).ins.flatMap encIns) gE rfl h1 (by omega)
 have gI:G[li]?=some (.row 7 ((blkAt (fnAt m.funcs kk).blocks bb).ins.flatMap encIns)):=by rw[up _ (by omega)];exact hir
 have e7:(G++[Tm.Node.row 7 (loadC ((typesOf (fnAt m.funcs kk)).length:Int) h.length++(blkAt (fnAt m.funcs kk).blocks bb).ins.flatMap encIns)])[lb]?=some (.row 1 bc):=by
  rw[List.getElem?_append_left (by omega),up _ (by omega)];exact hb
 have c:bb+1≤bc.length:=by omega
 have p:∀v:C,put bc bb [v]=bc.set bb v:=fun v=>put_one hbl
 generalize hg:(G++[Tm.Node.row 7 (loadC ((typesOf (fnAt m.funcs kk)).length:Int) h.length++(blkAt (fnAt m.funcs kk).blocks bb).ins.flatMap encIns)]).set lb (.row 1 (bc.set bb (.os G.length 0 (1+(blkAt (fnAt m.funcs kk).blocks bb).ins.length) none)))=g
 have old:∀(l:Nat),l<h.length→l≠lb→g[l]?=h[l]?:=fun l hl h2=>by
  rw[←hg,List.getElem?_set_ne (Ne.symm h2),List.getElem?_append_left (by omega),up _ hl]
 have glb:g[lb]?=some (.row 1 (bc.set bb (.os G.length 0 (1+(blkAt (fnAt m.funcs kk).blocks bb).ins.length) none))):=by rw[←hg];exact List.getElem?_set_self (by simp<;>omega)
 have gnew:g[G.length]?=some (.row 7 (loadC ((typesOf (fnAt m.funcs kk)).length:Int) h.length++(blkAt (fnAt m.funcs kk).blocks bb).ins.flatMap encIns)):=by
  rw[←hg,List.getElem?_set_ne (by omega),List.getElem?_append_right (by omega),Nat.sub_self];rfl
 have hd:((bc.set bb (.os G.length 0 (1+(blkAt (fnAt m.funcs kk).blocks bb).ins.length) none)).drop bb).head?=some (.os G.length 0 (1+(blkAt (fnAt m.funcs kk).blocks bb).ins.length) none):=by rw[List.head?_drop,List.getElem?_set_self hbl]
 have d1:decide (((1+(blkAt (fnAt m.funcs kk).blocks bb).ins.length:Nat):Int)>1)=true:=decide_eq_true (by omega)
 have d2:(0:Int)≤1∧(1:Int)<((1+(blkAt (fnAt m.funcs kk).blocks bb).ins.length:Nat):Int):=by omega
 have hop:((blkAt (fnAt m.funcs kk).blocks bb).ins.flatMap encIns).head?=some (int (insAt (blkAt (fnAt m.funcs kk).blocks bb).ins 0).op):=by
  have:∀L:List Ins,0<L.length→(L.flatMap encIns).head?=some (int (insAt L 0).op):=fun L hL=>by
   cases L with
   |nil=>simp at hL
   |cons x r=>rfl
  exact this _ h1
 have hseen:Seen g o (setFn m kk (setIns (fnAt m.funcs kk) bb (loadI ((typesOf (fnAt m.funcs kk)).length:Int)::(blkAt (fnAt m.funcs kk).blocks bb).ins))):=by
  refine S.setIns (c':=.os G.length 0 (1+(blkAt (fnAt m.funcs kk).blocks bb).ins.length) none) (by rw[←hg];simp<;>omega) (fun l hl _ h2 _=>old l (by omega) h2) (old o (by omega) (by omega)) (old lf (by omega) S.fb) glb ?_
  refine ins_row gnew (by rw[List.length_append,hl];simp[Nat.add_mul]) (by simp;omega) ?_
  rw[List.flatMap_cons]
  refine Sees.append (load_sees ?_) (flat_plain _ _)
  rw[←hg,List.getElem?_set_ne (by omega),List.getElem?_append_left (by omega)];exact gV
 simp only[loadC,List.cons_append,List.nil_append] at a1 e7 hg gnew
 have t17:Int.toNat 1*7=7:=rfl
 cases q:phiB (insAt (blkAt (fnAt m.funcs kk).blocks bb).ins 0) with
 |true=>
  rw[if_pos rfl]
  have q':decide ((insAt (blkAt (fnAt m.funcs kk).blocks bb).ins 0).op=26)=true:=q
  exact⟨g,by simp +decide -implicitDefEqProofs only[k13,fK,sK,go_sem,and1,r,hfr,hb,hi,hir,tk5,h59,w1,len1,hG,gI,List.drop_zero,tk7,a1,e7,c,p,hg,glb,hd,d1,d2,gnew,t17,hop,q',Nat.add_zero],hseen,old 0 (by omega) (by omega)⟩
 |false=>
  rw[if_neg (by decide)]
  have q':decide ((insAt (blkAt (fnAt m.funcs kk).blocks bb).ins 0).op=26)=false:=q
  exact⟨g,by simp +decide -implicitDefEqProofs only[k13,fK,sK,go_sem,and1,r,hfr,hb,hi,hir,tk5,h59,w1,len1,hG,gI,List.drop_zero,tk7,a1,e7,c,p,hg,glb,hd,d1,d2,gnew,t17,hop,q',Nat.add_zero],hseen,old 0 (by omega) (by omega)⟩
end
end Go.Proofs.Ytkcimaibaicdcaa.Tk
namespace Go.Tm
theorem OAt.keep {h pre:Heap}{o:Nat}{m:Module}{c:Nat→C}(H:OAt h o m c)(j:Nat)(hj:j<4)(hle:h.length≤pre.length)(hpre:∀y,y<h.length→pre[y]?=h[y]?){elem:List C}(he:elem.length=szF j)(hm:kM m j+1≤maxRow){r:C}{h5:Heap}
  (a1:appendTo (pre++[.row (szF j) elem]) none (szF j) 1 elem (c j)=some (r,h5)){x:Nat}(hx:x<h.length)(hc:locC (c j)≠some x):h5[x]?=h[x]?:=by
 obtain⟨_,X,col,ho,hp⟩:=H
 obtain⟨cells,q1,_⟩:=(hp j hj).1
 have hs:0<szF j:=by unfold szF;split<;>decide
 have q2:RowC (pre++[Node.row (szF j) elem]) (c j) (szF j) cells (kM m j):=q1.mono fun l hl=>by
  have:=q1.lt hl
  rw[List.getElem?_append_left (by omega)];exact hpre l this
 obtain⟨h2,b1,b2,b3,_⟩:=q2.append elem 1 hs (by decide) (by rw[he];omega) hm
 rw[b1] at a1
 cases a1
 rw[b3 x (by simp;omega) hc,List.getElem?_append_left (by omega)];exact hpre x hx
end Go.Tm
namespace Go.Proofs.Ytkcimaibaicdcaa.Tk
open Go.Tm Go.Tm.Tab
theorem OAt.seen {h:Heap}{o:Nat}{m:Tm.Module}{c:Nat→C}(H:OAt h o m c):Seen h o m:=⟨c 0,c 1,c 2,c 3,H.cell,fun n=>H.view n⟩
section
variable {vals:FuncId→Bool} {call:CallF} {n:Nat} {h:Heap} {o:Nat} {m:Tm.Module} {c:Nat→C}
theorem s4 (H:OAt h o m c)(h00:0<o∧locC (c 1)≠some 0)(hm:m.globals.length≤20)(xw:Int)(ew:Int.tmod (Go.bits .and .i64 xw 255) 9=4)(c12 c13 c14:C):
  ∃g,exec Try.prog vals call n (fK (sK (sK (sK (sK (sK (sK (sK (sK k13))))))))) ⟨[(4,int xw),(5,.op 0 0),(11,.op o 0),(12,c12),(13,c13),(14,c14),(15,int 1)],h⟩=some (.normal,⟨[(5,.op 0 0),(11,.op o 0),(15,int 2)],g⟩)∧Seen g o { m with globals:=m.globals++[⟨zz,[]⟩] }∧g[0]?=h[0]?:=by
 have hmr:(2:Nat)^22<maxRow:=by decide
 have r:=bin_rem (P:=Try.prog) (t:=3) (x:=.tmp 82) (y:=.const (.int .i64 9)) (a:=Go.bits .and .i64 xw 255) (b:=9) (by decide)
 rw[ew] at r
 obtain⟨h5,a1,e9,fin⟩:=H.append 1 (by decide) (pre:=h) (X':=fun _=>False) (elem:=[str (⟨#[122,122]⟩:ByteArray),(.v (.slice none 0 0))]) (ws:=[str zz,ints []]) (m':={ m with globals:=m.globals++[⟨zz,[]⟩] }) (by simp) (fun y hy=>by first|rfl|exact List.getElem?_append_left hy)
  ((Sees.str (by decide)).cons (fun g hg n=>rfl)) (fun y hy=>by first|exact hy.elim|(subst hy;simp)) rfl (by show m.globals.length+1≤maxRow;omega)
  (fun i hi=>by rcases(by omega:i=0∨i=1∨i=2∨i=3) with rfl|rfl|rfl|rfl<;>first|rfl|(simp[kM]))
  (fun i hi=>by rcases(by omega:i=0∨i=1∨i=2∨i=3) with rfl|rfl|rfl|rfl<;>first|rfl|(simp[vsM,encExtern,encGlobal,encTable]))
 have z:=H.keep 1 (by decide) (pre:=h) (by simp) (fun y hy=>by first|rfl|exact List.getElem?_append_left hy) rfl (by show m.globals.length+1≤maxRow;omega) a1 (x:=0) (by have:=(List.getElem?_eq_some_iff.1 H.cell).1;omega) h00.2
 have a2:appendTo ((h)++[Tm.Node.row 2 [str (⟨#[122,122]⟩:ByteArray),(.v (.slice none 0 0))]]) none 2 1 [str (⟨#[122,122]⟩:ByteArray),(.v (.slice none 0 0))] (c 1)=some ((.os ((h)++[Tm.Node.row 2 [str (⟨#[122,122]⟩:ByteArray),(.v (.slice none 0 0))]]).length 0 (m.globals.length+1) none),h5):=a1
 have g:=H.cell
 have gp:=fun N:Tm.Node=>show(h++[N])[o]?=some (.row 0 [c 0,c 1,c 2,c 3]) by rw[List.getElem?_append_left (List.getElem?_eq_some_iff.1 g).1];exact g
 refine⟨h5.set o (Tm.Node.row 0 [c 0,(.os ((h)++[Tm.Node.row 2 [str (⟨#[122,122]⟩:ByteArray),(.v (.slice none 0 0))]]).length 0 (m.globals.length+1) none),c 2,c 3]),?_,OAt.seen (fin (fun i=>if i=1 then(.os ((h)++[Tm.Node.row 2 [str (⟨#[122,122]⟩:ByteArray),(.v (.slice none 0 0))]]).length 0 (m.globals.length+1) none) else c i) fun i _=>rfl),by rw[List.getElem?_set_ne (by omega)];exact z⟩
 simp +decide -implicitDefEqProofs only[k13,fK,sK,go_sem,and1,r,g,gp,a2,e9,Nat.add_zero]
theorem s3 (H:OAt h o m c)(h00:0<o∧locC (c 1)≠some 0)(hm:m.globals.length≤20){lf kk:Nat}{cells:List C}{nm:ByteArray}(hf:h[lf]?=some (.row 5 cells))(hnm:(cells.drop (kk*5)).head?=some (str nm))(xw:Int)(ew:Int.tmod (Go.bits .and .i64 xw 255) 9=3)(c12 c13 c14:C):
  ∃g,exec Try.prog vals call n (fK (sK (sK (sK (sK (sK (sK (sK (sK k13))))))))) ⟨[(4,int xw),(5,.op 0 0),(11,.op o 0),(12,.op lf (kk*5)),(13,c13),(14,c14),(15,int 1)],h⟩=some (.normal,⟨[(5,.op 0 0),(11,.op o 0),(15,int 3)],g⟩)∧Seen g o { m with globals:=m.globals++[⟨nm,[0]⟩] }∧g[0]?=h[0]?:=by
 have hmr:(2:Nat)^22<maxRow:=by decide
 have r:=bin_rem (P:=Try.prog) (t:=3) (x:=.tmp 82) (y:=.const (.int .i64 9)) (a:=Go.bits .and .i64 xw 255) (b:=9) (by decide)
 rw[ew] at r
 obtain⟨h5,a1,e9,fin⟩:=H.append 1 (by decide) (pre:=h++[Tm.Node.row 1 [int 0]]) (X':=fun y=>y=h.length) (elem:=[str nm,.os h.length 0 1 (some 1)]) (ws:=[str nm,ints [0]]) (m':={ m with globals:=m.globals++[⟨nm,[0]⟩] }) (by simp) (fun y hy=>by first|rfl|exact List.getElem?_append_left hy)
  ((Sees.str (by decide)).cons fun g hg n=>by rw[mapC_cons,mapC_nil,show(1:Nat)=[(0:Int)].length from rfl,view_os_ints (n:=n+1) (xs:=[0]) (by rw[hg _ rfl];simp)];rfl) (fun y hy=>by first|exact hy.elim|(subst hy;simp)) rfl (by show m.globals.length+1≤maxRow;omega)
  (fun i hi=>by rcases(by omega:i=0∨i=1∨i=2∨i=3) with rfl|rfl|rfl|rfl<;>first|rfl|(simp[kM]))
  (fun i hi=>by rcases(by omega:i=0∨i=1∨i=2∨i=3) with rfl|rfl|rfl|rfl<;>first|rfl|(simp[vsM,encExtern,encGlobal,encTable]))
 have z:=H.keep 1 (by decide) (pre:=h++[Tm.Node.row 1 [int 0]]) (by simp) (fun y hy=>by first|rfl|exact List.getElem?_append_left hy) rfl (by show m.globals.length+1≤maxRow;omega) a1 (x:=0) (by have:=(List.getElem?_eq_some_iff.1 H.cell).1;omega) h00.2
 have a2:appendTo ((h++[Tm.Node.row 1 [int 0]])++[Tm.Node.row 2 [str nm,.os h.length 0 1 (some 1)]]) none 2 1 [str nm,.os h.length 0 1 (some 1)] (c 1)=some ((.os ((h++[Tm.Node.row 1 [int 0]])++[Tm.Node.row 2 [str nm,.os h.length 0 1 (some 1)]]).length 0 (m.globals.length+1) none),h5):=a1
 have g:=H.cell
 have gp:=fun N:Tm.Node=>show(h++[N])[o]?=some (.row 0 [c 0,c 1,c 2,c 3]) by rw[List.getElem?_append_left (List.getElem?_eq_some_iff.1 g).1];exact g
 refine⟨h5.set o (Tm.Node.row 0 [c 0,(.os ((h++[Tm.Node.row 1 [int 0]])++[Tm.Node.row 2 [str nm,.os h.length 0 1 (some 1)]]).length 0 (m.globals.length+1) none),c 2,c 3]),?_,OAt.seen (fin (fun i=>if i=1 then(.os ((h++[Tm.Node.row 1 [int 0]])++[Tm.Node.row 2 [str nm,.os h.length 0 1 (some 1)]]).length 0 (m.globals.length+1) none) else c i) fun i _=>rfl),by rw[List.getElem?_set_ne (by omega)];exact z⟩
 simp +decide -implicitDefEqProofs only[k13,fK,sK,go_sem,and1,r,g,gp,a2,e9,Nat.add_zero,hf,hnm]
theorem s5 (H:OAt h o m c)(h00:0<o∧locC (c 2)≠some 0)(hm:m.tables.length≤20)(xw:Int)(ew:Int.tmod (Go.bits .and .i64 xw 255) 9=5)(c12 c13 c14:C):
  ∃g,exec Try.prog vals call n (fK (sK (sK (sK (sK (sK (sK (sK (sK k13))))))))) ⟨[(4,int xw),(5,.op 0 0),(11,.op o 0),(12,c12),(13,c13),(14,c14),(15,int 1)],h⟩=some (.normal,⟨[(5,.op 0 0),(11,.op o 0),(15,int 4)],g⟩)∧Seen g o { m with tables:=m.tables++[⟨zz,[(m.funcs.length:Int)]⟩] }∧g[0]?=h[0]?:=by
 have hmr:(2:Nat)^22<maxRow:=by decide
 have r:=bin_rem (P:=Try.prog) (t:=3) (x:=.tmp 82) (y:=.const (.int .i64 9)) (a:=Go.bits .and .i64 xw 255) (b:=9) (by decide)
 rw[ew] at r
 obtain⟨h5,a1,e9,fin⟩:=H.append 2 (by decide) (pre:=h++[Tm.Node.row 1 [int m.funcs.length]]) (X':=fun y=>y=h.length) (elem:=[str (⟨#[122,122]⟩:ByteArray),.os h.length 0 1 (some 1)]) (ws:=[str zz,ints [(m.funcs.length:Int)]]) (m':={ m with tables:=m.tables++[⟨zz,[(m.funcs.length:Int)]⟩] }) (by simp) (fun y hy=>by first|rfl|exact List.getElem?_append_left hy)
  ((Sees.str (by decide)).cons fun g hg n=>by rw[mapC_cons,mapC_nil,show(1:Nat)=[(m.funcs.length:Int)].length from rfl,view_os_ints (n:=n+1) (xs:=[(m.funcs.length:Int)]) (by rw[hg _ rfl];simp)];rfl) (fun y hy=>by first|exact hy.elim|(subst hy;simp)) rfl (by show m.tables.length+1≤maxRow;omega)
  (fun i hi=>by rcases(by omega:i=0∨i=1∨i=2∨i=3) with rfl|rfl|rfl|rfl<;>first|rfl|(simp[kM]))
  (fun i hi=>by rcases(by omega:i=0∨i=1∨i=2∨i=3) with rfl|rfl|rfl|rfl<;>first|rfl|(simp[vsM,encExtern,encGlobal,encTable]))
 have z:=H.keep 2 (by decide) (pre:=h++[Tm.Node.row 1 [int m.funcs.length]]) (by simp) (fun y hy=>by first|rfl|exact List.getElem?_append_left hy) rfl (by show m.tables.length+1≤maxRow;omega) a1 (x:=0) (by have:=(List.getElem?_eq_some_iff.1 H.cell).1;omega) h00.2
 have a2:appendTo ((h++[Tm.Node.row 1 [int m.funcs.length]])++[Tm.Node.row 2 [str (⟨#[122,122]⟩:ByteArray),.os h.length 0 1 (some 1)]]) none 2 1 [str (⟨#[122,122]⟩:ByteArray),.os h.length 0 1 (some 1)] (c 2)=some ((.os ((h++[Tm.Node.row 1 [int m.funcs.length]])++[Tm.Node.row 2 [str (⟨#[122,122]⟩:ByteArray),.os h.length 0 1 (some 1)]]).length 0 (m.tables.length+1) none),h5):=a1
 have g:=H.cell
 have gp:=fun N:Tm.Node=>show(h++[N])[o]?=some (.row 0 [c 0,c 1,c 2,c 3]) by rw[List.getElem?_append_left (List.getElem?_eq_some_iff.1 g).1];exact g
 have hlf:lenS (c 3)=some (int m.funcs.length):=by
  obtain⟨X,col,_,hp⟩:=H.parts
  exact(hp 3 (by decide)).1.lenS
 refine⟨h5.set o (Tm.Node.row 0 [c 0,c 1,(.os ((h++[Tm.Node.row 1 [int m.funcs.length]])++[Tm.Node.row 2 [str (⟨#[122,122]⟩:ByteArray),.os h.length 0 1 (some 1)]]).length 0 (m.tables.length+1) none),c 3]),?_,OAt.seen (fin (fun i=>if i=2 then(.os ((h++[Tm.Node.row 1 [int m.funcs.length]])++[Tm.Node.row 2 [str (⟨#[122,122]⟩:ByteArray),.os h.length 0 1 (some 1)]]).length 0 (m.tables.length+1) none) else c i) fun i _=>rfl),by rw[List.getElem?_set_ne (by omega)];exact z⟩
 simp +decide -implicitDefEqProofs only[k13,fK,sK,go_sem,and1,r,g,gp,a2,e9,Nat.add_zero,hlf]
end
end Go.Proofs.Ytkcimaibaicdcaa.Tk
namespace Go.Tm
theorem seq_norm {P:Program}{vals:FuncId→Bool}{call:CallF}{n:Nat}{K:K}{st st':St}(hK:K=.seq (fK K) (sK K))(h:exec P vals call n (fK K) st=some (.normal,st')):exec P vals call n K st=exec P vals call n (sK K) st':=by
 have e:exec P vals call n (.seq (fK K) (sK K)) st=exec P vals call n (sK K) st':=by
  show andThen (exec P vals call n (fK K) st) (exec P vals call n (sK K))=_
  rw[h];rfl
 rw[←hK] at e;exact e
end Go.Tm
namespace Go.Proofs.Ytkcimaibaicdcaa.Tk
open Go.Tm Go.Tm.Tab
theorem fine_set {m:Tm.Module}(F:FineM m){k:Nat}{f':Tm.Func}(h:Fine f'∧f'.name.size≤40∧f'.params.length≤8):FineM (setFn m k f'):=
 ⟨F.externs,F.globals,F.tables,by have:=F.funcs;simpa[setFn] using this,F.ext,F.glo,F.tbl,fun x hx=>by
  rcases List.mem_or_eq_of_mem_set hx with hx|rfl
  ·exact F.fn x hx
  ·exact h⟩
theorem fine_ins {f:Tm.Func}(F:Fine f){b:Nat}{L:List Ins}(hL:L.length≤91)(hi:∀x∈L,x.args.length≤20∧x.into.length≤20):Fine (setIns f b L):=
 ⟨by have:=F.blocks;simpa[setIns] using this,fun c hc=>by
  rcases List.mem_or_eq_of_mem_set hc with hc|rfl
  ·exact F.ins c hc
  ·exact hL,fun c hc=>by
  rcases List.mem_or_eq_of_mem_set hc with hc|rfl
  ·exact F.into c hc
  ·exact hi⟩
theorem fin13 {k n:Nat}(hk:2^36+200≤k){g:Heap}{o:Nat}{m m':Tm.Module}{w:Int}(F:FineM m)(F':FineM m')(g0:g[0]?=some (.row 0 [externs m.externs,globals m.globals,tables m.tables,funcs m.funcs]))(Sn:Seen g o m')(hc:checkN m=0)(hw:checkN m'=w)(r:Env):
  ∃c h,fin Try.prog [.tmp 10] (exec Try.prog (valsOf tab) (callAt Try.prog tab k) n (sK (sK (sK (sK (sK (sK (sK (sK (sK k13))))))))) ⟨(5,.op 0 0)::(11,.op o 0)::(15,int w)::r,g⟩)=some (c,h)∧view true h depth c=some (bool true):=by
 obtain⟨c0,c1,c2,c3,go,gv⟩:=Sn
 have h1:callAt Try.prog tab k 53 [.agg [externs m.externs,globals m.globals,tables m.tables,funcs m.funcs]] g=some (int 0,g):=by
  have:=wcheck_runs m F k (by omega) [.agg [externs m.externs,globals m.globals,tables m.tables,funcs m.funcs]] g (by rw[enc_module];simp +decide -implicitDefEqProofs only[depth,go_sem])
  rw[hc] at this;exact this
 have h2:callAt Try.prog tab k 53 [.agg [c0,c1,c2,c3]] g=some (int w,g):=by
  have:=wcheck_runs m' F' k (by omega) _ g (gv 6)
  rw[hw] at this;exact this
 have e:decide (w=w)=true:=by simp
 simp +decide -implicitDefEqProofs only[k13,sK,go_sem,g0,go,h1,h2,e]
 exact⟨_,_,rfl,rfl⟩
theorem nine {a:Nat}(h:a<9):a=0∨a=1∨a=2∨a=3∨a=4∨a=5∨a=6∨a=7∨a=8:=by omega
theorem wfSpoilt (m:Tm.Module)(hl:∀f∈m.funcs,∀b∈f.blocks,b.ins.length<2^45)(xk xb xi xw:Int):Runs Try.prog tab (2^36+400) 13 [.agg (encModule m),int xk,int xb,int xi,int xw] (bool true):=by
 refine Runs.by (rs:=[.tmp 10]) (N:=204) rfl Try.func13 rfl rfl (by simp) fun k hk=>?_
 have h49:∀h,callAt Try.prog tab k 49 [] h=some (bool true,h):=fun h=>first6 k (by omega) [] h rfl
 obtain⟨t,hft,hF⟩:=fit_runs m hl
 have h42:∀h,callAt Try.prog tab k 42 [.agg [externs m.externs,globals m.globals,tables m.tables,funcs m.funcs]] h=some (bool t,h):=fun h=>hft k (by omega) _ h (by rw[enc_module];simp +decide -implicitDefEqProofs only[depth,go_sem])
 rw[enc_module]
 cases t with
 |false=>simp +decide -implicitDefEqProofs only[k13,go_sem,h49,h42];exact⟨_,_,rfl,rfl⟩
 |true=>
 obtain⟨F,hc,hT⟩:=hF rfl
 have h60:∀h,callAt Try.prog tab k 60 [.agg [externs m.externs,globals m.globals,tables m.tables,funcs m.funcs],str ⟨#[122,122]⟩] h=some (bool (decide (zz∈namesOf m)),h):=fun h=>named60_runs m F zz k (by omega) _ h (by rw[enc_module];simp +decide -implicitDefEqProofs only[depth,go_sem])
 cases c0:decide ((m.funcs.length:Int)=0) with
 |true=>simp +decide -implicitDefEqProofs only[k13,go_sem,h49,h42,c0];exact⟨_,_,rfl,rfl⟩
 |false=>
 cases c1:decide ((m.globals.length:Int)>10) with
 |true=>simp +decide -implicitDefEqProofs only[k13,go_sem,h49,h42,c0,c1];exact⟨_,_,rfl,rfl⟩
 |false=>
 cases c2:decide ((m.tables.length:Int)>4) with
 |true=>simp +decide -implicitDefEqProofs only[k13,go_sem,h49,h42,c0,c1,c2];exact⟨_,_,rfl,rfl⟩
 |false=>
 cases n1:decide (zz∈namesOf m) with
 |true=>rw[n1] at h60;simp +decide -implicitDefEqProofs only[k13,go_sem,h49,h42,c0,c1,c2,h60];exact⟨_,_,rfl,rfl⟩
 |false=>
 rw[n1] at h60
 have d0:=of_decide_eq_false c0
 have d1:=of_decide_eq_false c1
 have d2:=of_decide_eq_false c2
 have hzz:=of_decide_eq_false n1
 obtain⟨k,rfl⟩:∃k',k=k'+1:=⟨k-1,by omega⟩
 obtain⟨ce,cg,ct,cf,css,A,B,i1,i2,i3,g0,h47,p1,p2,p3,p4,p5,p6⟩:=copy_ref (k:=k) (by omega) m F [Tm.Node.row 0 [externs m.externs,globals m.globals,tables m.tables,funcs m.funcs]]
 rw[enc_module] at h47
 -- where it is spoilt
 obtain⟨kk,hkk,ek⟩:=low16 xk (n:=m.funcs.length) (by omega)
 have hf:=fn_get hkk
 have hb0:=limits_blocks (check_zero hc).1 _ hf
 obtain⟨bb,hbb,eb⟩:=low16 xb (n:=(fnAt m.funcs kk).blocks.length) hb0
 have hflow:=(check_zero hc).2.2.2.2.1 _ hf
 have hi0:=(flow_row hflow hbb).1
 obtain⟨ii,hii,ei⟩:=low16 xi (n:=(blkAt (fnAt m.funcs kk).blocks bb).ins.length) (by omega)
 obtain⟨a,ha,ea⟩:=low9 xw
 have ha9:a=0∨a=1∨a=2∨a=3∨a=4∨a=5∨a=6∨a=7∨a=8:=nine ha
 obtain⟨lf,lb,li,cp,bc,rfl,S⟩:=sp_at p6 p1 p2 p3 p4 hkk hbb (by omega)
 obtain⟨c,e0,e1,e2,e3,O⟩:=p6.oAt p2 p3 p4 p1
 have O':=O
 have cells:∀j,j<4→(c j).isCell=true:=fun j hj=>by
  obtain⟨X,col,_,hp⟩:=O'.parts
  exact(hp j hj).1.cell
 have s0c:=cells 0 (by decide)
 have s1c:=cells 1 (by decide)
 have s2c:=cells 2 (by decide)
 rw[e0] at s0c
 rw[e1] at s1c
 rw[e2] at s2c
 generalize hH:g0++[Tm.Node.row 0 [ce,cg,ct,.os lf 0 m.funcs.length none]]=H at S O
 have hg1:0<g0.length:=by have h1:([Tm.Node.row 0 [externs m.externs,globals m.globals,tables m.tables,funcs m.funcs]]:Heap).length=1:=rfl;omega
 have z0:H[0]?=some (.row 0 [externs m.externs,globals m.globals,tables m.tables,funcs m.funcs]):=by rw[←hH,List.getElem?_append_left hg1,p5 0 (by simp)];rfl
 have zf:0<lf:=Nat.pos_of_ne_zero fun e=>by have:=S.row;rw[e,z0] at this;cases this
 have zb:0<lb:=Nat.pos_of_ne_zero fun e=>by have:=S.brow;rw[e,z0] at this;cases this
 have zi:0<li:=Nat.pos_of_ne_zero fun e=>by have:=S.irow;rw[e,z0] at this;cases this
 have zc:∀j,j<4→locC (c j)≠some 0:=fun j hj e=>by
  obtain⟨X,col,_,hp⟩:=O.parts
  obtain⟨cl,q1,_⟩:=(hp j hj).1
  obtain⟨_,⟨_,q⟩|⟨l,q,hl⟩⟩:=q1
  ·rw[q] at e;cases e
  ·rw[q] at e;cases e
   rw[z0] at hl
   unfold szF at hl
   split at hl<;>cases hl
 -- up to the choice
 have hpre:exec Try.prog (valsOf tab) (callAt Try.prog tab (k+1)) (k+1) k13 ⟨enterE 0 [.agg [externs m.externs,globals m.globals,tables m.tables,funcs m.funcs],int xk,int xb,int xi,int xw],[]⟩=exec Try.prog (valsOf tab) (callAt Try.prog tab (k+1)) (k+1) (sK (sK (sK (sK (sK (sK (sK (sK k13)))))))) ⟨[(4,int xw),(5,.op 0 0),(11,.op g0.length 0),(12,.op lf (kk*5)),(13,.op lb bb),(14,.op li (ii*7)),(15,int 1)],H⟩:=by
  rw[seq_norm (K:=k13) (st':=⟨[(1,int xk),(2,int xb),(3,int xi),(4,int xw),(5,.op 0 0)],[.row 0 [externs m.externs,globals m.globals,tables m.tables,funcs m.funcs]]⟩) rfl (by simp +decide -implicitDefEqProofs only[k13,fK,sK,go_sem])]
  rw[seq_norm (K:=(sK k13)) (st':=⟨[(1,int xk),(2,int xb),(3,int xi),(4,int xw),(5,.op 0 0),(17,bool false)],[.row 0 [externs m.externs,globals m.globals,tables m.tables,funcs m.funcs]]⟩) rfl (by simp +decide -implicitDefEqProofs only[k13,fK,sK,go_sem,h49])]
  rw[seq_norm (K:=(sK (sK k13))) (st':=⟨[(1,int xk),(2,int xb),(3,int xi),(4,int xw),(5,.op 0 0),(42,bool false)],[.row 0 [externs m.externs,globals m.globals,tables m.tables,funcs m.funcs]]⟩) rfl (by simp +decide -implicitDefEqProofs only[k13,fK,sK,go_sem,h42,c0,c1,c2,h60])]
  rw[seq_norm (K:=(sK (sK (sK k13)))) (st':=⟨[(1,int xk),(2,int xb),(3,int xi),(4,int xw),(5,.op 0 0),(11,.op g0.length 0)],H⟩) rfl (by simp +decide -implicitDefEqProofs only[k13,fK,sK,go_sem,h47,set_new,s0c,s1c,s2c,hH])]
  rw[seq_norm (K:=(sK (sK (sK (sK k13))))) rfl (d4 S xk (int xb) (int xi) (int xw) ek),seq_norm (K:=(sK (sK (sK (sK (sK k13)))))) rfl (d5 S xb (int xi) (int xw) eb),seq_norm (K:=(sK (sK (sK (sK (sK (sK k13))))))) rfl (d6 S hii xi (int xw) ei)]
  exact seq_norm (K:=(sK (sK (sK (sK (sK (sK (sK k13)))))))) rfl (by simp +decide -implicitDefEqProofs only[k13,fK,sK,go_sem])
 have tight:=hT _ hf
 have hsz:(blkAt (fnAt m.funcs kk).blocks bb).ins.length<91:=by have:=size_blk hbb;have:=tight.2;omega
 have SP:Spot m kk bb:=⟨hc,hkk,hbb,by have:=tight.1;omega,by have:=tight.2;omega⟩
 have Ff:=F.fn _ hf
 have hbm:blkAt (fnAt m.funcs kk).blocks bb∈(fnAt m.funcs kk).blocks:=blkAt_mem ⟨by omega,by omega⟩
 have Fi:=Ff.1.into _ hbm
 rw[hpre]
 have last:∀(w:Int) (m':Tm.Module) (g:Heap) (r:Env),FineM m'→g[0]?=H[0]?→Seen g g0.length m'→checkN m'=w→exec Try.prog (valsOf tab) (callAt Try.prog tab (k+1)) (k+1) (fK (sK (sK (sK (sK (sK (sK (sK (sK k13))))))))) ⟨[(4,int xw),(5,.op 0 0),(11,.op g0.length 0),(12,.op lf (kk*5)),(13,.op lb bb),(14,.op li (ii*7)),(15,int 1)],H⟩=some (.normal,⟨(5,.op 0 0)::(11,.op g0.length 0)::(15,int w)::r,g⟩)→
   ∃c h,fin Try.prog [.tmp 10] (exec Try.prog (valsOf tab) (callAt Try.prog tab (k+1)) (k+1) (sK (sK (sK (sK (sK (sK (sK (sK k13)))))))) ⟨[(4,int xw),(5,.op 0 0),(11,.op g0.length 0),(12,.op lf (kk*5)),(13,.op lb bb),(14,.op li (ii*7)),(15,int 1)],H⟩)=some (c,h)∧view true h depth c=some (Tm.bool true):=fun w m' g r F' hg0 Sn hw hx=>by
  rw[seq_norm (K:=(sK (sK (sK (sK (sK (sK (sK (sK k13))))))))) rfl hx]
  exact fin13 (by omega) F F' (hg0.trans z0) Sn hc hw r
 rcases ha9 with rfl|rfl|rfl|rfl|rfl|rfl|rfl|rfl|rfl
 ·obtain⟨g,x1,x2,x3⟩:=s0 (vals:=valsOf tab) (call:=callAt Try.prog tab (k+1)) (n:=k+1) S zi hii xw ea
  have F':FineM (setFn m kk (setIns (fnAt m.funcs kk) bb ((blkAt (fnAt m.funcs kk).blocks bb).ins.set ii { insAt (blkAt (fnAt m.funcs kk).blocks bb).ins ii with op:=31 }))):=fine_set F ⟨fine_ins Ff.1 (by rw[List.length_set];omega) fun x hx=>(List.mem_or_eq_of_mem_set hx).elim (Fi x) fun e=>by rw[e];exact Fi (insAt (blkAt (fnAt m.funcs kk).blocks bb).ins ii) (insAt_mem (l:=(blkAt (fnAt m.funcs kk).blocks bb).ins) (b:=(ii:Int)) ⟨by omega,by omega⟩),Ff.2.1,Ff.2.2⟩
  exact last 1 _ g [] F' x3 x2 (spoil_form SP hii (shape31 _)) x1
 ·obtain⟨g,x1,x2,x3⟩:=s1 (vals:=valsOf tab) (call:=callAt Try.prog tab (k+1)) (n:=k+1) S zi hii xw ea
  have F':FineM (setFn m kk (setIns (fnAt m.funcs kk) bb ((blkAt (fnAt m.funcs kk).blocks bb).ins.set ii { insAt (blkAt (fnAt m.funcs kk).blocks bb).ins ii with type:=5 }))):=fine_set F ⟨fine_ins Ff.1 (by rw[List.length_set];omega) fun x hx=>(List.mem_or_eq_of_mem_set hx).elim (Fi x) fun e=>by rw[e];exact Fi (insAt (blkAt (fnAt m.funcs kk).blocks bb).ins ii) (insAt_mem (l:=(blkAt (fnAt m.funcs kk).blocks bb).ins) (b:=(ii:Int)) ⟨by omega,by omega⟩),Ff.2.1,Ff.2.2⟩
  exact last 1 _ g [] F' x3 x2 (spoil_form SP hii (shape5 _)) x1
 ·obtain⟨g,x1,x2,x3⟩:=s2 (vals:=valsOf tab) (call:=callAt Try.prog tab (k+1)) (n:=k+1) (ii:=ii) S zf xw ea
  have hn:mainS.size≤40:=Nat.le_of_ble_eq_true rfl
  have Fm:Fine { fnAt m.funcs kk with name:=mainS }:=⟨Ff.1.blocks,Ff.1.ins,Ff.1.into⟩
  have F':FineM (setFn m kk { fnAt m.funcs kk with name:=mainS }):=fine_set F ⟨Fm,hn,Ff.2.2⟩
  exact last 3 _ g [] F' x3 x2 (spoil_main SP) x1
 ·obtain⟨g,x1,x2,x3⟩:=s3 (vals:=valsOf tab) (call:=callAt Try.prog tab (k+1)) (n:=k+1) (kk:=kk) O ⟨hg1,zc 1 (by decide)⟩ (by omega) S.row (S.blocks 0 (by decide)) xw ea (int 0) (.op lb bb) (.op li (ii*7))
  have F':FineM { m with globals:=m.globals++[⟨(fnAt m.funcs kk).name,[0]⟩] }:=⟨F.externs,by simp;omega,F.tables,F.funcs,F.ext,fun x hx=>(List.mem_append.1 hx).elim (F.glo x) fun e=>by rw[List.mem_singleton.1 e];exact⟨Ff.2.1,by simp⟩,F.tbl,F.fn⟩
  exact last 3 _ g [] F' x3 x2 (spoil_twice SP (by omega)) x1
 ·obtain⟨g,x1,x2,x3⟩:=s4 (vals:=valsOf tab) (call:=callAt Try.prog tab (k+1)) (n:=k+1) O ⟨hg1,zc 1 (by decide)⟩ (by omega) xw ea (.op lf (kk*5)) (.op lb bb) (.op li (ii*7))
  have F':FineM { m with globals:=m.globals++[⟨zz,[]⟩] }:=⟨F.externs,by simp;omega,F.tables,F.funcs,F.ext,fun x hx=>(List.mem_append.1 hx).elim (F.glo x) fun e=>by rw[List.mem_singleton.1 e];exact⟨Nat.le_of_ble_eq_true rfl,by simp⟩,F.tbl,F.fn⟩
  exact last 2 _ g [] F' x3 x2 spoil_empty x1
 ·obtain⟨g,x1,x2,x3⟩:=s5 (vals:=valsOf tab) (call:=callAt Try.prog tab (k+1)) (n:=k+1) O ⟨hg1,zc 2 (by decide)⟩ (by omega) xw ea (.op lf (kk*5)) (.op lb bb) (.op li (ii*7))
  have F':FineM { m with tables:=m.tables++[⟨zz,[(m.funcs.length:Int)]⟩] }:=⟨F.externs,F.globals,by simp;omega,F.funcs,F.ext,F.glo,fun x hx=>(List.mem_append.1 hx).elim (F.tbl x) fun e=>by rw[List.mem_singleton.1 e];exact⟨Nat.le_of_ble_eq_true rfl,by simp⟩,F.fn⟩
  exact last 4 _ g [] F' x3 x2 (spoil_table SP (by omega) hzz) x1
 ·obtain⟨g,x1,x2,x3⟩:=s6 (vals:=valsOf tab) (call:=callAt Try.prog tab (k+1)) (n:=k+1) (ii:=ii) S ⟨zi,zb⟩ (by omega) xw ea
  have hL:((blkAt (fnAt m.funcs kk).blocks bb).ins++[stopI]).length≤91:=by rw[List.length_append,List.length_singleton];omega
  have F':FineM (setFn m kk (setIns (fnAt m.funcs kk) bb ((blkAt (fnAt m.funcs kk).blocks bb).ins++[stopI]))):=fine_set F ⟨fine_ins Ff.1 hL fun x hx=>(List.mem_append.1 hx).elim (Fi x) fun e=>by rw[List.mem_singleton.1 e];exact⟨by simp[stopI],by simp[stopI]⟩,Ff.2.1,Ff.2.2⟩
  exact last 5 _ g [] F' x3 x2 (spoil_more SP) x1
 ·obtain⟨g,x1,x2,x3⟩:=s7 (vals:=valsOf tab) (call:=callAt Try.prog tab (k+1)) (n:=k+1) (ii:=ii) S ⟨zf,zb⟩ (by have:=tight.1;omega) xw ea
  have Fm:Fine (moreBlk (fnAt m.funcs kk)):=by
   refine⟨by have:=tight.1;simp[moreBlk];omega,fun b hb=>?_,fun b hb=>?_⟩
   ·rcases List.mem_append.1 hb with hb|hb
    ·exact Ff.1.ins b hb
    ·rw[List.mem_singleton.1 hb];simp
   ·rcases List.mem_append.1 hb with hb|hb
    ·exact Ff.1.into b hb
    ·rw[List.mem_singleton.1 hb]
     intro x hx
     rw[List.mem_singleton.1 hx];exact⟨by simp[stopI],by simp[stopI]⟩
  have F':FineM (setFn m kk (moreBlk (fnAt m.funcs kk))):=fine_set F ⟨Fm,Ff.2.1,Ff.2.2⟩
  exact last 5 _ g [] F' x3 x2 (spoil_block SP) x1
 ·obtain⟨g,x1,x2,x3⟩:=s8 (k:=k+1) (n:=k+1) (ii:=ii) S ⟨zi,zb⟩ Ff.1 (by have:=Ff.2.2;omega) (by omega) (by omega) (by omega) xw ea
  have hv:((typesOf (fnAt m.funcs kk)).length:Int)≥1:=by rw[types_len];omega
  have hw:=spoil_load SP hv
  have hL:(loadI ((typesOf (fnAt m.funcs kk)).length:Int)::(blkAt (fnAt m.funcs kk).blocks bb).ins).length≤91:=by rw[List.length_cons];omega
  have F':FineM (setFn m kk (setIns (fnAt m.funcs kk) bb (loadI ((typesOf (fnAt m.funcs kk)).length:Int)::(blkAt (fnAt m.funcs kk).blocks bb).ins))):=fine_set F ⟨fine_ins Ff.1 hL fun x hx=>(List.mem_cons.1 hx).elim (fun e=>by rw[e];exact⟨by simp[loadI],by simp[loadI]⟩) (Fi x),Ff.2.1,Ff.2.2⟩
  cases q:phiB (insAt (blkAt (fnAt m.funcs kk).blocks bb).ins 0) with
  |true=>
   rw[q,if_pos rfl] at hw x1
   exact last 5 _ g [] F' x3 x2 hw x1
  |false=>
   rw[q,if_neg (by decide)] at hw x1
   exact last 6 _ g [(120,bool false)] F' x3 x2 hw x1
end Go.Proofs.Ytkcimaibaicdcaa.Tk
