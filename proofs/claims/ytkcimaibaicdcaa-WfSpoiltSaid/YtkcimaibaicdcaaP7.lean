/- The law returns true at every input. No condition. A part of its proof. -/
import Derived.SizedLaws
import Derived.ChangeArms
import Derived.DataElems
import Derived.Test.YtkcimaibaicdcaaP6
set_option linter.unusedSimpArgs false
set_option linter.unusedVariables false
set_option maxHeartbeats 16000000
set_option maxRecDepth 100000
namespace Go.Tm
open Go.ChangeShapes Go.WideShapes
def noBad (_:Nat):Prop:=False
def Opens (P:Program)(t:TypeId){α:Type}(enc:α→List C)(B:α→Prop):Prop:=
 ∀(H:Type) (tok:TypeId×Value→H) (W:World) (base:Nat) (fuel:Nat) (cs:List Value) (d:DataW H) (ps:List MemPlace) (φ:Nat→Loc),
  DataW.trod tok P W base (fun _=>true) true fuel t cs=some (d,ps)→(DataW.weights P t d).all (· ≤reachBytes)=true→∃x,(RelL W noBad noName φ (enc x) cs∧∀u∈cs,u.oneCell'=true)∧B x
section
variable {P:Program} {t e:TypeId}
theorem opens_int {k:IntKind}(hu:P.underlying t=some (.int k)):Opens P t (fun n=>[.v (.int k n)]) (fun n=>(Lit.int k n).wf=true):=fun H tok W base fuel cs d ps φ h _=>by
 obtain⟨n,rfl,_,hw⟩:=DataW.trod_int hu h
 exact⟨n,⟨by simp[RelL,Rel,Value.oneCell'],by simp[Value.oneCell']⟩,hw⟩
theorem opens_bool (hu:P.underlying t=some .bool):Opens P t (fun b=>[.v (.bool b)]) (fun _=>True):=fun H tok W base fuel cs d ps φ h _=>by
 obtain⟨b,rfl,_⟩:=DataW.trod_bool hu h
 exact⟨b,⟨by simp[RelL,Rel,Value.oneCell'],by simp[Value.oneCell']⟩,trivial⟩
theorem opens_string (hu:P.underlying t=some .string):Opens P t (fun s=>[.v (.string s)]) (fun s=>s.size≤140737488351232):=fun H tok W base fuel cs d ps φ h hw=>by
 obtain⟨s,rfl,hx,_⟩:=DataW.trod_string hu h
 obtain⟨rfl,rfl⟩:=Prod.mk.inj hx
 refine⟨s,⟨by simp[RelL,Rel,Value.oneCell'],by simp[Value.oneCell']⟩,?_⟩
 simp[DataW.weights,reachBytes] at hw
 exact of_decide_eq_true hw
theorem weightsAll_all {H:Type}{p:Nat→Bool}:∀{l:List (DataW H)},(DataW.weightsAll P e l).all p=true→∀d∈l,(DataW.weights P e d).all p=true
 |[],_,d,hd=>by cases hd
 |x::l,h,d,hd=>by
  rw[DataW.weightsAll,List.all_append,Bool.and_eq_true] at h
  rcases List.mem_cons.1 hd with rfl|hd
  ·exact h.1
  ·exact weightsAll_all h.2 d hd
theorem relAt_flat {W:World}{φ:Nat→Loc}{α:Type}{enc:α→List C}{s:Nat}(hs:∀x,(enc x).length=s):∀{l:List α} {b o:Nat},(∀(i:Nat) (x:α),l[i]?=some x→RelAt W noBad noName φ (enc x) b (o+i*s))→RelAt W noBad noName φ (l.flatMap enc) b o
 |[],_,_,_=>by simp[RelAt]
 |x::l,b,o,h=>by
  rw[List.flatMap_cons]
  refine RelAt.append (by simpa using h 0 x rfl) (relAt_flat hs fun i y hy=>?_)
  have:=h (i+1) y (by simpa using hy)
  rw[hs,Nat.add_assoc]
  rw[Nat.add_mul,Nat.one_mul,Nat.add_comm (i*s) s] at this
  exact this
theorem opens_slice {α:Type}{enc:α→List C}{B:α→Prop}{b s:Nat}(hu:P.underlying t=some (.slice e))(h:Opens P e enc B)(hs:∀x,(enc x).length=s)(hs0:0<s)(hc:P.cellsOf e=s)(hb:P.bytesOf e=b):
  Opens P t (fun l:List α=>[.fs (l.flatMap enc) l.length none]) (fun l=>l.length*b≤140737488351232∧∀x∈l,B x):=fun H tok W base fuel cs d ps φ hr hw=>by
 rcases DataW.trod_slice hu hr with ⟨rfl,_⟩|⟨a,len,cap,elems,rest,n,_,rfl,hx,_,hl,hm,hlen,hel,hsp,_⟩
 ·exact⟨[],⟨by simp[RelL,Rel],by simp[Value.oneCell']⟩,by simp,fun x hx=>by cases hx⟩
 ·obtain⟨rfl,rfl⟩:=Prod.mk.inj hx
  simp only[DataW.weights,hu,List.all_cons,List.all_append,Bool.and_eq_true,List.length_map,hb] at hw
  -- the first element tells that the address is plain
  have plain:∀(y:Option (DataW H×List MemPlace)),(W.cells? base (a.add (0*P.cellsOf e)) (P.cellsOf e)).bind (DataW.trod tok P W base (fun _=>true) true n e)=y→y.isSome=true→a.spot=none∧a.block<W.heap.size:=fun y hy hsome=>by
   obtain⟨z,rfl⟩:=Option.isSome_iff_exists.1 hsome
   rw[Option.bind_eq_some_iff] at hy
   obtain⟨c,hcs,_⟩:=hy
   obtain⟨_,hcl,hcell⟩:=World.cells?_some hcs
   have h0:=hcell 0 (by omega)
   have hc0:c[0]?=some (c[0]'(by omega)):=List.getElem?_eq_getElem (by omega)
   have e0:(a.add (0*P.cellsOf e)).add 0=a:=by simp[Addr.add]
   rw[hc0,e0] at h0
   unfold World.cell? at h0
   split at h0
   ·rename_i c1 e1 f1 hblk
    refine⟨?_,(Array.getElem?_eq_some_iff.1 hblk).1⟩
    cases hs:a.spot with
    |none=>rfl
    |some s=>rw[hs] at h0;simp at h0
   ·cases h0
  have hspot:0<cap→a.spot=none∧a.block<W.heap.size:=fun hcap=>by
   rcases Nat.eq_zero_or_pos len with h0|hlp
   ·obtain⟨hr1,hr2⟩:=hsp rfl
    have h2:=hr2 0 (by omega)
    rw[h0] at h2
    refine plain _ h2 ?_
    have:0<rest.length:=by omega
    rw[List.getElem?_eq_getElem this]
    rfl
   ·refine plain _ (hel 0 hlp) ?_
    have:0<elems.length:=by omega
    rw[List.getElem?_eq_getElem this]
    rfl
  have each:∀i:Fin len,∃x:α,B x∧RelAt W noBad noName φ (enc x) a.block (a.off+i.1*s):=fun i=>by
   have he:=hel i.1 i.2
   have hg:elems[i.1]?=some (elems[i.1]'(by omega)):=List.getElem?_eq_getElem (by omega)
   rw[hg,Option.bind_eq_some_iff] at he
   obtain⟨c,hcs,hd⟩:=he
   obtain⟨_,hcl,hcell⟩:=World.cells?_some hcs
   obtain⟨x,⟨hrel,h1⟩,hB⟩:=h H tok W base n c _ _ φ hd (weightsAll_all hw.2.1 _ (List.mem_map_of_mem (List.getElem_mem _)))
   refine⟨x,hB,RelAt.of_range hrel (fun j v hj=>?_) h1⟩
   have hjl:=(List.getElem?_eq_some_iff.1 hj).1
   have:=hcell j (by omega)
   rw[hj] at this
   have hsp0:=(hspot (by have:=i.2;omega)).1
   obtain⟨ab,ao,as⟩:=a
   simp only at hsp0
   subst hsp0
   rw[Addr.add_mid,Addr.add_mid,hc] at this
   exact this
  refine⟨List.ofFn fun i:Fin len=>Classical.choose (each i),⟨?_,by simp[Value.oneCell']⟩,?_,fun x hx=>?_⟩
  ·simp only[RelL,Rel]
   refine⟨_,_,rfl,?_,rfl⟩
   rcases Nat.eq_zero_or_pos cap with rfl|hcp
   ·obtain rfl:len=0:=by omega
    exact .inl ⟨⟨some a,rfl⟩,by simp,by simp,.inl trivial⟩
   ·obtain⟨hsp0,hsz⟩:=hspot hcp
    refine .inr ⟨a.block,a.off,cap,?_,by simpa using hl,fun c hc=>(by cases hc),.inr ⟨fun h=>h.elim,hsz,?_⟩⟩
    ·obtain⟨ab,ao,as⟩:=a
     simp only at hsp0
     subst hsp0
     simp
    ·refine relAt_flat hs fun i x hx=>?_
     rw[List.getElem?_ofFn] at hx
     split at hx
     ·rename_i hil
      obtain rfl:=Option.some.inj hx
      exact(Classical.choose_spec (each ⟨i,hil⟩)).2
     ·cases hx
  ·simp only[List.length_ofFn]
   have h1:(elems.length+rest.length)*b≤140737488351232:=of_decide_eq_true hw.1
   exact Nat.le_trans (Nat.mul_le_mul_right b (show len≤elems.length+rest.length by omega)) h1
  ·obtain⟨i,rfl⟩:=List.mem_ofFn.1 hx
   exact(Classical.choose_spec (each i)).1
def OpensF (P:Program)(fs:List Field)(off:Nat){β:Type}(enc:β→List C)(s:Nat)(B:β→Prop):Prop:=
 ∀(H:Type) (tok:TypeId×Value→H) (W:World) (base:Nat) (n:Nat) (cs:List Value) (xs:List (DataW H×List MemPlace)) (φ:Nat→Loc),xs.length=fs.length→
  (∀(i:Nat) (f:Field),fs[i]?=some f→DataW.trod tok P W base (fun _=>true) true n f.type ((cs.drop f.offset).take (P.cellsOf f.type))=xs[i]?)→
  (DataW.weightsEach P (fs.map (·.type)) (xs.map (·.1))).all (· ≤reachBytes)=true→cs.length=off+s→∃y,(RelL W noBad noName φ (enc y) (cs.drop off)∧∀u∈cs.drop off,u.oneCell'=true)∧B y
theorem opensF_one {f:Field}{off s:Nat}{β:Type}{enc:β→List C}{B:β→Prop}(ho:f.offset=off)(hc:P.cellsOf f.type=s)(h:Opens P f.type enc B):OpensF P [f] off enc s B:=fun H tok W base n cs xs φ hl hr hw hs=>by
 obtain⟨y,rfl⟩:∃y,xs=[y]:=List.length_eq_one_iff.1 hl
 have h1:=hr 0 f rfl
 rw[ho,hc,List.take_of_length_le (by rw[List.length_drop];omega)] at h1
 refine h H tok W base n _ _ _ φ h1 ?_
 simpa[DataW.weightsEach] using hw
theorem opensF_cons {f:Field}{fs:List Field}{off s s2:Nat}{α β:Type}{enc:α→List C}{enc2:β→List C}{B:α→Prop}{B2:β→Prop}(ho:f.offset=off)(hc:P.cellsOf f.type=s)(h:Opens P f.type enc B)(h2:OpensF P fs (off+s) enc2 s2 B2):
  OpensF P (f::fs) off (fun y:α×β=>enc y.1++enc2 y.2) (s+s2) (fun y=>B y.1∧B2 y.2):=fun H tok W base n cs xs φ hl hr hw hs=>by
 cases xs with
 |nil=>cases hl
 |cons y xs=>
  simp only[List.map_cons,DataW.weightsEach,List.all_append,Bool.and_eq_true] at hw
  have h1:=hr 0 f rfl
  rw[ho,hc] at h1
  obtain⟨x,⟨hK,hK1⟩,hB⟩:=h H tok W base n _ _ _ φ h1 hw.1
  obtain⟨z,⟨hK2,hK21⟩,hB2⟩:=h2 H tok W base n cs xs φ (by simpa using hl) (fun i g hg=>hr (i+1) g hg) hw.2 (by rw[hs];omega)
  have e:cs.drop off=(cs.drop off).take s++cs.drop (off+s):=by rw[←List.drop_drop,List.take_append_drop]
  refine⟨(x,z),⟨by rw[e];exact RelL.append hK hK2,fun u hu=>?_⟩,hB,hB2⟩
  rw[e] at hu
  rcases List.mem_append.1 hu with hu|hu
  ·exact hK1 u hu
  ·exact hK21 u hu
theorem opens_struct {fs:Array Field}{α β:Type}{enc:β→List C}{encA:α→List C}{s:Nat}{B:β→Prop}(hu:P.underlying t=some (.struct fs))(hf:OpensF P fs.toList 0 enc s B)(hc:P.cellsOf t=s)(g:β→α)(hg:∀y,encA (g y)=enc y){B':α→Prop}(hB':∀y,B y→B' (g y)):
  Opens P t encA B':=fun H tok W base fuel cs d ps φ hr hw=>by
 obtain⟨xs,n,_,hx,hl,hlen,he⟩:=DataW.trod_struct hu hr
 obtain⟨rfl,rfl⟩:=Prod.mk.inj hx
 simp only[DataW.weights,hu] at hw
 obtain⟨y,hK,hB⟩:=hf H tok W base n cs xs φ (by simpa using hlen) (fun i f hi=>he i f (by simpa using hi)) hw (by rw[hl,hc,Nat.zero_add])
 exact⟨g y,by rw[hg];exact hK,hB' y hB⟩
theorem Opens.mono {α:Type}{enc:α→List C}{B B':α→Prop}(h:Opens P t enc B)(hB:∀x,B x→B' x):Opens P t enc B':=fun H tok W base fuel cs d ps φ hr hw=>by
 obtain⟨x,hK,hx⟩:=h H tok W base fuel cs d ps φ hr hw
 exact⟨x,hK,hB x hx⟩
end
end Go.Tm
