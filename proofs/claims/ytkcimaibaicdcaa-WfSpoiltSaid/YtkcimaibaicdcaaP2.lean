/- The law returns true at every input. No condition. A part of its proof. -/
import Derived.Laws.BytesString
import Derived.Test.YtkcimaibaicdcaaP1
set_option linter.unusedSimpArgs false
set_option linter.unusedVariables false
set_option maxHeartbeats 16000000
set_option maxRecDepth 100000
namespace Go.Tm
section
variable {P:Program} {w:World} {X S:Nat→Prop} {φ:Nat→Loc} {h:Heap} {bad:Nat→Prop} {al:Option Nat}
theorem srcN_sound (G:Good w X S φ h){s k:Nat}{x:C}{u:Value}{ys:List C}(hx:Rel w (badOf X φ h) S φ x u)(hs:srcOf h s x=some (k,ys)):
  ∃us:List Value,us.length=k*s∧RelL w (badOf X φ h) S φ ys us∧(∀z∈us,z.oneCell'=true)∧(Builtin.lenOf u).run P w=.ok k w∧
   ∀n,n≤k→(Builtin.firstCells s n u).run P w=.ok (us.take (n*s)).toArray w:=by
 have part:∀{b o cap':Nat} {us:List Value},us.length=k*s→w.rangeAt b o us→∀n,n≤k→(Builtin.firstCells s n (.slice (some ⟨b,o,none⟩) k cap')).run P w=.ok (us.take (n*s)).toArray w:=by
  intro b o cap' us hl hr n hn
  refine run_firstCells_some (P:=P) w s n _ k cap' _ (by rw[List.length_take,hl];exact Nat.min_eq_left (Nat.mul_le_mul_right _ hn)) (fun j v hv=>?_)
  rw[Addr.add_mid]
  rw[List.getElem?_take] at hv
  split at hv
  ·exact hr j v hv
  ·cases hv
 unfold srcOf at hs
 split at hs
 ·cases hs
  simp only[Rel] at hx
  obtain⟨rfl,_⟩:=hx
  exact⟨[],by simp,by simp[RelL],by simp,rfl,fun n hn=>by simp[Builtin.firstCells]⟩
 ·rename_i l off len _
  split at hs
  ·rename_i ez cs hl
   simp only[takeN,Option.map_eq_some_iff] at hs
   obtain⟨xs,hxs,hs⟩:=hs
   split at hxs
   ·rename_i hle
    cases hxs
    cases hs
    simp only[Rel] at hx
    obtain⟨hS,b,o,cap',rfl,hlc,_,hadr,_,_⟩:=hx
    have hok:=G.node l _ hl
    simp only[OkNode] at hok
    obtain⟨us,hul,hrel,hra,hone⟩:=RelAt.reads (RelAt.take (k*s) (RelAt.drop off hok.2.2.2.2))
    have hul':us.length=k*s:=by rw[hul,List.length_take];omega
    refine⟨us,hul',hrel,hone,rfl,?_⟩
    rcases Nat.eq_zero_or_pos k with rfl|hk0
    ·have:us=[]:=List.eq_nil_of_length_eq_zero (by omega)
     subst this
     exact part (by simp) (fun j v hv=>by simp at hv)
    ·obtain⟨hb,ho⟩:=hadr.resolve_left (by omega)
     refine part hul' (fun j v hv=>?_)
     rw[hb,ho]
     exact hra j v hv
   ·cases hxs
  ·cases hs
 ·rename_i xs len _
  simp only[takeN,Option.map_eq_some_iff] at hs
  obtain⟨ys',hys,hs⟩:=hs
  split at hys
  ·rename_i hle
   cases hys
   cases hs
   simp only[Rel] at hx
   rcases hx with ⟨⟨a0,rfl⟩,rfl,rfl,_⟩|⟨b,o,cap',rfl,hlc,_,hat⟩
   ·refine⟨[],by simp,by simp[RelL],by simp,rfl,fun n hn=>?_⟩
    obtain rfl:n=0:=by omega
    cases a0<;>simp[Builtin.firstCells,loadCells,loadCellsFrom]
   ·obtain⟨us,hul,hrel,hra,hone⟩:=RelAt.reads (RelAt.take (k*s) (Fro.relAt hat))
    exact⟨us,by rw[hul,List.length_take];omega,hrel,hone,rfl,part (by rw[hul,List.length_take];omega) hra⟩
  ·cases hys
 ·cases hs
theorem copy_sound (G:Good w X S φ h){t tx ty:TypeId}{d x c:C}{u v:Value}{h':Heap}(hd:Rel w (badOf X φ h) S φ d u)(hx:Rel w (badOf X φ h) S φ x v)(hc:copyC P h t d x=some (c,h')):
  Done w X S φ h al ((Builtin.copy_ #[t,tx] ty #[u,v]).run P w) c h':=by
 simp only[copyC,Option.bind_eq_bind,Option.bind_eq_some_iff] at hc
 obtain⟨e,he,s,hs,⟨k,ys⟩,hsrc,hc⟩:=hc
 have ht:=sliceE_some he
 obtain⟨us,hul,hrel,hone,hlen,hfirst⟩:=srcN_sound (P:=P) G hx hsrc
 simp only at hc
 split at hc
 ·cases hc
  simp only[Rel] at hd
  obtain⟨rfl,_⟩:=hd
  refine Done.pure G ⟨.int .i64 0,?_,by simp only[Rel];exact⟨trivial,rfl⟩⟩
  have h0:Nat.min k 0=0:=Nat.min_zero k
  have hf:=hfirst 0 (Nat.zero_le _)
  simp[Builtin.copy_,run_underlying ht,hlen,run_size hs,h0,hf,goInt]
 ·rename_i a off len cap
  split at hc
  ·rename_i e' cs hl
   split at hc
   ·rename_i hcc
    obtain⟨rfl,hfit⟩:=hcc
    cases hc
    simp only[Rel] at hd
    obtain⟨hS,b,o,cap',rfl,hle,hcap,hadr,hroom,hkn⟩:=hd
    have hok:=G.node a _ hl
    simp only[OkNode] at hok
    obtain⟨k1,k2,k3,k4,k5⟩:=hok
    have hf:=hfirst (Nat.min k len) (Nat.min_le_left _ _)
    have hyl:=RelL.length hrel
    have htl:(ys.take (Nat.min k len*e')).length=Nat.min k len*e':=by
     rw[List.length_take,←hyl,hul]
     exact Nat.min_eq_left (Nat.mul_le_mul_right _ (Nat.min_le_left _ _))
    have htl2:(us.take (Nat.min k len*e')).length=Nat.min k len*e':=by
     rw[List.length_take,hul]
     exact Nat.min_eq_left (Nat.mul_le_mul_right _ (Nat.min_le_left _ _))
    obtain⟨G',E⟩:=good_store (off:=off) (us:=us.take (Nat.min k len*e')) G hl (by rw[htl];exact hfit) (RelL.take _ hrel) (fun z hz=>hone z (List.mem_of_mem_take hz))
    by_cases hz:Nat.min k len=0
    ·have hu0:us.take (Nat.min k len*e')=[]:=by rw[hz];simp
     rw[hu0] at G' E hf
     refine⟨.int .i64 ((Nat.min k len:Nat):Int),_,S,φ,?_,G',E,by simp only[Rel];exact⟨trivial,rfl⟩,.inl ⟨rfl,by simp⟩⟩
     simp[Builtin.copy_,run_underlying ht,hlen,run_size hs,hf,storeCells,goInt,World.setCells]
    ·have hlp:0<len:=by
      rcases Nat.eq_zero_or_pos len with h0|h0
      ·exfalso;apply hz;rw[h0];exact Nat.min_zero k
      ·exact h0
     obtain⟨hb2,ho2⟩:=hadr.resolve_left (by omega)
     have hst:=run_storeCells_cells (P:=P) b o (us.take (Nat.min k len*e')) 0 w (fun j hj=>by
       have:=(k4 (off+j) (by omega)).1
       rw[←Nat.add_assoc] at this
       rw[hb2,ho2];simpa using this) (fun j hj=>by
       have:=(k4 (off+j) (by omega)).2
       rw[←Nat.add_assoc] at this
       rw[hb2,ho2];simpa using this) (fun z hz=>hone z (List.mem_of_mem_take hz))
     simp only[Nat.add_zero] at hst
     rw[hb2,ho2] at hst
     refine⟨.int .i64 ((Nat.min k len:Nat):Int),_,S,φ,?_,G',E,by simp only[Rel];exact⟨trivial,rfl⟩,.inl ⟨rfl,by simp⟩⟩
     simp[Builtin.copy_,run_underlying ht,hlen,run_size hs,hf,goInt,hb2,ho2,hst]
   ·cases hc
  ·cases hc
 ·cases hc
theorem run_underlying' {t:TypeId}{d:TypeDesc}(h:P.underlying t=some d)(w:World):(underlying t).run P w=.ok d w:=by
 simp[underlying,h]
theorem clear_sound (G:Good w X S φ h){t ty:TypeId}{d:C}{u:Value}{h':Heap}{ats args:Array _}(hat:ats[0]?=some t)(harg:args[0]?=some u)(hd:Rel w (badOf X φ h) S φ d u)(hc:clearC P h t d=some h'):
  ∃w',(Builtin.clear_ ats ty args).run P w=.ok (.tuple #[]) w'∧Good w' X S φ h'∧Ext w S φ h w' S φ h'∧h'.length=h.length:=by
 simp only[clearC,Option.bind_eq_bind,Option.bind_eq_some_iff] at hc
 obtain⟨e,he,hc⟩:=hc
 have hu:=sliceE_some he
 have nothing:∀a n,u=.slice none n 0∨u=.slice a 0 n→(Builtin.clear_ ats ty args).run P w=.ok (.tuple #[]) w:=fun a n hq=>by
  unfold Builtin.clear_
  rw[hat,harg]
  simp only[Sem.run_bind,run_underlying' hu,Result.andThen]
  rcases hq with rfl|rfl
  ·rfl
  ·cases a<;>rfl
 split at hc
 ·cases hc
  simp only[Rel] at hd
  obtain⟨rfl,_⟩:=hd
  exact⟨w,nothing none 0 (.inl rfl),G,Ext.refl _ _ _ _,rfl⟩
 ·rename_i a off len cap
  simp only[Rel] at hd
  obtain⟨hS,b,o,cap',rfl,hle,hcap,hadr,hroom,hkn⟩:=hd
  split at hc
  ·rename_i h0
   cases hc
   subst h0
   exact⟨w,nothing (some ⟨b,o,none⟩) cap' (.inr rfl),G,Ext.refl _ _ _ _,rfl⟩
  ·rename_i h0
   split at hc
   ·rename_i e' cs hat'
    simp only[Option.bind_eq_some_iff] at hc
    obtain⟨⟨s,zs⟩,hrow,hc⟩:=hc
    simp only at hc
    split at hc
    ·rename_i hcond
     cases hc
     obtain⟨rfl,hfit⟩:=hcond
     obtain⟨i,zv,hi,hsz,hzv,hzs,hs0,hall,rfl⟩:=rowOf_some hrow
     have hrep:(rep len (zv.cells.toList.map C.v)).length=len*e':=by
      simp[rep,hzs]
     obtain⟨G',E⟩:=good_store (off:=off) G hat' (by rw[hrep];exact hfit) (relL_flatten (bad:=badOf X φ h) (S:=S) (φ:=φ) (w:=w) (relL_vs hall) len) (flatten_one (fun x hx=>List.all_eq_true.1 hall x hx) len)
     refine⟨_,?_,G',E,by simp⟩
     have hok:=G.node a _ hat'
     simp only[OkNode] at hok
     obtain⟨k1,k2,k3,k4,k5⟩:=hok
     have hc0:cap'≠0:=by omega
     obtain⟨rfl,rfl⟩:=hadr.resolve_left hc0
     unfold Builtin.clear_
     rw[hat,harg]
     obtain⟨len,rfl⟩:∃n,len=n+1:=⟨len-1,by omega⟩
     have hz:(Builtin.zeroCells zv.cells (len+1)).toList=(List.replicate (len+1) zv.cells.toList).flatten:=by
      rw[←made_rep zv.cells (by omega) (len+1)];rfl
     have hfl:((List.replicate (len+1) zv.cells.toList).flatten).length=(len+1)*e':=by simp[hzs]
     have hst:∀b o,(∀j,j<(len+1)*e'→(w.cell? ⟨b,o+j,none⟩).isSome=true∧w.frozen? ⟨b,o+j,none⟩=false)→(storeCells ⟨b,o,none⟩ ((List.replicate (len+1) zv.cells.toList).flatten)).run P w=.ok () (w.setCells b o ((List.replicate (len+1) zv.cells.toList).flatten)):=fun b o hr=>by
      have:=run_storeCells_cells (P:=P) b o ((List.replicate (len+1) zv.cells.toList).flatten) 0 w (fun j hj=>by rw[hfl] at hj;simpa using(hr j hj).1) (fun j hj=>by rw[hfl] at hj;simpa using(hr j hj).2) (flatten_one (fun x hx=>List.all_eq_true.1 hall x hx) (len+1))
      simpa using this
     simp only[Sem.run_bind,run_underlying' hu,Result.andThen]
     simp only[Sem.run_bind,zeroValue,run_info hi,Result.andThen,hzv,Sem.run_pure,hz]
     rw[hst _ _ fun j hj=>by
      have:=k4 (off+j) (by omega)
      rw[←Nat.add_assoc] at this
      exact this]
    ·cases hc
   ·cases hc
 ·cases hc
theorem len_sound {t:TypeId}{ty:TypeId}{x c:C}{u:Value}{ats:Array TypeId}(hat:ats[0]?=some t){args:Array Value}(harg:args[0]?=some u)(hx:Rel w bad S φ x u)(hl:lenC P t x=some c):
  ∃v,(Builtin.len_ ats ty args).run P w=.ok v w∧Rel w bad S φ c v:=by
 unfold lenC at hl
 split at hl
 ·rename_i s hu
  cases hl
  simp only[Rel] at hx
  obtain⟨rfl,_⟩:=hx
  exact⟨.int .i64 s.size,by simp[Builtin.len_,hat,harg,run_underlying hu,goInt],by simp only[Rel];exact⟨trivial,rfl⟩⟩
 ·rename_i e l off len cap hu
  cases hl
  simp only[Rel] at hx
  obtain⟨hS,b,o,cap',rfl,_⟩:=hx
  exact⟨.int .i64 len,by simp[Builtin.len_,hat,harg,run_underlying hu,goInt],by simp only[Rel];exact⟨trivial,rfl⟩⟩
 ·rename_i e xs len cap hu
  cases hl
  simp only[Rel] at hx
  rcases hx with ⟨⟨_,rfl⟩,_,rfl,_⟩|⟨b,o,cap',rfl,_⟩
  ·exact⟨.int .i64 0,by simp[Builtin.len_,hat,harg,run_underlying hu,goInt],by simp only[Rel];exact⟨by simp,rfl⟩⟩
  ·exact⟨.int .i64 len,by simp[Builtin.len_,hat,harg,run_underlying hu,goInt],by simp only[Rel];exact⟨trivial,rfl⟩⟩
 ·rename_i e hu
  cases hl
  simp only[Rel] at hx
  obtain⟨rfl,_⟩:=hx
  exact⟨.int .i64 0,by simp[Builtin.len_,hat,harg,run_underlying hu,goInt],by simp only[Rel];exact⟨by simp,rfl⟩⟩
 ·rename_i n e hu
  cases hl
  exact⟨.int .i64 n,by simp[Builtin.len_,hat,harg,run_underlying hu,goInt],by simp only[Rel];exact⟨trivial,rfl⟩⟩
 ·cases hl
theorem pureV_sound {s:Sem Value}{c:C}(hp:pureV P s=some c):∃v,s.run P w=.ok v w∧Rel w bad S φ c v:=by
 unfold pureV at hp
 split at hp
 ·rename_i y hy
  split at hp
  ·rename_i h1
   cases hp
   exact⟨y,pureRun_run hy w,by simp only[Rel];exact⟨trivial,h1⟩⟩
  ·cases hp
 ·cases hp
theorem isNilC_rel {c:C}{u:Value}{b:Bool}(hr:Rel w bad S φ c u)(hn:isNilC c=some b):∃p:Option Addr,u=.pointer p∧p.isNone=b:=by
 unfold isNilC at hn
 split at hn
 ·cases hn;simp only[Rel] at hr;exact⟨none,hr.1,rfl⟩
 ·cases hn;simp only[Rel] at hr;exact⟨_,hr.2,rfl⟩
 ·cases hn;simp only[Rel] at hr;obtain⟨b,o,rfl,_⟩:=hr;exact⟨_,rfl,rfl⟩
 ·cases hn
theorem isNilS_rel {c:C}{u:Value}{b:Bool}(hr:Rel w bad S φ c u)(hn:isNilS c=some b):∃a l k,u=.slice a l k∧a.isNone=b:=by
 unfold isNilS at hn
 split at hn
 ·cases hn
  simp only[Rel] at hr
  obtain⟨rfl,_⟩:=hr
  exact⟨none,0,0,rfl,rfl⟩
 ·cases hn
  simp only[Rel] at hr
  obtain⟨_,b,o,cap',rfl,_⟩:=hr
  exact⟨_,_,_,rfl,rfl⟩
 ·split at hn
  ·cases hn
  ·rename_i h0
   cases hn
   simp only[Rel] at hr
   rcases hr with ⟨_,_,rfl,_⟩|⟨b,o,cap',rfl,_⟩
   ·exact absurd rfl h0
   ·exact⟨_,_,_,rfl,rfl⟩
 ·cases hn
theorem bin_sound {op:BinOp}{t:TypeId}{x y:Operand}{a b c:C}{u v:Value}(ha:Rel w bad S φ a u)(hb:Rel w bad S φ b v)(hc:binC P op t x y a b=some c):
  ∃r,(do eqGuard op t x y u v;binOp op t u v:Sem Value).run P w=.ok r w∧Rel w bad S φ c r:=by
 unfold binC at hc
 split at hc
 ·simp only[Rel] at ha hb
  rw[ha.1,hb.1]
  exact pureV_sound hc
 ·split at hc
  ·rename_i e i j hu hi hj
   obtain⟨p,rfl,hp⟩:=isNilC_rel ha hi
   obtain⟨q,rfl,hq⟩:=isNilC_rel hb hj
   split at hc
   ·rename_i hij
    have hin:∀d,(Op.equalIn (d+1) t (.pointer p) (.pointer q)).run P w=.ok (i&&j) w:=fun d=>by
     cases p with
     |none=>
      simp at hp
      subst hp
      simp[Op.equalIn,run_underlying hu,hq]
     |some p=>
      simp at hp
      subst hp
      cases q with
      |none=>
       simp at hq
       subst hq
       simp[Op.equalIn,run_underlying hu]
      |some q=>
       simp at hq
       subst hq
       simp at hij
    have heq:(Op.equal t (.pointer p) (.pointer q)).run P w=.ok (i&&j) w:=hin 9999
    split at hc
    ·cases hc
     refine⟨.bool (i&&j),?_,by simp only[Rel];exact⟨trivial,rfl⟩⟩
     cases p<;>cases q<;>simp[eqGuard,binOp,heq]
    ·cases hc
     refine⟨.bool (!(i&&j)),?_,by simp only[Rel];exact⟨trivial,rfl⟩⟩
     cases p<;>cases q<;>simp[eqGuard,binOp,heq]
    ·cases hc
   ·cases hc
  ·rename_i e hu
   split at hc
   ·rename_i i j hi hj
    obtain⟨p,l,k,rfl,hp⟩:=isNilS_rel ha hi
    obtain⟨q,l',k',rfl,hq⟩:=isNilS_rel hb hj
    split at hc
    ·rename_i hij
     have hin:∀d,(Op.equalIn (d+1) t (.slice p l k) (.slice q l' k')).run P w=.ok (i&&j) w:=fun d=>by
      cases p with
      |none=>
       simp at hp
       subst hp
       simp[Op.equalIn,run_underlying hu,hq]
      |some p=>
       simp at hp
       subst hp
       cases q with
       |none=>
        simp at hq
        subst hq
        simp[Op.equalIn,run_underlying hu]
       |some q=>
        simp at hq
        subst hq
        simp at hij
     have heq:(Op.equal t (.slice p l k) (.slice q l' k')).run P w=.ok (i&&j) w:=hin 9999
     split at hc
     ·cases hc
      refine⟨.bool (i&&j),?_,by simp only[Rel];exact⟨trivial,rfl⟩⟩
      simp[eqGuard,binOp,heq]
     ·cases hc
      refine⟨.bool (!(i&&j)),?_,by simp only[Rel];exact⟨trivial,rfl⟩⟩
      simp[eqGuard,binOp,heq]
     ·cases hc
    ·cases hc
   ·cases hc
  ·cases hc
theorem bytes_rel:∀{cs:List C} {us:List Value} {ns:List Int},bytesOf cs=some ns→RelL w bad S φ cs us→us=ns.map (Value.int .u8)
 |[],us,ns,hb,hr=>by
  simp only[bytesOf,Option.some.injEq] at hb
  subst hb
  simp only[RelL] at hr
  rw[hr];rfl
 |c::cs,us,ns,hb,hr=>by
  unfold bytesOf at hb
  split at hb
  ·rename_i heq;cases heq
  ·rename_i heq
   cases heq
   simp only[Option.map_eq_some_iff] at hb
   obtain⟨ms,h1,rfl⟩:=hb
   simp only[RelL,Rel] at hr
   obtain⟨u,r,rfl,⟨rfl,_⟩,hr⟩:=hr
   rw[bytes_rel h1 hr]
   rfl
  ·cases hb
theorem conv_sound (G:Good w X S φ h){s d:TypeId}{a c:C}{u:Value}(ha:Rel w (badOf X φ h) S φ a u)(hc:convC P h s d a=some c):∃v,(convert s d u).run P w=.ok v w∧Rel w (badOf X φ h) S φ c v:=by
 unfold convC at hc
 split at hc
 ·rename_i p hp
  rw[scalar_rel ha hp]
  exact pureV_sound hc
 ·rename_i hsc
  split at hc
  ·rename_i hb
   simp only[Option.bind_eq_some_iff,Option.map_eq_some_iff] at hc
   obtain⟨⟨n,ys⟩,hs,ns,hn,rfl⟩:=hc
   unfold isBytes at hb
   split at hb
   ·rename_i e hus hud
    split at hb
    ·rename_i hue
     have h1:=of_decide_eq_true hb
     obtain⟨news,hlen,hrn,_,hlo,hfc⟩:=srcN_sound (P:=P) G ha hs
     simp only at hn
     obtain rfl:=bytes_rel hn hrn
     have hus:∃p l k,u=.slice p l k:=by
      unfold srcOf at hs
      split at hs
      ·simp only[Rel] at ha
       exact⟨_,_,_,ha.1⟩
      ·simp only[Rel] at ha
       obtain⟨_,_,_,_,rfl,_⟩:=ha
       exact⟨_,_,_,rfl⟩
      ·simp only[Rel] at ha
       rcases ha with ⟨⟨_,rfl⟩,_⟩|⟨_,_,_,rfl,_⟩<;>exact⟨_,_,_,rfl⟩
      ·cases hs
     obtain⟨p,l,k,rfl⟩:=hus
     have hl:l=n:=by simpa[Builtin.lenOf] using hlo
     subst hl
     have hfc':=hfc l (Nat.le_refl _)
     rw[List.take_of_length_le (by omega)] at hfc'
     rw[run_convert_bytes_string w s d e p l k hus hue hud]
     cases p with
     |none=>
      have h0:ns=[]:=by
       have:(ns.map (Value.int .u8)).toArray= #[]:=by simpa[Builtin.firstCells] using hfc'.symm
       simpa using this
      subst h0
      exact⟨.string .empty,rfl,by simp only[Rel];exact⟨rfl,rfl⟩⟩
     |some p=>
      have hlc:(loadCells p l).run P w=.ok (ns.map (Value.int .u8)).toArray w:=by
       have:(loadCells p (l*1)).run P w=.ok (ns.map (Value.int .u8)).toArray w:=hfc'
       rwa [Nat.mul_one] at this
      exact⟨_,run_bytesToString w p l k ns hlc,by simp only[Rel];exact⟨rfl,rfl⟩⟩
    ·cases hb
   ·cases hb
  ·cases hc
theorem tupAt_rel {c r:C}{u:Value}{i:Nat}(hr:Rel w bad S φ c u)(ht:tupAt c i=some r):∃v,(Instr.extract u i).run P w=.ok v w∧Rel w bad S φ r v:=by
 unfold tupAt at ht
 split at ht
 ·simp only[Rel] at hr
  obtain⟨us,rfl,hl⟩:=hr
  obtain⟨v,hv,hrel⟩:=RelL.get hl ht
  exact⟨v,by simp[Instr.extract,←Array.getElem?_toList,hv],hrel⟩
 ·cases ht
theorem fnOf_rel {c:C}{u:Value}{f:FuncId}{caps:List C}(hr:Rel w bad S φ c u)(hf:fnOf c=some (f,caps)):∃us,u=.func (.func f) #[] us∧RelL w bad S φ caps us.toList:=by
 unfold fnOf at hf
 split at hf
 ·cases hf
  simp only[Rel] at hr
  exact hr
 ·split at hf
  ·rename_i k first cs hc
   cases hf
   simp only[Rel] at hr
   obtain⟨h1,h2⟩:=hc
   have e1:first= #[]:=Array.eq_empty_of_size_eq_zero h1
   have e2:cs= #[]:=Array.eq_empty_of_size_eq_zero h2
   subst e1
   subst e2
   exact⟨#[],hr.1,by simp[RelL]⟩
  ·cases hf
 ·cases hf
theorem evo_rel {env:Env}{a:Act}(he:RelE w bad S φ env a.tmps){x:Option Operand}{c:Option C}(hx:evo env x=some c):RelO w bad S φ c (x.map a.eval):=by
 cases x with
 |none=>simp only[evo,Option.some.injEq] at hx;subst hx;trivial
 |some x=>
  simp only[evo,Option.map_eq_some_iff] at hx
  obtain⟨d,hd,rfl⟩:=hx
  exact ev_rel he hd
end
end Go.Tm
