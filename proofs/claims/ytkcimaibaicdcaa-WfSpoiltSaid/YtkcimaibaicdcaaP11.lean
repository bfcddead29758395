/- The law returns true at every input. No condition. A part of its proof. -/
import Derived.Test.YtkcimaibaicdcaaP10
import Derived.Test.YtkcimaibaicdcaaP8
set_option linter.unusedSimpArgs false
set_option linter.unusedVariables false
set_option maxHeartbeats 16000000
set_option maxRecDepth 100000
namespace Go.Proofs.Ytkcimaibaicdcaa.Tk
open Go.Tm Go.Tm.Tab
section
variable {vals:FuncId→Bool} {call:CallF} {n:Nat}
theorem index_loop (xs:List Int)(v:Int)(hx:xs.length<2^62):∀(d i m:Nat),i+d=xs.length→d<m→
  Tm.Loop Try.prog vals call n [0,1,7,8] k96b0 m ⟨[(0,ints xs),(1,int v),(7,int xs.length),(8,int i)],[]⟩=some (if v∈xs.drop i then(.ret,⟨[(4,int (i+(xs.drop i).idxOf v:Nat))],[]⟩) else(.exit 0,⟨[(0,ints xs),(1,int v),(7,int xs.length),(8,int xs.length),(9,bool false)],[]⟩))
 |0,i,m,hi,hm=>by
  obtain⟨m,rfl⟩:∃p,m=p+1:=⟨m-1,by omega⟩
  obtain rfl:i=xs.length:=by omega
  rw[Tm.Loop_succ]
  simp +decide -implicitDefEqProofs only[bind_ite,andThen_ite,leaves_ite,k96b0,go_sem]
  simp
 |d+1,i,m,hi,hm=>by
  obtain⟨m,rfl⟩:∃p,m=p+1:=⟨m-1,by omega⟩
  have ih:=index_loop xs v hx d (i+1) m (by omega) (by omega)
  rw[Tm.Loop_succ]
  generalize Tm.Loop Try.prog vals call n [0,1,7,8] k96b0 m=L at ih⊢
  simp +decide -implicitDefEqProofs only[bind_ite,andThen_ite,leaves_ite,k96b0,go_sem]
  rw[if_pos (by simp;omega),if_pos (by omega),wrap_next (n:=xs.length) (by omega) hx,drop_rd (xs:=xs) (i:=i) (by omega)]
  by_cases e:v=rd xs i
  ·simp[e]
  ·rw[if_neg (by simpa using e),ih]
   by_cases hv:v∈xs.drop (i+1)
   ·have e':(rd xs i==v)=false:=by simpa using Ne.symm e
    simp[e,hv,List.idxOf_cons,e'];omega
   ·simp[e,hv]
theorem index_runs (xs:List Int)(v:Int)(hx:xs.length<2^62):Runs Try.prog tab (xs.length+2) 96 [ints xs,int v] (int (if v∈xs then(xs.idxOf v:Nat) else -1)):=by
 refine Runs.by (rs:=[.tmp 4]) (N:=19) rfl Try.func96 rfl rfl (by simp) fun k hk=>?_
 have h:=index_loop (vals:=valsOf tab) (call:=callAt Try.prog tab k) (n:=k) xs v hx xs.length 0 k (by omega) (by omega)
 rw[show((0:Nat):Int)=0 from rfl,List.drop_zero,Nat.zero_add] at h
 simp +decide -implicitDefEqProofs only[bind_ite,andThen_ite,leaves_ite,k96,go_sem]
 rw[h]
 by_cases hv:v∈xs
 ·simp +decide -implicitDefEqProofs only[bind_ite,andThen_ite,leaves_ite,go_sem,if_pos hv]
  exact⟨_,_,rfl,rfl⟩
 ·simp +decide -implicitDefEqProofs only[bind_ite,andThen_ite,leaves_ite,go_sem,if_neg hv]
  exact⟨_,_,rfl,rfl⟩
theorem contains_runs (xs:List Int)(v:Int)(hx:xs.length<2^62):Runs Try.prog tab (xs.length+3) 62 [ints xs,int v] (bool (decide (v∈xs))):=by
 refine Runs.by (rs:=[.tmp 4]) (N:=9) rfl Try.func62 rfl rfl (by simp) fun k hk=>?_
 have h:=index_runs xs v hx k hk [ints xs,int v] [] (by simp +decide -implicitDefEqProofs only[bind_ite,andThen_ite,leaves_ite,depth,go_sem])
 simp +decide -implicitDefEqProofs only[bind_ite,andThen_ite,leaves_ite,k62,go_sem]
 rw[h]
 by_cases hv:v∈xs
 ·simp +decide -implicitDefEqProofs only[bind_ite,andThen_ite,leaves_ite,go_sem,if_pos hv]
  exact⟨_,_,rfl,by simp[depth,go_sem,hv]⟩
 ·simp +decide -implicitDefEqProofs only[bind_ite,andThen_ite,leaves_ite,go_sem,if_neg hv]
  exact⟨_,_,rfl,by simp[depth,go_sem,hv]⟩
theorem in_loop (xs:List Int)(v:Int)(hx:xs.length<2^62):∀(d i m:Nat),i+d=xs.length→d<m→
  Tm.Loop Try.prog vals call n [0,1,5] k31b0 m ⟨[(0,ints xs),(1,int v),(5,int i)],[]⟩=some (if v∈xs.drop i then(.ret,⟨[(4,bool true)],[]⟩) else(.exit 0,⟨[(0,ints xs),(1,int v),(5,int xs.length),(9,bool false)],[]⟩))
 |0,i,m,hi,hm=>by
  obtain⟨m,rfl⟩:∃p,m=p+1:=⟨m-1,by omega⟩
  obtain rfl:i=xs.length:=by omega
  rw[Tm.Loop_succ]
  simp +decide -implicitDefEqProofs only[bind_ite,andThen_ite,leaves_ite,k31b0,go_sem]
  simp
 |d+1,i,m,hi,hm=>by
  obtain⟨m,rfl⟩:∃p,m=p+1:=⟨m-1,by omega⟩
  have ih:=in_loop xs v hx d (i+1) m (by omega) (by omega)
  rw[Tm.Loop_succ]
  generalize Tm.Loop Try.prog vals call n [0,1,5] k31b0 m=L at ih⊢
  simp +decide -implicitDefEqProofs only[bind_ite,andThen_ite,leaves_ite,k31b0,go_sem]
  rw[if_pos (by simp;omega),if_pos (by omega),wrap_next (n:=xs.length) (by omega) hx,drop_rd (xs:=xs) (i:=i) (by omega)]
  by_cases e:rd xs i=v
  ·simp[e]
  ·rw[if_neg (by simpa using e),ih]
   by_cases hv:v∈xs.drop (i+1)
   ·simp[Ne.symm e,hv]
   ·simp[Ne.symm e,hv]
theorem in_runs (xs:List Int)(v:Int)(hx:xs.length<2^62):Runs Try.prog tab (xs.length+2) 31 [ints xs,int v] (bool (decide (v∈xs))):=by
 refine Runs.by (rs:=[.tmp 4]) (N:=18) rfl Try.func31 rfl rfl (by simp) fun k hk=>?_
 have h:=in_loop (vals:=valsOf tab) (call:=callAt Try.prog tab k) (n:=k) xs v hx xs.length 0 k (by omega) (by omega)
 rw[show((0:Nat):Int)=0 from rfl,List.drop_zero] at h
 simp +decide -implicitDefEqProofs only[bind_ite,andThen_ite,leaves_ite,k31,go_sem]
 rw[h]
 by_cases hv:v∈xs
 ·simp +decide -implicitDefEqProofs only[bind_ite,andThen_ite,leaves_ite,go_sem,if_pos hv]
  exact⟨_,_,rfl,by simp[depth,go_sem,hv]⟩
 ·simp +decide -implicitDefEqProofs only[bind_ite,andThen_ite,leaves_ite,go_sem,if_neg hv]
  exact⟨_,_,rfl,by simp[depth,go_sem,hv]⟩
end
section
variable {n:Nat}
theorem next_loop (f:Tm.Func)(x:List Int)(hx:x.length<2^35){k:Nat}(hk:2^35+3≤k)(d:Nat):∀(i m:Nat),i+d=x.length→d<m→∀(h:Heap) (c:C) (out:List Int),h[0]?=some (.row 0 (encFunc f))→Grow h c out→(∀o k,c≠ .os 0 0 o k)→out.length≤i→
    ∃h' c',Tm.Loop Try.prog (valsOf tab) (callAt Try.prog tab k) n [2,5,55,56,57] k19b0 m ⟨[(2,.op 0 0),(5,c),(55,ints x),(56,int x.length),(57,int i)],h⟩=some (.exit 0,⟨[(2,.op 0 0),(5,c'),(55,ints x),(56,int x.length),(57,int x.length),(58,bool false)],h'⟩)∧Grow h' c' ((x.drop i).foldl (addTo f.blocks.length) out)
 :=by
  induction d with
  |zero=>
    intro i m hi hm h c out h0 ho hne hl
    obtain⟨m,rfl⟩:∃p,m=p+1:=⟨m-1,by omega⟩
    obtain rfl:i=x.length:=by omega
    rw[Tm.Loop_succ]
    simp +decide -implicitDefEqProofs only[bind_ite,andThen_ite,leaves_ite,k19b0,go_sem,Int.lt_irrefl,decide_false]
    exact⟨h,c,rfl,by simpa using ho⟩
  |succ d ih=>
    intro i m hi hm h c out h0 ho hne hl
    obtain⟨m,rfl⟩:∃p,m=p+1:=⟨m-1,by omega⟩
    replace ih:=ih (i+1) m (by omega) (by omega)
    rw[Tm.Loop_succ,drop_rd (xs:=x) (i:=i) (by omega),List.foldl_cons]
    generalize Tm.Loop Try.prog (valsOf tab) (callAt Try.prog tab k) n [2,5,55,56,57] k19b0 m=L at ih⊢
    have e1:decide ((i:Int)<x.length)=true:=by simp;omega
    have e2:0≤(i:Int)∧(i:Int)<x.length:=by omega
    have e3:=wrap_next (n:=x.length) (i:=i) (by omega) (by omega)
    have hcall:=contains_runs out (rd x i) (by omega) k (by omega) [c,int (rd x i)] h (by simp only[mapC_cons,mapC_nil,depth,ho.view,view_int,Option.bind_some])
    rw[enc_func] at h0
    by_cases c1:rd x i≥0
    · by_cases c2:rd x i<(f.blocks.length:Int)
      · by_cases c3:rd x i∈out
        · have ha:addTo f.blocks.length out (rd x i)=out:=if_neg (fun h=>h.2.2 c3)
          rw[ha]
          simp +decide -implicitDefEqProofs only[bind_ite,andThen_ite,leaves_ite,k19b0,go_sem,e1,e2,e3,h0,decide_eq_true c1,decide_eq_true c2,decide_eq_true c3,hcall]
          exact ih h c out h0 ho hne (by omega)
        · have ha:addTo f.blocks.length out (rd x i)=out++[rd x i]:=if_pos ⟨c1,c2,c3⟩
          rw[ha]
          have hlen:=(List.getElem?_eq_some_iff.1 h0).1
          have ho':Grow (h++[.row 1 [int (rd x i)]]) c out:=ho.mono fun l nd hl=>by rw[List.getElem?_append_left (List.getElem?_eq_some_iff.1 hl).1];exact hl
          obtain⟨c',h',g1,g2,g4,g3⟩:=ho'.append (rd x i) (by unfold maxRow;omega)
          have g0:(h++[Node.row 1 [int (rd x i)]])[h.length]?=some (.row 1 [int (rd x i)]):=by simp
          simp +decide -implicitDefEqProofs only[bind_ite,andThen_ite,leaves_ite,k19b0,go_sem,e1,e2,e3,h0,decide_eq_true c1,decide_eq_true c2,decide_eq_false c3,hcall,g0,g1]
          refine ih h' c' (out++[rd x i]) (g3 0 _ (by rw[List.getElem?_append_left hlen];exact h0) hne) g2 (fun o k e=>?_) (by simp;omega)
          rw[g4] at e
          simp at e
      · have ha:addTo f.blocks.length out (rd x i)=out:=if_neg (fun h=>c2 h.2.1)
        rw[ha]
        simp +decide -implicitDefEqProofs only[bind_ite,andThen_ite,leaves_ite,k19b0,go_sem,e1,e2,e3,h0,decide_eq_true c1,decide_eq_false c2]
        exact ih h c out h0 ho hne (by omega)
    · have ha:addTo f.blocks.length out (rd x i)=out:=if_neg (fun h=>c1 h.1)
      rw[ha]
      simp +decide -implicitDefEqProofs only[bind_ite,andThen_ite,leaves_ite,k19b0,go_sem,e1,e2,e3,h0,decide_eq_false c1]
      exact ih h c out h0 ho hne (by omega)
theorem ins_ne {l:List Ins}:l≠[]↔¬((l.length:Int)=0):=by cases l<;>simp;omega
structure Fine (f:Tm.Func):Prop where
 blocks:f.blocks.length≤17
 ins:∀b∈f.blocks,b.ins.length≤91
 into:∀b∈f.blocks,∀i∈b.ins,i.args.length≤20∧i.into.length≤20
theorem blkAt_mem {l:List Block}{b:Int}(h:0≤b∧b<l.length):blkAt l b∈l:=by
 unfold blkAt;rw[List.getD_eq_getElem?_getD,List.getElem?_eq_getElem (by omega)];exact List.getElem_mem _
theorem insAt_mem {l:List Ins}{b:Int}(h:0≤b∧b<l.length):insAt l b∈l:=by
 unfold insAt;rw[List.getD_eq_getElem?_getD,List.getElem?_eq_getElem (by omega)];exact List.getElem_mem _
theorem fold_len {n:Nat}:∀{x out:List Int},(x.foldl (addTo n) out).length≤out.length+x.length
 |[],out=>by simp
 |t::x,out=>by
  have:=fold_len (n:=n) (x:=x) (out:=addTo n out t)
  have:=addTo_len (n:=n) (out:=out) (t:=t)
  simp only[List.foldl_cons,List.length_cons];omega
theorem addTo_in {n:Nat}{out:List Int}{t v:Int}(h:∀v∈out,0≤v∧v<(n:Int))(hv:v∈addTo n out t):0≤v∧v<(n:Int):=by
 unfold addTo at hv
 split at hv
 ·rename_i c
  rcases List.mem_append.1 hv with hv|hv
  ·exact h v hv
  ·rw[List.mem_singleton.1 hv];exact⟨c.1,c.2.1⟩
 ·exact h v hv
theorem fold_in {n:Nat}:∀{x out:List Int},(∀v∈out,0≤v∧v<(n:Int))→∀v∈x.foldl (addTo n) out,0≤v∧v<(n:Int)
 |[],out,h=>h
 |t::x,out,h=>fold_in (x:=x) fun _ hv=>addTo_in h hv
theorem next_in {l:List Block}{b v:Int}(h:v∈nextOf l b):0≤v∧v<(l.length:Int):=by
 unfold nextOf at h
 split at h
 ·exact fold_in (by simp) _ h
 ·simp at h
theorem next_len {f:Tm.Func}(F:Fine f)(b:Int):(nextOf f.blocks b).length≤20:=by
 unfold nextOf
 split
 ·rename_i g
  have hb:=blkAt_mem ⟨g.1,g.2.1⟩
  have hp:=List.length_pos_iff.2 g.2.2.1
  have:=(F.into _ hb _ (insAt_mem (l:=(blkAt f.blocks b).ins) (b:=((blkAt f.blocks b).ins.length:Int)-1) (by omega))).2
  have:=fold_len (n:=f.blocks.length) (x:=(lastI f.blocks b).into) (out:=[])
  unfold lastI at*
  simp at*
  omega
 ·simp
theorem next_runs (f:Tm.Func)(F:Fine f)(b:Int):Runs Try.prog tab (2^36+1) 19 [.agg (encFunc f),int b] (ints (nextOf f.blocks b)):=by
 refine Runs.by (rs:=[.tmp 4]) (N:=82) rfl Try.func19 rfl rfl (by simp) fun k hk=>?_
 rw[enc_func]
 by_cases c1:b<0
 ·have e:nextOf f.blocks b=[]:=if_neg (fun h=>by have:=h.1;omega)
  rw[e]
  simp +decide -implicitDefEqProofs only[bind_ite,andThen_ite,leaves_ite,k19,go_sem,decide_eq_true c1]
  exact⟨_,_,rfl,rfl⟩
 by_cases c2:b≥f.blocks.length
 ·have e:nextOf f.blocks b=[]:=if_neg (fun h=>by have:=h.2.1;omega)
  rw[e]
  simp +decide -implicitDefEqProofs only[bind_ite,andThen_ite,leaves_ite,k19,go_sem,decide_eq_false c1,decide_eq_true c2]
  exact⟨_,_,rfl,rfl⟩
 have e2:0≤b∧b<f.blocks.length:=by omega
 by_cases c3:((blkAt f.blocks b).ins.length:Int)=0
 ·have e:nextOf f.blocks b=[]:=if_neg (fun h=>by have:=ins_ne.1 h.2.2.1;omega)
  rw[e]
  simp +decide -implicitDefEqProofs only[bind_ite,andThen_ite,leaves_ite,k19,go_sem,decide_eq_false c1,decide_eq_false c2,e2,decide_eq_true c3]
  exact⟨_,_,rfl,rfl⟩
 have hb:=blkAt_mem e2
 have hlen:=F.ins _ hb
 have e3:IntKind.i64.wrap (((blkAt f.blocks b).ins.length:Int)-1)=((blkAt f.blocks b).ins.length:Int)-1:=wrap_in (by omega) (by omega)
 have e4:0≤((blkAt f.blocks b).ins.length:Int)-1∧((blkAt f.blocks b).ins.length:Int)-1<((blkAt f.blocks b).ins.length:Int):=by omega
 have hx:(insAt (blkAt f.blocks b).ins (((blkAt f.blocks b).ins.length:Int)-1)).into.length<2^35:=Nat.lt_of_le_of_lt (F.into _ hb _ (insAt_mem e4)).2 (by decide)
 by_cases c4:(lastI f.blocks b).op=27∨(lastI f.blocks b).op=28
 ·have e:nextOf f.blocks b=(lastI f.blocks b).into.foldl (addTo f.blocks.length) []:=if_pos ⟨e2.1,e2.2,ins_ne.2 c3,c4⟩
  rw[e]
  unfold lastI at c4⊢
  obtain⟨h',c',g1,g2⟩:=next_loop (n:=k) f _ hx (k:=k) (by omega) (insAt (blkAt f.blocks b).ins (((blkAt f.blocks b).ins.length:Int)-1)).into.length 0 k (by omega) (by omega) [.row 0 (encFunc f),.row 0 (encIns (insAt (blkAt f.blocks b).ins (((blkAt f.blocks b).ins.length:Int)-1)))] (.v (.slice none 0 0)) [] rfl (.inl ⟨rfl,rfl⟩) (fun o k h=>by cases h) (Nat.le_refl _)
  rw[enc_func,show((0:Nat):Int)=0 from rfl] at g1
  unfold encIns at g1
  have hv:=g2.view (cl:=true) (n:=10)
  rw[List.drop_zero] at hv
  by_cases q:(insAt (blkAt f.blocks b).ins (((blkAt f.blocks b).ins.length:Int)-1)).op=27
  ·simp +decide -implicitDefEqProofs only[bind_ite,andThen_ite,leaves_ite,k19,go_sem,decide_eq_false c1,decide_eq_false c2,e2,decide_eq_false c3,e3,e4,decide_eq_true q,g1]
   exact⟨_,_,rfl,hv⟩
  ·have q2:=c4.resolve_left q
   simp +decide -implicitDefEqProofs only[bind_ite,andThen_ite,leaves_ite,k19,go_sem,decide_eq_false c1,decide_eq_false c2,e2,decide_eq_false c3,e3,e4,decide_eq_false q,decide_eq_true q2,g1]
   exact⟨_,_,rfl,hv⟩
 ·have e:nextOf f.blocks b=[]:=if_neg (fun h=>c4 h.2.2.2)
  rw[e]
  unfold lastI at c4
  have d1:(insAt (blkAt f.blocks b).ins (((blkAt f.blocks b).ins.length:Int)-1)).op≠27:=fun h=>c4 (.inl h)
  have d2:(insAt (blkAt f.blocks b).ins (((blkAt f.blocks b).ins.length:Int)-1)).op≠28:=fun h=>c4 (.inr h)
  simp +decide -implicitDefEqProofs only[bind_ite,andThen_ite,leaves_ite,k19,go_sem,decide_eq_false c1,decide_eq_false c2,e2,decide_eq_false c3,e3,e4,decide_eq_false d1,decide_eq_false d2]
  exact⟨_,_,rfl,rfl⟩
end
theorem drop_ins {l:List Ins}{i:Nat}(h:i<l.length):l.drop i=insAt l i::l.drop (i+1):=by
 rw[List.drop_eq_getElem_cons h]
 simp[insAt,List.getD_eq_getElem?_getD,List.getElem?_eq_getElem h]
theorem drop_blk {l:List Block}{i:Nat}(h:i<l.length):l.drop i=blkAt l i::l.drop (i+1):=by
 rw[List.drop_eq_getElem_cons h]
 simp[blkAt,List.getD_eq_getElem?_getD,List.getElem?_eq_getElem h]
def lightI (x:Ins):Bool:=decide (x.args.length≤20)&&decide (x.into.length≤20)
def lightB:List Block→Int→Bool
 |[],_=>true
 |b::r,a=>!decide (a+b.ins.length>90)&&(b.ins.all lightI&&lightB r (a+b.ins.length))
section
variable {vals:FuncId→Bool} {call:CallF} {n:Nat}
theorem light_in (f:Tm.Func)(b:Int)(hb:0≤b∧b<f.blocks.length)(a:C)(hl:(blkAt f.blocks b).ins.length<2^45)(d:Nat):∀(i m:Nat),i+d=(blkAt f.blocks b).ins.length→d<m→
  Tm.Loop Try.prog vals call n [1,3,4,5] k17b0 m ⟨[(1,.op 0 0),(3,a),(4,int b),(5,int i)],[.row 0 (encFunc f)]⟩=some (if ((blkAt f.blocks b).ins.drop i).all lightI=true then(.exit 2,⟨[(1,.op 0 0),(3,a),(4,int b),(5,int (blkAt f.blocks b).ins.length),(48,bool false)],[.row 0 (encFunc f)]⟩) else(.ret,⟨[(2,bool false)],[.row 0 (encFunc f)]⟩)):=by
 induction d with
 |zero=>
  intro i m hi hm
  obtain⟨m,rfl⟩:∃p,m=p+1:=⟨m-1,by omega⟩
  obtain rfl:i=(blkAt f.blocks b).ins.length:=by omega
  rw[Tm.Loop_succ,enc_func]
  simp +decide -implicitDefEqProofs only[bind_ite,andThen_ite,leaves_ite,k17b0,go_sem,hb,Int.lt_irrefl,decide_false,List.drop_length]
 |succ d ih=>
  intro i m hi hm
  obtain⟨m,rfl⟩:∃p,m=p+1:=⟨m-1,by omega⟩
  replace ih:=ih (i+1) m (by omega) (by omega)
  rw[Tm.Loop_succ]
  generalize Tm.Loop Try.prog vals call n [1,3,4,5] k17b0 m=L at ih⊢
  rw[enc_func] at ih⊢
  have e1:decide ((i:Int)<(blkAt f.blocks b).ins.length)=true:=by simp;omega
  have e2:0≤(i:Int)∧(i:Int)<(blkAt f.blocks b).ins.length:=by omega
  have e3:=wrap_next (n:=(blkAt f.blocks b).ins.length) (i:=i) (by omega) (by omega)
  by_cases c1:((insAt (blkAt f.blocks b).ins i).args.length:Int)>20
  ·simp +decide -implicitDefEqProofs only[bind_ite,andThen_ite,leaves_ite,k17b0,go_sem,hb,e1,e2,e3,decide_eq_true c1]
   simp[drop_ins (l:=(blkAt f.blocks b).ins) (i:=i) (by omega),lightI,show ¬(insAt (blkAt f.blocks b).ins i).args.length≤20 by omega]
  ·by_cases c2:((insAt (blkAt f.blocks b).ins i).into.length:Int)>20
   ·simp +decide -implicitDefEqProofs only[bind_ite,andThen_ite,leaves_ite,k17b0,go_sem,hb,e1,e2,e3,decide_eq_false c1,decide_eq_true c2]
    simp[drop_ins (l:=(blkAt f.blocks b).ins) (i:=i) (by omega),lightI,show ¬(insAt (blkAt f.blocks b).ins i).into.length≤20 by omega]
   ·simp +decide -implicitDefEqProofs only[bind_ite,andThen_ite,leaves_ite,k17b0,go_sem,hb,e1,e2,e3,decide_eq_false c1,decide_eq_false c2]
    rw[ih,drop_ins (l:=(blkAt f.blocks b).ins) (i:=i) (by omega),List.all_cons,show lightI (insAt (blkAt f.blocks b).ins i)=true by simp[lightI];omega,Bool.true_and]
theorem light_out (f:Tm.Func)(hn:f.blocks.length≤16)(hl:∀b∈f.blocks,b.ins.length<2^45)(hn2:2^36≤n)(d:Nat):∀(i m:Nat) (a:Int),i+d=f.blocks.length→d<m→0≤a∧a≤90→
  ∃e,Tm.Loop Try.prog vals call n [1,3,4] k17b1 m ⟨[(1,.op 0 0),(3,int a),(4,int i)],[.row 0 (encFunc f)]⟩=some (if lightB (f.blocks.drop i) a=true then(.exit 0,⟨e,[.row 0 (encFunc f)]⟩) else(.ret,⟨[(2,bool false)],[.row 0 (encFunc f)]⟩)):=by
 induction d with
 |zero=>
  intro i m a hi hm ha
  obtain⟨m,rfl⟩:∃p,m=p+1:=⟨m-1,by omega⟩
  obtain rfl:i=f.blocks.length:=by omega
  rw[Tm.Loop_succ,enc_func]
  simp +decide -implicitDefEqProofs only[bind_ite,andThen_ite,leaves_ite,k17b1,go_sem,Int.lt_irrefl,decide_false,List.drop_length,lightB]
  exact⟨_,rfl⟩
 |succ d ih=>
  intro i m a hi hm ha
  obtain⟨m,rfl⟩:∃p,m=p+1:=⟨m-1,by omega⟩
  have e1:decide ((i:Int)<f.blocks.length)=true:=by simp;omega
  have e2:0≤(i:Int)∧(i:Int)<f.blocks.length:=by omega
  have e3:=wrap_next (n:=f.blocks.length) (i:=i) (by omega) (by omega)
  have hlb:=hl _ (blkAt_mem e2)
  have e4:IntKind.i64.wrap (a+((blkAt f.blocks i).ins.length:Int))=a+((blkAt f.blocks i).ins.length:Int):=wrap_in (by omega) (by omega)
  rw[Tm.Loop_succ]
  by_cases c1:a+((blkAt f.blocks i).ins.length:Int)>90
  ·generalize Tm.Loop Try.prog vals call n [1,3,4] k17b1 m=L
   rw[enc_func]
   simp +decide -implicitDefEqProofs only[bind_ite,andThen_ite,leaves_ite,k17b1,go_sem,e1,e2,e3,e4,decide_eq_true c1]
   rw[drop_blk (l:=f.blocks) (i:=i) (by omega),lightB,decide_eq_true c1]
   exact⟨[],rfl⟩
  ·replace ih:=ih (i+1) m (a+((blkAt f.blocks i).ins.length:Int)) (by omega) (by omega) (by omega)
   have h1:=light_in (vals:=vals) (call:=call) (n:=n) f i e2 (int (a+((blkAt f.blocks i).ins.length:Int))) hlb (blkAt f.blocks i).ins.length 0 n (by omega) (by omega)
   rw[show((0:Nat):Int)=0 from rfl,List.drop_zero] at h1
   generalize Tm.Loop Try.prog vals call n [1,3,4] k17b1 m=L at ih⊢
   rw[drop_blk (l:=f.blocks) (i:=i) (by omega),lightB,decide_eq_false c1]
   rw[enc_func] at*
   by_cases c2:(blkAt f.blocks i).ins.all lightI=true
   ·rw[if_pos c2] at h1
    simp +decide -implicitDefEqProofs only[bind_ite,andThen_ite,leaves_ite,k17b1,go_sem,e1,e2,e3,e4,decide_eq_false c1,h1,c2]
    exact ih
   ·rw[if_neg c2] at h1
    simp +decide -implicitDefEqProofs only[bind_ite,andThen_ite,leaves_ite,k17b1,go_sem,e1,e2,e3,e4,decide_eq_false c1,h1,Bool.eq_false_iff.2 c2,Bool.false_and]
    exact⟨[],trivial⟩
end
theorem lightB_ins:∀{l:List Block} {a:Int},0≤a→lightB l a=true→∀b∈l,b.ins.length≤90∧∀i∈b.ins,i.args.length≤20∧i.into.length≤20
 |[],_,_,_,b,hb=>by simp at hb
 |c::l,a,h0,h,b,hb=>by
  simp only[lightB,Bool.and_eq_true,Bool.not_eq_true',decide_eq_false_iff_not,List.all_eq_true,lightI,decide_eq_true_eq] at h
  rcases List.mem_cons.1 hb with rfl|hb
  ·exact⟨by omega,h.2.1⟩
  ·exact lightB_ins (by omega) h.2.2 b hb
def push (b:Int)(acc:List (List Int))(t:Int):List (List Int):=acc.set t.toNat (acc.getD t.toNat []++[b])
noncomputable def prevFrom (l:List Block):Nat→Nat→List (List Int)→List (List Int)
 |0,_,acc=>acc
 |d+1,i,acc=>prevFrom l d (i+1) ((nextOf l i).foldl (push i) acc)
noncomputable def prevOf (l:List Block):List (List Int):=prevFrom l l.length 0 (List.replicate l.length [])
theorem push_len {b:Int}{acc:List (List Int)}{t:Int}:(push b acc t).length=acc.length:=by simp[push]
theorem push_row {b:Int}{acc:List (List Int)}{t:Int}(j M:Nat)(h:∀j,(acc.getD j []).length≤M):((push b acc t).getD j []).length≤M+1:=by
 unfold push
 rw[List.getD_eq_getElem?_getD,List.getElem?_set]
 split
 ·split
  ·have:=h t.toNat;rw[List.getD_eq_getElem?_getD] at this;simp;omega
  ·simp
 ·have:=h j;rw[List.getD_eq_getElem?_getD] at this;omega
theorem get_isSome {cells:List C}{c:C}{j:Nat}(h:cells[j]?=some c):(cells.drop j).head?=some c:=by rw[List.head?_drop];exact h
section
variable {vals:FuncId→Bool} {call:CallF} {n:Nat}
theorem prev_in (f:Tm.Func)(hn:f.blocks.length≤17)(b:Int)(x:List Int)(hx:∀v∈x,0≤v∧v<(f.blocks.length:Int))(hx2:x.length≤20)(d:Nat):∀(i m:Nat),i+d=x.length→d<m→∀(h:Heap) (cells:List C) (acc:List (List Int)) (M:Nat),h[0]?=some (.row 0 (encFunc f))→Tm.Rows h 1 cells acc→acc.length=f.blocks.length→(∀j,(acc.getD j []).length≤M)→M+d<2^30→
  ∃h' cells',Tm.Loop Try.prog vals call n [1,3,4,13,14,19,20,21] k22b0 m ⟨[(1,.op 0 0),(3,.os 1 0 f.blocks.length (some f.blocks.length)),(4,int b),(13,int f.blocks.length),(14,int b),(19,ints x),(20,int x.length),(21,int i)],h⟩=some (.exit 2,⟨[(1,.op 0 0),(3,.os 1 0 f.blocks.length (some f.blocks.length)),(4,int b),(13,int f.blocks.length),(14,int b),(19,ints x),(20,int x.length),(21,int x.length),(22,bool false)],h'⟩)∧
   h'[0]?=some (.row 0 (encFunc f))∧Tm.Rows h' 1 cells' ((x.drop i).foldl (push b) acc)∧((x.drop i).foldl (push b) acc).length=f.blocks.length∧(∀j,(((x.drop i).foldl (push b) acc).getD j []).length≤M+d):=by
 induction d with
 |zero=>
  intro i m hi hm h cells acc M h0 hR hL hM _
  obtain⟨m,rfl⟩:∃p,m=p+1:=⟨m-1,by omega⟩
  obtain rfl:i=x.length:=by omega
  rw[Tm.Loop_succ]
  simp +decide -implicitDefEqProofs only[bind_ite,andThen_ite,leaves_ite,k22b0,go_sem,Int.lt_irrefl,decide_false]
  exact⟨h,cells,rfl,h0,by simpa using hR,by simpa using hL,by simpa using hM⟩
 |succ d ih=>
  intro i m hi hm h cells acc M h0 hR hL hM hMd
  obtain⟨m,rfl⟩:∃p,m=p+1:=⟨m-1,by omega⟩
  replace ih:=ih (i+1) m (by omega) (by omega)
  rw[Tm.Loop_succ,drop_rd (xs:=x) (i:=i) (by omega),List.foldl_cons]
  generalize Tm.Loop Try.prog vals call n [1,3,4,13,14,19,20,21] k22b0 m=L at ih⊢
  have e1:decide ((i:Int)<x.length)=true:=by simp;omega
  have e2:0≤(i:Int)∧(i:Int)<x.length:=by omega
  have e3:=wrap_next (n:=x.length) (i:=i) (by omega) (by omega)
  have e4:=hx _ (rd_mem e2.1 e2.2)
  have e5:(rd x i).toNat<acc.length:=by omega
  obtain⟨c,c',h',g1,g2,g3,g4,g5,g6,g7,g8⟩:=hR.append e5 b (by have:=hM (rd x i).toNat;unfold maxRow;omega)
  have g1':=get_isSome g1
  have g3':storeR h' 1 (rd x i).toNat 1 (some (.row 1 cells)) [c']=some (h'.set 1 (.row 1 (cells.set (rd x i).toNat c'))):=by
   rw[storeR_row,if_pos ⟨rfl,by simp;omega,by simp[g5]⟩]
   have:=put_map (f:=id) (v:=c') g6
   simp only[List.map_id,id] at this
   rw[this]
  have hat:=hR.at_
  simp +decide -implicitDefEqProofs only[bind_ite,andThen_ite,leaves_ite,k22b0,go_sem,e1,e2,e3,e4,hat,g1',g2,g3,g3',g4]
  obtain⟨h2,cells2,q1,q2,q3,q4,q5⟩:=ih _ _ _ (M+1) (g8 0 _ (by omega) h0) g7 (by simp[hL]) (fun j=>push_row (t:=rd x i) (b:=b) j M hM) (by omega)
  exact⟨h2,cells2,q1,q2,q3,q4,fun j=>by have:=q5 j;unfold push at this⊢;omega⟩
end
theorem next_call (f:Tm.Func)(F:Fine f)(b:Int){k:Nat}(hk:2^36+1≤k)(h:Heap):callAt Try.prog tab k 19 [.agg [str f.name,bool f.out,ints f.params,int f.result,blocks f.blocks],int b] h=some (ints (nextOf f.blocks b),h):=by
 rw[←enc_func]
 exact next_runs f F b k hk _ h (by simp only[mapC_cons,mapC_nil,depth,view_func f,view_int,Option.bind_some])
theorem prev_out (f:Tm.Func)(F:Fine f){vals:FuncId→Bool}{k n:Nat}(hk:2^36+1≤k)(hn:30≤n)(d:Nat):∀(i m:Nat),i+d=f.blocks.length→d<m→∀(h:Heap) (cells:List C) (acc:List (List Int)),h[0]?=some (.row 0 (encFunc f))→Tm.Rows h 1 cells acc→acc.length=f.blocks.length→(∀j,(acc.getD j []).length≤20*i)→
  ∃h' cells',Tm.Loop Try.prog vals (callAt Try.prog tab k) n [1,3,13,14] k22b1 m ⟨[(1,.op 0 0),(3,.os 1 0 f.blocks.length (some f.blocks.length)),(13,int f.blocks.length),(14,int i)],h⟩=some (.exit 0,⟨[(1,.op 0 0),(3,.os 1 0 f.blocks.length (some f.blocks.length)),(13,int f.blocks.length),(14,int f.blocks.length),(15,bool false)],h'⟩)∧
   Tm.Rows h' 1 cells' (prevFrom f.blocks d i acc)∧(prevFrom f.blocks d i acc).length=f.blocks.length:=by
 have hb:=F.blocks
 induction d with
 |zero=>
  intro i m hi hm h cells acc h0 hR hL hM
  obtain⟨m,rfl⟩:∃p,m=p+1:=⟨m-1,by omega⟩
  obtain rfl:i=f.blocks.length:=by omega
  rw[Tm.Loop_succ]
  simp +decide -implicitDefEqProofs only[bind_ite,andThen_ite,leaves_ite,k22b1,go_sem,Int.lt_irrefl,decide_false,prevFrom]
  exact⟨h,cells,rfl,hR,hL⟩
 |succ d ih=>
  intro i m hi hm h cells acc h0 hR hL hM
  obtain⟨m,rfl⟩:∃p,m=p+1:=⟨m-1,by omega⟩
  replace ih:=ih (i+1) m (by omega) (by omega)
  rw[Tm.Loop_succ]
  generalize Tm.Loop Try.prog vals (callAt Try.prog tab k) n [1,3,13,14] k22b1 m=L at ih⊢
  have e1:decide ((i:Int)<f.blocks.length)=true:=by simp;omega
  have e3:=wrap_next (n:=f.blocks.length) (i:=i) (by omega) (by omega)
  have hx:=next_len F i
  obtain⟨h',cells',g1,g2,g3,g4,g5⟩:=prev_in (vals:=vals) (call:=callAt Try.prog tab k) (n:=n) f F.blocks i (nextOf f.blocks i) (fun v hv=>next_in hv) hx (nextOf f.blocks i).length 0 n (by omega) (by omega) h cells acc (20*i) h0 hR hL hM (by omega)
  rw[show((0:Nat):Int)=0 from rfl] at g1
  rw[List.drop_zero] at g3 g4 g5
  have hcall:=next_call f F i hk h
  rw[enc_func] at h0
  simp +decide -implicitDefEqProofs only[bind_ite,andThen_ite,leaves_ite,k22b1,go_sem,e1,e3,h0,hcall,g1]
  rw[enc_func] at g2
  exact ih h' cells' _ (by rw[enc_func];exact g2) g3 g4 (fun j=>by have:=g5 j;omega)
theorem rep_one (n:Nat)(c:C):rep n [c]=List.replicate n c:=by
 induction n with
 |zero=>rfl
 |succ n ih=>rw[rep_succ,ih];rfl
theorem prev_runs (f:Tm.Func)(F:Fine f):Runs Try.prog tab (2^36+2) 22 [.agg (encFunc f)] (rows (prevOf f.blocks)):=by
 have hb:=F.blocks
 refine Runs.by (rs:=[.tmp 2]) (N:=38) rfl Try.func22 rfl rfl (by simp) fun k hk=>?_
 have R0:Tm.Rows [.row 0 (encFunc f),.row 1 (List.replicate f.blocks.length (.v (.slice none 0 0)))] 1 (List.replicate f.blocks.length (.v (.slice none 0 0))) (List.replicate f.blocks.length []):=by
  refine⟨rfl,by simp,fun j c hc=>?_,fun j l hl=>?_,fun j k l hj=>?_⟩
  ·obtain⟨hj,rfl⟩:=List.getElem?_eq_some_iff.1 hc
   refine .inl ⟨?_,by simp⟩
   simp only[List.getD_eq_getElem?_getD,List.getElem?_replicate];split<;>rfl
  ·rw[List.getElem?_replicate] at hl;split at hl<;>cases hl
  ·rw[List.getElem?_replicate] at hj;split at hj<;>cases hj
 obtain⟨h',cells',g1,g2,g3⟩:=prev_out f F (vals:=valsOf tab) (k:=k) (n:=k) (by omega) (by omega) f.blocks.length 0 k (by omega) (by omega) _ _ _ rfl R0 (by simp) (fun j=>by rw[List.getD_eq_getElem?_getD,List.getElem?_replicate];split<;>simp)
 rw[show((0:Nat):Int)=0 from rfl,enc_func] at g1
 rw[enc_func]
 have eM:0≤(f.blocks.length:Int)∧(f.blocks.length:Int)≤(f.blocks.length:Int)∧(f.blocks.length:Int)≤(maxRow:Nat):=⟨by omega,by omega,by unfold maxRow;omega⟩
 simp +decide -implicitDefEqProofs only[bind_ite,andThen_ite,leaves_ite,k22,go_sem,eM,Int.toNat_natCast,rep_one,g1]
 refine⟨_,_,rfl,?_⟩
 have:=g2.view (cl:=true) (n:=9) (cap:=some f.blocks.length)
 rw[g3] at this
 exact this
structure Comes (l4:List Block)(ls:List Int)(b:Int):Prop where
 met:Rc (nextOf l4) (fun _=>True) 0 b
 grey:∀v:Int,0≤v→v<(l4.length:Int)→rd ls v=1→Rc (nextOf l4) (fun _=>True) v b
 from_:b=0∨∃p:Int,0≤p∧p<(l4.length:Int)∧b∈nextOf l4 p∧p≠b∧rd ls p=1
def Visits (f:Tm.Func)(k:Nat)(b:Int)(h:Heap)(w s:Nat)(ls lo:List Int)(lp:Bool):Prop:=
 ∃rs ro rp c' h',callAt Try.prog tab k 97 [.op w 0,int b] h=some (.tup [],h')∧Walk h' w s f rs ro rp c'∧Keep s h h'∧Dfs (nextOf f.blocks) f.blocks.length 0 rs ro rp∧Went f.blocks.length ls lo rs ro lp rp∧rd rs b=2
theorem visit_loop (f:Tm.Func)(F:Fine f)(w s:Nat)(b:Int)(b0:0≤b)(b1:b<(f.blocks.length:Int))(M k n:Nat)
  (ih:∀(t:Int) ls lo lp c h,Walk h w s f ls lo lp c→Dfs (nextOf f.blocks) f.blocks.length 0 ls lo lp→ls.count 0≤M→0≤t→t<(f.blocks.length:Int)→rd ls t=0→Comes f.blocks ls t→Visits f k t h w s ls lo lp)(d:Nat):
  ∀(i m:Nat),i+d=(nextOf f.blocks b).length→d<m→∀ls lo lp c h,Walk h w s f ls lo lp c→Dfs (nextOf f.blocks) f.blocks.length 0 ls lo lp→ls.count 0≤M→rd ls b=1→Comes f.blocks ls b→
   (∀j:Int,0≤j→j<i→j<((nextOf f.blocks b).length:Int)→rd ls (rd (nextOf f.blocks b) j)≠0∧(lp=false→rd (nextOf f.blocks b) j∈lo))→
   ∃rs ro rp c' h',Tm.Loop Try.prog (valsOf tab) (callAt Try.prog tab k) n [0,1,17,18,19] k97b0 m ⟨[(0,.op w 0),(1,int b),(17,ints (nextOf f.blocks b)),(18,int (nextOf f.blocks b).length),(19,int i)],h⟩=some (.exit 0,⟨[(0,.op w 0),(1,int b),(17,ints (nextOf f.blocks b)),(18,int (nextOf f.blocks b).length),(19,int (nextOf f.blocks b).length),(20,bool false)],h'⟩)∧
    Walk h' w s f rs ro rp c'∧Keep s h h'∧Dfs (nextOf f.blocks) f.blocks.length 0 rs ro rp∧Went f.blocks.length ls lo rs ro lp rp∧rd rs b=1∧(∀j:Int,0≤j→j<((nextOf f.blocks b).length:Int)→rd rs (rd (nextOf f.blocks b) j)≠0∧(rp=false→rd (nextOf f.blocks b) j∈ro)):=by
 have hx:=next_len F b
 induction d with
 |zero=>
  intro i m hi hm ls lo lp c h W hD _ hb hC hin
  obtain⟨m,rfl⟩:∃p,m=p+1:=⟨m-1,by omega⟩
  obtain rfl:i=(nextOf f.blocks b).length:=by omega
  rw[Tm.Loop_succ]
  simp +decide -implicitDefEqProofs only[bind_ite,andThen_ite,leaves_ite,k97b0,go_sem,Int.lt_irrefl,decide_false]
  exact⟨ls,lo,lp,c,h,rfl,W,Keep.refl _ _,hD,Went.refl _ _ _ _,hb,fun j j0 j1=>hin j j0 j1 j1⟩
 |succ d ihd=>
  intro i m hi hm ls lo lp c h W hD hM hb hC hin
  obtain⟨m,rfl⟩:∃p,m=p+1:=⟨m-1,by omega⟩
  replace ihd:=ihd (i+1) m (by omega) (by omega)
  rw[Tm.Loop_succ]
  generalize hxx:nextOf f.blocks b=x at*
  generalize Tm.Loop Try.prog (valsOf tab) (callAt Try.prog tab k) n [0,1,17,18,19] k97b0 m=L at ihd⊢
  have e1:decide ((i:Int)<x.length)=true:=by simp;omega
  have e2:0≤(i:Int)∧(i:Int)<x.length:=by omega
  have e3:=wrap_next (n:=x.length) (i:=i) (by omega) (by omega)
  have hlen:=hD.len
  have hw:rd x i∈nextOf f.blocks b:=by rw[hxx];exact rd_mem e2.1 e2.2
  obtain⟨t0,t1⟩:=next_in hw
  have e4:0≤rd x i∧rd x i<(f.blocks.length:Int):=⟨t0,t1⟩
  have tl:(rd x i).toNat<ls.length:=by omega
  have hrt:Rc (nextOf f.blocks) (fun _=>True) 0 (rd x i):=.step hC.met hw trivial
  have hat:=W.at_
  have hst:=W.st
  unfold walkRow at hat
  rcases hD.three _ t0 t1 with e|e|e
  ·-- not come to yet
   have hC':Comes f.blocks ls (rd x i):=⟨hrt,fun v v0 v1 hv=>.step (hC.grey v v0 v1 hv) hw trivial,.inr ⟨b,b0,b1,hw,fun e2=>by rw[←e2] at e;omega,hb⟩⟩
   obtain⟨rs,ro,rp,c',h',k1,k2,kk,k3,k4,k5⟩:=ih _ ls lo lp c h W hD hM t0 t1 e hC'
   have hb':rd rs b=1:=by rw[k4.keep b b0 b1 (by omega)];exact hb
   have hC2:Comes f.blocks rs b:=⟨hC.met,fun v v0 v1 hv=>hC.grey v v0 v1 (k4.grey v v0 v1 hv),hC.from_.imp id (fun⟨p,p0,p1,pv,pn,hp⟩=>⟨p,p0,p1,pv,pn,by rw[k4.keep p p0 p1 (by omega)];exact hp⟩)⟩
   have hflag:rp=false→lp=false:=fun e2=>by cases lp with|false=>rfl|true=>exact absurd (k4.flag rfl) (by simp[e2])
   obtain⟨tt,htt⟩:=k4.more
   have hin2:∀j:Int,0≤j→j<((i+1:Nat):Int)→j<(x.length:Int)→rd rs (rd x j)≠0∧(rp=false→rd x j∈ro):=fun j j0 j1 j2=>by
    by_cases ej:j=i
    ·subst ej
     exact⟨by omega,fun _=>(k3.mem _).2 ⟨t0,t1,k5⟩⟩
    ·obtain⟨m1,m2⟩:=hin j j0 (by omega) j2
     obtain⟨u0,u1⟩:=next_in (l:=f.blocks) (b:=b) (v:=rd x j) (by rw[hxx];exact rd_mem j0 j2)
     exact⟨by rw[k4.keep _ u0 u1 m1];exact m1,fun e2=>by rw[htt];exact List.mem_append_left _ (m2 (hflag e2))⟩
   obtain⟨rs2,ro2,rp2,c2,h2,m1,m2,m3,m4,m5,m6⟩:=ihd rs ro rp c' h' k2 k3 (Nat.le_trans k4.zero hM) hb' hC2 hin2
   have q1:decide (ls.getD (rd x i).toNat 0=0)=true:=decide_eq_true e
   simp +decide -implicitDefEqProofs only[bind_ite,andThen_ite,leaves_ite,k97b0,go_sem,e1,e2,e3,e4,hat,hst,tl,q1,k1]
   exact⟨rs2,ro2,rp2,c2,h2,m1,m2,kk.trans m3,m4,k4.trans m5,m6⟩
  ·-- under way:it goes round
   have hD':Dfs (nextOf f.blocks) f.blocks.length 0 ls lo true:=hD.turn hC.met hw (hC.grey _ t0 t1 e)
   have hin2:∀j:Int,0≤j→j<((i+1:Nat):Int)→j<(x.length:Int)→rd ls (rd x j)≠0∧(true=false→rd x j∈lo):=fun j j0 j1 j2=>by
    by_cases ej:j=i
    ·subst ej;exact⟨by omega,fun e2=>by cases e2⟩
    ·exact⟨(hin j j0 (by omega) j2).1,fun e2=>by cases e2⟩
   obtain⟨h1,s1,s2,s3⟩:=W.round
   unfold walkRow at s1
   obtain⟨rs2,ro2,rp2,c2,h2,m1,m2,m3,m4,m5,m6⟩:=ihd ls lo true c h1 s2 hD' hM hb hC hin2
   have q1:decide (ls.getD (rd x i).toNat 0=0)=false:=decide_eq_false (by show ¬rd ls (rd x i)=0;omega)
   have q2:decide (ls.getD (rd x i).toNat 0=1)=true:=decide_eq_true e
   simp +decide -implicitDefEqProofs only[bind_ite,andThen_ite,leaves_ite,k97b0,go_sem,e1,e2,e3,e4,hat,hst,tl,q1,q2,s1]
   exact⟨rs2,ro2,rp2,c2,h2,m1,m2,s3.trans m3,m4,⟨m5.keep,m5.grey,m5.more,fun _=>m5.flag rfl,m5.zero⟩,m6⟩
  ·-- done
   have hin2:∀j:Int,0≤j→j<((i+1:Nat):Int)→j<(x.length:Int)→rd ls (rd x j)≠0∧(lp=false→rd x j∈lo):=fun j j0 j1 j2=>by
    by_cases ej:j=i
    ·subst ej;exact⟨by omega,fun _=>(hD.mem _).2 ⟨t0,t1,e⟩⟩
    ·exact hin j j0 (by omega) j2
   obtain⟨rs2,ro2,rp2,c2,h2,m1,m2,m3,m4,m5,m6⟩:=ihd ls lo lp c h W hD hM hb hC hin2
   have q1:decide (ls.getD (rd x i).toNat 0=0)=false:=decide_eq_false (by show ¬rd ls (rd x i)=0;omega)
   have q2:decide (ls.getD (rd x i).toNat 0=1)=false:=decide_eq_false (by show ¬rd ls (rd x i)=1;omega)
   simp +decide -implicitDefEqProofs only[bind_ite,andThen_ite,leaves_ite,k97b0,go_sem,e1,e2,e3,e4,hat,hst,tl,q1,q2]
   exact⟨rs2,ro2,rp2,c2,h2,m1,m2,m3,m4,m5,m6⟩
theorem visit_runs (f:Tm.Func)(F:Fine f)(w s:Nat):∀(m:Nat) (t:Int) ls lo lp c h,Walk h w s f ls lo lp c→Dfs (nextOf f.blocks) f.blocks.length 0 ls lo lp→ls.count 0≤m→0≤t→t<(f.blocks.length:Int)→rd ls t=0→Comes f.blocks ls t→∀k,2^36+2+m≤k→Visits f k t h w s ls lo lp:=by
 intro m
 induction m with
 |zero=>
  intro t ls lo lp c h W hD hm t0 t1 ht _
  have:=hD.len
  have:0<ls.count 0:=List.count_pos_iff.2 (ht ▸ rd_mem t0 (by omega))
  omega
 |succ m ih=>
  intro b ls lo lp c h W hD hm b0 b1 hb hC k hk
  obtain⟨k,rfl⟩:∃p,k=p+1:=⟨k-1,by omega⟩
  have hlen:=hD.len
  have hF:=F.blocks
  have hl:b<(ls.length:Int):=by omega
  have e4:0≤b∧b<(f.blocks.length:Int):=⟨b0,b1⟩
  have rs1:∀v:Int,0≤v→rd (ls.set b.toNat 1) v=if b=v then 1 else rd ls v:=fun v hv=>rd_set b0 hl hv
  have hz:=count_put (x:=1) (y:=0) b0 hl
  rw[hb] at hz
  simp at hz
  have hC1:Comes f.blocks (ls.set b.toNat 1) b:=by
   refine⟨hC.met,fun v v0 v1 hv=>?_,hC.from_.imp id (fun⟨p,p0,p1,pv,pn,hp⟩=>⟨p,p0,p1,pv,pn,by rw[rs1 p p0];split<;>first|rfl|exact hp⟩)⟩
   rw[rs1 v v0] at hv
   by_cases e:b=v
   ·subst e;exact .refl trivial
   ·rw[if_neg e] at hv;exact hC.grey v v0 v1 hv
  have tl:b.toNat<ls.length:=by omega
  obtain⟨h1,a1,W1,K1⟩:=W.state tl 1
  have hx:=next_len F b
  obtain⟨lf,lof,rp,c2,h2,g1,W2,K2,k3,k6,hbf,hin⟩:=visit_loop f F w s b b0 b1 m k k (fun t ls lo lp c h W hD hm t0 t1 ht hC=>ih t ls lo lp c h W hD hm t0 t1 ht hC k (by omega)) (nextOf f.blocks b).length 0 k (by omega) (by omega) _ lo lp c h1 W1 (hD.enter b0 b1 hb hC.met) (by omega) (by rw[rs1 b b0,if_pos rfl]) hC1 (fun j j0 j1=>by omega)
  have hlf:=k3.len
  have tf:b.toNat<lf.length:=by omega
  obtain⟨h3,a3,W3,K3⟩:=W2.state tf 2
  have hsz:lof.length≤17:=by have:=k3.size;have:=List.count_le_length (l:=lf) (a:=2);omega
  obtain⟨c4,h4,h5,a4,a5,a6,a7,W5,K5⟩:=W3.done b (by unfold maxRow;omega)
  have hat:=W.at_;have hst:=W.st;have hat1:=W1.at_;have hat2:=W2.at_;have hst2:=W2.st;have hat3:=W3.at_
  unfold walkRow at hat hat1 hat2 hat3 a6 a7
  have hcall:=next_call f F b (k:=k) (by omega) h1
  rw[show((0:Nat):Int)=0 from rfl] at g1
  have rs2:∀v:Int,0≤v→rd (lf.set b.toNat 2) v=if b=v then 2 else rd lf v:=fun v hv=>rd_set b0 (by omega) hv
  have hC3:Comes f.blocks lf b:=⟨hC.met,fun v v0 v1 hv=>hC1.grey v v0 v1 (k6.grey v v0 v1 hv),hC1.from_.imp id (fun⟨p,p0,p1,pv,pn,hp⟩=>⟨p,p0,p1,pv,pn,by rw[k6.keep p p0 p1 (by omega)];exact hp⟩)⟩
  refine⟨lf.set b.toNat 2,lof++[b],rp,c4,h5,?_,W5,((K1.trans K2).trans K3).trans K5,?_,⟨fun v v0 v1 hv=>?_,fun v v0 v1 hv=>?_,?_,k6.flag,?_⟩,by rw[rs2 b b0,if_pos rfl]⟩
  ·rw[ref_call (rs:=[]) (N:=57) rfl Try.func97 rfl rfl (by simp)]
   simp +decide -implicitDefEqProofs only[bind_ite,andThen_ite,leaves_ite,k97,go_sem,e4,hat,hst,tl,a1,hat1,hcall,g1,hat2,hst2,tf,a3,hat3,a4,a5,a6,a7]
  ·refine k3.leave b0 b1 hbf (fun v hv=>?_) hC3.from_
   obtain⟨w0,w1⟩:=next_in hv
   obtain⟨j,j0,j1,rfl⟩:=mem_rd hv
   obtain⟨q1,q2⟩:=hin j j0 j1
   exact⟨w0,w1,q1,q2⟩
  ·have e:¬b=v:=by rintro rfl;exact hv hb
   have e1:rd (ls.set b.toNat 1) v=rd ls v:=by rw[rs1 v v0,if_neg e]
   rw[rs2 v v0,if_neg e,k6.keep v v0 v1 (by rw[e1];exact hv),e1]
  ·rw[rs2 v v0] at hv
   have e:¬b=v:=by rintro rfl;rw[if_pos rfl] at hv;omega
   rw[if_neg e] at hv
   have:=k6.grey v v0 v1 hv
   rwa [rs1 v v0,if_neg e] at this
  ·obtain⟨t,ht⟩:=k6.more
   exact⟨t++[b],by rw[ht,List.append_assoc]⟩
  ·have e2:=count_put (xs:=lf) (x:=2) (y:=0) b0 (by omega)
   rw[hbf] at e2
   simp at e2
   have:=k6.zero
   omega
structure Walked (l4:List Block)(rs ro:List Int)(rp:Bool):Prop where
 dfs:Dfs (nextOf l4) l4.length 0 rs ro rp
 done:∀v:Int,0≤v→v<(l4.length:Int)→rd rs v=0∨rd rs v=2
 root:(0:Int)<l4.length→(0:Int)∈ro
theorem get_new0 (h:Heap)(a:Tm.Node)(r:List Tm.Node):(h++(a::r))[h.length]?=some a:=by simp
theorem get_new1 (h:Heap)(a b:Tm.Node)(r:List Tm.Node):(h++(a::b::r))[h.length+1]?=some b:=by rw[List.getElem?_append_right (by omega)];simp
theorem get_new2 (h:Heap)(a b c:Tm.Node)(r:List Tm.Node):(h++(a::b::c::r))[h.length+2]?=some c:=by rw[List.getElem?_append_right (by omega)];simp
theorem walked_runs (f:Tm.Func)(F:Fine f)(h:Heap)(k:Nat)(hk:2^36+30≤k):∃rs ro rp c' h',Walked f.blocks rs ro rp∧callAt Try.prog tab k 64 [.agg (encFunc f)] h=some (.op (h.length+2) 0,h')∧Walk h' (h.length+2) (h.length+1) f rs ro rp c'∧Keep h.length h h':=by
 have hb:=F.blocks
 obtain⟨k,rfl⟩:∃p,k=p+1:=⟨k-1,by omega⟩
 have z:∀v:Int,0≤v→v<(f.blocks.length:Int)→rd (List.replicate f.blocks.length 0) v=0:=fun v v0 v1=>rd_replicate v0 v1
 have hD:Dfs (nextOf f.blocks) f.blocks.length 0 (List.replicate f.blocks.length 0) [] false:=by
  refine⟨by simp,fun v v0 v1=>.inl (z v v0 v1),by simp,by simp[List.count_replicate],fun v=>?_,(fun v hv=>by cases hv),(fun _ v hv=>by cases hv),(fun v hv=>by cases hv),fun v v0 v1 hv=>absurd (z v v0 v1) hv,(fun e=>by cases e)⟩
  constructor
  ·intro hv;cases hv
  ·rintro⟨v0,v1,hv⟩;rw[z v v0 v1] at hv;omega
 have eM:0≤(f.blocks.length:Int)∧(f.blocks.length:Int)≤(f.blocks.length:Int)∧(f.blocks.length:Int)≤(maxRow:Nat):=⟨by omega,by omega,by unfold maxRow;omega⟩
 have W0:Walk (h++[.row 0 (encFunc f),.row 1 (rep f.blocks.length [.v (.int .i64 0)]),.row 0 (walkRow f (h.length+1) (.v (.slice none 0 0)) false)]) (h.length+2) (h.length+1) f (List.replicate f.blocks.length 0) [] false (.v (.slice none 0 0)):=by
  refine⟨get_new2 _ _ _ _ _,by rw[get_new1,←rep_map],.inl ⟨rfl,rfl⟩,by simp,by omega,fun l hl=>by cases hl⟩
 have K0:Keep h.length h (h++[.row 0 (encFunc f),.row 1 (rep f.blocks.length [.v (.int .i64 0)]),.row 0 (walkRow f (h.length+1) (.v (.slice none 0 0)) false)]):=fun l hl=>List.getElem?_append_left hl
 by_cases c:(f.blocks.length:Int)>0
 ·obtain⟨rs,ro,rp,c',h',k1,k2,kk,k3,k4,k5⟩:=visit_runs f F _ _ _ 0 _ [] false _ _ W0 hD (Nat.le_refl _) (by omega) (by omega) (z 0 (by omega) (by omega)) ⟨.refl trivial,fun v v0 v1 hv=>by rw[z v v0 v1] at hv;omega,.inl rfl⟩ k (by simp[List.count_replicate];omega)
  have h0:=(k3.mem 0).2 ⟨by omega,by omega,k5⟩
  refine⟨rs,ro,rp,c',h',⟨k3,fun v v0 v1=>?_,fun _=>h0⟩,?_,k2,fun l hl=>by rw[kk l (by omega),K0 l hl]⟩
  ·rcases k3.three v v0 v1 with e|e|e
   ·exact .inl e
   ·exact absurd (k4.grey v v0 v1 e) (by rw[z v v0 v1];omega)
   ·exact .inr e
  ·rw[ref_call (rs:=[.tmp 2]) (N:=18) rfl Try.func64 rfl rfl (by simp)]
   rw[enc_func] at*
   unfold walkRow at k1
   simp +decide -implicitDefEqProofs only[bind_ite,andThen_ite,leaves_ite,k64,go_sem,eM,Int.toNat_natCast,List.append_assoc,List.length_append,get_new0,get_new1,get_new2,decide_eq_true c,k1]
 ·refine⟨_,_,_,_,_,⟨hD,fun v v0 v1=>.inl (z v v0 v1),fun hh=>absurd hh c⟩,?_,W0,K0⟩
  rw[ref_call (rs:=[.tmp 2]) (N:=18) rfl Try.func64 rfl rfl (by simp),enc_func]
  unfold walkRow
  simp +decide -implicitDefEqProofs only[bind_ite,andThen_ite,leaves_ite,k64,go_sem,eM,Int.toNat_natCast,List.append_assoc,List.length_append,get_new0,get_new1,get_new2,decide_eq_false c]
theorem Walked.iff {l4:List Block}{rs ro:List Int}{rp:Bool}(H:Walked l4 rs ro rp){v:Int}(v0:0≤v)(v1:v<(l4.length:Int)):rd rs v≠0↔Rc (nextOf l4) (fun _=>True) 0 v:=by
 refine⟨fun h=>H.dfs.met v v0 v1 h,fun h=>?_⟩
 have h0:=H.root (by omega)
 have:v∈ro:=h.closed (S:=fun x=>x∈ro) h0 fun x hx y hy _=>by
  obtain⟨y0,y1⟩:=next_in hy
  have:=H.dfs.shut x hx y hy
  rcases H.done y y0 y1 with e|e
  ·exact absurd e this
  ·exact(H.dfs.mem y).2 ⟨y0,y1,e⟩
 have:=((H.dfs.mem v).1 this).2.2
 omega
open Classical in
noncomputable def reachOf (l:List Block):List Bool:=(List.range l.length).map fun(v:Nat)=>decide (Rc (nextOf l) (fun _=>True) 0 v)
theorem reach_len (l:List Block):(reachOf l).length=l.length:=by simp[reachOf]
theorem reach_at {l:List Block}{v:Int}(v0:0≤v)(v1:v<(l.length:Int)):rdOf false (reachOf l) v=true↔Rc (nextOf l) (fun _=>True) 0 v:=by
 have h:v.toNat<l.length:=by omega
 unfold rdOf reachOf
 rw[List.getD_eq_getElem?_getD,List.getElem?_map,List.getElem?_range h]
 simp only[Option.map_some,Option.getD_some,decide_eq_true_eq]
 rw[show((v.toNat:Nat):Int)=v by omega]
theorem reach_loop {vals:FuncId→Bool}{call:CallF}{n:Nat}(ls:List Int)(s w:Nat)(hl:ls.length≤17)(d:Nat):∀(i m:Nat),i+d=ls.length→d<m→∀(h:Heap) (o:List Bool),h[s]?=some (.row 1 (ls.map int))→h[w]?=some (.row 1 (o.map bool))→s≠w→o.length=ls.length→
  ∃(h':Heap) (o':List Bool),Tm.Loop Try.prog vals call n [4,16,17,18] k25b0 m ⟨[(4,.os w 0 ls.length (some ls.length)),(16,.os s 0 ls.length (some ls.length)),(17,int ls.length),(18,int i)],h⟩=some (.exit 0,⟨[(4,.os w 0 ls.length (some ls.length)),(16,.os s 0 ls.length (some ls.length)),(17,int ls.length),(18,int ls.length),(19,bool false)],h'⟩)∧
   h'[w]?=some (.row 1 (o'.map bool))∧o'.length=ls.length∧(∀j,j<i→o'[j]?=o[j]?)∧∀j,i≤j→j<ls.length→o'[j]?=some (decide (ls.getD j 0≠0)):=by
 induction d with
 |zero=>
  intro i m hi hm h o hs hw hne ho
  obtain⟨m,rfl⟩:∃p,m=p+1:=⟨m-1,by omega⟩
  obtain rfl:i=ls.length:=by omega
  rw[Tm.Loop_succ]
  simp +decide -implicitDefEqProofs only[bind_ite,andThen_ite,leaves_ite,k25b0,go_sem,Int.lt_irrefl,decide_false]
  exact⟨h,o,rfl,hw,ho,fun _ _=>rfl,fun j j0 j1=>by omega⟩
 |succ d ih=>
  intro i m hi hm h o hs hw hne ho
  obtain⟨m,rfl⟩:∃p,m=p+1:=⟨m-1,by omega⟩
  replace ih:=ih (i+1) m (by omega) (by omega)
  rw[Tm.Loop_succ]
  generalize Tm.Loop Try.prog vals call n [4,16,17,18] k25b0 m=L at ih⊢
  have e1:decide ((i:Int)<ls.length)=true:=by simp;omega
  have e2:0≤(i:Int)∧(i:Int)<ls.length:=by omega
  have e3:=wrap_next (n:=ls.length) (i:=i) (by omega) (by omega)
  have e5:i<ls.length:=by omega
  have e6:i<o.length:=by omega
  have hsl:=(List.getElem?_eq_some_iff.1 hw).1
  have a1:storeR h w i 1 (some (.row 1 (o.map bool))) [.v (.bool (!decide (ls.getD i 0=0)))]=some (h.set w (.row 1 ((o.set i (!decide (ls.getD i 0=0))).map bool))):=by
   rw[storeR_row,if_pos ⟨rfl,by simp;omega,rfl⟩,put_map (f:=bool) e6]
  simp +decide -implicitDefEqProofs only[bind_ite,andThen_ite,leaves_ite,k25b0,go_sem,e1,e2,e3,hs,hw,Int.toNat_natCast,e5,a1]
  obtain⟨h',o',g1,g2,g3,g4,g5⟩:=ih (h.set w (.row 1 ((o.set i (!decide (ls.getD i 0=0))).map bool))) (o.set i (!decide (ls.getD i 0=0))) (by rw[List.getElem?_set_ne (Ne.symm hne)];exact hs) (by rw[List.getElem?_set_self hsl]) hne (by simp[ho])
  refine⟨h',o',g1,g2,g3,fun j hj=>?_,fun j j0 j1=>?_⟩
  ·rw[g4 j (by omega),List.getElem?_set_ne (by omega)]
  ·by_cases e:i=j
   ·subst e
    rw[g4 i (by omega),List.getElem?_set_self e6]
    simp
   ·exact g5 j (by omega) j1
theorem reach_runs (f:Tm.Func)(F:Fine f):Runs Try.prog tab (2^36+31) 25 [.agg (encFunc f)] (bools (reachOf f.blocks)):=by
 have hb:=F.blocks
 refine Runs.by (rs:=[.tmp 2]) (N:=30) rfl Try.func25 rfl rfl (by simp) fun k hk=>?_
 obtain⟨rs,ro,rp,c',h',H,k1,W,K⟩:=walked_runs f F [.row 0 (encFunc f)] k hk
 have hr:=W.len
 have eM:0≤(f.blocks.length:Int)∧(f.blocks.length:Int)≤(f.blocks.length:Int)∧(f.blocks.length:Int)≤(maxRow:Nat):=⟨by omega,by omega,by unfold maxRow;omega⟩
 have hk0:=K 0 (by simp)
 have hat:=W.at_
 have hlt:2<List.length h':=(List.getElem?_eq_some_iff.1 W.st).1
 have hlt2:3<List.length h':=(List.getElem?_eq_some_iff.1 W.at_).1
 obtain⟨h2,o,g1,g2,g3,_,g5⟩:=reach_loop (vals:=valsOf tab) (call:=callAt Try.prog tab k) (n:=k) rs 2 h'.length (by omega) rs.length 0 k (by omega) (by omega) (h'++[.row 1 ((List.replicate f.blocks.length false).map bool)]) (List.replicate f.blocks.length false) (by rw[List.getElem?_append_left hlt];exact W.st) (by simp) (by omega) (by simp[hr])
 have ho:o=reachOf f.blocks:=by
  refine bools_ext (by rw[g3,reach_len,hr]) fun i i0 i1=>?_
  have:=g5 i.toNat (by omega) (by omega)
  rw[Bool.eq_iff_iff,reach_at i0 (by omega),←H.iff i0 (by omega)]
  unfold rdOf
  rw[List.getD_eq_getElem?_getD,this]
  simp[rd]
 unfold walkRow at hat
 rw[enc_func] at*
 rw[hr,show((0:Nat):Int)=0 from rfl] at g1
 simp only[List.length_cons,List.length_nil,Nat.zero_add,Nat.reduceAdd,List.getElem?_cons_zero] at k1 hat hk0
 have hat':(h'++[Tm.Node.row 1 ((List.replicate f.blocks.length false).map bool)])[3]?=h'[3]?:=List.getElem?_append_left hlt2
 have e7:=rep_map (f:=bool) f.blocks.length false
 simp +decide -implicitDefEqProofs only[bind_ite,andThen_ite,leaves_ite,k25,go_sem,eM,Int.toNat_natCast,k1,hk0,e7,hat',hat,g1]
 refine⟨_,_,rfl,?_⟩
 have:=view_os_bools (cl:=true) (n:=10) (cap:=some f.blocks.length) g2
 rw[g3,hr] at this
 rw[←ho]
 exact this
end Go.Proofs.Ytkcimaibaicdcaa.Tk
namespace Go.Tm
section
variable {P:Program} {t:TypeId} {x y:Operand} {a b:Int} {p q:Bool}
@[go_sem] theorem bin_and:binC P .and t x y (.v (.int .i64 a)) (.v (.int .i64 b))=some (.v (.int .i64 (bits .and .i64 a b))):=rfl
theorem bin_rem (h:b≠0):binC P .rem t x y (.v (.int .i64 a)) (.v (.int .i64 b))=some (.v (.int .i64 (Int.tmod a b))):=by
 cases b with
 |ofNat b=>cases b with
  |zero=>exact absurd rfl h
  |succ b=>rfl
 |negSucc b=>rfl
end
end Go.Tm
namespace Go.Proofs.Ytkcimaibaicdcaa.Tk
open Go.Tm Go.Tm.Tab
section
variable {x y:Operand} {p q:Bool}
@[go_sem] theorem bin_neqb:binC Try.prog .neq 4 x y (.v (.bool p)) (.v (.bool q))=some (.v (.bool (!decide (p=q)))):=by cases p<;>cases q<;>kernel_rfl
@[go_sem] theorem bin_eqlb:binC Try.prog .eql 4 x y (.v (.bool p)) (.v (.bool q))=some (.v (.bool (decide (p=q)))):=by cases p<;>cases q<;>kernel_rfl
end
theorem push_mem {b v:Int}{acc:List (List Int)}{t:Int}(ht:0≤t∧t<(acc.length:Int))(j:Nat):v∈(push b acc t).getD j []↔v∈acc.getD j []∨(v=b∧(j:Int)=t):=by
 unfold push
 simp only[List.getD_eq_getElem?_getD,List.getElem?_set]
 by_cases e:t.toNat=j
 ·rw[if_pos e,if_pos (by omega)]
  subst e
  have:((t.toNat:Nat):Int)=t:=by omega
  simp[this]
 ·rw[if_neg e]
  have:¬(j:Int)=t:=by omega
  simp[this]
theorem pushes_mem {b v:Int}{n:Nat}:∀{ts:List Int} {acc:List (List Int)},acc.length=n→(∀t∈ts,0≤t∧t<(n:Int))→∀(j:Nat),v∈(ts.foldl (push b) acc).getD j []↔v∈acc.getD j []∨(v=b∧(j:Int)∈ts)
 |[],acc,hl,ht,j=>by simp
 |t::ts,acc,hl,ht,j=>by
  rw[List.foldl_cons,pushes_mem (by rw[push_len];exact hl) (fun t h=>ht t (List.mem_cons_of_mem _ h)) j,push_mem (by rw[hl];exact ht t (List.mem_cons_self ..)) j,List.mem_cons]
  constructor
  ·rintro((h|⟨h1,h2⟩)|⟨h1,h2⟩)
   ·exact .inl h
   ·exact .inr ⟨h1,.inl h2⟩
   ·exact .inr ⟨h1,.inr h2⟩
  ·rintro(h|⟨h1,h2|h2⟩)
   ·exact .inl (.inl h)
   ·exact .inl (.inr ⟨h1,h2⟩)
   ·exact .inr ⟨h1,h2⟩
theorem pushes_len {b:Int}:∀{ts:List Int} {acc:List (List Int)},(ts.foldl (push b) acc).length=acc.length
 |[],acc=>rfl
 |t::ts,acc=>by rw[List.foldl_cons,pushes_len,push_len]
theorem prevFrom_len {l:List Block}:∀(d i:Nat) (acc:List (List Int)),(prevFrom l d i acc).length=acc.length
 |0,i,acc=>rfl
 |d+1,i,acc=>by rw[prevFrom,prevFrom_len,pushes_len]
theorem prev_len (l:List Block):(prevOf l).length=l.length:=by rw[prevOf,prevFrom_len,List.length_replicate]
theorem prevFrom_mem {l:List Block}{v:Int}:∀(d i:Nat) (acc:List (List Int)),acc.length=l.length→(∀j,v∈acc.getD j []↔0≤v∧v<i∧(j:Int)∈nextOf l v)→∀j,v∈(prevFrom l d i acc).getD j []↔0≤v∧v<((i+d:Nat):Int)∧(j:Int)∈nextOf l v
 |0,i,acc,hl,h,j=>h j
 |d+1,i,acc,hl,h,j=>by
  rw[prevFrom,prevFrom_mem d (i+1) _ (by rw[pushes_len];exact hl) (fun j=>?_) j,show i+1+d=i+(d+1) by omega]
  rw[pushes_mem hl (fun t ht=>next_in ht) j,h j]
  constructor
  ·rintro(⟨h1,h2,h3⟩|⟨rfl,h2⟩)
   ·exact⟨h1,by omega,h3⟩
   ·exact⟨by omega,by omega,h2⟩
  ·rintro⟨h1,h2,h3⟩
   by_cases e:v=i
   ·subst e;exact .inr ⟨rfl,h3⟩
   ·exact .inl ⟨h1,by omega,h3⟩
theorem prev_mem {l:List Block}{b v:Int}(h0:0≤b):v∈rowOfL (prevOf l) b↔0≤v∧v<(l.length:Int)∧b∈nextOf l v:=by
 have:=prevFrom_mem (l:=l) (v:=v) l.length 0 (List.replicate l.length []) (by simp) (fun j=>?_) b.toNat
 ·rw[Nat.zero_add,show((b.toNat:Nat):Int)=b by omega] at this
  exact this
 ·constructor
  ·intro h
   rw[List.getD_eq_getElem?_getD,List.getElem?_replicate] at h
   split at h<;>simp at h
  ·rintro⟨h1,h2,_⟩;omega
theorem slice22 {h:Heap}{l len:Nat}{cells:List C}(hl:h[l]?=some (.row 1 cells)):sliceC Try.prog h 22 (.os l 0 (len+1) none) none (some (int len)) none=some (.os l 0 len none):=by
 rw[slice_fact (e:=3) (s:=1) (by kernel_rfl) (by kernel_rfl)]
 have hc:len≤capk none (len+1) 0 1 cells:=Nat.le_trans (Nat.le_succ len) (Nat.le_max_left _ _)
 simp[hl,bnds,bound,intOf,capLeft,hc]
theorem rdb_up {seen:List Bool}{k:Nat}{v:Int}(h:rdOf false seen v=true):rdOf false (seen.set k true) v=true:=by
 unfold rdOf at h⊢
 rw[List.getD_eq_getElem?_getD] at h⊢
 rw[List.getElem?_set]
 by_cases e:k=v.toNat
 ·rw[if_pos e]
  by_cases q:k<seen.length
  ·rw[if_pos q];rfl
  ·rw[List.getElem?_eq_none (by omega)] at h;cases h
 ·rw[if_neg e];exact h
section
variable {vals:FuncId→Bool} {call:CallF} {n:Nat}
theorem without_in (nx:List (List Int))(N:Int→List Int)(k:Nat)(a b:Int)(x:List Int)(hxN:N b=x)(hk:k≤17)(b0:0≤b∧b<(k:Int))(hx:∀v∈x,0≤v∧v<(k:Int))(hx2:x.length<2^20)(d:Nat):∀(i m:Nat),i+d=x.length→d<m→∀(h:Heap) (c:C) (seen:List Bool) (work:List Int),h[0]?=some (.row 1 (seen.map bool))→Stack h c work→Wo N k a seen work (fun v=>v=b)→rdOf false seen b=true→(∀j:Int,0≤j→j<i→rd x j≠a→rdOf false seen (rd x j)=true)→work.length+d<2^30→
  ∃h' c' seen' work',Tm.Loop Try.prog vals call n [0,1,5,6,37,38,39] k98b0 m ⟨[(0,rows nx),(1,int a),(5,.os 0 0 k (some k)),(6,c),(37,ints x),(38,int x.length),(39,int i)],h⟩=some (.exit 2,⟨[(0,rows nx),(1,int a),(5,.os 0 0 k (some k)),(6,c'),(37,ints x),(38,int x.length),(39,int x.length),(40,bool false)],h'⟩)∧
   h'[0]?=some (.row 1 (seen'.map bool))∧Stack h' c' work'∧Wo N k a seen' work' (fun v=>v=b)∧rdOf false seen' b=true∧(∀j:Int,0≤j→j<(x.length:Int)→rd x j≠a→rdOf false seen' (rd x j)=true)∧work'.length+seen'.count false=work.length+seen.count false:=by
 induction d with
 |zero=>
  intro i m hi hm h c seen work h0 hS hW hb hin _
  obtain⟨m,rfl⟩:∃p,m=p+1:=⟨m-1,by omega⟩
  obtain rfl:i=x.length:=by omega
  rw[Tm.Loop_succ]
  simp -implicitDefEqProofs only[k98b0,go_sem,Int.lt_irrefl,decide_false]
  exact⟨h,c,seen,work,rfl,h0,hS,hW,hb,hin,rfl⟩
 |succ d ih=>
  intro i m hi hm h c seen work h0 hS hW hb hin hwl
  obtain⟨m,rfl⟩:∃p,m=p+1:=⟨m-1,by omega⟩
  replace ih:=ih (i+1) m (by omega) (by omega)
  rw[Tm.Loop_succ]
  generalize Tm.Loop Try.prog vals call n [0,1,5,6,37,38,39] k98b0 m=L at ih⊢
  have e1:decide ((i:Int)<x.length)=true:=by simp;omega
  have e2:0≤(i:Int)∧(i:Int)<x.length:=by omega
  have e3:=wrap_next (n:=x.length) (i:=i) (by omega) (by omega)
  have hmem:=rd_mem e2.1 e2.2
  have e4:=hx _ hmem
  have hsl:=hW.len
  have e5:(rd x i).toNat<seen.length:=by omega
  have nextin:∀seen':List Bool,(∀v:Int,rdOf false seen v=true→rdOf false seen' v=true)→(rd x i≠a→rdOf false seen' (rd x i)=true)→∀j:Int,0≤j→j<((i+1:Nat):Int)→rd x j≠a→rdOf false seen' (rd x j)=true:=fun seen' up hi j j0 j1 hja=>by
   by_cases e:j=i
   ·subst e;exact hi hja
   ·exact up _ (hin j j0 (by omega) hja)
  by_cases c1:rd x i=a
  ·simp -implicitDefEqProofs only[k98b0,go_sem,e1,e2,e3,decide_eq_true c1]
   exact ih h c seen work h0 hS hW hb (nextin seen (fun _ h=>h) (fun h=>absurd c1 h)) (by omega)
  ·cases c2:rdOf false seen (rd x i) with
   |true=>
    have c2':seen.getD (rd x i).toNat false=true:=c2
    simp -implicitDefEqProofs only[k98b0,go_sem,e1,e2,e3,e4,e5,h0,decide_eq_false c1,c2']
    exact ih h c seen work h0 hS hW hb (nextin seen (fun _ h=>h) (fun _=>c2)) (by omega)
   |false=>
    have c2':seen.getD (rd x i).toNat false=false:=c2
    have hlen:=(List.getElem?_eq_some_iff.1 h0).1
    have a1:storeR h 0 (rd x i).toNat 1 (some (.row 1 (seen.map bool))) [bool true]=some (h.set 0 (.row 1 ((seen.set (rd x i).toNat true).map bool))):=by
     rw[storeR_row,if_pos ⟨rfl,by simp;omega,rfl⟩,put_map (f:=bool) e5]
    have hS1:Stack (h.set 0 (.row 1 ((seen.set (rd x i).toNat true).map bool))) c work:=hS.mono fun l nd hl e=>by rw[List.getElem?_set_ne (Ne.symm hl)];exact e
    obtain⟨c',h',g1,g2,g3⟩:=hS1.push (rd x i) (by unfold maxRow;omega) (by simpa using hlen)
    have hW':=hW.add hb b0 (by rw[hxN];exact hmem) e4 c1
    have up:∀v:Int,rdOf false seen v=true→rdOf false (seen.set (rd x i).toNat true) v=true:=fun v hv=>rdb_up hv
    have hc:=countf_put e5 c2'
    obtain⟨h2,c3,seen',work',q1,q2,q3,q4,q5,q6,q7⟩:=ih h' c' (seen.set (rd x i).toNat true) (work++[rd x i]) (by rw[g3,List.getElem?_set_self hlen]) g2 hW' (up b hb) (nextin _ up (fun _=>by rw[rdb_set e4.1 (by omega) e4.1,if_pos rfl])) (by simp;omega)
    simp +decide -implicitDefEqProofs only[k98b0,go_sem,e1,e2,e3,e4,e5,h0,decide_eq_false c1,c2',a1,g1]
    refine⟨h2,c3,seen',work',q1,q2,q3,q4,q5,q6,?_⟩
    rw[q7]
    simp
    omega
theorem without_out (nx:List (List Int))(N:Int→List Int)(k:Nat)(a:Int)(hk:k≤17)(hnl:nx.length=k)(hN:∀b:Int,0≤b→b<(k:Int)→N b=rowOfL nx b)(hx:∀(b v:Int),v∈rowOfL nx b→0≤v∧v<(k:Int))(hx2:∀b:Int,(rowOfL nx b).length<2^20)(hn:2^20<n)(M:Nat):∀(m:Nat) (h:Heap) (c:C) (seen:List Bool) (work:List Int),M<m→M<2^20→work.length+seen.count false≤M→h[0]?=some (.row 1 (seen.map bool))→Stack h c work→Wo N k a seen work (fun _=>False)→
  ∃h' c' seen',Tm.Loop Try.prog vals call n [0,1,5,6] k98b1 m ⟨[(0,rows nx),(1,int a),(5,.os 0 0 k (some k)),(6,c)],h⟩=some (.exit 0,⟨[(0,rows nx),(1,int a),(5,.os 0 0 k (some k)),(6,c'),(22,bool false)],h'⟩)∧h'[0]?=some (.row 1 (seen'.map bool))∧Wo N k a seen' [] (fun _=>False):=by
 induction M with
 |zero=>
  intro m h c seen work hm _ hw h0 hS hW
  obtain⟨m,rfl⟩:∃p,m=p+1:=⟨m-1,by omega⟩
  obtain rfl:work=[]:=List.length_eq_zero_iff.1 (by omega)
  have hlen:lenS c=some (int 0):=hS.len
  have d0:decide ((0:Int)>0)=false:=rfl
  rw[Tm.Loop_succ]
  simp -implicitDefEqProofs only[k98b1,go_sem,hlen,d0]
  exact⟨h,c,seen,rfl,h0,hW⟩
 |succ M ih=>
  intro m h c seen work hm hM hw h0 hS hW
  obtain⟨m,rfl⟩:∃p,m=p+1:=⟨m-1,by omega⟩
  rcases List.eq_nil_or_concat work with rfl|⟨w,b,rfl⟩
  ·have hlen:lenS c=some (int 0):=hS.len
   have d0:decide ((0:Int)>0)=false:=rfl
   rw[Tm.Loop_succ]
   simp -implicitDefEqProofs only[k98b1,go_sem,hlen,d0]
   exact⟨h,c,seen,rfl,h0,hW⟩
  ·rw[List.concat_eq_append] at*
   obtain⟨l,cells,rfl,hl,hd,hS'⟩:=hS.pop
   simp only[List.length_append,List.length_cons,List.length_nil,Nat.zero_add] at hw
   obtain⟨b0,b1,hb⟩:=hW.wk b (by simp)
   have eb:0≤b∧b<(nx.length:Int):=by omega
   have e1:decide (((w.length+1:Nat):Int)>0)=true:=decide_eq_true (by omega)
   have e2:IntKind.i64.wrap (((w.length+1:Nat):Int)-1)=(w.length:Int):=by rw[wrap_in (by omega) (by omega)];omega
   have e3:0≤(w.length:Int)∧(w.length:Int)<((w.length+1:Nat):Int):=by omega
   have hsl:=slice22 (l:=l) (len:=w.length) hl
   have hW1:Wo N k a seen w (fun v=>v=b):=⟨hW.len,hW.met,fun v hv=>hW.wk v (List.mem_append_left _ hv),fun v v0 v1 hv=>by
    rcases hW.shut v v0 v1 hv with q|q|q
    ·rcases List.mem_append.1 q with q|q
     ·exact .inl q
     ·exact .inr (.inl (List.mem_singleton.1 q))
    ·exact q.elim
    ·exact .inr (.inr q),hW.root⟩
   have hxb:=hx2 b
   obtain⟨h1,c1,seen1,work1,g1,g2,g3,g4,g5,g6,g7⟩:=without_in (vals:=vals) (call:=call) (n:=n) nx N k a b (rowOfL nx b) (hN b b0 b1) hk ⟨b0,b1⟩ (hx b) hxb (rowOfL nx b).length 0 n (by omega) (by omega) h _ seen w h0 hS' hW1 hb (fun j j0 j1=>by omega) (by omega)
   rw[show((0:Nat):Int)=0 from rfl] at g1
   have hW2:Wo N k a seen1 work1 (fun _=>False):=⟨g4.len,g4.met,g4.wk,fun v v0 v1 hv=>by
    rcases g4.shut v v0 v1 hv with q|q|q
    ·exact .inl q
    ·subst q
     refine .inr (.inr fun u hu hua=>?_)
     rw[hN v b0 b1] at hu
     obtain⟨j,j0,j1,rfl⟩:=mem_rd hu
     exact g6 j j0 j1 hua
    ·exact .inr (.inr q),g4.root⟩
   obtain⟨h2,c2,seen2,q1,q2,q3⟩:=ih m h1 c1 seen1 work1 (by omega) (by omega) (by omega) g2 g3 hW2
   have q1':=(Loop_keep (P:=Try.prog) (vals:=vals) (call:=call) (n:=n) (keep:=[0,1,5,6]) (a:=k98b1) (m:=m) (h:=h1) (e:=[(0,rows nx),(1,int a),(5,.os 0 0 k (some k)),(6,c1),(37,ints (rowOfL nx b)),(38,int (rowOfL nx b).length),(39,int (rowOfL nx b).length),(40,bool false)]) (e':=[(0,rows nx),(1,int a),(5,.os 0 0 k (some k)),(6,c1)]) rfl).trans q1
   rw[Tm.Loop_succ]
   generalize Tm.Loop Try.prog vals call n [0,1,5,6] k98b1 m=L at q1'
   simp -implicitDefEqProofs only[k98b1,go_sem,e1,e2,e3,Int.toNat_natCast,hl,hd,hsl,eb,g1]
   exact⟨h2,c2,seen2,q1',q2,q3⟩
end
open Classical in
noncomputable def withoutOf (l:List Block) (a:Int):List Bool:=(List.range l.length).map fun(v:Nat)=>decide (Rc (nextOf l) (· ≠a) 0 v)
noncomputable def nexts (l:List Block):List (List Int):=(List.range l.length).map fun(v:Nat)=>nextOf l v
theorem nexts_at {l:List Block}{b:Int}(b0:0≤b)(b1:b<(l.length:Int)):rowOfL (nexts l) b=nextOf l b:=by
 have h:b.toNat<l.length:=by omega
 unfold rowOfL nexts
 rw[List.getD_eq_getElem?_getD,List.getElem?_map,List.getElem?_range h]
 simp only[Option.map_some,Option.getD_some]
 rw[show((b.toNat:Nat):Int)=b by omega]
theorem nexts_out {l:List Block}{b:Int}(h:¬(0≤b∧b<(l.length:Int)))(hl:0<l.length):rowOfL (nexts l) b=[]∨rowOfL (nexts l) b=nextOf l 0:=by
 by_cases b0:0≤b
 ·left
  unfold rowOfL nexts
  rw[List.getD_eq_getElem?_getD,List.getElem?_eq_none (by simp;omega)];rfl
 ·right
  have:=nexts_at (l:=l) (b:=0) (by omega) (by omega)
  unfold rowOfL at this⊢
  rw[show b.toNat=(0:Int).toNat by omega];exact this
theorem without_at {l:List Block}{a v:Int}(v0:0≤v)(v1:v<(l.length:Int)):rdOf false (withoutOf l a) v=true↔Rc (nextOf l) (· ≠a) 0 v:=by
 have h:v.toNat<l.length:=by omega
 unfold rdOf withoutOf
 rw[List.getD_eq_getElem?_getD,List.getElem?_map,List.getElem?_range h]
 simp only[Option.map_some,Option.getD_some,decide_eq_true_eq]
 rw[show((v.toNat:Nat):Int)=v by omega]
theorem without_runs (f:Tm.Func)(F:Fine f)(a:Int)(hpos:0<f.blocks.length):Runs Try.prog tab (2^20+2) 98 [rows (nexts f.blocks),int a] (bools (withoutOf f.blocks a)):=by
 have hb:=F.blocks
 have hnl:(nexts f.blocks).length=f.blocks.length:=by simp[nexts]
 have hrow:∀b:Int,rowOfL (nexts f.blocks) b=[]∨∃c,rowOfL (nexts f.blocks) b=nextOf f.blocks c:=fun b=>by
  by_cases h:0≤b∧b<(f.blocks.length:Int)
  ·exact .inr ⟨b,nexts_at h.1 h.2⟩
  ·rcases nexts_out h hpos with h|h
   ·exact .inl h
   ·exact .inr ⟨0,h⟩
 have hx:∀(b v:Int),v∈rowOfL (nexts f.blocks) b→0≤v∧v<(f.blocks.length:Int):=fun b v hv=>by
  rcases hrow b with h|⟨c,h⟩
  ·rw[h] at hv;simp at hv
  ·rw[h] at hv;exact next_in hv
 have hx2:∀b:Int,(rowOfL (nexts f.blocks) b).length<2^20:=fun b=>by
  rcases hrow b with h|⟨c,h⟩
  ·rw[h];decide
  ·rw[h];have:=next_len F c;omega
 refine Runs.by (rs:=[.tmp 4]) (N:=62) rfl Try.func98 rfl rfl (by simp) fun k hk=>?_
 have eM:0≤(f.blocks.length:Int)∧(f.blocks.length:Int)≤(f.blocks.length:Int)∧(f.blocks.length:Int)≤(maxRow:Nat):=⟨by omega,by omega,by unfold maxRow;omega⟩
 have e7:=rep_map (f:=bool) f.blocks.length false
 have done:∀{h':Heap} {seen:List Bool},h'[0]?=some (.row 1 (seen.map bool))→Wo (nextOf f.blocks) f.blocks.length a seen [] (fun _=>False)→view true h' depth (.os 0 0 f.blocks.length (some f.blocks.length))=some (bools (withoutOf f.blocks a)):=fun {h' seen} h0 hW=>by
  have e:seen=withoutOf f.blocks a:=by
   refine bools_ext (by simp[withoutOf,hW.len]) fun i i0 i1=>?_
   have:=hW.len
   rw[Bool.eq_iff_iff,without_at i0 (by omega)]
   exact hW.iff (fun b w h=>next_in h) i0 (by omega)
  have:=view_os_bools (cl:=true) (n:=10) (cap:=some f.blocks.length) h0
  rw[hW.len,e] at this
  exact this
 by_cases ha:a=0
 ·have hW0:Wo (nextOf f.blocks) f.blocks.length a (List.replicate f.blocks.length false) [] (fun _=>False):=
   ⟨by simp,fun v _ _ hv=>(by rw[rdb_replicate] at hv;cases hv),fun v hv=>(by simp at hv),fun v _ _ hv=>(by rw[rdb_replicate] at hv;cases hv),fun h=>absurd ha h⟩
  obtain⟨h',c',seen',g1,g2,g3⟩:=without_out (vals:=valsOf tab) (call:=callAt Try.prog tab k) (n:=k) (nexts f.blocks) (nextOf f.blocks) f.blocks.length a hb hnl (fun b b0 b1=>(nexts_at b0 b1).symm) hx hx2 hk 40 k [.row 1 ((List.replicate f.blocks.length false).map bool)] (.v (.slice none 0 0)) _ [] (by omega) (by omega) (by simp[List.count_replicate];omega) rfl (.inl ⟨rfl,rfl⟩) hW0
  have g1':=(Loop_keep (P:=Try.prog) (vals:=valsOf tab) (call:=callAt Try.prog tab k) (n:=k) (keep:=[0,1,5,6]) (a:=k98b1) (m:=k) (h:=[.row 1 ((List.replicate f.blocks.length false).map bool)]) (e:=[(0,rows (nexts f.blocks)),(1,int a),(5,.os 0 0 f.blocks.length (some f.blocks.length)),(6,.v (.slice none 0 0)),(14,bool false)]) (e':=[(0,rows (nexts f.blocks)),(1,int a),(5,.os 0 0 f.blocks.length (some f.blocks.length)),(6,.v (.slice none 0 0))]) rfl).trans g1
  simp -implicitDefEqProofs only[k98,go_sem,hnl,eM,Int.toNat_natCast,e7,decide_eq_true ha,g1']
  exact⟨_,_,rfl,done g2 g3⟩
 ·have hl0:(0:Int)<((List.replicate f.blocks.length false).length:Int):=by simp;omega
  have rs:∀v:Int,0≤v→rdOf false ((List.replicate f.blocks.length false).set (0:Int).toNat true) v=if 0=v then true else rdOf false (List.replicate f.blocks.length false) v:=fun v hv=>rdb_set (by omega) hl0 hv
  have hW0:Wo (nextOf f.blocks) f.blocks.length a ((List.replicate f.blocks.length false).set 0 true) [0] (fun _=>False):=by
   refine⟨by simp,fun v v0 v1 hv=>?_,fun v hv=>?_,fun v v0 v1 hv=>?_,fun _=>by have:=rs 0 (by omega);rw[if_pos rfl] at this;exact this⟩
   ·have:=rs v v0
    rw[show(0:Int).toNat=0 from rfl] at this
    rw[this] at hv
    split at hv
    ·rename_i e;subst e;exact .refl (Ne.symm ha)
    ·rw[rdb_replicate] at hv;cases hv
   ·obtain rfl:=List.mem_singleton.1 hv
    exact⟨by omega,by omega,by have:=rs 0 (by omega);rw[if_pos rfl] at this;exact this⟩
   ·have:=rs v v0
    rw[show(0:Int).toNat=0 from rfl] at this
    rw[this] at hv
    split at hv
    ·rename_i e;subst e;exact .inl (by simp)
    ·rw[rdb_replicate] at hv;cases hv
  have hsl:(0:Nat)<(List.replicate f.blocks.length false).length:=by simp;omega
  have a1:storeR [.row 1 ((List.replicate f.blocks.length false).map bool)] 0 0 1 (some (.row 1 ((List.replicate f.blocks.length false).map bool))) [bool true]=some [.row 1 (((List.replicate f.blocks.length false).set 0 true).map bool)]:=by
   rw[storeR_row,if_pos ⟨rfl,by simp;omega,rfl⟩,put_map (f:=bool) hsl];rfl
  have e00:(0:Int)≤0∧(0:Int)<(f.blocks.length:Int):=by omega
  have hcnt:((List.replicate f.blocks.length false).set 0 true).count false≤17:=Nat.le_trans List.count_le_length (by simp;omega)
  obtain⟨h',c',seen',g1,g2,g3⟩:=without_out (vals:=valsOf tab) (call:=callAt Try.prog tab k) (n:=k) (nexts f.blocks) (nextOf f.blocks) f.blocks.length a hb hnl (fun b b0 b1=>(nexts_at b0 b1).symm) hx hx2 hk 40 k [.row 1 (((List.replicate f.blocks.length false).set 0 true).map bool),.row 1 [int 0],.row 1 [int 0]] (.os 2 0 1 none) _ [0] (by omega) (by omega) (by simp;omega) rfl (.inr ⟨2,[int 0],rfl,rfl,by simp,rfl,by decide⟩) hW0
  have ga:appendTo [.row 1 (((List.replicate f.blocks.length false).set 0 true).map bool),.row 1 [int 0]] none 1 1 [int 0] (.v (.slice none 0 0))=some (.os 2 0 1 none,[.row 1 (((List.replicate f.blocks.length false).set 0 true).map bool),.row 1 [int 0],.row 1 [int 0]]):=by simp only[appendTo];rw[if_neg (by decide),if_pos (by decide)];rfl
  simp +decide -implicitDefEqProofs only[k98,go_sem,hnl,eM,Int.toNat_natCast,e7,decide_eq_false ha,e00,a1,Int.toNat_zero,ga,g1]
  exact⟨_,_,rfl,done g2 g3⟩
def Ov (l:List Block)(a b:Int):Prop:=Rc (nextOf l) (fun _=>True) 0 a∧Rc (nextOf l) (fun _=>True) 0 b∧¬Rc (nextOf l) (· ≠a) 0 b
open Classical in
noncomputable def rowOv (l:List Block) (a:Int):List Bool:=(List.range l.length).map fun(b:Nat)=>decide (Ov l a b)
noncomputable def overOf (l:List Block):List (List Bool):=(List.range l.length).map fun(a:Nat)=>rowOv l a
theorem rowOv_len (l:List Block)(a:Int):(rowOv l a).length=l.length:=by simp[rowOv]
theorem over_len (l:List Block):(overOf l).length=l.length:=by simp[overOf]
theorem rowOv_at {l:List Block}{a b:Int}(b0:0≤b)(b1:b<(l.length:Int)):rdOf false (rowOv l a) b=true↔Ov l a b:=by
 have h:b.toNat<l.length:=by omega
 unfold rdOf rowOv
 rw[List.getD_eq_getElem?_getD,List.getElem?_map,List.getElem?_range h]
 simp only[Option.map_some,Option.getD_some,decide_eq_true_eq]
 rw[show((b.toNat:Nat):Int)=b by omega]
def rowB (l:List (List Bool))(i:Int):List Bool:=l.getD i.toNat []
@[go_sem] theorem idx_rowsB (l:List (List Bool))(i:Int):idxC 1 (rowsB l) i=if 0≤i∧i<l.length then some (.fp (bools (rowB l i)::restOf (fun x=>[bools x]) l i)) else none:=by
 simp only[rowsB,idxC]
 split
 ·rename_i h;rw[at_map [] h];rfl
 ·rfl
@[go_sem] theorem len_rowsB (l:List (List Bool)):lenS (rowsB l)=some (int l.length):=rfl
@[go_sem] theorem view_rowsB {h:Heap}{n:Nat}(l:List (List Bool)):view false h (n+1) (rowsB l)=some (rowsB l):=view_fs' _ l
theorem over_at {l:List Block}{a:Int}(a0:0≤a)(a1:a<(l.length:Int)):rowB (overOf l) a=rowOv l a:=by
 have h:a.toNat<l.length:=by omega
 unfold rowB overOf
 rw[List.getD_eq_getElem?_getD,List.getElem?_map,List.getElem?_range h]
 simp only[Option.map_some,Option.getD_some]
 rw[show((a.toNat:Nat):Int)=a by omega]
theorem put_cell {cells:List C}{k:Nat}{c:C}(h:k<cells.length):put cells k [c]=cells.set k c:=by
 have:=put_map (f:=id) (v:=c) h
 simpa using this
noncomputable def nxCells (l:List Block)(i:Nat):List C:=(List.range l.length).map fun j=>if j<i then ints (nextOf l j) else .v (.slice none 0 0)
theorem nx_set (l:List Block){i:Nat}(h:i<l.length):(nxCells l i).set i (ints (nextOf l i))=nxCells l (i+1):=by
 refine List.ext_getElem (by simp[nxCells]) fun j h1 h2=>?_
 rw[List.getElem_set]
 simp only[nxCells,List.getElem_map,List.getElem_range]
 by_cases e:i=j
 ·subst e;rw[if_pos rfl,if_pos (by omega)]
 ·rw[if_neg e]
  by_cases q:j<i
  ·rw[if_pos q,if_pos (by omega)]
  ·rw[if_neg q,if_neg (by omega)]
section
variable {vals:FuncId→Bool} {n:Nat}
theorem over_nx (f:Tm.Func)(F:Fine f){k:Nat}(hk:2^36+1≤k)(d:Nat):∀(i m:Nat),i+d=f.blocks.length→d<m→
  Tm.Loop Try.prog vals (callAt Try.prog tab k) n [1,3,4,16,17] k68b0 m ⟨[(1,.op 0 0),(3,int f.blocks.length),(4,.os 1 0 f.blocks.length (some f.blocks.length)),(16,int f.blocks.length),(17,int i)],[.row 0 (encFunc f),.row 1 (nxCells f.blocks i)]⟩=some (.exit 0,⟨[(1,.op 0 0),(3,int f.blocks.length),(4,.os 1 0 f.blocks.length (some f.blocks.length)),(16,int f.blocks.length),(17,int f.blocks.length),(18,bool false)],[.row 0 (encFunc f),.row 1 (nxCells f.blocks f.blocks.length)]⟩):=by
 have hb:=F.blocks
 induction d with
 |zero=>
  intro i m hi hm
  obtain⟨m,rfl⟩:∃p,m=p+1:=⟨m-1,by omega⟩
  obtain rfl:i=f.blocks.length:=by omega
  rw[Tm.Loop_succ]
  simp -implicitDefEqProofs only[k68b0,go_sem,Int.lt_irrefl,decide_false]
 |succ d ih=>
  intro i m hi hm
  obtain⟨m,rfl⟩:∃p,m=p+1:=⟨m-1,by omega⟩
  replace ih:=ih (i+1) m (by omega) (by omega)
  rw[Tm.Loop_succ]
  generalize Tm.Loop Try.prog vals (callAt Try.prog tab k) n [1,3,4,16,17] k68b0 m=L at ih⊢
  have e1:decide ((i:Int)<f.blocks.length)=true:=by simp;omega
  have e2:0≤(i:Int)∧(i:Int)<f.blocks.length:=by omega
  have e3:=wrap_next (n:=f.blocks.length) (i:=i) (by omega) (by omega)
  have hil:i<(nxCells f.blocks i).length:=by simp[nxCells];omega
  have a1:∀x,storeR [.row 0 x,.row 1 (nxCells f.blocks i)] 1 i 1 (some (.row 1 (nxCells f.blocks i))) [ints (nextOf f.blocks i)]=some [.row 0 x,.row 1 (nxCells f.blocks (i+1))]:=fun x=>by
   rw[storeR_row,if_pos ⟨rfl,by simp;omega,rfl⟩,put_cell hil,nx_set _ (by omega)];rfl
  have hcall:=next_call f F i hk
  rw[enc_func] at ih⊢
  simp -implicitDefEqProofs only[k68b0,go_sem,e1,e2,e3,hcall,Int.toNat_natCast,a1]
  exact ih
theorem over_in {call:CallF}(r w:List Bool)(nn i L:Nat)(hn:nn≤17)(hi:i<nn)(hr:r.length=nn)(hw:w.length=nn)(hL:L≠2)(cells:List C)(hcl:cells.length=nn)(hci:(cells.drop i).head?=some (.os L 0 nn (some nn)))(d:Nat):∀(j m:Nat),j+d=nn→d<m→∀(h:Heap) (o:List Bool),h[2]?=some (.row 1 cells)→h[L]?=some (.row 1 (o.map bool))→o.length=nn→
  ∃(h':Heap) (o':List Bool),Tm.Loop Try.prog vals call n [3,4,6,7,8,9,31,32,48,49] k68b1 m ⟨[(3,int nn),(4,.os 1 0 nn (some nn)),(6,bools r),(7,.os 2 0 nn (some nn)),(8,int i),(9,bools w),(31,int nn),(32,int i),(48,int nn),(49,int j)],h⟩=some (.exit 4,⟨[(3,int nn),(4,.os 1 0 nn (some nn)),(6,bools r),(7,.os 2 0 nn (some nn)),(8,int i),(9,bools w),(31,int nn),(32,int i),(48,int nn),(49,int nn),(50,bool false)],h'⟩)∧
   h'[L]?=some (.row 1 (o'.map bool))∧o'.length=nn∧(∀j',j≤j'→j'<nn→o'[j']?=some (r.getD j' false&&!(w.getD j' false)))∧(∀j',j'<j→o'[j']?=o[j']?)∧(∀(l:Nat) (nd:Tm.Node),l≠L→h[l]?=some nd→h'[l]?=some nd):=by
 induction d with
 |zero=>
  intro j m hj hm h o h2 hl ho
  obtain⟨m,rfl⟩:∃p,m=p+1:=⟨m-1,by omega⟩
  obtain rfl:j=nn:=by omega
  rw[Tm.Loop_succ]
  simp -implicitDefEqProofs only[k68b1,go_sem,Int.lt_irrefl,decide_false]
  exact⟨h,o,rfl,hl,ho,fun j' a b=>by omega,fun _ _=>rfl,fun _ _ _ e=>e⟩
 |succ d ih=>
  intro j m hj hm h o h2 hl ho
  obtain⟨m,rfl⟩:∃p,m=p+1:=⟨m-1,by omega⟩
  replace ih:=ih (j+1) m (by omega) (by omega)
  rw[Tm.Loop_succ]
  generalize Tm.Loop Try.prog vals call n [3,4,6,7,8,9,31,32,48,49] k68b1 m=LL at ih⊢
  have e1:decide ((j:Int)<nn)=true:=by simp;omega
  have ei:0≤(i:Int)∧(i:Int)<nn:=by omega
  have ej:0≤(j:Int)∧(j:Int)<nn:=by omega
  have er:0≤(j:Int)∧(j:Int)<(r.length:Int):=by omega
  have ew:0≤(j:Int)∧(j:Int)<(w.length:Int):=by omega
  have e3:=wrap_next (n:=nn) (i:=j) (by omega) (by omega)
  have hjo:j<o.length:=by omega
  have hLl:=(List.getElem?_eq_some_iff.1 hl).1
  have a1:∀v:Bool,storeR h L j 1 (some (.row 1 (o.map bool))) [bool v]=some (h.set L (.row 1 ((o.set j v).map bool))):=fun v=>by
   rw[storeR_row,if_pos ⟨rfl,by simp;omega,rfl⟩,put_map (f:=bool) hjo]
  obtain⟨h',o',g1,g2,g3,g4,g5,g6⟩:=ih (h.set L (.row 1 ((o.set j (rdOf false r j&&!(rdOf false w j))).map bool))) (o.set j (rdOf false r j&&!(rdOf false w j))) (by rw[List.getElem?_set_ne hL];exact h2) (by rw[List.getElem?_set_self hLl]) (by simp[ho])
  refine⟨h',o',?_,g2,g3,fun j' q1 q2=>?_,fun j' q=>by rw[g5 j' (by omega),List.getElem?_set_ne (by omega)],fun l nd q e=>g6 l nd q (by rw[List.getElem?_set_ne (Ne.symm q)];exact e)⟩
  ·cases c1:rdOf false r j with
   |true=>
    rw[c1,Bool.true_and] at g1
    simp +decide -implicitDefEqProofs only[k68b1,go_sem,e1,ei,ej,er,ew,e3,Int.toNat_natCast,h2,hci,hl,c1,a1]
    exact g1
   |false=>
    rw[c1,Bool.false_and] at g1
    simp +decide -implicitDefEqProofs only[k68b1,go_sem,e1,ei,ej,er,ew,e3,Int.toNat_natCast,h2,hci,hl,c1,a1]
    exact g1
  ·by_cases e:j=j'
   ·subst e
    rw[g5 j (by omega),List.getElem?_set_self hjo]
    rfl
   ·exact g4 j' (by omega) q2
end
theorem nxCells_full (l:List Block):nxCells l l.length=(nexts l).map ints:=by
 refine List.ext_getElem (by simp[nxCells,nexts]) fun j h1 h2=>?_
 have hj:j<l.length:=by simpa[nxCells] using h1
 simp only[nxCells,nexts,List.getElem_map,List.getElem_range,if_pos hj]
theorem rowOv_none {l:List Block}{a:Int}(h:¬Rc (nextOf l) (fun _=>True) 0 a):rowOv l a=List.replicate l.length false:=by
 refine List.ext_getElem (by simp[rowOv]) fun j h1 h2=>?_
 simp only[rowOv,List.getElem_map,List.getElem_range,List.getElem_replicate,decide_eq_false_iff_not]
 exact fun q=>h q.1
structure OB (l:List Block)(h:Heap)(cells:List C)(i:Nat):Prop where
 nx:h[1]?=some (.row 1 (nxCells l l.length))
 at_:h[2]?=some (.row 1 cells)
 len:cells.length=l.length
 each:∀j,j<i→∃lj,cells[j]?=some (.os lj 0 l.length (some l.length))∧h[lj]?=some (.row 1 ((rowOv l j).map bool))∧2<lj
theorem OB.put {l:List Block}{h h':Heap}{cells:List C}{i:Nat}(H:OB l h cells i)(hi:i<l.length)(h1:h'[1]?=h[1]?)(h2:h'[2]?=some (.row 1 (cells.set i (.os h.length 0 l.length (some l.length)))))(hL:h'[h.length]?=some (.row 1 ((rowOv l i).map bool)))(hh:∀(k:Nat) (nd:Tm.Node),2<k→h[k]?=some nd→h'[k]?=some nd):OB l h' (cells.set i (.os h.length 0 l.length (some l.length))) (i+1):=by
 have h2l:=(List.getElem?_eq_some_iff.1 H.at_).1
 refine⟨by rw[h1];exact H.nx,h2,by simp[H.len],fun j hj=>?_⟩
 by_cases e:j=i
 ·subst e
  exact⟨_,List.getElem?_set_self (by rw[H.len];exact hi),hL,h2l⟩
 ·obtain⟨lj,q1,q2,q3⟩:=H.each j (by omega)
  exact⟨lj,by rw[List.getElem?_set_ne (Ne.symm e)];exact q1,hh lj _ q3 q2,q3⟩
theorem over_mid (f:Tm.Func)(F:Fine f)(hpos:0<f.blocks.length){k n:Nat}(hk:2^20+2≤k)(hn:30≤n)(d:Nat):∀(i m:Nat),i+d=f.blocks.length→d<m→∀(h:Heap) (cells:List C),OB f.blocks h cells i→
  ∃h' cells',Tm.Loop Try.prog (valsOf tab) (callAt Try.prog tab k) n [3,4,6,7,31,32] k68b2 m ⟨[(3,int f.blocks.length),(4,.os 1 0 f.blocks.length (some f.blocks.length)),(6,bools (reachOf f.blocks)),(7,.os 2 0 f.blocks.length (some f.blocks.length)),(31,int f.blocks.length),(32,int i)],h⟩=some (.exit 2,⟨[(3,int f.blocks.length),(4,.os 1 0 f.blocks.length (some f.blocks.length)),(6,bools (reachOf f.blocks)),(7,.os 2 0 f.blocks.length (some f.blocks.length)),(31,int f.blocks.length),(32,int f.blocks.length),(33,bool false)],h'⟩)∧OB f.blocks h' cells' f.blocks.length:=by
 have hb:=F.blocks
 induction d with
 |zero=>
  intro i m hi hm h cells H
  obtain⟨m,rfl⟩:∃p,m=p+1:=⟨m-1,by omega⟩
  obtain rfl:i=f.blocks.length:=by omega
  rw[Tm.Loop_succ]
  simp -implicitDefEqProofs only[k68b2,go_sem,Int.lt_irrefl,decide_false]
  exact⟨h,cells,rfl,H⟩
 |succ d ih=>
  intro i m hi hm h cells H
  obtain⟨m,rfl⟩:∃p,m=p+1:=⟨m-1,by omega⟩
  replace ih:=ih (i+1) m (by omega) (by omega)
  rw[Tm.Loop_succ]
  generalize Tm.Loop Try.prog (valsOf tab) (callAt Try.prog tab k) n [3,4,6,7,31,32] k68b2 m=LL at ih⊢
  have hil:i<f.blocks.length:=by omega
  have e1:decide ((i:Int)<f.blocks.length)=true:=by simp;omega
  have ei:0≤(i:Int)∧(i:Int)<f.blocks.length:=by omega
  have er:0≤(i:Int)∧(i:Int)<((reachOf f.blocks).length:Int):=by rw[reach_len];exact ei
  have e3:=wrap_next (n:=f.blocks.length) (i:=i) (by omega) (by omega)
  have eM:0≤(f.blocks.length:Int)∧(f.blocks.length:Int)≤(f.blocks.length:Int)∧(f.blocks.length:Int)≤(maxRow:Nat):=⟨by omega,by omega,by unfold maxRow;omega⟩
  have e7:=rep_map (f:=bool) f.blocks.length false
  have h2l:2<h.length:=(List.getElem?_eq_some_iff.1 H.at_).1
  have hic:i<cells.length:=by rw[H.len];exact hil
  have hat:(h++[Tm.Node.row 1 ((List.replicate f.blocks.length false).map bool)])[2]?=some (.row 1 cells):=by rw[List.getElem?_append_left h2l];exact H.at_
  obtain⟨h2,hh2⟩:∃h2,h2=(h++[Tm.Node.row 1 ((List.replicate f.blocks.length false).map bool)]).set 2 (.row 1 (cells.set i (.os h.length 0 f.blocks.length (some f.blocks.length)))):=⟨_,rfl⟩
  have a1:storeR (h++[Tm.Node.row 1 ((List.replicate f.blocks.length false).map bool)]) 2 i 1 (some (.row 1 cells)) [.os h.length 0 f.blocks.length (some f.blocks.length)]=some h2:=by
   rw[storeR_row,if_pos ⟨rfl,by simp;omega,rfl⟩,put_cell hic,hh2]
  have g1:h2[1]?=h[1]?:=by rw[hh2,List.getElem?_set_ne (by decide),List.getElem?_append_left (by omega)]
  have g2:h2[2]?=some (.row 1 (cells.set i (.os h.length 0 f.blocks.length (some f.blocks.length)))):=by rw[hh2,List.getElem?_set_self (by simp;omega)]
  have gL:h2[h.length]?=some (.row 1 ((List.replicate f.blocks.length false).map bool)):=by rw[hh2,List.getElem?_set_ne (by omega)];simp
  have gh:∀(k:Nat) (nd:Tm.Node),2<k→h[k]?=some nd→h2[k]?=some nd:=fun k nd q e=>by rw[hh2,List.getElem?_set_ne (by omega),List.getElem?_append_left (List.getElem?_eq_some_iff.1 e).1];exact e
  cases hr:rdOf false (reachOf f.blocks) i with
  |false=>
   have hno:¬Rc (nextOf f.blocks) (fun _=>True) 0 (i:Int):=fun q=>by rw[(reach_at ei.1 ei.2).2 q] at hr;cases hr
   obtain⟨h',cells',q1,q2⟩:=ih h2 _ (H.put hil g1 g2 (by rw[rowOv_none hno];exact gL) gh)
   refine⟨h',cells',?_,q2⟩
   simp +decide -implicitDefEqProofs only[k68b2,go_sem,e1,ei,er,e3,eM,e7,Int.toNat_natCast,hat,a1,hr]
   exact q1
  |true=>
   have hyes:=(reach_at ei.1 ei.2).1 hr
   have hview:view false h2 12 (.os 1 0 f.blocks.length (some f.blocks.length))=some (rows (nexts f.blocks)):=by
    have:=view_os (cl:=false) (h:=h2) (n:=11) (f:=ints) (f':=ints) (l:=1) (xs:=nexts f.blocks) (cap:=some f.blocks.length) (fun x=>view_ints x) (by rw[g1,H.nx,nxCells_full])
    rw[show(nexts f.blocks).length=f.blocks.length by simp[nexts]] at this
    rw[this]
    simp[rows,nexts]
   have hcall:=without_runs f F i hpos k hk [.os 1 0 f.blocks.length (some f.blocks.length),int i] h2 (by simp only[mapC_cons,mapC_nil,depth,hview,view_int,Option.bind_some])
   obtain⟨h3,o,p1,p2,p3,p4,_,p6⟩:=over_in (vals:=valsOf tab) (n:=n) (call:=callAt Try.prog tab k) (reachOf f.blocks) (withoutOf f.blocks i) f.blocks.length i h.length hb hil (reach_len _) (by simp[withoutOf]) (by omega) _ (by simp[H.len]) (get_isSome (List.getElem?_set_self hic)) f.blocks.length 0 n (by omega) (by omega) h2 (List.replicate f.blocks.length false) g2 gL (by simp)
   rw[show((0:Nat):Int)=0 from rfl] at p1
   have ho:o=rowOv f.blocks i:=by
    refine bools_ext (by rw[p3,rowOv_len]) fun j j0 j1=>?_
    have pj:=p4 j.toNat (by omega) (by omega)
    rw[Bool.eq_iff_iff,rowOv_at j0 (by omega)]
    have hw:=without_at (l:=f.blocks) (a:=i) (v:=j) j0 (by omega)
    have hrj:=reach_at (l:=f.blocks) (v:=j) j0 (by omega)
    unfold rdOf at hw hrj⊢
    rw[List.getD_eq_getElem?_getD,pj,Option.getD_some,Bool.and_eq_true,Bool.not_eq_true',hrj,←Bool.not_eq_true,hw]
    exact⟨fun q=>⟨hyes,q.1,q.2⟩,fun q=>⟨q.2.1,q.2.2⟩⟩
   obtain⟨h',cells',q1,q2⟩:=ih h3 _ (H.put (h':=h3) hil (by
     have e:h[1]?=some (.row 1 (nxCells f.blocks f.blocks.length)):=H.nx
     rw[p6 1 _ (by omega) (g1.trans e),e]) (p6 2 _ (by omega) g2) (by rw[←ho];exact p2) (fun k nd q e=>p6 k nd (by have:=(List.getElem?_eq_some_iff.1 e).1;omega) (gh k nd q e)))
   refine⟨h',cells',?_,q2⟩
   simp +decide -implicitDefEqProofs only[k68b2,go_sem,e1,ei,er,e3,eM,e7,Int.toNat_natCast,hat,a1,hr,hcall,p1]
   exact q1
theorem over_runs (f:Tm.Func)(F:Fine f)(hpos:0<f.blocks.length):Runs Try.prog tab (2^36+32) 68 [.agg (encFunc f)] (rowsB (overOf f.blocks)):=by
 have hb:=F.blocks
 refine Runs.by (rs:=[.tmp 2]) (N:=72) rfl Try.func68 rfl rfl (by simp) fun k hk=>?_
 have eM:0≤(f.blocks.length:Int)∧(f.blocks.length:Int)≤(f.blocks.length:Int)∧(f.blocks.length:Int)≤(maxRow:Nat):=⟨by omega,by omega,by unfold maxRow;omega⟩
 have g1:=over_nx f F (vals:=valsOf tab) (n:=k) (k:=k) (by omega) f.blocks.length 0 k (by omega) (by omega)
 have hz:nxCells f.blocks 0=rep f.blocks.length [.v (.slice none 0 0)]:=by rw[rep_one];refine List.ext_getElem (by simp[nxCells]) fun j h1 h2=>?_;simp[nxCells]
 rw[show((0:Nat):Int)=0 from rfl,hz] at g1
 have hreach:∀h,callAt Try.prog tab k 25 [.agg (encFunc f)] h=some (bools (reachOf f.blocks),h):=fun h=>reach_runs f F k (by omega) _ h (by simp only[mapC_cons,mapC_nil,depth,view_func f,Option.bind_some])
 obtain⟨h',cells',p1,p2⟩:=over_mid f F hpos (k:=k) (n:=k) (by omega) (by omega) f.blocks.length 0 k (by omega) (by omega) [.row 0 (encFunc f),.row 1 (nxCells f.blocks f.blocks.length),.row 1 (rep f.blocks.length [.v (.slice none 0 0)])] (rep f.blocks.length [.v (.slice none 0 0)]) ⟨rfl,rfl,by rw[rep_one];simp,fun j hj=>by omega⟩
 rw[show((0:Nat):Int)=0 from rfl] at p1
 rw[enc_func] at*
 simp +decide -implicitDefEqProofs only[k68,go_sem,eM,Int.toNat_natCast,g1,hreach,p1]
 refine⟨_,_,rfl,?_⟩
 rw[show depth=11+1 from rfl,view_os_eq,if_neg (by omega),p2.at_]
 simp only[viewRow,List.drop_zero,takeN,Nat.mul_one]
 rw[if_pos (by rw[p2.len];exact Nat.le_refl _),List.take_of_length_le (by rw[p2.len];exact Nat.le_refl _)]
 have hm:mapC (view true h' 11) cells'=some ((overOf f.blocks).map bools):=by
  have e:cells'=(List.range f.blocks.length).map fun j=>cells'.getD j default:=by
   refine List.ext_getElem (by simp[p2.len]) fun j h1 h2=>?_
   simp[List.getD_eq_getElem?_getD,List.getElem?_eq_getElem h1]
  have hall:∀(js:List Nat),(∀j∈js,j<f.blocks.length)→mapC (view true h' 11) (js.map fun j=>cells'.getD j default)=some (js.map fun(j:Nat)=>bools (rowOv f.blocks j)):=by
   intro js
   induction js with
   |nil=>intro _;rfl
   |cons j js ih=>
    intro hj
    obtain⟨lj,q1,q2,q3⟩:=p2.each j (hj j (by simp))
    have hv:=view_os_bools (cl:=true) (n:=9) (cap:=some f.blocks.length) q2
    rw[rowOv_len] at hv
    simp only[List.map_cons,mapC,List.getD_eq_getElem?_getD,q1,Option.getD_some,hv,Option.bind_eq_bind,Option.bind_some]
    have:=ih fun j h=>hj j (by simp[h])
    simp only[List.getD_eq_getElem?_getD] at this
    rw[this];rfl
  rw[e,hall _ (fun j hj=>List.mem_range.1 hj)]
  simp[overOf]
 simp only[hm,Option.bind_some]
 rw[rowsB,over_len]
section
variable {N:Int→List Int} {P:Int→Prop} {u v a b:Int}
theorem rc_via (b:Int)(h:Rc N P u v):Rc N (· ≠b) u v∨Rc N P u b:=by
 induction h with
 |refl hp=>
  by_cases e:u=b
  ·subst e;exact .inr (.refl hp)
  ·exact .inl (.refl e)
 | @step y w h1 h2 h3 ih=>
  rcases ih with ih|ih
  ·by_cases e:w=b
   ·subst e;exact .inr (.step h1 h2 h3)
   ·exact .inl (.step ih h2 e)
  ·exact .inr ih
theorem rc_last_of (hab:a≠b)(h:Rc N (fun _=>True) u v):Rc N (fun x=>x≠a∧x≠b) u v∨Rc N (· ≠a) b v∨Rc N (· ≠b) a v:=by
 induction h with
 |refl _=>
  by_cases e:u=a
  ·subst e;exact .inr (.inr (.refl hab))
  ·by_cases e2:u=b
   ·subst e2;exact .inr (.inl (.refl e))
   ·exact .inl (.refl ⟨e,e2⟩)
 | @step y w h1 h2 h3 ih=>
  by_cases e:w=a
  ·subst e;exact .inr (.inr (.refl hab))
  ·by_cases e2:w=b
   ·subst e2;exact .inr (.inl (.refl e))
   ·rcases ih with ih|ih|ih
    ·exact .inl (.step ih h2 ⟨e,e2⟩)
    ·exact .inr (.inl (.step ih h2 e))
    ·exact .inr (.inr (.step ih h2 e2))
theorem rc_first_of (hab:a≠b)(h:Rc N (fun _=>True) u v):Rc N (fun x=>x≠a∧x≠b) u v∨Rc N (· ≠b) u a∨Rc N (· ≠a) u b:=by
 induction h with
 |refl _=>
  by_cases e:u=a
  ·subst e;exact .inr (.inl (.refl hab))
  ·by_cases e2:u=b
   ·subst e2;exact .inr (.inr (.refl e))
   ·exact .inl (.refl ⟨e,e2⟩)
 | @step y w h1 h2 h3 ih=>
  rcases ih with ih|ih|ih
  ·by_cases e:w=a
   ·subst e;exact .inr (.inl (.step (ih.mono fun _ q=>q.2) h2 hab))
   ·by_cases e2:w=b
    ·subst e2;exact .inr (.inr (.step (ih.mono fun _ q=>q.1) h2 e))
    ·exact .inl (.step ih h2 ⟨e,e2⟩)
  ·exact .inr (.inl ih)
  ·exact .inr (.inr ih)
end
section
variable {l:List Block} {a b c:Int}
theorem Ov.self (h:Rc (nextOf l) (fun _=>True) 0 a):Ov l a a:=⟨h,h,fun q=>q.right rfl⟩
theorem Ov.trans (h:Ov l a b)(k:Ov l b c):Ov l a c:=⟨h.1,k.2.1,fun q=>by
 rcases rc_via b q with r|r
 ·exact k.2.2 r
 ·exact h.2.2 r⟩
theorem Ov.either (h:Ov l a c)(k:Ov l b c):Ov l a b∨Ov l b a:=by
 by_cases hab:a=b
 ·subst hab;exact .inl (Ov.self h.1)
 refine Classical.byContradiction fun hn=>?_
 rw[not_or] at hn
 have h1:Rc (nextOf l) (· ≠a) 0 b:=Classical.byContradiction fun q=>hn.1 ⟨h.1,k.1,q⟩
 have h2:Rc (nextOf l) (· ≠b) 0 a:=Classical.byContradiction fun q=>hn.2 ⟨k.1,h.1,q⟩
 rcases rc_last_of hab h.2.1 with q|q|q
 ·exact h.2.2 (q.mono fun _ q=>q.1)
 ·exact h.2.2 (h1.trans q)
 ·exact k.2.2 (h2.trans q)
theorem Ov.anti (hab:a≠b)(h:Ov l a b)(k:Ov l b a):False:=by
 rcases rc_first_of hab h.1 with q|q|q
 ·exact(q.right).1 rfl
 ·exact k.2.2 q
 ·exact h.2.2 q
end
def Near (l:List Block)(b:Int)(i:Nat)(cur:Int):Prop:=
 (cur= -1∧∀a:Int,0≤a→a<i→a≠b→¬Ov l a b)∨((0≤cur∧cur<i)∧cur≠b∧Ov l cur b∧∀a:Int,0≤a→a<i→a≠b→Ov l a b→Ov l a cur)
theorem Near.skip {l:List Block}{b:Int}{i:Nat}{cur:Int}(H:Near l b i cur)(h:(i:Int)=b∨¬Ov l i b):Near l b (i+1) cur:=by
 rcases H with ⟨h1,h2⟩|⟨h1,h2,h3,h4⟩
 ·refine .inl ⟨h1,fun a a0 a1 ab q=>?_⟩
  by_cases e:a=i
  ·subst e;rcases h with h|h
   ·exact ab h
   ·exact h q
  ·exact h2 a a0 (by omega) ab q
 ·refine .inr ⟨by omega,h2,h3,fun a a0 a1 ab q=>?_⟩
  by_cases e:a=i
  ·subst e;rcases h with h|h
   ·exact absurd h ab
   ·exact absurd q h
  ·exact h4 a a0 (by omega) ab q
theorem Near.take {l:List Block}{b:Int}{i:Nat}{cur:Int}(H:Near l b i cur)(hib:(i:Int)≠b)(h:Ov l i b)(hc:cur<0∨Ov l cur i):Near l b (i+1) i:=by
 refine .inr ⟨by omega,hib,h,fun a a0 a1 ab q=>?_⟩
 by_cases e:a=i
 ·subst e;exact Ov.self h.1
 ·rcases H with ⟨_,h2⟩|⟨h1,_,_,h4⟩
  ·exact absurd q (h2 a a0 (by omega) ab)
  ·rcases hc with hc|hc
   ·omega
   ·exact(h4 a a0 (by omega) ab q).trans hc
theorem Near.stay {l:List Block}{b:Int}{i:Nat}{cur:Int}(H:Near l b i cur)(h:Ov l i b)(hc:¬cur<0)(hc2:¬Ov l cur i):Near l b (i+1) cur:=by
 rcases H with ⟨h1,_⟩|⟨h1,h2,h3,h4⟩
 ·omega
 ·refine .inr ⟨by omega,h2,h3,fun a a0 a1 ab q=>?_⟩
  by_cases e:a=i
  ·subst e
   rcases Ov.either h3 h with r|r
   ·exact absurd r hc2
   ·exact r
  ·exact h4 a a0 (by omega) ab q
theorem Near.uniq {l:List Block}{b:Int}{n:Nat}{c d:Int}(h:Near l b n c)(k:Near l b n d):c=d:=by
 rcases h with ⟨h1,h2⟩|⟨h1,h2,h3,h4⟩
 ·rcases k with ⟨k1,_⟩|⟨k1,k2,k3,_⟩
  ·omega
  ·exact absurd k3 (h2 d k1.1 k1.2 k2)
 ·rcases k with ⟨k1,k2⟩|⟨k1,k2,k3,k4⟩
  ·exact absurd h3 (k2 c h1.1 h1.2 h2)
  ·refine Classical.byContradiction fun e=>Ov.anti e (k4 c h1.1 h1.2 h2 h3) (h4 d k1.1 k1.2 k2 k3)
section
variable {vals:FuncId→Bool} {call:CallF} {n:Nat}
theorem near_in (X:Tm.Node)(l:List Block)(hn:l.length≤17)(b:Nat)(hb:b<l.length)(d:Nat):∀(i m:Nat),i+d=l.length→d<m→∀(o:List Int),o.length=l.length→Near l b i (o.getD b 0)→
  ∃o':List Int,Tm.Loop Try.prog vals call n [0,3,4,10,11,18,19] k71b0 m ⟨[(0,rowsB (overOf l)),(3,.os 1 0 l.length (some l.length)),(4,int b),(10,int l.length),(11,int b),(18,int l.length),(19,int i)],[X,.row 1 (o.map int)]⟩=some (.exit 2,⟨[(0,rowsB (overOf l)),(3,.os 1 0 l.length (some l.length)),(4,int b),(10,int l.length),(11,int b),(18,int l.length),(19,int l.length),(20,bool false)],[X,.row 1 (o'.map int)]⟩)∧o'.length=l.length∧(∀j,j≠b→o'[j]?=o[j]?)∧Near l b l.length (o'.getD b 0):=by
 induction d with
 |zero=>
  intro i m hi hm o ho H
  obtain⟨m,rfl⟩:∃p,m=p+1:=⟨m-1,by omega⟩
  obtain rfl:i=l.length:=by omega
  rw[Tm.Loop_succ]
  simp -implicitDefEqProofs only[k71b0,go_sem,Int.lt_irrefl,decide_false]
  exact⟨o,rfl,ho,fun _ _=>rfl,H⟩
 |succ d ih=>
  intro i m hi hm o ho H
  obtain⟨m,rfl⟩:∃p,m=p+1:=⟨m-1,by omega⟩
  replace ih:=ih (i+1) m (by omega) (by omega)
  rw[Tm.Loop_succ]
  generalize Tm.Loop Try.prog vals call n [0,3,4,10,11,18,19] k71b0 m=L at ih⊢
  have hil:i<l.length:=by omega
  have e1:decide ((i:Int)<l.length)=true:=by simp;omega
  have e3:=wrap_next (n:=l.length) (i:=i) (by omega) (by omega)
  have ei:0≤(i:Int)∧(i:Int)<((overOf l).length:Int):=by rw[over_len];omega
  have hri:=over_at (l:=l) (a:=i) (by omega) (by omega)
  have eb:0≤(b:Int)∧(b:Int)<((rowOv l i).length:Int):=by rw[rowOv_len];omega
  have ebn:0≤(b:Int)∧(b:Int)<(l.length:Int):=by omega
  have hbo:b<o.length:=by omega
  have hib:=rowOv_at (l:=l) (a:=i) (b:=b) (by omega) (by omega)
  by_cases c1:(i:Int)=b
  ·obtain⟨o',q⟩:=ih o ho (H.skip (.inl c1))
   refine⟨o',?_,q.2⟩
   simp +decide -implicitDefEqProofs only[k71b0,go_sem,e1,e3,decide_eq_true c1]
   exact q.1
  cases c2:rdOf false (rowOv l i) b with
  |false=>
   have hno:¬Ov l i b:=fun q=>by rw[hib.2 q] at c2;cases c2
   obtain⟨o',q⟩:=ih o ho (H.skip (.inr hno))
   refine⟨o',?_,q.2⟩
   simp +decide -implicitDefEqProofs only[k71b0,go_sem,e1,e3,decide_eq_false c1,ei,hri,eb,c2]
   exact q.1
  |true=>
   have hyes:=hib.1 c2
   have a1:storeR [X,.row 1 (o.map int)] 1 b 1 (some (.row 1 (o.map int))) [int i]=some [X,.row 1 ((o.set b i).map int)]:=by
    rw[storeR_row,if_pos ⟨rfl,by simp;omega,rfl⟩,put_map (f:=int) hbo];rfl
   have set_at:(o.set b (i:Int)).getD b 0=i:=by rw[List.getD_eq_getElem?_getD,List.getElem?_set_self hbo];rfl
   have takes:(o.getD b 0<0∨Ov l (o.getD b 0) i)→∃o':List Int,L ⟨[(0,rowsB (overOf l)),(3,.os 1 0 l.length (some l.length)),(4,int b),(10,int l.length),(11,int b),(18,int l.length),(19,int (i+1:Nat))],[X,.row 1 ((o.set b i).map int)]⟩=some (.exit 2,⟨[(0,rowsB (overOf l)),(3,.os 1 0 l.length (some l.length)),(4,int b),(10,int l.length),(11,int b),(18,int l.length),(19,int l.length),(20,bool false)],[X,.row 1 (o'.map int)]⟩)∧o'.length=l.length∧(∀j,j≠b→o'[j]?=o[j]?)∧Near l b l.length (o'.getD b 0):=fun hc=>by
    obtain⟨o',q1,q2,q3,q4⟩:=ih (o.set b i) (by simp[ho]) (by rw[set_at];exact H.take c1 hyes hc)
    exact⟨o',q1,q2,fun j hj=>by rw[q3 j hj,List.getElem?_set_ne (Ne.symm hj)],q4⟩
   by_cases c3:o.getD b 0<0
   ·obtain⟨o',q⟩:=takes (.inl c3)
    refine⟨o',?_,q.2⟩
    simp +decide -implicitDefEqProofs only[k71b0,go_sem,e1,e3,decide_eq_false c1,ei,hri,eb,ebn,hbo,Int.toNat_natCast,c2,decide_eq_true c3,a1]
    exact q.1
   ·have hcur:0≤o.getD b 0∧o.getD b 0<((overOf l).length:Int):=by
     rw[over_len]
     rcases H with ⟨h1,_⟩|⟨h1,_⟩<;>omega
    have hrc:=over_at (l:=l) (a:=o.getD b 0) hcur.1 (by rw[over_len] at hcur;exact hcur.2)
    have eic:0≤(i:Int)∧(i:Int)<((rowOv l (o.getD b 0)).length:Int):=by rw[rowOv_len];omega
    have hci:=rowOv_at (l:=l) (a:=o.getD b 0) (b:=i) (by omega) (by omega)
    cases c4:rdOf false (rowOv l (o.getD b 0)) i with
    |true=>
     obtain⟨o',q⟩:=takes (.inr (hci.1 c4))
     refine⟨o',?_,q.2⟩
     simp +decide -implicitDefEqProofs only[k71b0,go_sem,e1,e3,decide_eq_false c1,ei,hri,eb,ebn,hbo,Int.toNat_natCast,c2,decide_eq_false c3,hcur,hrc,eic,c4,a1]
     exact q.1
    |false=>
     obtain⟨o',q⟩:=ih o ho (H.stay hyes c3 (fun q=>by rw[hci.2 q] at c4;cases c4))
     refine⟨o',?_,q.2⟩
     simp +decide -implicitDefEqProofs only[k71b0,go_sem,e1,e3,decide_eq_false c1,ei,hri,eb,ebn,hbo,Int.toNat_natCast,c2,decide_eq_false c3,hcur,hrc,eic,c4]
     exact q.1
theorem near_out (X:Tm.Node)(l:List Block)(hn:l.length≤17)(hn2:30≤n)(d:Nat):∀(i m:Nat),i+d=l.length→d<m→∀(o:List Int),o.length=l.length→(∀j,j<i→Near l j l.length (o.getD j 0))→
  ∃o':List Int,Tm.Loop Try.prog vals call n [0,3,10,11] k71b1 m ⟨[(0,rowsB (overOf l)),(3,.os 1 0 l.length (some l.length)),(10,int l.length),(11,int i)],[X,.row 1 (o.map int)]⟩=some (.exit 0,⟨[(0,rowsB (overOf l)),(3,.os 1 0 l.length (some l.length)),(10,int l.length),(11,int l.length),(12,bool false)],[X,.row 1 (o'.map int)]⟩)∧o'.length=l.length∧(∀j,j<l.length→Near l j l.length (o'.getD j 0)):=by
 induction d with
 |zero=>
  intro i m hi hm o ho H
  obtain⟨m,rfl⟩:∃p,m=p+1:=⟨m-1,by omega⟩
  obtain rfl:i=l.length:=by omega
  rw[Tm.Loop_succ]
  simp -implicitDefEqProofs only[k71b1,go_sem,Int.lt_irrefl,decide_false]
  exact⟨o,rfl,ho,H⟩
 |succ d ih=>
  intro i m hi hm o ho H
  obtain⟨m,rfl⟩:∃p,m=p+1:=⟨m-1,by omega⟩
  replace ih:=ih (i+1) m (by omega) (by omega)
  rw[Tm.Loop_succ]
  generalize Tm.Loop Try.prog vals call n [0,3,10,11] k71b1 m=L at ih⊢
  have hil:i<l.length:=by omega
  have e1:decide ((i:Int)<l.length)=true:=by simp;omega
  have e3:=wrap_next (n:=l.length) (i:=i) (by omega) (by omega)
  have ebn:0≤(i:Int)∧(i:Int)<(l.length:Int):=by omega
  have hio:i<o.length:=by omega
  have hol:=over_len l
  have a1:storeR [X,.row 1 (o.map int)] 1 i 1 (some (.row 1 (o.map int))) [int (-1)]=some [X,.row 1 ((o.set i (-1)).map int)]:=by
   rw[storeR_row,if_pos ⟨rfl,by simp;omega,rfl⟩,put_map (f:=int) hio];rfl
  obtain⟨o1,g1,g2,g3,g4⟩:=near_in (vals:=vals) (call:=call) (n:=n) X l hn i hil l.length 0 n (by omega) (by omega) (o.set i (-1)) (by simp[ho]) (.inl ⟨by rw[List.getD_eq_getElem?_getD,List.getElem?_set_self hio];rfl,fun a a0 a1=>by omega⟩)
  rw[show((0:Nat):Int)=0 from rfl] at g1
  obtain⟨o2,q1,q2,q3⟩:=ih o1 g2 (fun j hj=>by
   by_cases e:j=i
   ·subst e;exact g4
   ·have:=H j (by omega)
    rw[List.getD_eq_getElem?_getD,g3 j e,List.getElem?_set_ne (Ne.symm e),←List.getD_eq_getElem?_getD];exact this)
  simp +decide -implicitDefEqProofs only[k71b1,go_sem,e1,e3,ebn,Int.toNat_natCast,a1,hol,g1]
  exact⟨o2,q1,q2,q3⟩
end
open Classical in
noncomputable def nearV (l:List Block) (b:Nat):Int:=if h:∃c,Near l b l.length c then Classical.choose h else 0
noncomputable def overI (l:List Block):List Int:=(List.range l.length).map (nearV l)
theorem overI_len (l:List Block):(overI l).length=l.length:=by simp[overI]
theorem overI_of {l:List Block}{o:List Int}(hl:o.length=l.length)(H:∀j,j<l.length→Near l j l.length (o.getD j 0)):o=overI l:=by
 refine List.ext_getElem (by simp[overI,hl]) fun j h1 h2=>?_
 have:=H j (by omega)
 rw[List.getD_eq_getElem?_getD,List.getElem?_eq_getElem h1,Option.getD_some] at this
 have ex:∃c,Near l j l.length c:=⟨_,this⟩
 simp only[overI,List.getElem_map,List.getElem_range]
 have e:nearV l j=Classical.choose ex:=by unfold nearV;rw[dif_pos ex]
 rw[e]
 exact Near.uniq this (Classical.choose_spec ex)
theorem nearest_raw (X:Tm.Node)(l:List Block)(hb:l.length≤17){vals:FuncId→Bool}{call:CallF}{n:Nat}(hn2:30≤n):∃o:List Int,o.length=l.length∧(∀j,j<l.length→Near l j l.length (o.getD j 0))∧Tm.Loop Try.prog vals call n [0,3,10,11] k71b1 n ⟨[(0,rowsB (overOf l)),(3,.os 1 0 l.length (some l.length)),(10,int l.length),(11,int 0)],[X,.row 1 ((List.replicate l.length (0:Int)).map int)]⟩=some (.exit 0,⟨[(0,rowsB (overOf l)),(3,.os 1 0 l.length (some l.length)),(10,int l.length),(11,int l.length),(12,bool false)],[X,.row 1 (o.map int)]⟩):=by
 obtain⟨o,g1,g2,g3⟩:=near_out (vals:=vals) (call:=call) (n:=n) X l hb hn2 l.length 0 n (by omega) (by omega) (List.replicate l.length 0) (by simp) (fun j hj=>by omega)
 exact⟨o,g2,g3,g1⟩
theorem overI_near (l:List Block)(hb:l.length≤17){j:Nat}(hj:j<l.length):Near l j l.length ((overI l).getD j 0):=by
 obtain⟨o,g2,g3,_⟩:=nearest_raw (.row 0 []) l hb (vals:=fun _=>false) (call:=fun _ _ _=>none) (n:=30) (by omega)
 rw[←overI_of g2 g3];exact g3 j hj
theorem overRun (f:Tm.Func)(F:Fine f)(hpos:0<f.blocks.length):Runs Try.prog tab (2^36+50) 37 [.agg (encFunc f)] (ints (overI f.blocks)):=by
 refine Runs.by (rs:=[.tmp 2]) (N:=6) rfl Try.func37 rfl rfl (by simp) fun k hk=>?_
 have hb:=F.blocks
 have hover:∀h,callAt Try.prog tab k 68 [.agg (encFunc f)] h=some (rowsB (overOf f.blocks),h):=fun h=>over_runs f F hpos k (by omega) _ h (by simp only[mapC_cons,mapC_nil,depth,view_func f,Option.bind_some])
 obtain⟨k',rfl⟩:∃p,k=p+1:=⟨k-1,by omega⟩
 obtain⟨o,g2,g3,g1⟩:=nearest_raw (.row 0 (encFunc f)) f.blocks hb (vals:=valsOf tab) (call:=callAt Try.prog tab k') (n:=k') (by omega)
 have eM:0≤(f.blocks.length:Int)∧(f.blocks.length:Int)≤(f.blocks.length:Int)∧(f.blocks.length:Int)≤(maxRow:Nat):=⟨by omega,by omega,by unfold maxRow;omega⟩
 have e7:=rep_map (f:=int) f.blocks.length 0
 have hol:=over_len f.blocks
 have hnear:callAt Try.prog tab (k'+1) 71 [rowsB (overOf f.blocks)] [.row 0 (encFunc f)]=some (.os 1 0 f.blocks.length (some f.blocks.length),[.row 0 (encFunc f),.row 1 (o.map int)]):=by
  rw[ref_call (rs:=[.tmp 2]) (N:=59) rfl Try.func71 rfl rfl (by simp)]
  simp +decide -implicitDefEqProofs only[k71,go_sem,hol,eM,Int.toNat_natCast,e7,g1]
 rw[enc_func] at*
 simp +decide -implicitDefEqProofs only[k37,go_sem,hover,hnear]
 refine⟨_,_,rfl,?_⟩
 have:=view_os_ints (cl:=true) (n:=10) (h:=[.row 0 [str f.name,bool f.out,ints f.params,int f.result,blocks f.blocks],.row 1 (o.map int)]) (l:=1) (cap:=some f.blocks.length) (xs:=o) rfl
 rw[g2] at this
 rw[←overI_of g2 g3]
 exact this
end Go.Proofs.Ytkcimaibaicdcaa.Tk
namespace Go.Tm
@[go_sem] theorem resC_cell {P:Program}{e:Env}{h:Heap}(x:Nat)(t:TypeId)(r:List ResultVar):resC P e h (.cell x t::r)=(look e x).bind fun p=>(loadC P h t p).bind fun c=>(resC P e h r).bind fun cs=>some (c::cs):=rfl
theorem view_tup {cl:Bool}{h:Heap}{n:Nat}(cs:List C):view cl h (n+1) (.tup cs)=(mapC (view cl h n) cs).map .tup:=rfl
end Go.Tm
namespace Go.Proofs.Ytkcimaibaicdcaa.Tk
open Go.Tm Go.Tm.Tab
def noIns:Ins:=⟨0,0,0,0,0,[],[]⟩
def hasLast (l:List Block)(b:Int):Prop:=0≤b∧b<(l.length:Int)∧(blkAt l b).ins≠[]
theorem last_runs (f:Tm.Func)(F:Fine f)(b:Int)(hb:hasLast f.blocks b):RunsF Try.prog tab 1 63 [.agg (encFunc f),int b] (.tup [.agg (encIns (lastI f.blocks b)),bool true]):=by
 refine RunsF.by (rs:=[.cell 4 56,.tmp 5]) (N:=39) rfl Try.func63 rfl rfl (by simp) (by simp only[mapC_cons,mapC_nil,depth,view_func f,view_int,Option.bind_some]) fun k hk=>?_
 obtain⟨b0,b1,b2⟩:=hb
 have hlen:=F.ins _ (blkAt_mem ⟨b0,b1⟩)
 have c3:=ins_ne.1 b2
 have e2:0≤b∧b<(f.blocks.length:Int):=⟨b0,b1⟩
 have c1:decide (b<0)=false:=decide_eq_false (by omega)
 have c2:decide (b≥(f.blocks.length:Int))=false:=decide_eq_false (by omega)
 have e3:IntKind.i64.wrap (((blkAt f.blocks b).ins.length:Int)-1)=((blkAt f.blocks b).ins.length:Int)-1:=wrap_in (by omega) (by omega)
 have e4:0≤((blkAt f.blocks b).ins.length:Int)-1∧((blkAt f.blocks b).ins.length:Int)-1<((blkAt f.blocks b).ins.length:Int):=by omega
 rw[enc_func]
 simp +decide -implicitDefEqProofs only[k63,go_sem,c1,c2,e2,decide_eq_false c3,e3,e4]
 refine⟨_,_,rfl,?_⟩
 unfold lastI encIns
 simp only[depth,view_tup,view_agg,mapC_cons,mapC_nil,view_int,view_ints,view_bool,Option.bind_some,Option.map_some]
theorem last_none (f:Tm.Func)(b:Int)(hb:¬hasLast f.blocks b):RunsF Try.prog tab 1 63 [.agg (encFunc f),int b] (.tup [.agg (encIns noIns),bool false]):=by
 refine RunsF.by (rs:=[.cell 4 56,.tmp 5]) (N:=39) rfl Try.func63 rfl rfl (by simp) (by simp only[mapC_cons,mapC_nil,depth,view_func f,view_int,Option.bind_some]) fun k hk=>?_
 rw[enc_func]
 by_cases c1:b<0
 ·simp +decide -implicitDefEqProofs only[k63,go_sem,decide_eq_true c1]
  exact⟨_,_,rfl,rfl⟩
 by_cases c2:b≥f.blocks.length
 ·simp +decide -implicitDefEqProofs only[k63,go_sem,decide_eq_false c1,decide_eq_true c2]
  exact⟨_,_,rfl,rfl⟩
 have e2:0≤b∧b<f.blocks.length:=by omega
 have c3:((blkAt f.blocks b).ins.length:Int)=0:=by
  by_cases c3:((blkAt f.blocks b).ins.length:Int)=0
  ·exact c3
  ·exact absurd ⟨e2.1,e2.2,ins_ne.2 c3⟩ hb
 simp +decide -implicitDefEqProofs only[k63,go_sem,decide_eq_false c1,decide_eq_false c2,e2,decide_eq_true c3]
 exact⟨_,_,rfl,rfl⟩
section
variable {n:Nat}
theorem rnext_loop (f:Tm.Func)(a:Ins)(hx:a.into.length<2^35){k:Nat}(hk:2^35+3≤k)(d:Nat):∀(i m:Nat),i+d=a.into.length→d<m→∀(h:Heap) (c:C) (out:List Int),h[0]?=some (.row 0 (encFunc f))→h[1]?=some (.row 0 (encIns a))→Grow h c out→(∀o k,c≠ .os 0 0 o k)→(∀o k,c≠ .os 1 0 o k)→out.length≤i→
    ∃h' c',Tm.Loop Try.prog (valsOf tab) (callAt Try.prog tab k) n [2,5,7,8] k20b0 m ⟨[(2,.op 0 0),(5,.op 1 0),(7,c),(8,int i)],h⟩=some (.exit 0,⟨[(2,.op 0 0),(5,.op 1 0),(7,c'),(8,int a.into.length),(32,bool false)],h'⟩)∧Grow h' c' ((a.into.drop i).foldl (addTo f.blocks.length) out)
 :=by
  induction d with
  |zero=>
    intro i m hi hm h c out h0 h1 ho hne hne1 hl
    obtain⟨m,rfl⟩:∃p,m=p+1:=⟨m-1,by omega⟩
    obtain rfl:i=a.into.length:=by omega
    rw[Tm.Loop_succ]
    unfold encIns at h1
    simp +decide -implicitDefEqProofs only[k20b0,go_sem,h1,Int.lt_irrefl,decide_false]
    exact⟨h,c,rfl,by simpa using ho⟩
  |succ d ih=>
    intro i m hi hm h c out h0 h1 ho hne hne1 hl
    obtain⟨m,rfl⟩:∃p,m=p+1:=⟨m-1,by omega⟩
    replace ih:=ih (i+1) m (by omega) (by omega)
    rw[Tm.Loop_succ,drop_rd (xs:=a.into) (i:=i) (by omega),List.foldl_cons]
    generalize Tm.Loop Try.prog (valsOf tab) (callAt Try.prog tab k) n [2,5,7,8] k20b0 m=L at ih⊢
    have e1:decide ((i:Int)<a.into.length)=true:=by simp;omega
    have e2:0≤(i:Int)∧(i:Int)<a.into.length:=by omega
    have e3:=wrap_next (n:=a.into.length) (i:=i) (by omega) (by omega)
    have hcall:=in_runs out (rd a.into i) (by omega) k (by omega) [c,int (rd a.into i)] h (by simp only[mapC_cons,mapC_nil,depth,ho.view,view_int,Option.bind_some])
    have h0':=h0
    have h1':=h1
    rw[enc_func] at h0
    unfold encIns at h1
    by_cases c1:rd a.into i≥0
    · by_cases c2:rd a.into i<(f.blocks.length:Int)
      · by_cases c3:rd a.into i∈out
        · have ha:addTo f.blocks.length out (rd a.into i)=out:=if_neg (fun h=>h.2.2 c3)
          rw[ha]
          simp +decide -implicitDefEqProofs only[k20b0,go_sem,e1,e2,e3,h0,h1,decide_eq_true c1,decide_eq_true c2,decide_eq_true c3,hcall]
          exact ih h c out h0' h1' ho hne hne1 (by omega)
        · have ha:addTo f.blocks.length out (rd a.into i)=out++[rd a.into i]:=if_pos ⟨c1,c2,c3⟩
          rw[ha]
          have hlen:=(List.getElem?_eq_some_iff.1 h0).1
          have hlen1:=(List.getElem?_eq_some_iff.1 h1).1
          have ho':Grow (h++[.row 1 [int (rd a.into i)]]) c out:=ho.mono fun l nd hl=>by rw[List.getElem?_append_left (List.getElem?_eq_some_iff.1 hl).1];exact hl
          obtain⟨c',h',g1,g2,g4,g3⟩:=ho'.append (rd a.into i) (by unfold maxRow;omega)
          have g0:(h++[Node.row 1 [int (rd a.into i)]])[h.length]?=some (.row 1 [int (rd a.into i)]):=by simp
          simp +decide -implicitDefEqProofs only[k20b0,go_sem,e1,e2,e3,h0,h1,decide_eq_true c1,decide_eq_true c2,decide_eq_false c3,hcall,g0,g1]
          refine ih h' c' (out++[rd a.into i]) (g3 0 _ (by rw[List.getElem?_append_left hlen];exact h0') hne) (g3 1 _ (by rw[List.getElem?_append_left hlen1];exact h1') hne1) g2 (fun o k e=>?_) (fun o k e=>?_) (by simp;omega)
          · rw[g4] at e
            simp at e
          · rw[g4] at e
            simp at e
            obtain⟨rfl,_⟩:=e
            simp at hlen1
      · have ha:addTo f.blocks.length out (rd a.into i)=out:=if_neg (fun h=>c2 h.2.1)
        rw[ha]
        simp +decide -implicitDefEqProofs only[k20b0,go_sem,e1,e2,e3,h0,h1,decide_eq_true c1,decide_eq_false c2]
        exact ih h c out h0' h1' ho hne hne1 (by omega)
    · have ha:addTo f.blocks.length out (rd a.into i)=out:=if_neg (fun h=>c1 h.1)
      rw[ha]
      simp +decide -implicitDefEqProofs only[k20b0,go_sem,e1,e2,e3,h0,h1,decide_eq_false c1]
      exact ih h c out h0' h1' ho hne hne1 (by omega)
theorem rnext_runs (f:Tm.Func)(F:Fine f)(b:Int):Runs Try.prog tab (2^36+1) 20 [.agg (encFunc f),int b] (ints (nextOf f.blocks b)):=by
 refine Runs.by (rs:=[.tmp 4]) (N:=60) rfl Try.func20 rfl rfl (by simp) fun k hk=>?_
 by_cases hb:hasLast f.blocks b
 ·have hl:∀h,callAt Try.prog tab k 63 [.agg (encFunc f),int b] h=some (.tup [.agg (encIns (lastI f.blocks b)),bool true],h):=last_runs f F b hb k (by omega)
  by_cases c4:(lastI f.blocks b).op=27∨(lastI f.blocks b).op=28
  ·have e:nextOf f.blocks b=(lastI f.blocks b).into.foldl (addTo f.blocks.length) []:=if_pos ⟨hb.1,hb.2.1,hb.2.2,c4⟩
   rw[e]
   have e4:0≤((blkAt f.blocks b).ins.length:Int)-1∧((blkAt f.blocks b).ins.length:Int)-1<((blkAt f.blocks b).ins.length:Int):=by
    have:=ins_ne.1 hb.2.2
    omega
   have hx:(lastI f.blocks b).into.length<2^35:=Nat.lt_of_le_of_lt (F.into _ (blkAt_mem ⟨hb.1,hb.2.1⟩) _ (insAt_mem e4)).2 (by decide)
   generalize lastI f.blocks b=a at hl c4 hx⊢
   obtain⟨h',c',g1,g2⟩:=rnext_loop (n:=k) f a hx (k:=k) (by omega) a.into.length 0 k (by omega) (by omega) [.row 0 (encFunc f),.row 0 (encIns a)] (.v (.slice none 0 0)) [] rfl rfl (.inl ⟨rfl,rfl⟩) (fun o k h=>by cases h) (fun o k h=>by cases h) (Nat.le_refl _)
   rw[enc_func,show((0:Nat):Int)=0 from rfl] at g1
   rw[enc_func] at hl⊢
   unfold encIns at g1 hl
   have hv:=g2.view (cl:=true) (n:=10)
   rw[List.drop_zero] at hv
   by_cases q:a.op=27
   ·simp +decide -implicitDefEqProofs only[k20,go_sem,hl,tupAt,decide_eq_true q,g1]
    exact⟨_,_,rfl,hv⟩
   ·have q2:=c4.resolve_left q
    simp +decide -implicitDefEqProofs only[k20,go_sem,hl,tupAt,decide_eq_false q,decide_eq_true q2,g1]
    exact⟨_,_,rfl,hv⟩
  ·have e:nextOf f.blocks b=[]:=if_neg (fun h=>c4 h.2.2.2)
   rw[e]
   generalize lastI f.blocks b=a at hl c4⊢
   have d1:a.op≠27:=fun h=>c4 (.inl h)
   have d2:a.op≠28:=fun h=>c4 (.inr h)
   rw[enc_func] at hl⊢
   unfold encIns at hl
   simp +decide -implicitDefEqProofs only[k20,go_sem,hl,tupAt,decide_eq_false d1,decide_eq_false d2]
   exact⟨_,_,rfl,rfl⟩
 ·have e:nextOf f.blocks b=[]:=if_neg (fun h=>hb ⟨h.1,h.2.1,h.2.2.1⟩)
  rw[e]
  have hl:∀h,callAt Try.prog tab k 63 [.agg (encFunc f),int b] h=some (.tup [.agg (encIns noIns),bool false],h):=last_none f b hb k (by omega)
  rw[enc_func] at hl⊢
  unfold encIns at hl
  simp +decide -implicitDefEqProofs only[k20,go_sem,hl,tupAt]
  exact⟨_,_,rfl,rfl⟩
end
theorem rprev_in (f:Tm.Func){vals:FuncId→Bool}{call:CallF}{n:Nat}(b:Int)(x:List Int)(hx:∀v∈x,0≤v∧v<(f.blocks.length:Int))(hx2:x.length≤20)(d:Nat):∀(i m:Nat),i+d=x.length→d<m→∀(h:Heap) (cells:List C) (acc:List (List Int)) (M:Nat),h[0]?=some (.row 0 (encFunc f))→Tm.Rows h 1 cells acc→acc.length=f.blocks.length→(∀j,(acc.getD j []).length≤M)→M+d<2^30→
  ∃h' cells',Tm.Loop Try.prog vals call n [1,3,4,5,6] k23b0 m ⟨[(1,.op 0 0),(3,.os 1 0 f.blocks.length (some f.blocks.length)),(4,int b),(5,ints x),(6,int i)],h⟩=some (.exit 2,⟨[(1,.op 0 0),(3,.os 1 0 f.blocks.length (some f.blocks.length)),(4,int b),(5,ints x),(6,int x.length),(24,bool false)],h'⟩)∧
   h'[0]?=some (.row 0 (encFunc f))∧Tm.Rows h' 1 cells' ((x.drop i).foldl (push b) acc)∧((x.drop i).foldl (push b) acc).length=f.blocks.length∧(∀j,(((x.drop i).foldl (push b) acc).getD j []).length≤M+d):=by
 induction d with
 |zero=>
  intro i m hi hm h cells acc M h0 hR hL hM _
  obtain⟨m,rfl⟩:∃p,m=p+1:=⟨m-1,by omega⟩
  obtain rfl:i=x.length:=by omega
  rw[Tm.Loop_succ]
  simp +decide -implicitDefEqProofs only[k23b0,go_sem,Int.lt_irrefl,decide_false]
  exact⟨h,cells,rfl,h0,by simpa using hR,by simpa using hL,by simpa using hM⟩
 |succ d ih=>
  intro i m hi hm h cells acc M h0 hR hL hM hMd
  obtain⟨m,rfl⟩:∃p,m=p+1:=⟨m-1,by omega⟩
  replace ih:=ih (i+1) m (by omega) (by omega)
  rw[Tm.Loop_succ,drop_rd (xs:=x) (i:=i) (by omega),List.foldl_cons]
  generalize Tm.Loop Try.prog vals call n [1,3,4,5,6] k23b0 m=L at ih⊢
  have e1:decide ((i:Int)<x.length)=true:=by simp;omega
  have e2:0≤(i:Int)∧(i:Int)<x.length:=by omega
  have e3:=wrap_next (n:=x.length) (i:=i) (by omega) (by omega)
  have e4:=hx _ (rd_mem e2.1 e2.2)
  have e5:(rd x i).toNat<acc.length:=by omega
  obtain⟨c,c',h',g1,g2,g3,g4,g5,g6,g7,g8⟩:=hR.append e5 b (by have:=hM (rd x i).toNat;unfold maxRow;omega)
  have g1':=get_isSome g1
  have g3':storeR h' 1 (rd x i).toNat 1 (some (.row 1 cells)) [c']=some (h'.set 1 (.row 1 (cells.set (rd x i).toNat c'))):=by
   rw[storeR_row,if_pos ⟨rfl,by simp;omega,by simp[g5]⟩]
   have:=put_map (f:=id) (v:=c') g6
   simp only[List.map_id,id] at this
   rw[this]
  have hat:=hR.at_
  simp +decide -implicitDefEqProofs only[k23b0,go_sem,e1,e2,e3,e4,hat,g1',g2,g3,g3',g4]
  obtain⟨h2,cells2,q1,q2,q3,q4,q5⟩:=ih _ _ _ (M+1) (g8 0 _ (by omega) h0) g7 (by simp[hL]) (fun j=>push_row (t:=rd x i) (b:=b) j M hM) (by omega)
  exact⟨h2,cells2,q1,q2,q3,q4,fun j=>by have:=q5 j;unfold push at this⊢;omega⟩
theorem rnext_call (f:Tm.Func)(F:Fine f)(b:Int){k:Nat}(hk:2^36+1≤k)(h:Heap):callAt Try.prog tab k 20 [.agg [str f.name,bool f.out,ints f.params,int f.result,blocks f.blocks],int b] h=some (ints (nextOf f.blocks b),h):=by
 have:=rnext_runs f F b k hk [.agg (encFunc f),int b] h (by simp only[mapC_cons,mapC_nil,depth,view_func f,view_int,Option.bind_some])
 exact this
theorem rprev_out (f:Tm.Func)(F:Fine f){vals:FuncId→Bool}{k n:Nat}(hk:2^36+1≤k)(hn:30≤n)(d:Nat):∀(i m:Nat),i+d=f.blocks.length→d<m→∀(h:Heap) (cells:List C) (acc:List (List Int)),h[0]?=some (.row 0 (encFunc f))→Tm.Rows h 1 cells acc→acc.length=f.blocks.length→(∀j,(acc.getD j []).length≤20*i)→
  ∃h' cells',Tm.Loop Try.prog vals (callAt Try.prog tab k) n [1,3,4] k23b1 m ⟨[(1,.op 0 0),(3,.os 1 0 f.blocks.length (some f.blocks.length)),(4,int i)],h⟩=some (.exit 0,⟨[(1,.op 0 0),(3,.os 1 0 f.blocks.length (some f.blocks.length)),(4,int f.blocks.length),(15,bool false)],h'⟩)∧
   Tm.Rows h' 1 cells' (prevFrom f.blocks d i acc)∧(prevFrom f.blocks d i acc).length=f.blocks.length:=by
 have hb:=F.blocks
 induction d with
 |zero=>
  intro i m hi hm h cells acc h0 hR hL hM
  obtain⟨m,rfl⟩:∃p,m=p+1:=⟨m-1,by omega⟩
  obtain rfl:i=f.blocks.length:=by omega
  rw[Tm.Loop_succ]
  rw[enc_func] at h0
  simp +decide -implicitDefEqProofs only[k23b1,go_sem,h0,Int.lt_irrefl,decide_false,prevFrom]
  exact⟨h,cells,rfl,hR,hL⟩
 |succ d ih=>
  intro i m hi hm h cells acc h0 hR hL hM
  obtain⟨m,rfl⟩:∃p,m=p+1:=⟨m-1,by omega⟩
  replace ih:=ih (i+1) m (by omega) (by omega)
  rw[Tm.Loop_succ]
  generalize Tm.Loop Try.prog vals (callAt Try.prog tab k) n [1,3,4] k23b1 m=L at ih⊢
  have e1:decide ((i:Int)<f.blocks.length)=true:=by simp;omega
  have e3:=wrap_next (n:=f.blocks.length) (i:=i) (by omega) (by omega)
  have hx:=next_len F i
  obtain⟨h',cells',g1,g2,g3,g4,g5⟩:=rprev_in (vals:=vals) (call:=callAt Try.prog tab k) (n:=n) f i (nextOf f.blocks i) (fun v hv=>next_in hv) hx (nextOf f.blocks i).length 0 n (by omega) (by omega) h cells acc (20*i) h0 hR hL hM (by omega)
  rw[show((0:Nat):Int)=0 from rfl] at g1
  rw[List.drop_zero] at g3 g4 g5
  have hcall:=rnext_call f F i hk h
  rw[enc_func] at h0
  simp +decide -implicitDefEqProofs only[k23b1,go_sem,e1,e3,h0,hcall,g1]
  rw[enc_func] at g2
  exact ih h' cells' _ (by rw[enc_func];exact g2) g3 g4 (fun j=>by have:=g5 j;omega)
theorem rprev_runs (f:Tm.Func)(F:Fine f):Runs Try.prog tab (2^36+2) 23 [.agg (encFunc f)] (rows (prevOf f.blocks)):=by
 have hb:=F.blocks
 refine Runs.by (rs:=[.tmp 2]) (N:=44) rfl Try.func23 rfl rfl (by simp) fun k hk=>?_
 have R0:Tm.Rows [.row 0 (encFunc f),.row 1 (List.replicate f.blocks.length (.v (.slice none 0 0)))] 1 (List.replicate f.blocks.length (.v (.slice none 0 0))) (List.replicate f.blocks.length []):=by
  refine⟨rfl,by simp,fun j c hc=>?_,fun j l hl=>?_,fun j k l hj=>?_⟩
  ·obtain⟨hj,rfl⟩:=List.getElem?_eq_some_iff.1 hc
   refine .inl ⟨?_,by simp⟩
   simp only[List.getD_eq_getElem?_getD,List.getElem?_replicate];split<;>rfl
  ·rw[List.getElem?_replicate] at hl;split at hl<;>cases hl
  ·rw[List.getElem?_replicate] at hj;split at hj<;>cases hj
 obtain⟨h',cells',g1,g2,g3⟩:=rprev_out f F (vals:=valsOf tab) (k:=k) (n:=k) (by omega) (by omega) f.blocks.length 0 k (by omega) (by omega) _ _ _ rfl R0 (by simp) (fun j=>by rw[List.getD_eq_getElem?_getD,List.getElem?_replicate];split<;>simp)
 rw[show((0:Nat):Int)=0 from rfl,enc_func] at g1
 rw[enc_func]
 have eM:0≤(f.blocks.length:Int)∧(f.blocks.length:Int)≤(f.blocks.length:Int)∧(f.blocks.length:Int)≤(maxRow:Nat):=⟨by omega,by omega,by unfold maxRow;omega⟩
 simp +decide -implicitDefEqProofs only[k23,go_sem,eM,Int.toNat_natCast,rep_one,g1]
 refine⟨_,_,rfl,?_⟩
 have:=g2.view (cl:=true) (n:=9) (cap:=some f.blocks.length)
 rw[g3] at this
 exact this
structure Up (o:List Bool)(ag:Bool)(o':List Bool)(ag':Bool):Prop where
 len:o'.length=o.length
 mono:∀v:Int,rdOf false o v=true→rdOf false o' v=true
 le:o'.count false≤o.count false
 quiet:ag'=false→o'=o∧ag=false
 loud:ag=false→ag'=true→o'.count false<o.count false
theorem Up.refl (o:List Bool)(ag:Bool):Up o ag o ag:=⟨rfl,fun _ h=>h,Nat.le_refl _,fun h=>⟨rfl,h⟩,fun h h2=>by rw[h] at h2;cases h2⟩
theorem Up.trans {o o1 o2:List Bool}{a a1 a2:Bool}(h:Up o a o1 a1)(k:Up o1 a1 o2 a2):Up o a o2 a2:=by
 refine⟨k.len.trans h.len,fun v hv=>k.mono v (h.mono v hv),Nat.le_trans k.le h.le,fun e=>?_,fun e e2=>?_⟩
 ·obtain⟨e1,e2⟩:=k.quiet e
  obtain⟨e3,e4⟩:=h.quiet e2
  exact⟨e1.trans e3,e4⟩
 ·cases a1 with
  |true=>exact Nat.lt_of_le_of_lt k.le (h.loud e rfl)
  |false=>exact Nat.lt_of_lt_of_le (k.loud rfl e2) h.le
theorem Up.mark {o:List Bool}{i:Nat}{ag:Bool}(h:i<o.length)(hf:o.getD i false=false):Up o ag (o.set i true) true:=by
 have hc:=countf_put h hf
 exact⟨by simp,fun v hv=>rdb_up hv,by omega,(fun e=>by cases e),(fun _ _=>by omega)⟩
def Met (l:List Block)(less:Int)(o:List Bool):Prop:=∀v:Int,0≤v→v<(l.length:Int)→rdOf false o v=true→Rc (nextOf l) (· ≠less) 0 v
theorem Met.mark {l:List Block}{less:Int}{o:List Bool}(h:Met l less o)(hl:o.length=l.length){t:Int}(t0:0≤t)(t1:t<(l.length:Int))(ht:Rc (nextOf l) (· ≠less) 0 t):Met l less (o.set t.toNat true):=fun v v0 v1 hv=>by
 rw[rdb_set t0 (by omega) v0] at hv
 by_cases e:t=v
 ·subst e;exact ht
 ·rw[if_neg e] at hv;exact h v v0 v1 hv
theorem from_in (f:Tm.Func)(less:Int){vals:FuncId→Bool}{call:CallF}{n:Nat}(b:Int)(x:List Int)(hx:∀v∈x,0≤v∧v<(f.blocks.length:Int))(hx2:x.length≤20)(hR:∀v∈x,v≠less→Rc (nextOf f.blocks) (· ≠less) 0 v)(d:Nat):∀(i m:Nat),i+d=x.length→d<m→∀(h:Heap) (o:List Bool) (ag:Bool),h[0]?=some (.row 0 (encFunc f))→h[1]?=some (.row 1 (o.map bool))→o.length=f.blocks.length→Met f.blocks less o→
  ∃h' o' ag',Tm.Loop Try.prog vals call n [2,3,7,8,9,10,11] k65b0 m ⟨[(2,int less),(3,.op 0 0),(7,.os 1 0 f.blocks.length (some f.blocks.length)),(8,bool ag),(9,int b),(10,ints x),(11,int i)],h⟩=some (.exit 4,⟨[(2,int less),(3,.op 0 0),(7,.os 1 0 f.blocks.length (some f.blocks.length)),(8,bool ag'),(9,int b),(10,ints x),(11,int x.length),(51,bool false)],h'⟩)∧
   h'[0]?=some (.row 0 (encFunc f))∧h'[1]?=some (.row 1 (o'.map bool))∧Up o ag o' ag'∧Met f.blocks less o'∧(∀t∈x.drop i,t≠less→rdOf false o' t=true):=by
 induction d with
 |zero=>
  intro i m hi hm h o ag h0 h1 hL hM
  obtain⟨m,rfl⟩:∃p,m=p+1:=⟨m-1,by omega⟩
  obtain rfl:i=x.length:=by omega
  rw[Tm.Loop_succ]
  simp +decide -implicitDefEqProofs only[k65b0,go_sem,Int.lt_irrefl,decide_false]
  exact⟨h,o,ag,rfl,h0,h1,Up.refl _ _,hM,fun t ht=>by simp at ht⟩
 |succ d ih=>
  intro i m hi hm h o ag h0 h1 hL hM
  obtain⟨m,rfl⟩:∃p,m=p+1:=⟨m-1,by omega⟩
  replace ih:=ih (i+1) m (by omega) (by omega)
  rw[Tm.Loop_succ,drop_rd (xs:=x) (i:=i) (by omega)]
  generalize Tm.Loop Try.prog vals call n [2,3,7,8,9,10,11] k65b0 m=L at ih⊢
  have e1:decide ((i:Int)<x.length)=true:=by simp;omega
  have e2:0≤(i:Int)∧(i:Int)<x.length:=by omega
  have e3:=wrap_next (n:=x.length) (i:=i) (by omega) (by omega)
  have hmem:=rd_mem e2.1 e2.2
  have e4:=hx _ hmem
  have e5:(rd x i).toNat<o.length:=by omega
  by_cases c1:rd x i=less
  ·simp +decide -implicitDefEqProofs only[k65b0,go_sem,e1,e2,e3,decide_eq_true c1]
   obtain⟨h',o',ag',q1,q2,q3,q4,q5,q6⟩:=ih h o ag h0 h1 hL hM
   refine⟨h',o',ag',q1,q2,q3,q4,q5,fun t ht hne=>?_⟩
   rcases List.mem_cons.1 ht with rfl|ht
   ·exact absurd c1 hne
   ·exact q6 t ht hne
  ·cases c2:rdOf false o (rd x i) with
   |true=>
    have c2':o.getD (rd x i).toNat false=true:=c2
    simp +decide -implicitDefEqProofs only[k65b0,go_sem,e1,e2,e3,e4,e5,h1,decide_eq_false c1,c2']
    obtain⟨h',o',ag',q1,q2,q3,q4,q5,q6⟩:=ih h o ag h0 h1 hL hM
    refine⟨h',o',ag',q1,q2,q3,q4,q5,fun t ht hne=>?_⟩
    rcases List.mem_cons.1 ht with rfl|ht
    ·exact q4.mono _ c2
    ·exact q6 t ht hne
   |false=>
    have c2':o.getD (rd x i).toNat false=false:=c2
    have hlen:=(List.getElem?_eq_some_iff.1 h1).1
    have a1:storeR h 1 (rd x i).toNat 1 (some (.row 1 (o.map bool))) [bool true]=some (h.set 1 (.row 1 ((o.set (rd x i).toNat true).map bool))):=by
     rw[storeR_row,if_pos ⟨rfl,by simp;omega,rfl⟩,put_map (f:=bool) e5]
    simp +decide -implicitDefEqProofs only[k65b0,go_sem,e1,e2,e3,e4,e5,h1,decide_eq_false c1,c2',a1]
    have hm1:=hM.mark hL e4.1 e4.2 (hR _ hmem c1)
    have hset:rdOf false (o.set (rd x i).toNat true) (rd x i)=true:=by rw[rdb_set e4.1 (by omega) e4.1,if_pos rfl]
    obtain⟨h',o',ag',q1,q2,q3,q4,q5,q6⟩:=ih (h.set 1 (.row 1 ((o.set (rd x i).toNat true).map bool))) (o.set (rd x i).toNat true) true (by rw[List.getElem?_set_ne (by decide)];exact h0) (by rw[List.getElem?_set_self hlen]) (by simpa using hL) hm1
    refine⟨h',o',ag',q1,q2,q3,(Up.mark e5 c2').trans q4,q5,fun t ht hne=>?_⟩
    rcases List.mem_cons.1 ht with rfl|ht
    ·exact q4.mono _ hset
    ·exact q6 t ht hne
theorem from_pass (f:Tm.Func)(F:Fine f)(less:Int){vals:FuncId→Bool}{k n:Nat}(hk:2^36+1≤k)(hn:30≤n)(d:Nat):∀(i m:Nat),i+d=f.blocks.length→d<m→∀(h:Heap) (o:List Bool) (ag:Bool),h[0]?=some (.row 0 (encFunc f))→h[1]?=some (.row 1 (o.map bool))→o.length=f.blocks.length→Met f.blocks less o→
  ∃h' o' ag',Tm.Loop Try.prog vals (callAt Try.prog tab k) n [2,3,7,8,9] k65b1 m ⟨[(2,int less),(3,.op 0 0),(7,.os 1 0 f.blocks.length (some f.blocks.length)),(8,bool ag),(9,int i)],h⟩=some (.exit 2,⟨[(2,int less),(3,.op 0 0),(7,.os 1 0 f.blocks.length (some f.blocks.length)),(8,bool ag'),(9,int f.blocks.length),(37,bool false)],h'⟩)∧
   h'[0]?=some (.row 0 (encFunc f))∧h'[1]?=some (.row 1 (o'.map bool))∧Up o ag o' ag'∧Met f.blocks less o'∧(ag'=false→∀b:Nat,i≤b→b<f.blocks.length→rdOf false o' b=true→∀t∈nextOf f.blocks b,t≠less→rdOf false o' t=true):=by
 have hb:=F.blocks
 induction d with
 |zero=>
  intro i m hi hm h o ag h0 h1 hL hM
  obtain⟨m,rfl⟩:∃p,m=p+1:=⟨m-1,by omega⟩
  obtain rfl:i=f.blocks.length:=by omega
  rw[Tm.Loop_succ]
  simp +decide -implicitDefEqProofs only[k65b1,go_sem,Int.lt_irrefl,decide_false]
  exact⟨h,o,ag,rfl,h0,h1,Up.refl _ _,hM,fun _ b h1 h2=>by omega⟩
 |succ d ih=>
  intro i m hi hm h o ag h0 h1 hL hM
  obtain⟨m,rfl⟩:∃p,m=p+1:=⟨m-1,by omega⟩
  replace ih:=ih (i+1) m (by omega) (by omega)
  rw[Tm.Loop_succ]
  generalize Tm.Loop Try.prog vals (callAt Try.prog tab k) n [2,3,7,8,9] k65b1 m=L at ih⊢
  have e1:decide ((i:Int)<f.blocks.length)=true:=by simp;omega
  have e3:=wrap_next (n:=f.blocks.length) (i:=i) (by omega) (by omega)
  have e4:0≤(i:Int)∧(i:Int)<(f.blocks.length:Int):=by omega
  have e5:i<o.length:=by omega
  cases c2:rdOf false o (i:Int) with
  |false=>
   have c2':o.getD i false=false:=by unfold rdOf at c2;rw[Int.toNat_natCast] at c2;exact c2
   simp +decide -implicitDefEqProofs only[k65b1,go_sem,e1,e3,e4,e5,h1,Int.toNat_natCast,c2']
   obtain⟨h',o',ag',q1,q2,q3,q4,q5,q6⟩:=ih h o ag h0 h1 hL hM
   refine⟨h',o',ag',q1,q2,q3,q4,q5,fun ea b hb1 hb2 hob=>?_⟩
   by_cases eb:b=i
   ·subst eb
    rw[(q4.quiet ea).1,c2] at hob
    cases hob
   ·exact q6 ea b (by omega) hb2 hob
  |true=>
   have c2':o.getD i false=true:=by unfold rdOf at c2;rw[Int.toNat_natCast] at c2;exact c2
   have hmi:=hM i e4.1 e4.2 c2
   obtain⟨h2,o2,ag2,g1,g2,g3,g4,g5,g6⟩:=from_in (vals:=vals) (call:=callAt Try.prog tab k) (n:=n) f less i (nextOf f.blocks i) (fun v hv=>next_in hv) (next_len F i) (fun v hv hne=>.step hmi hv hne) (nextOf f.blocks i).length 0 n (by have:=next_len F i;omega) (by have:=next_len F i;omega) h o ag h0 h1 hL hM
   rw[show((0:Nat):Int)=0 from rfl] at g1
   rw[List.drop_zero] at g6
   have hcall:=rnext_call f F i hk h
   have h0':=h0
   rw[enc_func] at h0'
   simp +decide -implicitDefEqProofs only[k65b1,go_sem,e1,e3,e4,e5,h0',h1,Int.toNat_natCast,c2',hcall,g1]
   obtain⟨h',o',ag',q1,q2,q3,q4,q5,q6⟩:=ih h2 o2 ag2 g2 g3 (g4.len.trans hL) g5
   refine⟨h',o',ag',q1,q2,q3,g4.trans q4,q5,fun ea b hb1 hb2 hob t ht hne=>?_⟩
   by_cases eb:b=i
   ·subst eb
    exact q4.mono _ (g6 t ht hne)
   ·exact q6 ea b (by omega) hb2 hob t ht hne
open Classical in
noncomputable def fromOf (l:List Block) (less:Int):List Bool:=(List.range l.length).map fun(v:Nat)=>decide (Rc (nextOf l) (· ≠less) 0 v)
theorem from_len (l:List Block)(less:Int):(fromOf l less).length=l.length:=by simp[fromOf]
theorem from_at {l:List Block}{less v:Int}(v0:0≤v)(v1:v<(l.length:Int)):rdOf false (fromOf l less) v=true↔Rc (nextOf l) (· ≠less) 0 v:=by
 have h:v.toNat<l.length:=by omega
 unfold rdOf fromOf
 rw[List.getD_eq_getElem?_getD,List.getElem?_map,List.getElem?_range h]
 simp only[Option.map_some,Option.getD_some,decide_eq_true_eq]
 rw[show((v.toNat:Nat):Int)=v by omega]
def Closed (l:List Block)(less:Int)(o:List Bool):Prop:=∀b:Nat,b<l.length→rdOf false o b=true→∀t∈nextOf l b,t≠less→rdOf false o t=true
theorem closed_from {l:List Block}{less:Int}{o:List Bool}(hL:o.length=l.length)(hM:Met l less o)(h0:rdOf false o 0=true)(hC:Closed l less o):o=fromOf l less:=by
 have hall:∀v:Int,Rc (nextOf l) (· ≠less) 0 v→rdOf false o v=true∧0≤v:=fun v hv=>by
  generalize e:(0:Int)=z at hv
  induction hv with
  |refl _=>subst e;exact⟨h0,Int.le_refl _⟩
  |step _ hw hP ih=>
   subst e
   obtain⟨i1,i2⟩:=ih
   rename_i u w _
   obtain⟨r1,r2⟩:=next_in hw
   by_cases c:u<(l.length:Int)
   ·have:=hC u.toNat (by omega) (by rw[show((u.toNat:Nat):Int)=u by omega];exact i1) w (by rw[show((u.toNat:Nat):Int)=u by omega];exact hw) hP
    exact⟨this,r1⟩
   ·exfalso
    unfold rdOf at i1
    rw[List.getD_eq_getElem?_getD,List.getElem?_eq_none (by omega)] at i1
    cases i1
 refine List.ext_getElem? fun j=>?_
 by_cases hj:j<l.length
 ·have h1:o[j]?=some (rdOf false o j):=by
   unfold rdOf
   rw[Int.toNat_natCast,List.getD_eq_getElem?_getD,List.getElem?_eq_getElem (by omega)];rfl
  have h2:(fromOf l less)[j]?=some (rdOf false (fromOf l less) j):=by
   unfold rdOf
   rw[Int.toNat_natCast,List.getD_eq_getElem?_getD,List.getElem?_eq_getElem (by rw[from_len];omega)];rfl
  rw[h1,h2]
  congr 1
  rw[Bool.eq_iff_iff,from_at (by omega) (by omega)]
  exact⟨fun h=>hM j (by omega) (by omega) h,fun h=>(hall _ h).1⟩
 ·rw[List.getElem?_eq_none (by omega),List.getElem?_eq_none (by rw[from_len];omega)]
theorem from_again (f:Tm.Func)(F:Fine f)(less:Int){vals:FuncId→Bool}{k n:Nat}(hk:2^36+1≤k)(hn:30≤n)(c:Nat):∀(m:Nat) (h:Heap) (o:List Bool) (ag:Bool),o.count false+(if ag=true then 1 else 0)≤c→c<m→h[0]?=some (.row 0 (encFunc f))→h[1]?=some (.row 1 (o.map bool))→o.length=f.blocks.length→Met f.blocks less o→rdOf false o 0=true→(ag=false→Closed f.blocks less o)→
  ∃h',Tm.Loop Try.prog vals (callAt Try.prog tab k) n [2,3,7,8] k65b2 m ⟨[(2,int less),(3,.op 0 0),(7,.os 1 0 f.blocks.length (some f.blocks.length)),(8,bool ag)],h⟩=some (.exit 0,⟨[(2,int less),(3,.op 0 0),(7,.os 1 0 f.blocks.length (some f.blocks.length)),(33,bool false)],h'⟩)∧h'[1]?=some (.row 1 ((fromOf f.blocks less).map bool)):=by
 have hb:=F.blocks
 induction c with
 |zero=>
  intro m h o ag hc hm h0 h1 hL hM hz hC
  obtain⟨m,rfl⟩:∃p,m=p+1:=⟨m-1,by omega⟩
  cases ag with
  |true=>rw[if_pos rfl] at hc;omega
  |false=>
   rw[Tm.Loop_succ]
   simp +decide -implicitDefEqProofs only[k65b2,go_sem]
   exact⟨h,rfl,by rw[←closed_from hL hM hz (hC rfl)];exact h1⟩
 |succ c ih=>
  intro m h o ag hc hm h0 h1 hL hM hz hC
  obtain⟨m,rfl⟩:∃p,m=p+1:=⟨m-1,by omega⟩
  cases ag with
  |false=>
   rw[Tm.Loop_succ]
   simp +decide -implicitDefEqProofs only[k65b2,go_sem]
   exact⟨h,rfl,by rw[←closed_from hL hM hz (hC rfl)];exact h1⟩
  |true=>
   rw[if_pos rfl] at hc
   rw[Tm.Loop_succ]
   replace ih:=ih m
   have hkeep:∀(w x y z:C) (u v:C) (q:Heap),Tm.Loop Try.prog vals (callAt Try.prog tab k) n [2,3,7,8] k65b2 m ⟨[(2,w),(3,x),(7,y),(8,z),(9,u),(37,v)],q⟩=Tm.Loop Try.prog vals (callAt Try.prog tab k) n [2,3,7,8] k65b2 m ⟨[(2,w),(3,x),(7,y),(8,z)],q⟩:=fun w x y z u v q=>by
    cases m with
    |zero=>rfl
    |succ m=>rw[Tm.Loop_succ,Tm.Loop_succ];rfl
   generalize Tm.Loop Try.prog vals (callAt Try.prog tab k) n [2,3,7,8] k65b2 m=L at ih hkeep⊢
   obtain⟨h2,o2,ag2,g1,g2,g3,g4,g5,g6⟩:=from_pass (vals:=vals) (n:=n) f F less hk hn f.blocks.length 0 n (by omega) (by omega) h o false h0 h1 hL hM
   rw[show((0:Nat):Int)=0 from rfl] at g1
   simp +decide -implicitDefEqProofs only[k65b2,go_sem,g1]
   rw[hkeep]
   refine ih h2 o2 ag2 ?_ (by omega) g2 g3 (g4.len.trans hL) g5 (g4.mono _ hz) (fun e b hb1=>g6 e b (Nat.zero_le _) hb1)
   cases ag2 with
   |true=>
    have:=g4.loud rfl rfl
    rw[if_pos rfl]
    omega
   |false=>
    rw[(g4.quiet rfl).1,if_neg (by decide)]
    omega
theorem from_none {l:List Block}:fromOf l 0=List.replicate l.length false:=by
 refine List.ext_getElem? fun j=>?_
 unfold fromOf
 rw[List.getElem?_map,List.getElem?_replicate]
 by_cases hj:j<l.length
 ·rw[List.getElem?_range hj,if_pos hj]
  simp only[Option.map_some,Option.some.injEq]
  rw[decide_eq_false_iff_not]
  exact fun h=>h.left rfl
 ·rw[List.getElem?_eq_none (by simpa using hj),if_neg hj];rfl
theorem rep_bool (n:Nat):List.replicate n (bool false)=(List.replicate n false).map bool:=by rw[List.map_replicate]
theorem from_runs (f:Tm.Func)(F:Fine f)(hpos:0<f.blocks.length)(less:Int):Runs Try.prog tab (2^36+2) 65 [.agg (encFunc f),int 0,int less] (bools (fromOf f.blocks less)):=by
 have hb:=F.blocks
 refine Runs.by (rs:=[.tmp 6]) (N:=77) rfl Try.func65 rfl rfl (by simp) fun k hk=>?_
 have eM:0≤(f.blocks.length:Int)∧(f.blocks.length:Int)≤(f.blocks.length:Int)∧(f.blocks.length:Int)≤(maxRow:Nat):=⟨by omega,by omega,by unfold maxRow;omega⟩
 have c1:decide ((0:Int)≥(f.blocks.length:Int))=false:=decide_eq_false (by omega)
 have e0:0≤(0:Int)∧(0:Int)<(f.blocks.length:Int):=by omega
 by_cases c2:(0:Int)=less
 ·rw[enc_func,←c2,from_none]
  simp +decide -implicitDefEqProofs only[k65,go_sem,eM,Int.toNat_natCast,rep_one,rep_bool,c1]
  refine⟨_,_,rfl,?_⟩
  have:=view_os_bools (cl:=true) (n:=10) (h:=[.row 0 [str f.name,bool f.out,ints f.params,int f.result,blocks f.blocks],.row 1 ((List.replicate f.blocks.length false).map bool)]) (l:=1) (xs:=List.replicate f.blocks.length false) (cap:=some f.blocks.length) rfl
  rw[List.length_replicate] at this
  exact this
 ·have hset:storeR [.row 0 (encFunc f),.row 1 ((List.replicate f.blocks.length false).map bool)] 1 0 1 (some (.row 1 ((List.replicate f.blocks.length false).map bool))) [bool true]=some [.row 0 (encFunc f),.row 1 (((List.replicate f.blocks.length false).set 0 true).map bool)]:=by
   rw[storeR_row,if_pos ⟨rfl,by simp;omega,rfl⟩,put_map (f:=bool) (by simp;omega)]
   rfl
  have hM:Met f.blocks less ((List.replicate f.blocks.length false).set 0 true):=fun v v0 v1 hv=>by
   rw[show(0:Nat)=((0:Int)).toNat from rfl,rdb_set (Int.le_refl 0) (by simp;omega) v0] at hv
   by_cases e:(0:Int)=v
   ·subst e;exact .refl c2
   ·rw[if_neg e] at hv
    unfold rdOf at hv
    rw[List.getD_eq_getElem?_getD,List.getElem?_replicate] at hv
    split at hv<;>cases hv
  obtain⟨h',g1,g2⟩:=from_again (vals:=valsOf tab) (k:=k) (n:=k) f F less (by omega) (by omega) 40 k [.row 0 (encFunc f),.row 1 (((List.replicate f.blocks.length false).set 0 true).map bool)] ((List.replicate f.blocks.length false).set 0 true) true (by
   have:((List.replicate f.blocks.length false).set 0 true).count false≤((List.replicate f.blocks.length false).set 0 true).length:=List.count_le_length
   rw[List.length_set,List.length_replicate] at this
   rw[if_pos rfl];omega) (by omega) rfl rfl (by simp) hM (by
   rw[show(0:Nat)=((0:Int)).toNat from rfl,rdb_set (Int.le_refl 0) (by simp;omega) (Int.le_refl 0),if_pos rfl]) (fun h=>by cases h)
  rw[enc_func] at*
  simp +decide -implicitDefEqProofs only[k65,go_sem,eM,Int.toNat_natCast,rep_one,rep_bool,c1,decide_eq_false c2,e0,Int.toNat_zero,hset,g1]
  refine⟨_,_,rfl,?_⟩
  have:=view_os_bools (cl:=true) (n:=10) (cap:=some f.blocks.length) g2
  rw[from_len] at this
  exact this
theorem rc_any {l:List Block}{v:Int}:Rc (nextOf l) (· ≠ -1) 0 v↔Rc (nextOf l) (fun _=>True) 0 v:=by
 constructor
 ·intro h
  induction h with
  |refl _=>exact .refl trivial
  |step _ hw _ ih=>exact .step ih hw trivial
 ·intro h
  generalize e:(0:Int)=z at h
  induction h with
  |refl _=>subst e;exact .refl (by decide)
  |step _ hw _ ih=>exact .step ih hw (by have:=(next_in hw).1;omega)
theorem reach_from (l:List Block):fromOf l (-1)=reachOf l:=by
 unfold fromOf reachOf
 refine List.map_congr_left fun v _=>?_
 rw[decide_eq_decide]
 exact rc_any
theorem rreach_runs (f:Tm.Func)(F:Fine f)(hpos:0<f.blocks.length):RunsF Try.prog tab (2^36+3) 26 [.agg (encFunc f)] (bools (reachOf f.blocks)):=by
 refine RunsF.by (rs:=[.tmp 2]) (N:=5) rfl Try.func26 rfl rfl (by simp) (by simp only[mapC_cons,mapC_nil,depth,view_func f,Option.bind_some]) fun k hk=>?_
 have hc:∀h,callAt Try.prog tab k 65 [.agg (encFunc f),int 0,int (-1)] h=some (bools (reachOf f.blocks),h):=fun h=>by
  have:=from_runs f F hpos (-1) k (by omega) [.agg (encFunc f),int 0,int (-1)] h (by simp only[mapC_cons,mapC_nil,depth,view_func f,view_int,Option.bind_some])
  rw[reach_from] at this
  exact this
 rw[enc_func] at*
 simp +decide -implicitDefEqProofs only[k26,go_sem,hc]
 exact⟨_,_,rfl,by simp[depth,go_sem]⟩
section
variable {vals:FuncId→Bool} {n:Nat}
theorem doms_in {call:CallF}(r w:List Bool)(nn i L:Nat)(hn:nn≤17)(hi:i<nn)(hr:r.length=nn)(hw:w.length=nn)(hL:L≠1)(cells:List C)(hci:(cells.drop i).head?=some (.os L 0 nn (some nn)))(p:C)(d:Nat):∀(j m:Nat),j+d=nn→d<m→∀(h:Heap) (o:List Bool),h[1]?=some (.row 1 cells)→h[L]?=some (.row 1 (o.map bool))→o.length=nn→
  ∃(h':Heap) (o':List Bool),Tm.Loop Try.prog vals call n [1,3,4,5,6,7] k35b0 m ⟨[(1,p),(3,.os 1 0 nn (some nn)),(4,bools r),(5,int i),(6,bools w),(7,int j)],h⟩=some (.exit 2,⟨[(1,p),(3,.os 1 0 nn (some nn)),(4,bools r),(5,int i),(6,bools w),(7,int nn),(37,bool false)],h'⟩)∧
   h'[L]?=some (.row 1 (o'.map bool))∧o'.length=nn∧(∀j',j≤j'→j'<nn→o'[j']?=some (rdOf false r j'&&(decide ((i:Int)=j')||!(rdOf false w j'))))∧(∀j',j'<j→o'[j']?=o[j']?)∧(∀(l:Nat) (nd:Tm.Node),l≠L→h[l]?=some nd→h'[l]?=some nd):=by
 induction d with
 |zero=>
  intro j m hj hm h o h2 hl ho
  obtain⟨m,rfl⟩:∃p,m=p+1:=⟨m-1,by omega⟩
  obtain rfl:j=nn:=by omega
  rw[Tm.Loop_succ]
  simp -implicitDefEqProofs only[k35b0,go_sem,hr,Int.lt_irrefl,decide_false]
  exact⟨h,o,rfl,hl,ho,fun j' a b=>by omega,fun _ _=>rfl,fun _ _ _ e=>e⟩
 |succ d ih=>
  intro j m hj hm h o h2 hl ho
  obtain⟨m,rfl⟩:∃p,m=p+1:=⟨m-1,by omega⟩
  replace ih:=ih (j+1) m (by omega) (by omega)
  rw[Tm.Loop_succ]
  generalize Tm.Loop Try.prog vals call n [1,3,4,5,6,7] k35b0 m=LL at ih⊢
  have e1:decide ((j:Int)<nn)=true:=by simp;omega
  have ei:0≤(i:Int)∧(i:Int)<nn:=by omega
  have ej:0≤(j:Int)∧(j:Int)<nn:=by omega
  have e3:=wrap_next (n:=nn) (i:=j) (by omega) (by omega)
  have hjo:j<o.length:=by omega
  have hLl:=(List.getElem?_eq_some_iff.1 hl).1
  have a1:∀v:Bool,storeR h L j 1 (some (.row 1 (o.map bool))) [bool v]=some (h.set L (.row 1 ((o.set j v).map bool))):=fun v=>by
   rw[storeR_row,if_pos ⟨rfl,by simp;omega,rfl⟩,put_map (f:=bool) hjo]
  obtain⟨h',o',g1,g2,g3,g4,g5,g6⟩:=ih (h.set L (.row 1 ((o.set j (rdOf false r j&&(decide ((i:Int)=j)||!(rdOf false w j)))).map bool))) (o.set j (rdOf false r j&&(decide ((i:Int)=j)||!(rdOf false w j)))) (by rw[List.getElem?_set_ne hL];exact h2) (by rw[List.getElem?_set_self hLl]) (by simp[ho])
  refine⟨h',o',?_,g2,g3,fun j' q1 q2=>?_,fun j' q=>by rw[g5 j' (by omega),List.getElem?_set_ne (by omega)],fun l nd q e=>g6 l nd q (by rw[List.getElem?_set_ne (Ne.symm q)];exact e)⟩
  ·cases c1:rdOf false r j with
   |true=>
    cases c2:decide ((i:Int)=j) with
    |true=>
     rw[c1,c2,Bool.true_and,Bool.true_or] at g1
     simp +decide -implicitDefEqProofs only[k35b0,go_sem,hr,hw,e1,ei,ej,e3,Int.toNat_natCast,h2,hci,hl,c1,c2,a1]
     exact g1
    |false=>
     rw[c1,c2,Bool.true_and,Bool.false_or] at g1
     simp +decide -implicitDefEqProofs only[k35b0,go_sem,hr,hw,e1,ei,ej,e3,Int.toNat_natCast,h2,hci,hl,c1,c2,a1]
     exact g1
   |false=>
    rw[c1,Bool.false_and] at g1
    simp +decide -implicitDefEqProofs only[k35b0,go_sem,hr,hw,e1,ei,ej,e3,Int.toNat_natCast,h2,hci,hl,c1,a1]
    exact g1
  ·by_cases e:j=j'
   ·subst e
    rw[g5 j (by omega),List.getElem?_set_self hjo]
   ·exact g4 j' (by omega) q2
end
structure OD (f:Tm.Func)(h:Heap)(cells:List C)(i:Nat):Prop where
 f0:h[0]?=some (.row 0 (encFunc f))
 at_:h[1]?=some (.row 1 cells)
 len:cells.length=f.blocks.length
 each:∀j,j<i→∃lj,cells[j]?=some (.os lj 0 f.blocks.length (some f.blocks.length))∧h[lj]?=some (.row 1 ((rowOv f.blocks j).map bool))∧1<lj
theorem OD.put {f:Tm.Func}{h h':Heap}{cells:List C}{i:Nat}(H:OD f h cells i)(hi:i<f.blocks.length)(h1:h'[0]?=h[0]?)(h2:h'[1]?=some (.row 1 (cells.set i (.os h.length 0 f.blocks.length (some f.blocks.length)))))(hL:h'[h.length]?=some (.row 1 ((rowOv f.blocks i).map bool)))(hh:∀(k:Nat) (nd:Tm.Node),1<k→h[k]?=some nd→h'[k]?=some nd):OD f h' (cells.set i (.os h.length 0 f.blocks.length (some f.blocks.length))) (i+1):=by
 have h2l:=(List.getElem?_eq_some_iff.1 H.at_).1
 refine⟨by rw[h1];exact H.f0,h2,by simp[H.len],fun j hj=>?_⟩
 by_cases e:j=i
 ·subst e
  exact⟨_,List.getElem?_set_self (by rw[H.len];exact hi),hL,h2l⟩
 ·obtain⟨lj,q1,q2,q3⟩:=H.each j (by omega)
  exact⟨lj,by rw[List.getElem?_set_ne (Ne.symm e)];exact q1,hh lj _ q3 q2,q3⟩
theorem doms_out (f:Tm.Func)(F:Fine f)(hpos:0<f.blocks.length){k n:Nat}(hk:2^36+2≤k)(hn:30≤n)(d:Nat):∀(i m:Nat),i+d=f.blocks.length→d<m→∀(h:Heap) (cells:List C),OD f h cells i→
  ∃h' cells',Tm.Loop Try.prog (valsOf tab) (callAt Try.prog tab k) n [1,3,4,5] k35b1 m ⟨[(1,.op 0 0),(3,.os 1 0 f.blocks.length (some f.blocks.length)),(4,bools (reachOf f.blocks)),(5,int i)],h⟩=some (.exit 0,⟨[(1,.op 0 0),(3,.os 1 0 f.blocks.length (some f.blocks.length)),(4,bools (reachOf f.blocks)),(5,int f.blocks.length),(17,bool false)],h'⟩)∧OD f h' cells' f.blocks.length:=by
 have hb:=F.blocks
 induction d with
 |zero=>
  intro i m hi hm h cells H
  obtain⟨m,rfl⟩:∃p,m=p+1:=⟨m-1,by omega⟩
  obtain rfl:i=f.blocks.length:=by omega
  rw[Tm.Loop_succ]
  simp -implicitDefEqProofs only[k35b1,go_sem,Int.lt_irrefl,decide_false]
  exact⟨h,cells,rfl,H⟩
 |succ d ih=>
  intro i m hi hm h cells H
  obtain⟨m,rfl⟩:∃p,m=p+1:=⟨m-1,by omega⟩
  replace ih:=ih (i+1) m (by omega) (by omega)
  rw[Tm.Loop_succ]
  generalize Tm.Loop Try.prog (valsOf tab) (callAt Try.prog tab k) n [1,3,4,5] k35b1 m=LL at ih⊢
  have hil:i<f.blocks.length:=by omega
  have e1:decide ((i:Int)<f.blocks.length)=true:=by simp;omega
  have ei:0≤(i:Int)∧(i:Int)<f.blocks.length:=by omega
  have e3:=wrap_next (n:=f.blocks.length) (i:=i) (by omega) (by omega)
  have eM:0≤(f.blocks.length:Int)∧(f.blocks.length:Int)≤(f.blocks.length:Int)∧(f.blocks.length:Int)≤(maxRow:Nat):=⟨by omega,by omega,by unfold maxRow;omega⟩
  have e7:=rep_map (f:=bool) f.blocks.length false
  have hrl:=reach_len f.blocks
  have h2l:1<h.length:=(List.getElem?_eq_some_iff.1 H.at_).1
  have hic:i<cells.length:=by rw[H.len];exact hil
  have hat:(h++[Tm.Node.row 1 ((List.replicate f.blocks.length false).map bool)])[1]?=some (.row 1 cells):=by rw[List.getElem?_append_left h2l];exact H.at_
  obtain⟨h2,hh2⟩:∃h2,h2=(h++[Tm.Node.row 1 ((List.replicate f.blocks.length false).map bool)]).set 1 (.row 1 (cells.set i (.os h.length 0 f.blocks.length (some f.blocks.length)))):=⟨_,rfl⟩
  have a1:storeR (h++[Tm.Node.row 1 ((List.replicate f.blocks.length false).map bool)]) 1 i 1 (some (.row 1 cells)) [.os h.length 0 f.blocks.length (some f.blocks.length)]=some h2:=by
   rw[storeR_row,if_pos ⟨rfl,by simp;omega,rfl⟩,put_cell hic,hh2]
  have g1:h2[0]?=h[0]?:=by rw[hh2,List.getElem?_set_ne (by decide),List.getElem?_append_left (by omega)]
  have g2:h2[1]?=some (.row 1 (cells.set i (.os h.length 0 f.blocks.length (some f.blocks.length)))):=by rw[hh2,List.getElem?_set_self (by simp;omega)]
  have gL:h2[h.length]?=some (.row 1 ((List.replicate f.blocks.length false).map bool)):=by rw[hh2,List.getElem?_set_ne (by omega)];simp
  have gh:∀(k:Nat) (nd:Tm.Node),1<k→h[k]?=some nd→h2[k]?=some nd:=fun k nd q e=>by rw[hh2,List.getElem?_set_ne (by omega),List.getElem?_append_left (List.getElem?_eq_some_iff.1 e).1];exact e
  cases hr:rdOf false (reachOf f.blocks) i with
  |false=>
   have hno:¬Rc (nextOf f.blocks) (fun _=>True) 0 (i:Int):=fun q=>by rw[(reach_at ei.1 ei.2).2 q] at hr;cases hr
   obtain⟨h',cells',q1,q2⟩:=ih h2 _ (H.put hil g1 g2 (by rw[rowOv_none hno];exact gL) gh)
   refine⟨h',cells',?_,q2⟩
   simp +decide -implicitDefEqProofs only[k35b1,go_sem,hrl,e1,ei,e3,eM,e7,Int.toNat_natCast,hat,a1,hr]
   exact q1
  |true=>
   have hyes:=(reach_at ei.1 ei.2).1 hr
   have hcall:∀h,callAt Try.prog tab k 65 [.agg (encFunc f),int 0,int i] h=some (bools (fromOf f.blocks i),h):=fun h=>from_runs f F hpos i k hk _ h (by simp only[mapC_cons,mapC_nil,depth,view_func f,view_int,Option.bind_some])
   obtain⟨h3,o,p1,p2,p3,p4,_,p6⟩:=doms_in (vals:=valsOf tab) (n:=n) (call:=callAt Try.prog tab k) (reachOf f.blocks) (fromOf f.blocks i) f.blocks.length i h.length hb hil (reach_len _) (from_len _ _) (by omega) _ (get_isSome (List.getElem?_set_self hic)) (.op 0 0) f.blocks.length 0 n (by omega) (by omega) h2 (List.replicate f.blocks.length false) g2 gL (by simp)
   rw[show((0:Nat):Int)=0 from rfl] at p1
   have ho:o=rowOv f.blocks i:=by
    refine bools_ext (by rw[p3,rowOv_len]) fun j j0 j1=>?_
    have pj:=p4 j.toNat (by omega) (by omega)
    rw[show((j.toNat:Nat):Int)=j by omega] at pj
    rw[Bool.eq_iff_iff,rowOv_at j0 (by omega)]
    have hw:=from_at (l:=f.blocks) (less:=i) (v:=j) j0 (by omega)
    have hrj:=reach_at (l:=f.blocks) (v:=j) j0 (by omega)
    have hj:rdOf false o j=(rdOf false (reachOf f.blocks) j&&(decide ((i:Int)=j)||!(rdOf false (fromOf f.blocks i) j))):=by
     unfold rdOf at pj⊢
     rw[List.getD_eq_getElem?_getD,pj,Option.getD_some]
    rw[hj,Bool.and_eq_true,Bool.or_eq_true,decide_eq_true_eq,Bool.not_eq_true',hrj,←Bool.not_eq_true,hw]
    constructor
    ·rintro⟨q1,q2|q2⟩
     ·subst q2
      exact Ov.self hyes
     ·exact⟨hyes,q1,q2⟩
    ·exact fun q=>⟨q.2.1,.inr q.2.2⟩
   have hf0:h2[0]?=some (.row 0 (encFunc f)):=g1.trans H.f0
   obtain⟨h',cells',q1,q2⟩:=ih h3 _ (H.put (h':=h3) hil (by
     rw[p6 0 _ (by omega) hf0,H.f0]) (p6 1 _ (by omega) g2) (by rw[←ho];exact p2) (fun k nd q e=>p6 k nd (by have:=(List.getElem?_eq_some_iff.1 e).1;omega) (gh k nd q e)))
   refine⟨h',cells',?_,q2⟩
   rw[enc_func] at hf0 hcall
   simp +decide -implicitDefEqProofs only[k35b1,go_sem,hrl,e1,ei,e3,eM,e7,Int.toNat_natCast,hat,a1,hr,hf0,hcall,p1]
   exact q1
theorem doms_runs (f:Tm.Func)(F:Fine f)(hpos:0<f.blocks.length):Runs Try.prog tab (2^36+5) 35 [.agg (encFunc f)] (rowsB (overOf f.blocks)):=by
 have hb:=F.blocks
 refine Runs.by (rs:=[.tmp 2]) (N:=63) rfl Try.func35 rfl rfl (by simp) fun k hk=>?_
 have eM:0≤(f.blocks.length:Int)∧(f.blocks.length:Int)≤(f.blocks.length:Int)∧(f.blocks.length:Int)≤(maxRow:Nat):=⟨by omega,by omega,by unfold maxRow;omega⟩
 have hreach:∀h,callAt Try.prog tab k 26 [.agg (encFunc f)] h=some (bools (reachOf f.blocks),h):=fun h=>rreach_runs f F hpos k (by omega) h
 obtain⟨h',cells',p1,p2⟩:=doms_out f F hpos (k:=k) (n:=k) (by omega) (by omega) f.blocks.length 0 k (by omega) (by omega) [.row 0 (encFunc f),.row 1 (rep f.blocks.length [.v (.slice none 0 0)])] (rep f.blocks.length [.v (.slice none 0 0)]) ⟨rfl,rfl,by rw[rep_one];simp,fun j hj=>by omega⟩
 rw[show((0:Nat):Int)=0 from rfl] at p1
 rw[enc_func] at*
 simp +decide -implicitDefEqProofs only[k35,go_sem,eM,Int.toNat_natCast,hreach,p1]
 refine⟨_,_,rfl,?_⟩
 rw[show depth=11+1 from rfl,view_os_eq,if_neg (by omega),p2.at_]
 simp only[viewRow,List.drop_zero,takeN,Nat.mul_one]
 rw[if_pos (by rw[p2.len];exact Nat.le_refl _),List.take_of_length_le (by rw[p2.len];exact Nat.le_refl _)]
 have hm:mapC (view true h' 11) cells'=some ((overOf f.blocks).map bools):=by
  have e:cells'=(List.range f.blocks.length).map fun j=>cells'.getD j default:=by
   refine List.ext_getElem (by simp[p2.len]) fun j h1 h2=>?_
   simp[List.getD_eq_getElem?_getD,List.getElem?_eq_getElem h1]
  have hall:∀(js:List Nat),(∀j∈js,j<f.blocks.length)→mapC (view true h' 11) (js.map fun j=>cells'.getD j default)=some (js.map fun(j:Nat)=>bools (rowOv f.blocks j)):=by
   intro js
   induction js with
   |nil=>intro _;rfl
   |cons j js ih=>
    intro hj
    obtain⟨lj,q1,q2,q3⟩:=p2.each j (hj j (by simp))
    have hv:=view_os_bools (cl:=true) (n:=9) (cap:=some f.blocks.length) q2
    rw[rowOv_len] at hv
    simp only[List.map_cons,mapC,List.getD_eq_getElem?_getD,q1,Option.getD_some,hv,Option.bind_eq_bind,Option.bind_some]
    have:=ih fun j h=>hj j (by simp[h])
    simp only[List.getD_eq_getElem?_getD] at this
    rw[this];rfl
  rw[e,hall _ (fun j hj=>List.mem_range.1 hj)]
  simp[overOf]
 simp only[hm,Option.bind_some]
 rw[rowsB,over_len]
end Go.Proofs.Ytkcimaibaicdcaa.Tk
