/- The law returns true at every input. No condition. A part of its proof. -/
import Derived.Test.YtkcimaibaicdcaaP12
import Derived.Test.YtkcimaibaicdcaaP11
set_option linter.unusedSimpArgs false
set_option linter.unusedVariables false
set_option maxHeartbeats 16000000
set_option maxRecDepth 100000
namespace Go.Proofs.Ytkcimaibaicdcaa.Tk
open Go.Tm Go.Tm.Tab
def badR0 (l:List Ins)(k:Nat):Bool:=(!decide (endsB (insAt l k).op=decide ((k:Int)=(l.length:Int)-1)))||((decide ((k:Int)>0)&&decide ((insAt l k).op=26))&&!decide ((insAt l ((k:Int)-1)).op=26))
def badRB (l:List Block)(b:Nat):Bool:=decide (((blkAt l b).ins.length:Int)=0)||((List.range' 0 (blkAt l b).ins.length).any (badR0 (blkAt l b).ins)||((lastOf (blkAt l b).ins).into.any (badTo l.length)||(decide ((lastOf (blkAt l b).ins).op=28)&&decide (rd (lastOf (blkAt l b).ins).into 0=rd (lastOf (blkAt l b).ins).into 1))))
def badP2 (z:Bool)(p:List Int)(x:Ins):Bool:=phiB x&&(z||!decide (x.into=p))
def badPB (l:List Block)(r:List Bool)(pv:List (List Int))(b:Nat):Bool:=(!rdOf false r b)||(blkAt l b).ins.any (badP2 (decide ((b:Int)=0)) (rowOfL pv b))
theorem wrap_back {n i:Nat}(h:i<n)(hn:n<2^60):IntKind.i64.wrap ((i:Int)-1)=(i:Int)-1:=wrap_in (by omega) (by omega)
theorem rflows_l0 {vals:FuncId→Bool}{call:CallF}{n:Nat}(b:Int)(l:List Ins)(hl:l.length<2^50)(I:Heap→Prop)(he:∀op h,call 57 [int op] h=some (bool (endsB op),h))(m:Nat)(hm:l.length<m)(h:Heap)(hI:I h):∃h1,I h1∧Tm.Loop Try.prog vals call n [1,3,4,5] k83b0 m ⟨[(1,.op 0 0),(3,int b),(4,inss l),(5,int 0)],h⟩=some (if (List.range' 0 l.length).any (badR0 l)=true then(.ret,⟨[(2,bool false)],h1⟩) else(.exit 2,⟨[(1,.op 0 0),(3,int b),(4,inss l),(5,int l.length),(32,bool false)],h1⟩)):=by
 obtain⟨h1,J,L⟩:=Loop_any (P:=Try.prog) (vals:=vals) (call:=call) (n:=n) (ks:=[1,3,4,5]) (K:=k83b0) (id:=2) l.length (fun i=>badR0 l i) (fun i=>[(1,.op 0 0),(3,int b),(4,inss l),(5,int i)]) [(2,bool false)] [(1,.op 0 0),(3,int b),(4,inss l),(5,int l.length),(32,bool false)] I
  (fun i h hi hI=>by
   have e1:decide ((i:Int)<l.length)=true:=by simp;omega
   have e2:0≤(i:Int)∧(i:Int)<l.length:=by omega
   have e3:=wrap_next (n:=l.length) (i:=i) (by omega) (by omega)
   have w1:=wrap_last (n:=l.length) (by omega)
   have w2:=wrap_back (n:=l.length) (i:=i) (by omega) (by omega)
   refine⟨h,hI,?_⟩
   obtain⟨x1,q1⟩:∃q,endsB (insAt l i).op=q:=⟨_,rfl⟩
   obtain⟨x2,q2⟩:∃q,decide ((i:Int)=(l.length:Int)-1)=q:=⟨_,rfl⟩
   obtain⟨x3,q3⟩:∃q,decide ((i:Int)>0)=q:=⟨_,rfl⟩
   obtain⟨x4,q4⟩:∃q,decide ((insAt l i).op=26)=q:=⟨_,rfl⟩
   obtain⟨x5,q5⟩:∃q,decide ((insAt l ((i:Int)-1)).op=26)=q:=⟨_,rfl⟩
   unfold badR0
   rw[q1,q2,q3,q4,q5]
   cases x3 with
   |true=>
    have ep:0≤(i:Int)-1∧(i:Int)-1<l.length:=by have:=of_decide_eq_true q3;omega
    cases x1<;>cases x2<;>cases x4<;>cases x5<;>simp +decide -implicitDefEqProofs only[k83b0,go_sem,e1,e2,e3,set_new,w1,w2,q1,q2,q3,q4,q5,ep,he]
   |false=>
    cases x1<;>cases x2<;>cases x4<;>cases x5<;>simp +decide -implicitDefEqProofs only[k83b0,go_sem,e1,e2,e3,set_new,w1,w2,q1,q2,q3,q4,q5,he])
  (fun h hI=>by
   exact⟨h,hI,by simp +decide -implicitDefEqProofs only[k83b0,go_sem,Int.lt_irrefl,decide_false]⟩) l.length 0 m h (by omega) hm hI
 simp only[show((0:Nat):Int)=0 from rfl] at L
 rw[any_eta] at L
 exact⟨h1,J,L⟩
theorem rflows_l1 {vals:FuncId→Bool}{call:CallF}{n:Nat}(a:C)(u v w x:C)(nb:List Block)(la:Ins)(p:Nat)(hl:la.into.length<2^50)(h:Heap)(h0:h[0]?=some (.row 0 [u,v,w,x,blocks nb]))(hp:h[p]?=some (.row 0 [int la.op,int la.type,int la.to,int la.sym,int la.num,ints la.args,ints la.into]))(m:Nat)(hm:la.into.length<m):Tm.Loop Try.prog vals call n [1,3,6,7] k83b1 m ⟨[(1,.op 0 0),(3,a),(6,.op p 0),(7,int 0)],h⟩=some (if la.into.any (badTo nb.length)=true then(.ret,⟨[(2,bool false)],h⟩) else(.exit 4,⟨[(1,.op 0 0),(3,a),(6,.op p 0),(7,int la.into.length),(78,bool false)],h⟩)):=by
 obtain⟨h1,e,L⟩:=Loop_any (P:=Try.prog) (vals:=vals) (call:=call) (n:=n) (ks:=[1,3,6,7]) (K:=k83b1) (id:=4) la.into.length (fun i=>badTo nb.length (rd la.into i)) (fun i=>[(1,.op 0 0),(3,a),(6,.op p 0),(7,int i)]) [(2,bool false)] [(1,.op 0 0),(3,a),(6,.op p 0),(7,int la.into.length),(78,bool false)] (fun g=>g=h)
  (fun i g hi hg=>⟨h,rfl,by
   rw[hg]
   have e1:decide ((i:Int)<la.into.length)=true:=by simp;omega
   have e2:0≤(i:Int)∧(i:Int)<la.into.length:=by omega
   have e3:=wrap_next (n:=la.into.length) (i:=i) (by omega) (by omega)
   unfold badTo
   cases c1:decide (rd la.into i<1)<;>cases c2:decide (rd la.into i≥(nb.length:Int))<;>simp +decide -implicitDefEqProofs only[k83b1,go_sem,e1,e2,e3,set_new,c1,c2,h0,hp]⟩)
  (fun g hg=>⟨h,rfl,by rw[hg];simp +decide -implicitDefEqProofs only[k83b1,go_sem,Int.lt_irrefl,decide_false,hp]⟩) la.into.length 0 m h (by omega) hm rfl
 rw[e] at L
 simp only[show((0:Nat):Int)=0 from rfl] at L
 rw[any_ints] at L
 exact L
theorem rflows_l2 {vals:FuncId→Bool}{call:CallF}{n:Nat}(u v w x:C)(l:List Block)(hl2:l.length<2^50)(hb:∀b∈l,(b.ins.length<n∧b.ins.length<2^50)∧∀y∈b.ins,y.into.length<n∧y.into.length<2^50)(h28:∀b∈l,∀y∈b.ins,y.op=28→y.into.length=2)(I:Heap→Prop)(hp:∀h x,I h→I (h++[x]))(hg:∀h,I h→h[0]?=some (.row 0 [u,v,w,x,blocks l]))(he:∀op h,call 57 [int op] h=some (bool (endsB op),h))(m:Nat)(hm:l.length<m)(h:Heap)(hI:I h):∃h1,I h1∧Tm.Loop Try.prog vals call n [1,3] k83b2 m ⟨[(1,.op 0 0),(3,int 0)],h⟩=some (if (List.range' 0 l.length).any (badRB l)=true then(.ret,⟨[(2,bool false)],h1⟩) else(.exit 0,⟨[(1,.op 0 0),(3,int l.length),(17,bool false)],h1⟩)):=by
 obtain⟨h1,J,L⟩:=Loop_any (P:=Try.prog) (vals:=vals) (call:=call) (n:=n) (ks:=[1,3]) (K:=k83b2) (id:=0) l.length (fun i=>badRB l i) (fun i=>[(1,.op 0 0),(3,int i)]) [(2,bool false)] [(1,.op 0 0),(3,int l.length),(17,bool false)] I
  (fun i h hi hI=>by
   have e1:decide ((i:Int)<l.length)=true:=by simp;omega
   have e2:0≤(i:Int)∧(i:Int)<l.length:=by omega
   have e3:=wrap_next (n:=l.length) (i:=i) (by omega) (by omega)
   have hx:=blkAt_mem e2
   have g0:=hg h hI
   obtain⟨hb1,hb2⟩:=hb _ hx
   have h28:=h28 _ hx
   generalize hb:(blkAt l i).ins=ins at hb1 hb2 h28
   obtain⟨h1,rfl,L0⟩:=rflows_l0 (vals:=vals) (call:=call) (n:=n) i ins hb1.2 (fun g=>g=h) he n hb1.1 _ rfl
   unfold badRB
   rw[hb]
   cases d0:decide ((ins.length:Int)=0) with
   |true=>
    refine⟨_,hI,?_⟩
    simp +decide -implicitDefEqProofs only[k83b2,go_sem,e1,e2,e3,set_new,hb,g0,d0]
   |false=>
    have hpos:¬((ins.length:Int)=0):=of_decide_eq_false d0
    cases c0:(List.range' 0 ins.length).any (badR0 ins) with
    |true=>
     rw[c0,if_pos rfl] at L0
     refine⟨_,hI,?_⟩
     simp +decide -implicitDefEqProofs only[k83b2,go_sem,e1,e2,e3,set_new,hb,g0,d0,L0]
    |false=>
     rw[c0,if_neg (by decide)] at L0
     have w1:=wrap_last (n:=ins.length) (by omega)
     have el:0≤(ins.length:Int)-1∧(ins.length:Int)-1<ins.length:=by omega
     have hm:lastOf ins∈ins:=insAt_mem el
     obtain⟨hi1,hi2⟩:=hb2 _ hm
     have h28:=h28 _ hm
     unfold lastOf at hi1 hi2 h28⊢
     generalize hla:insAt ins ((ins.length:Int)-1)=la at hi1 hi2 h28⊢
     have I1:=hp _ (.row 0 (encIns la)) hI
     have g1:=hg _ I1
     simp only[encIns] at I1 g1
     have L1:=rflows_l1 (vals:=vals) (call:=call) (n:=n) (int i) u v w x l la h1.length hi2 _ g1 (by rw[get_new]) n hi1
     refine⟨_,I1,?_⟩
     cases c1:la.into.any (badTo l.length) with
     |true=>
      rw[c1,if_pos rfl] at L1
      simp +decide -implicitDefEqProofs only[k83b2,go_sem,e1,e2,e3,set_new,hb,g0,d0,L0,w1,el,hla,L1,encIns]
     |false=>
      rw[c1,if_neg (by decide)] at L1
      cases c2:decide (la.op=28) with
      |false=>simp +decide -implicitDefEqProofs only[k83b2,go_sem,e1,e2,e3,set_new,hb,g0,d0,L0,w1,el,hla,L1,encIns,c2,Bool.false_and,Bool.false_eq_true,if_false]
      |true=>
       have hlen:=h28 (of_decide_eq_true c2)
       have f0:(0:Int)≤0∧(0:Int)<la.into.length:=by omega
       have f1:(0:Int)≤1∧(1:Int)<la.into.length:=by omega
       cases c3:decide (rd la.into 0=rd la.into 1)<;>simp +decide -implicitDefEqProofs only[k83b2,go_sem,e1,e2,e3,set_new,hb,g0,d0,L0,w1,el,hla,L1,encIns,c2,c3,f0,f1,Bool.true_and])
  (fun h hI=>by
   have g0:=hg h hI
   exact⟨h,hI,by simp +decide -implicitDefEqProofs only[k83b2,go_sem,Int.lt_irrefl,decide_false,g0]⟩) l.length 0 m h (by omega) hm hI
 simp only[show((0:Nat):Int)=0 from rfl] at L
 rw[any_eta] at L
 exact⟨h1,J,L⟩
theorem rflows_l3 {vals:FuncId→Bool}{call:CallF}{n:Nat}(a:C)(pv:List (List Int))(b:Int)(z:Bool)(hz:decide (b=0)=z)(hbb:0≤b∧b<pv.length)(l:List Ins)(hl:l.length<2^50)(h:Heap)(hv:vals 18=true)(hq:∀x∈l,∀h,call 18 [ints x.into,ints (rowOfL pv b)] h=some (bool (decide (x.into=rowOfL pv b)),h))(m:Nat)(hm:l.length<m):Tm.Loop Try.prog vals call n [1,8,9,10,11,12] k83b3 m ⟨[(1,.op 0 0),(8,a),(9,rows pv),(10,int b),(11,inss l),(12,int 0)],h⟩=some (if l.any (badP2 z (rowOfL pv b))=true then(.ret,⟨[(2,bool false)],h⟩) else(.exit 8,⟨[(1,.op 0 0),(8,a),(9,rows pv),(10,int b),(11,inss l),(12,int l.length),(137,bool false)],h⟩)):=by
 obtain⟨h1,e,L⟩:=Loop_any (P:=Try.prog) (vals:=vals) (call:=call) (n:=n) (ks:=[1,8,9,10,11,12]) (K:=k83b3) (id:=8) l.length (fun i=>badP2 z (rowOfL pv b) (insAt l i)) (fun i=>[(1,.op 0 0),(8,a),(9,rows pv),(10,int b),(11,inss l),(12,int i)]) [(2,bool false)] [(1,.op 0 0),(8,a),(9,rows pv),(10,int b),(11,inss l),(12,int l.length),(137,bool false)] (fun g=>g=h)
  (fun i g hi hg=>⟨h,rfl,by
   rw[hg]
   have e1:decide ((i:Int)<l.length)=true:=by simp;omega
   have e2:0≤(i:Int)∧(i:Int)<l.length:=by omega
   have e3:=wrap_next (n:=l.length) (i:=i) (by omega) (by omega)
   have hq1:=hq _ (insAt_mem e2)
   unfold badP2 phiB
   cases c1:decide ((insAt l i).op=26)<;>cases c2:z<;>cases c3:decide ((insAt l i).into=rowOfL pv b)<;>simp +decide -implicitDefEqProofs only[k83b3,go_sem,e1,e2,e3,set_new,c1,c2,c3,hbb,hv,hz,hq1]⟩)
  (fun g hg=>⟨h,rfl,by rw[hg];simp +decide -implicitDefEqProofs only[k83b3,go_sem,Int.lt_irrefl,decide_false]⟩) l.length 0 m h (by omega) hm rfl
 rw[e] at L
 simp only[show((0:Nat):Int)=0 from rfl] at L
 rw[any_inss] at L
 exact L
theorem rflows_l4 {vals:FuncId→Bool}{call:CallF}{n:Nat}(u v w x:C)(r:List Bool)(pv:List (List Int))(l:List Block)(hr:r.length=l.length)(hpv:pv.length=l.length)(hl2:l.length<2^50)(hb:∀b∈l,b.ins.length<n∧b.ins.length<2^50)(I:Heap→Prop)(hg:∀h,I h→h[0]?=some (.row 0 [u,v,w,x,blocks l]))(hv:vals 18=true)(hq:∀(b:Int),0≤b∧b<l.length→∀x∈(blkAt l b).ins,∀h,call 18 [ints x.into,ints (rowOfL pv b)] h=some (bool (decide (x.into=rowOfL pv b)),h))(m:Nat)(hm:l.length<m)(h:Heap)(hI:I h):∃h1,I h1∧Tm.Loop Try.prog vals call n [1,8,9,10] k83b4 m ⟨[(1,.op 0 0),(8,bools r),(9,rows pv),(10,int 0)],h⟩=some (if (List.range' 0 l.length).any (badPB l r pv)=true then(.ret,⟨[(2,bool false)],h1⟩) else(.exit 6,⟨[(1,.op 0 0),(8,bools r),(9,rows pv),(10,int l.length),(120,bool false)],h1⟩)):=by
 obtain⟨h1,J,L⟩:=Loop_any (P:=Try.prog) (vals:=vals) (call:=call) (n:=n) (ks:=[1,8,9,10]) (K:=k83b4) (id:=6) l.length (fun i=>badPB l r pv i) (fun i=>[(1,.op 0 0),(8,bools r),(9,rows pv),(10,int i)]) [(2,bool false)] [(1,.op 0 0),(8,bools r),(9,rows pv),(10,int l.length),(120,bool false)] I
  (fun i h hi hI=>by
   have e1:decide ((i:Int)<l.length)=true:=by simp;omega
   have e2:0≤(i:Int)∧(i:Int)<l.length:=by omega
   have e3:=wrap_next (n:=l.length) (i:=i) (by omega) (by omega)
   have hx:=blkAt_mem e2
   have hb1:=hb _ hx
   have g0:=hg h hI
   have er:0≤(i:Int)∧(i:Int)<r.length:=by omega
   have L1:=rflows_l3 (vals:=vals) (call:=call) (n:=n) (bools r) pv i _ rfl (by omega) (blkAt l i).ins hb1.2 h hv (hq i e2) n hb1.1
   unfold badPB
   refine⟨h,hI,?_⟩
   cases c0:rdOf false r i with
   |false=>simp +decide -implicitDefEqProofs only[k83b4,go_sem,e1,e2,e3,set_new,g0,er,c0]
   |true=>
    cases c1:(blkAt l i).ins.any (badP2 (decide ((i:Int)=0)) (rowOfL pv i)) with
    |true=>
     rw[c1,if_pos rfl] at L1
     simp +decide -implicitDefEqProofs only[k83b4,go_sem,e1,e2,e3,set_new,g0,er,c0,L1]
    |false=>
     rw[c1,if_neg (by decide)] at L1
     simp +decide -implicitDefEqProofs only[k83b4,go_sem,e1,e2,e3,set_new,g0,er,c0,L1])
  (fun h hI=>by
   have g0:=hg h hI
   exact⟨h,hI,by simp +decide -implicitDefEqProofs only[k83b4,go_sem,Int.lt_irrefl,decide_false,g0]⟩) l.length 0 m h (by omega) hm hI
 simp only[show((0:Nat):Int)=0 from rfl] at L
 rw[any_eta] at L
 exact⟨h1,J,L⟩
def rflowsB (l:List Block)(r:List Bool)(pv:List (List Int)):Bool:= !(List.range' 0 l.length).any (badRB l)&&!(List.range' 0 l.length).any (badPB l r pv)
theorem rflows_raw (f:Tm.Func)(F:Fine f)(hpos:0<f.blocks.length)(h28:∀b∈f.blocks,∀y∈b.ins,y.op=28→y.into.length=2):Runs Try.prog tab (2^36+100) 83 [.agg (encFunc f)] (bool (rflowsB f.blocks (reachOf f.blocks) (prevOf f.blocks))):=by
 refine Runs.by (rs:=[.tmp 2]) (N:=163) rfl Try.func83 rfl rfl (by simp) fun k hk=>?_
 have b1:=F.blocks
 have hrl:=reach_len f.blocks
 have hpl:=prev_len f.blocks
 have he:∀op h,callAt Try.prog tab k 57 [int op] h=some (bool (endsB op),h):=fun op h=>rends_runs op k (by omega) _ h (by simp only[mapC_cons,mapC_nil,depth,view_int,Option.bind_some])
 have hr:∀h,callAt Try.prog tab k 26 [.agg (encFunc f)] h=some (bools (reachOf f.blocks),h):=fun h=>rreach_runs f F hpos k (by omega) h
 have hpr:∀h,callAt Try.prog tab k 23 [.agg (encFunc f)] h=some (rows (prevOf f.blocks),h):=fun h=>rprev_runs f F k (by omega) _ h (by simp only[mapC_cons,mapC_nil,depth,view_func,Option.bind_some])
 have hq:∀(b:Int),0≤b∧b<f.blocks.length→∀x∈(blkAt f.blocks b).ins,∀h,callAt Try.prog tab k 18 [ints x.into,ints (rowOfL (prevOf f.blocks) b)] h=some (bool (decide (x.into=rowOfL (prevOf f.blocks) b)),h):=fun b hb x hx h=>by
  have:=(F.into _ (blkAt_mem hb) x hx).2
  exact requal_runs x.into _ (by omega) k (by omega) _ h (by simp +decide -implicitDefEqProofs only[depth,go_sem])
 have v1:valsOf tab 26=true:=by decide
 have v2:valsOf tab 23=true:=by decide
 have v3:valsOf tab 18=true:=by decide
 generalize hc:callAt Try.prog tab k=call at*
 generalize hv:valsOf tab=vals at*
 rw[enc_func] at*
 generalize hI:Has 0 (.row 0 [str f.name,bool f.out,ints f.params,int f.result,blocks f.blocks])=I
 have hp:∀h x,I h→I (h++[x]):=by rw[←hI];exact fun h x H=>H.push
 have hg:∀h,I h→h[0]?=some (.row 0 [str f.name,bool f.out,ints f.params,int f.result,blocks f.blocks]):=by rw[←hI];exact fun h H=>H
 have i0:I [.row 0 [str f.name,bool f.out,ints f.params,int f.result,blocks f.blocks]]:=by rw[←hI];rfl
 obtain⟨h1,I1,L1⟩:=rflows_l2 (vals:=vals) (call:=call) (n:=k) _ _ _ _ f.blocks (by omega) (fun b hb=>⟨by have:=F.ins b hb;omega,fun y hy=>by have:=(F.into b hb y hy).2;omega⟩) h28 I hp hg he k (by omega) _ i0
 obtain⟨h2,I2,L2⟩:=rflows_l4 (vals:=vals) (call:=call) (n:=k) _ _ _ _ (reachOf f.blocks) (prevOf f.blocks) f.blocks hrl hpl (by omega) (fun b hb=>by have:=F.ins b hb;omega) I hg v3 hq k (by omega) _ I1
 have g1:=hg h1 I1
 unfold rflowsB
 cases x1:(List.range' 0 f.blocks.length).any (badRB f.blocks) with
 |true=>
  rw[x1,if_pos rfl] at L1
  simp +decide -implicitDefEqProofs only[k83,go_sem,L1];exact⟨_,_,rfl,rfl⟩
 |false=>
  rw[x1,if_neg (by decide)] at L1
  cases x3:(List.range' 0 f.blocks.length).any (badPB f.blocks (reachOf f.blocks) (prevOf f.blocks)) with
  |true=>
   rw[x3,if_pos rfl] at L2
   simp +decide -implicitDefEqProofs only[k83,go_sem,L1,g1,hr,hpr,v1,v2,L2];exact⟨_,_,rfl,rfl⟩
  |false=>
   rw[x3,if_neg (by decide)] at L2
   simp +decide -implicitDefEqProofs only[k83,go_sem,L1,g1,hr,hpr,v1,v2,L2];exact⟨_,_,rfl,rfl⟩
structure IntoOk (x:Ins):Prop where
 br:x.op=28→x.into.length=2
 two:endsB x.op=true→x.into.length=2→x.op=28
theorem any_no {f:Nat→Bool}{n:Nat}:(List.range' 0 n).any f=false↔∀k,k<n→f k=false:=by
 rw[List.any_eq_false]
 constructor
 ·intro h k hk;have:=h k (by simp;omega);simpa using this
 ·intro h k hk;rw[h k (by simp at hk;omega)];decide
theorem insAt_get {l:List Ins}{k:Nat}(h:k<l.length):insAt l k=l[k]:=by
 simp[insAt,List.getD_eq_getElem?_getD,List.getElem?_eq_getElem h]
theorem beh_no {l:List Ins}{k:Nat}(hk:k≤l.length):beh l k=false↔∀j,j<k→phiB (insAt l j)=true:=by
 unfold beh
 rw[List.any_eq_false]
 constructor
 ·intro h j hj
  have:=h (insAt l j) (by
   rw[insAt_get (by omega)]
   rw[List.mem_take_iff_getElem]
   exact⟨j,by omega,rfl⟩)
  simpa using this
 ·intro h x hx
  obtain⟨j,hj,rfl⟩:=List.mem_take_iff_getElem.1 hx
  have:=h j (by omega)
  rw[insAt_get (by omega)] at this
  simp[this]
theorem phi_back {l:List Ins}(h:∀k,k<l.length→badR0 l k=false):∀(k:Nat),k<l.length→phiB (insAt l k)=true→∀j,j<k→phiB (insAt l j)=true
 |0,_,_,j,hj=>by omega
 |k+1,hk,hp,j,hj=>by
  have h1:=h (k+1) hk
  unfold badR0 at h1
  rw[Bool.or_eq_false_iff] at h1
  have h2:=h1.2
  rw[show((k+1:Nat):Int)-1=(k:Int) by omega] at h2
  unfold phiB at hp
  rw[hp,decide_eq_true (show((k+1:Nat):Int)>0 by omega)] at h2
  have h3:phiB (insAt l k)=true:=by simpa[phiB] using h2
  by_cases e:j=k
  ·subst e;exact h3
  ·exact phi_back h k (by omega) h3 j (by omega)
theorem badE_iff {z:Bool}{l:List Ins}:(∀k,k<l.length→badE z l k=false)↔(∀k,k<l.length→badR0 l k=false)∧(z=true→∀x∈l,phiB x=false):=by
 constructor
 ·intro h
  refine⟨fun k hk=>?_,fun hz x hx=>?_⟩
  ·have h1:=h k hk
   unfold badE at h1
   rw[Bool.or_eq_false_iff] at h1
   unfold badR0
   rw[h1.1,Bool.false_or]
   cases hp:phiB (insAt l k) with
   |false=>unfold phiB at hp;rw[hp,Bool.and_false,Bool.false_and]
   |true=>
    have h2:=h1.2
    rw[hp,Bool.true_and,Bool.or_eq_false_iff] at h2
    by_cases hk0:k=0
    ·subst hk0;rfl
    ·have:=(beh_no (by omega)).1 h2.1 (k-1) (by omega)
     rw[show((k:Int)-1)=((k-1:Nat):Int) by omega]
     unfold phiB at this
     rw[this,Bool.not_true,Bool.and_false]
  ·obtain⟨k,hk,rfl⟩:=List.getElem_of_mem hx
   have h1:=h k hk
   unfold badE at h1
   rw[Bool.or_eq_false_iff,hz,Bool.or_true,Bool.and_true,insAt_get hk] at h1
   exact h1.2
 ·rintro⟨h1,h2⟩ k hk
  have h3:=h1 k hk
  unfold badR0 at h3
  rw[Bool.or_eq_false_iff] at h3
  unfold badE
  rw[h3.1,Bool.false_or]
  cases hp:phiB (insAt l k) with
  |false=>rfl
  |true=>
   rw[Bool.true_and,Bool.or_eq_false_iff]
   refine⟨(beh_no (by omega)).2 (phi_back h1 k hk hp),?_⟩
   cases z with
   |false=>rfl
   |true=>
    rw[h2 rfl (insAt l k) (by rw[insAt_get hk];exact List.getElem_mem _)] at hp
    exact absurd hp (by decide)
theorem badW_iff {l:List Block}{b:Nat}(hb:b<l.length)(ok:∀x∈(blkAt l b).ins,IntoOk x):
  badBW l b=false↔badRB l b=false∧(decide ((b:Int)=0)=true→∀x∈(blkAt l b).ins,phiB x=false):=by
 unfold badBW badW badRB
 generalize (blkAt l b).ins=ins at ok
 rw[Bool.or_eq_false_iff,Bool.or_eq_false_iff,Bool.or_eq_false_iff,Bool.or_eq_false_iff,Bool.or_eq_false_iff,Bool.or_eq_false_iff,any_no,any_no,badE_iff]
 constructor
 ·rintro⟨h1,⟨h2,h3⟩,h4,h5⟩
  refine⟨⟨h1,h2,h4,?_⟩,h3⟩
  have hpos:¬((ins.length:Int)=0):=of_decide_eq_false h1
  have hm:lastOf ins∈ins:=insAt_mem (by omega)
  unfold twiceB at h5
  cases hop:decide ((lastOf ins).op=28) with
  |false=>rfl
  |true=>
   have:=(ok _ hm).br (of_decide_eq_true hop)
   rw[decide_eq_true (by omega:((lastOf ins).into.length:Int)=2)] at h5
   exact h5
 ·rintro⟨⟨h1,h2,h4,h5⟩,h3⟩
  refine⟨h1,⟨h2,h3⟩,h4,?_⟩
  have hpos:¬((ins.length:Int)=0):=of_decide_eq_false h1
  have hm:lastOf ins∈ins:=insAt_mem (by omega)
  have he:=h2 (ins.length-1) (by omega)
  unfold badR0 at he
  rw[Bool.or_eq_false_iff,show((ins.length-1:Nat):Int)=(ins.length:Int)-1 by omega,decide_eq_true (rfl:(ins.length:Int)-1=(ins.length:Int)-1)] at he
  have he1:endsB (lastOf ins).op=true:=by simpa[lastOf] using he.1
  unfold twiceB
  cases hl:decide (((lastOf ins).into.length:Int)=2) with
  |false=>rfl
  |true=>
   have:=(ok _ hm).two he1 (by have:=of_decide_eq_true hl;omega)
   rw[decide_eq_true this] at h5
   exact h5
theorem reach_all (l:List Block):decide (false∈reachOf l)=false↔∀b:Nat,b<l.length→rdOf false (reachOf l) b=true:=by
 have hl:=reach_len l
 rw[decide_eq_false_iff_not]
 constructor
 ·intro h b hb
  refine Classical.byContradiction fun hq=>h ?_
  rw[Bool.not_eq_true] at hq
  unfold rdOf at hq
  rw[Int.toNat_natCast,List.getD_eq_getElem?_getD,List.getElem?_eq_getElem (by omega)] at hq
  rw[←hq];exact List.getElem_mem _
 ·intro h hm
  obtain⟨b,hb,e⟩:=List.getElem_of_mem hm
  have:=h b (by omega)
  unfold rdOf at this
  rw[Int.toNat_natCast,List.getD_eq_getElem?_getD,List.getElem?_eq_getElem hb,Option.getD_some,e] at this
  exact absurd this (by decide)
theorem badPB_iff {l:List Block}{r:List Bool}{pv:List (List Int)}{b:Nat}:badPB l r pv b=false↔rdOf false r b=true∧(decide ((b:Int)=0)=true→∀x∈(blkAt l b).ins,phiB x=false)∧badBP l pv b=false:=by
 unfold badPB badBP
 rw[Bool.or_eq_false_iff,List.any_eq_false,List.any_eq_false]
 constructor
 ·rintro⟨h1,h2⟩
  refine⟨by simpa using h1,fun hz x hx=>?_,fun x hx hq=>h2 x hx ?_⟩
  ·have:=h2 x hx
   unfold badP2 at this
   rw[hz,Bool.true_or,Bool.and_true,Bool.not_eq_true] at this
   exact this
  ·unfold badPhi at hq;unfold badP2
   rw[Bool.and_eq_true] at hq⊢
   exact⟨hq.1,by rw[hq.2,Bool.or_true]⟩
 ·rintro⟨h1,h2,h3⟩
  refine⟨by simp[h1],fun x hx hq=>?_⟩
  unfold badP2 at hq
  rw[Bool.and_eq_true,Bool.or_eq_true] at hq
  rcases hq.2 with h|h
  ·rw[h2 h x hx] at hq;exact absurd hq.1 (by decide)
  ·exact h3 x hx (by unfold badPhi;rw[hq.1,h];rfl)
theorem flows_same (l:List Block)(ok:∀b∈l,∀x∈b.ins,IntoOk x):rflowsB l (reachOf l) (prevOf l)=flowsB l:=by
 rw[Bool.eq_iff_iff]
 unfold rflowsB flowsB
 rw[Bool.and_eq_true,Bool.and_eq_true,Bool.and_eq_true,Bool.not_eq_true',Bool.not_eq_true',Bool.not_eq_true',Bool.not_eq_true',Bool.not_eq_true',any_no,any_no,any_no,any_no,reach_all]
 have okb:∀b:Nat,b<l.length→∀x∈(blkAt l b).ins,IntoOk x:=fun b hb=>ok _ (blkAt_mem (by omega))
 constructor
 ·rintro⟨h1,h2⟩
  exact⟨fun b hb=>(badW_iff hb (okb b hb)).2 ⟨h1 b hb,(badPB_iff.1 (h2 b hb)).2.1⟩,fun b hb=>(badPB_iff.1 (h2 b hb)).1,fun b hb=>(badPB_iff.1 (h2 b hb)).2.2⟩
 ·rintro⟨h1,h2,h3⟩
  exact⟨fun b hb=>((badW_iff hb (okb b hb)).1 (h1 b hb)).1,fun b hb=>badPB_iff.2 ⟨h2 b hb,((badW_iff hb (okb b hb)).1 (h1 b hb)).2,h3 b hb⟩⟩
theorem rflows_runs (f:Tm.Func)(F:Fine f)(hpos:0<f.blocks.length)(ok:∀b∈f.blocks,∀x∈b.ins,IntoOk x):Runs Try.prog tab (2^36+100) 83 [.agg (encFunc f)] (bool (flowsB f.blocks)):=by
 rw[←flows_same f.blocks ok]
 exact rflows_raw f F hpos fun b hb y hy=>(ok b hb y hy).br
end Go.Proofs.Ytkcimaibaicdcaa.Tk
namespace Go.Tm
theorem Loop_run {P:Program}{vals:FuncId→Bool}{call:CallF}{n:Nat}{ks:List Nat}{K:K}{id:Nat}(N:Nat)(Φ:Nat→St→Prop)(Ψ:St→Prop)
  (hs:∀i e h,i<N→Φ i ⟨e,h⟩→∃s,Φ (i+1) s∧exec P vals call n K ⟨keepE e ks,h⟩=some (.normal,s))
  (he:∀e h,Φ N ⟨e,h⟩→∃s,Ψ s∧exec P vals call n K ⟨keepE e ks,h⟩=some (.exit id,s)):
  ∀(d i m:Nat) (e:Env) (h:Heap),i+d=N→d<m→Φ i ⟨e,h⟩→∃s,Ψ s∧Tm.Loop P vals call n ks K m ⟨e,h⟩=some (.exit id,s)
 |0,i,m,e,h,hi,hm,hI=>by
  obtain⟨m,rfl⟩:∃p,m=p+1:=⟨m-1,by omega⟩
  obtain rfl:i=N:=by omega
  obtain⟨s,h1,h2⟩:=he e h hI
  exact⟨s,h1,by rw[Tm.Loop_succ,h2];rfl⟩
 |d+1,i,m,e,h,hi,hm,hI=>by
  obtain⟨m,rfl⟩:∃p,m=p+1:=⟨m-1,by omega⟩
  obtain⟨s,h1,h2⟩:=hs i e h (by omega) hI
  rw[Tm.Loop_succ,h2]
  obtain⟨e',h'⟩:=s
  obtain⟨s',h3,h4⟩:=Loop_run N Φ Ψ hs he d (i+1) m e' h' (by omega) (by omega) h1
  exact⟨s',h3,h4⟩
def GrowG {α:Type}(f:α→C)(h:Heap)(c:C)(out:List α):Prop:=(out=[]∧c=.v (.slice none 0 0))∨(∃l,c=.os l 0 out.length none∧h[l]?=some (.row 1 (out.map f)))
theorem GrowG.mono {α:Type}{f:α→C}{h h':Heap}{c:C}{out:List α}(H:GrowG f h c out)(hh:∀(l:Nat) (nd:Node),h[l]?=some nd→h'[l]?=some nd):GrowG f h' c out:=by
 rcases H with h|⟨l,hc,hl⟩
 ·exact .inl h
 ·exact .inr ⟨l,hc,hh _ _ hl⟩
theorem GrowG.push {α:Type}{f:α→C}{h:Heap}{x:Node}{c:C}{out:List α}(H:GrowG f h c out):GrowG f (h++[x]) c out:=H.mono fun l nd hl=>by rw[List.getElem?_append_left (List.getElem?_eq_some_iff.1 hl).1];exact hl
theorem GrowG.append {α:Type}{f:α→C}{h:Heap}{c:C}{out:List α}(H:GrowG f h c out)(v:α)(hn:out.length<maxRow):
  ∃c' h',appendTo h none 1 1 [f v] c=some (c',h')∧GrowG f h' c' (out++[v])∧c'=.os h.length 0 (out.length+1) none∧∀(l:Nat) (nd:Node),h[l]?=some nd→(∀o k,c≠ .os l 0 o k)→h'[l]?=some nd:=by
 rcases H with ⟨rfl,rfl⟩|⟨l,rfl,hl⟩
 ·refine⟨_,_,by simp only[appendTo];rw[if_neg (by decide),if_pos (by decide)];rfl,.inr ⟨_,rfl,?_⟩,rfl,fun l nd hl _=>?_⟩
  ·simp[newRow,new]
  ·simp only[newRow,new];rw[List.getElem?_append_left (List.getElem?_eq_some_iff.1 hl).1];exact hl
 ·have hlt:=(List.getElem?_eq_some_iff.1 hl).1
  refine⟨_,_,by simp only[appendTo,hl];rw[if_pos ⟨trivial,hn⟩];simp only[Nat.one_ne_zero,if_false,Nat.zero_add,Nat.mul_one,List.length_map];rw[if_neg (by omega),if_true],.inr ⟨h.length,by simp[newRow,new],?_⟩,by simp[newRow,new],fun l' nd hl' hne=>?_⟩
  ·simp[newRow,new]
  ·simp only[newRow,new]
   have e:l≠l':=fun e=>hne _ _ (by rw[e])
   rw[List.getElem?_append_left (by rw[List.length_set];exact(List.getElem?_eq_some_iff.1 hl').1),List.getElem?_set_ne e]
   exact hl'
instance:LawfulBEq ByteArray where
 rfl:=(MapKept.bytes_beq _ _).2 rfl
 eq_of_beq h:=(MapKept.bytes_beq _ _).1 h
structure MapOk (es:List MapEntry)(L:List ByteArray):Prop where
 ent:∀e∈es,∃s,s∈L∧e.key=.string s∧e.val=.int .i64 (L.count s:Nat)
 mem:∀s∈L,∃e∈es,e.key=.string s
 one:∀(i j:Nat) (e e':MapEntry),es[i]?=some e→es[j]?=some e'→e.key=e'.key→i=j
theorem MapOk.nil:MapOk [] []:=⟨fun e h=>by simp at h,fun s h=>by simp at h,fun i j e e' h=>by simp at h⟩
theorem same_no {s t:ByteArray}(h:t≠s):Instr.sameNow .string (.string s) (.string t)=some false:=by
 simp only[Instr.sameNow]
 cases hq:(s==t) with
 |false=>rfl
 |true=>exact absurd (by simpa using hq:s=t).symm h
theorem same_yes (s:ByteArray):Instr.sameNow .string (.string s) (.string s)=some true:=by simp[Instr.sameNow]
theorem find_no {s:ByteArray}:∀(es:List MapEntry) (i:Nat),(∀e∈es,∃t,e.key=.string t∧t≠s)→Instr.findNow .string (.string s) es i=some none
 |[],_,_=>rfl
 |e::es,i,h=>by
  obtain⟨t,h1,h2⟩:=h e (List.mem_cons_self ..)
  unfold Instr.findNow
  rw[h1,same_no h2]
  exact find_no es (i+1) fun e he=>h e (List.mem_cons_of_mem _ he)
theorem find_yes {s:ByteArray}:∀(es:List MapEntry) (i:Nat),(∀e∈es,∃t,e.key=.string t)→(∃e∈es,e.key=.string s)→∃(j:Nat) (e:MapEntry),es[j]?=some e∧e.key=.string s∧Instr.findNow .string (.string s) es i=some (some (i+j,e.val))
 |[],_,_,h=>by obtain⟨e,h,_⟩:=h;simp at h
 |e::es,i,h,h2=>by
  obtain⟨t,h1⟩:=h e (List.mem_cons_self ..)
  unfold Instr.findNow
  by_cases ht:t=s
  ·subst ht
   rw[h1,same_yes]
   exact⟨0,e,rfl,h1,rfl⟩
  ·rw[h1,same_no ht]
   obtain⟨x,hx,hk⟩:=h2
   have hx':x∈es:=by
    rcases List.mem_cons.1 hx with e2|e2
    ·subst e2;rw[h1] at hk;injection hk with hk;exact absurd hk ht
    ·exact e2
   obtain⟨j,e',g1,g2,g3⟩:=find_yes es (i+1) (fun e he=>h e (List.mem_cons_of_mem _ he)) ⟨x,hx',hk⟩
   exact⟨j+1,e',by simpa using g1,g2,by simp only;rw[g3];rw[Nat.add_assoc,Nat.add_comm 1 j]⟩
theorem MapOk.find {es:List MapEntry}{L:List ByteArray}(H:MapOk es L)(s:ByteArray):
  (s ∉ L∧Instr.findNow .string (.string s) es 0=some none)∨(s∈L∧∃(j:Nat) (e:MapEntry),es[j]?=some e∧e.key=.string s∧Instr.findNow .string (.string s) es 0=some (some (j,.int .i64 (L.count s:Nat)))):=by
 by_cases hs:s∈L
 ·obtain⟨j,e,g1,g2,g3⟩:=find_yes es 0 (fun e he=>by obtain⟨t,_,h1,_⟩:=H.ent e he;exact⟨t,h1⟩) (H.mem s hs)
  obtain⟨t,_,h1,h2⟩:=H.ent e (List.mem_of_getElem? g1)
  rw[h1] at g2
  injection g2 with g2
  subst g2
  exact .inr ⟨hs,j,e,g1,h1,by rw[g3,h2,Nat.zero_add]⟩
 ·refine .inl ⟨hs,find_no _ _ fun e he=>?_⟩
  obtain⟨t,h0,h1,h2⟩:=H.ent e he
  exact⟨t,h1,fun e2=>hs (e2 ▸ h0)⟩
theorem count_more {L:List ByteArray}(s t:ByteArray):(L++[s]).count t=L.count t+if s=t then 1 else 0:=by
 rw[List.count_append,List.count_singleton]
 congr 1
 by_cases h:s=t
 ·subst h;simp
 ·rw[if_neg h,if_neg (by simpa using h)]
theorem MapOk.push {es:List MapEntry}{L:List ByteArray}(H:MapOk es L){s:ByteArray}(hs:s ∉ L)(ck:Nat):
  MapOk (es++[⟨.string s,.int .i64 (L.count s+1:Nat),ck⟩]) (L++[s]):=by
 refine⟨fun e he=>?_,fun t ht=>?_,fun i j e e' hi hj hk=>?_⟩
 ·rcases List.mem_append.1 he with h|h
  ·obtain⟨t,h1,h2,h3⟩:=H.ent e h
   refine⟨t,List.mem_append_left _ h1,h2,?_⟩
   rw[h3,count_more,if_neg (fun e:s=t=>hs (by rw[e];exact h1)),Nat.add_zero]
  ·obtain rfl:e=_:=List.mem_singleton.1 h
   exact⟨s,by simp,rfl,by rw[count_more,if_pos rfl]⟩
 ·rcases List.mem_append.1 ht with h|h
  ·obtain⟨e,h1,h2⟩:=H.mem t h
   exact⟨e,List.mem_append_left _ h1,h2⟩
  ·obtain rfl:t=s:=List.mem_singleton.1 h
   exact⟨_,List.mem_append_right _ (List.mem_singleton.2 rfl),rfl⟩
 ·have old:∀(i:Nat) (e:MapEntry),es[i]?=some e→e.key≠ .string s:=fun i e h hk=>by
   obtain⟨t,h1,h2,_⟩:=H.ent e (List.mem_of_getElem? h)
   rw[h2] at hk;injection hk with hk;exact hs (hk ▸ h1)
  have lt:∀(i:Nat) (e:MapEntry),(es++[⟨.string s,.int .i64 (L.count s+1:Nat),ck⟩])[i]?=some e→(es[i]?=some e)∨(i=es.length∧e.key=.string s):=fun i e h=>by
   rcases Nat.lt_or_ge i es.length with h1|h1
   ·rw[List.getElem?_append_left h1] at h;exact .inl h
   ·rw[List.getElem?_append_right h1] at h
    have:i-es.length=0:=by have:=(List.getElem?_eq_some_iff.1 h).1;simp at this;omega
    rw[this] at h
    injection h with h
    exact .inr ⟨by omega,by rw[←h]⟩
  rcases lt i e hi with a|⟨a,b⟩<;>rcases lt j e' hj with c|⟨c,d⟩
  ·exact H.one i j e e' a c hk
  ·exact absurd (hk.trans d) (old i e a)
  ·exact absurd (hk.symm.trans b) (old j e' c)
  ·omega
theorem MapOk.modify {es:List MapEntry}{L:List ByteArray}(H:MapOk es L){s:ByteArray}(hs:s∈L){j:Nat}{e0:MapEntry}(hj:es[j]?=some e0)(hk:e0.key=.string s):
  MapOk (es.modify j fun e=>{ e with key:=.string s,val:=.int .i64 (L.count s+1:Nat) }) (L++[s]):=by
 have at_:∀(i:Nat) (e:MapEntry),(es.modify j fun e=>{ e with key:=.string s,val:=.int .i64 (L.count s+1:Nat) })[i]?=some e→∃e1,es[i]?=some e1∧e.key=e1.key∧(j=i→e.val=.int .i64 (L.count s+1:Nat))∧(j≠i→e.val=e1.val):=fun i e h=>by
  rw[List.getElem?_modify] at h
  cases hq:es[i]? with
  |none=>rw[hq] at h;exact absurd h (by simp)
  |some e1=>
   rw[hq] at h
   simp only[Option.map_eq_map,Option.map_some,Option.some.injEq] at h
   subst h
   by_cases hji:j=i
   ·subst hji
    rw[hq] at hj;injection hj with hj;subst hj
    exact⟨e1,rfl,by rw[if_pos rfl];exact hk.symm,fun _=>by rw[if_pos rfl],fun h=>absurd rfl h⟩
   ·exact⟨e1,rfl,by rw[if_neg hji],fun h=>absurd h hji,fun _=>by rw[if_neg hji]⟩
 refine⟨fun e he=>?_,fun t ht=>?_,fun i k e e' hi hk' hkk=>?_⟩
 ·obtain⟨i,hi⟩:=List.getElem?_of_mem he
  obtain⟨e1,h1,h2,h3,h4⟩:=at_ i e hi
  obtain⟨t,g1,g2,g3⟩:=H.ent e1 (List.mem_of_getElem? h1)
  refine⟨t,List.mem_append_left _ g1,h2.trans g2,?_⟩
  by_cases hji:j=i
  ·subst hji
   rw[h1] at hj;injection hj with hj;subst hj
   rw[hk] at g2;injection g2 with g2;subst g2
   rw[h3 rfl,count_more,if_pos rfl]
  ·have:s≠t:=fun e2=>hji (H.one j i e0 e1 hj h1 (by rw[hk,g2,e2]))
   rw[h4 hji,g3,count_more,if_neg this,Nat.add_zero]
 ·have ht':t∈L:=by
   rcases List.mem_append.1 ht with h|h
   ·exact h
   ·obtain rfl:t=s:=List.mem_singleton.1 h
    exact hs
  obtain⟨e,h1,h2⟩:=H.mem t ht'
  obtain⟨i,hi⟩:=List.getElem?_of_mem h1
  have:(es.modify j fun e=>{ e with key:=.string s,val:=.int .i64 (L.count s+1:Nat) })[i]?=some (if j=i then { e with key:=.string s,val:=.int .i64 (L.count s+1:Nat) } else e):=by
   rw[List.getElem?_modify,hi]
   by_cases hji:j=i
   ·simp[hji]
   ·simp[hji]
  obtain⟨e1,g1,g2,_⟩:=at_ i _ this
  rw[hi] at g1;injection g1 with g1;subst g1
  exact⟨_,List.mem_of_getElem? this,g2.trans h2⟩
 ·obtain⟨e1,h1,h2,_⟩:=at_ i e hi
  obtain⟨e2,g1,g2,_⟩:=at_ k e' hk'
  exact H.one i k e1 e2 h1 g1 (by rw[←h2,←g2,hkk])
@[go_sem] theorem op_lookup {P:Program}{call:CallF}{al:Option Nat}{e:Env}{h:Heap}(t:TypeId)(x i:Operand)(ok:Bool):stepOp P call al e h (.lookup t x i ok)=(ev e x).bind fun a=>(ev e i).bind fun b=>(lookupC P h t a b ok).bind fun r=>some (r,h):=rfl
@[go_sem] theorem op_mapUpdate {P:Program}{call:CallF}{al:Option Nat}{e:Env}{h:Heap}(t:TypeId)(m k v:Operand):stepOp P call al e h (.mapUpdate t m k v)=(ev e m).bind fun a=>(ev e k).bind fun b=>(ev e v).bind fun c=>(mapUpdC P h t a b c).bind fun h=>some (undefC,h):=rfl
@[go_sem] theorem op_makeMap {P:Program}{call:CallF}{al:Option Nat}{e:Env}{h:Heap}(t:TypeId):stepOp P call al e h (.makeMap t none)=some (.om (new h al (.map #[] 0)).1,(new h al (.map #[] 0)).2):=rfl
theorem lookup_at {P:Program}{h:Heap}{t kt et:TypeId}{l:Nat}{es:Array MapEntry}{ck:Nat}{L:List ByteArray}(hm:mapE P t=some (kt,et))(hk:P.underlying kt=some .string)(hz:zeroV P et=some (.int .i64 0))(hl:h[l]?=some (.map es ck))(H:MapOk es.toList L)(s:ByteArray):
  lookupC P h t (.om l) (str s) false=some (int (L.count s:Nat)):=by
 simp only[lookupC,hl,lookupN,hm,findM,hk,hz,Option.bind_eq_bind,Option.bind_some,scalar_v,str,plainKey,if_true]
 rcases H.find s with ⟨h1,h2⟩|⟨h1,j,e,h2,h3,h4⟩
 ·rw[h2]
  rw[List.count_eq_zero_of_not_mem h1]
  rfl
 ·rw[h4];rfl
theorem update_at {P:Program}{h:Heap}{t kt et:TypeId}{l:Nat}{es:Array MapEntry}{ck:Nat}{L:List ByteArray}(hm:mapE P t=some (kt,et))(hk:P.underlying kt=some .string)(hl:h[l]?=some (.map es ck))(H:MapOk es.toList L)(s:ByteArray):
  ∃es' ck',mapUpdC P h t (.om l) (str s) (int (L.count s+1:Nat))=some (h.set l (.map es' ck'))∧MapOk es'.toList (L++[s]):=by
 simp only[mapUpdC,hl,mapUpdN,hm,findM,hk,Option.bind_eq_bind,Option.bind_some,scalar_v,str,int,plainKey,if_true]
 rcases H.find s with ⟨h1,h2⟩|⟨h1,j,e,h2,h3,h4⟩
 ·rw[h2]
  exact⟨_,_,rfl,by rw[Array.toList_push];exact H.push h1 ck⟩
 ·rw[h4]
  exact⟨_,_,rfl,by rw[Array.toList_modify];exact H.modify h1 h2 h3⟩
@[go_sem] theorem head_strs (xs:List ByteArray)(k:Nat):((xs.map str).drop k).head?=if k<xs.length then some (str (xs.getD k ByteArray.empty)) else none:=by
 rw[List.head?_drop,List.getElem?_map]
 split
 ·rename_i h;rw[List.getD_eq_getElem?_getD,List.getElem?_eq_getElem h];rfl
 ·rename_i h;rw[List.getElem?_eq_none (by omega)];rfl
theorem take_next {α β:Type}(f:α→β)(z:α){l:List α}{i:Nat}(h:i<l.length):(l.take (i+1)).map f=(l.take i).map f++[f (l.getD i z)]:=by
 rw[List.take_add_one,List.map_append,List.getElem?_eq_getElem h,List.getD_eq_getElem?_getD,List.getElem?_eq_getElem h];rfl
theorem Loop_anyI {P:Program}{vals:FuncId→Bool}{call:CallF}{n:Nat}{ks:List Nat}{K:K}{id:Nat}(N:Nat)(bad:Nat→Bool)(S:Nat→Env)(R T:Env)(I:Nat→Heap→Prop)
  (hs:∀i h,i<N→I i h→∃h',I (i+1) h'∧exec P vals call n K ⟨keepE (S i) ks,h⟩=some (if bad i=true then(.ret,⟨R,h'⟩) else(.normal,⟨S (i+1),h'⟩)))
  (he:∀h,I N h→∃h',I N h'∧exec P vals call n K ⟨keepE (S N) ks,h⟩=some (.exit id,⟨T,h'⟩)):
  ∀(d i m:Nat) (h:Heap),i+d=N→d<m→I i h→∃h' j,I j h'∧Tm.Loop P vals call n ks K m ⟨S i,h⟩=some (if (List.range' i d).any bad=true then(.ret,⟨R,h'⟩) else(.exit id,⟨T,h'⟩))
 |0,i,m,h,hi,hm,hI=>by
  obtain⟨m,rfl⟩:∃p,m=p+1:=⟨m-1,by omega⟩
  obtain rfl:i=N:=by omega
  obtain⟨h',h1,h2⟩:=he h hI
  exact⟨h',_,h1,by rw[Tm.Loop_succ,h2];rfl⟩
 |d+1,i,m,h,hi,hm,hI=>by
  obtain⟨m,rfl⟩:∃p,m=p+1:=⟨m-1,by omega⟩
  obtain⟨h',h1,h2⟩:=hs i h (by omega) hI
  rw[List.range'_succ,List.any_cons,Tm.Loop_succ,h2]
  cases hb:bad i with
  |true=>exact⟨h',_,h1,by rw[Bool.true_or];rfl⟩
  |false=>
   obtain⟨h'',j,h3,h4⟩:=Loop_anyI N bad S R T I hs he d (i+1) m h' (by omega) (by omega) h1
   exact⟨h'',j,h3,by rw[Bool.false_or,←h4];rfl⟩
def badN (nm:ByteArray→Bool)(L:List ByteArray)(i:Nat):Bool:= !nm (L.getD i ByteArray.empty)||decide (0<(L.take i).count (L.getD i ByteArray.empty))
def namesOf (m:Module):List ByteArray:=((m.externs.map (·.name)++m.globals.map (·.name))++m.tables.map (·.name))++m.funcs.map (·.name)
end Go.Tm
namespace Go.Proofs.Ytkcimaibaicdcaa.Tk
open Go.Tm Go.Tm.Tab
theorem map112:mapE Try.prog 112=some (9,3):=by kernel_rfl
theorem und9:Try.prog.underlying 9=some .string:=by kernel_rfl
theorem zero3:zeroV Try.prog 3=some (.int .i64 0):=by kernel_rfl
theorem wrap1 {k:Nat}(h:k<2^40):IntKind.i64.wrap ((k:Int)+1)=((k+1:Nat):Int):=by rw[wrap_in (by omega) (by omega)];omega
theorem gt1 {k:Nat}:decide (((k+1:Nat):Int)>1)=decide (0<k):=decide_eq_decide.2 (by omega)
theorem count_self (L:List ByteArray)(s:ByteArray):(L++[s]).count s=L.count s+1:=by rw[count_more,if_pos rfl]
theorem one_ref {k:Nat}(hk:20≤k){h:Heap}{l:Nat}{es:Array MapEntry}{ck:Nat}{L:List ByteArray}(hl:h[l]?=some (.map es ck))(H:MapOk es.toList L)(hL:L.length<2^40)(s:ByteArray):
  ∃es' ck',callAt Try.prog tab (k+1) 104 [.om l,str s] h=some (int (if (!nameB s||decide (0<L.count s))=true then 1 else 0),h.set l (.map es' ck'))∧MapOk es'.toList (L++[s]):=by
 have hc:L.count s<2^40:=Nat.lt_of_le_of_lt List.count_le_length hL
 obtain⟨es',ck',u1,u2⟩:=update_at map112 und9 hl H s
 have l1:=lookup_at map112 und9 zero3 hl H s
 have l2:=lookup_at (h:=h.set l (.map es' ck')) map112 und9 zero3 (List.getElem?_set_self (List.getElem?_eq_some_iff.1 hl).1) u2 s
 rw[count_self] at l2
 have hn:∀h,callAt Try.prog tab k 55 [str s] h=some (bool (nameB s),h):=fun h=>rname_runs s k hk _ h (by simp only[mapC_cons,mapC_nil,depth,view_str,Option.bind_some])
 refine⟨es',ck',?_,u2⟩
 rw[ref_call (rs:=[.tmp 4]) (N:=18) rfl Try.func104 rfl rfl (by simp)]
 cases c1:nameB s<;>cases c2:decide (0<L.count s)<;>(rw[←gt1] at c2;simp +decide -implicitDefEqProofs only[k104,go_sem,l1,wrap1 hc,u1,l2,hn,c1,c2])
theorem named_l0 {vals:FuncId→Bool}{call:CallF}{n:Nat}(l:List Extern)(hl:l.length<2^20)(M:Tm.Node)(out0:List ByteArray)(ho:out0.length<2^20)(m:Nat)(hm:l.length<m)(c:C)(h:Heap)(hg:GrowG str h c out0)(h0:h[0]?=some M)(hc:∀o k,c≠ .os 0 0 o k):
  ∃c' h',Tm.Loop Try.prog vals call n [1,3,16,17,18] k89b0 m ⟨[(1,.op 0 0),(3,c),(16,externs l),(17,int l.length),(18,int 0)],h⟩=some (.exit 0,⟨[(1,.op 0 0),(3,c'),(16,externs l),(17,int l.length),(18,int l.length),(19,bool false)],h'⟩)∧GrowG str h' c' (out0++l.map (·.name))∧h'[0]?=some M∧∀o k,c'≠ .os 0 0 o k:=by
 have hmr:(2:Nat)^22<maxRow:=by decide
 obtain⟨s,⟨c',h',rfl,g1,g2,g3⟩,L⟩:=Loop_run (P:=Try.prog) (vals:=vals) (call:=call) (n:=n) (ks:=[1,3,16,17,18]) (K:=k89b0) (id:=0) l.length
  (fun i s=>∃c h,s=⟨[(1,.op 0 0),(3,c),(16,externs l),(17,int l.length),(18,int i)],h⟩∧GrowG str h c (out0++(l.take i).map (·.name))∧h[0]?=some M∧∀o k,c≠ .os 0 0 o k)
  (fun s=>∃c h,s=⟨[(1,.op 0 0),(3,c),(16,externs l),(17,int l.length),(18,int l.length),(19,bool false)],h⟩∧GrowG str h c (out0++l.map (·.name))∧h[0]?=some M∧∀o k,c≠ .os 0 0 o k)
  (fun i e h hi ⟨c,h2,hs,g1,g2,g3⟩=>by
   cases hs
   have e1:decide ((i:Int)<l.length)=true:=by simp;omega
   have e2:0≤(i:Int)∧(i:Int)<l.length:=by omega
   have e3:=wrap_next (n:=l.length) (i:=i) (by omega) (by omega)
   obtain⟨c',h',a1,a2,a3,a4⟩:=((g1.push (x:=.row 0 (encExtern (extAt l i)))).push (x:=.row 1 [str (extAt l i).name])).append (extAt l i).name (by simp;omega)
   refine⟨_,⟨c',h',rfl,?_,?_,?_⟩,by simp only[encExtern] at a1;simp +decide -implicitDefEqProofs only[k89b0,go_sem,e1,e2,e3,set_new,encExtern,a1]⟩
   ·rw[take_next (fun x:Extern=>x.name) default hi,←List.append_assoc];exact a2
   ·refine a4 0 M ?_ g3
    rw[List.getElem?_append_left (by simp),List.getElem?_append_left (List.getElem?_eq_some_iff.1 g2).1];exact g2
   ·intro o k hq;rw[a3] at hq;simp at hq)
  (fun e h ⟨c,h2,hs,g1,g2,g3⟩=>by
   cases hs
   refine⟨_,⟨c,_,rfl,?_,g2,g3⟩,by simp +decide -implicitDefEqProofs only[k89b0,go_sem,Int.lt_irrefl,decide_false]⟩
   rw[List.take_length] at g1;exact g1)
  l.length 0 m _ h (by omega) hm ⟨c,h,rfl,by simpa using hg,h0,hc⟩
 exact⟨c',h',L,g1,g2,g3⟩
theorem named_l1 {vals:FuncId→Bool}{call:CallF}{n:Nat}(l:List Tm.Global)(hl:l.length<2^20)(M:Tm.Node)(out0:List ByteArray)(ho:out0.length<2^20)(m:Nat)(hm:l.length<m)(c:C)(h:Heap)(hg:GrowG str h c out0)(h0:h[0]?=some M)(hc:∀o k,c≠ .os 0 0 o k):
  ∃c' h',Tm.Loop Try.prog vals call n [1,3,29,30,31] k89b1 m ⟨[(1,.op 0 0),(3,c),(29,globals l),(30,int l.length),(31,int 0)],h⟩=some (.exit 2,⟨[(1,.op 0 0),(3,c'),(29,globals l),(30,int l.length),(31,int l.length),(32,bool false)],h'⟩)∧GrowG str h' c' (out0++l.map (·.name))∧h'[0]?=some M∧∀o k,c'≠ .os 0 0 o k:=by
 have hmr:(2:Nat)^22<maxRow:=by decide
 obtain⟨s,⟨c',h',rfl,g1,g2,g3⟩,L⟩:=Loop_run (P:=Try.prog) (vals:=vals) (call:=call) (n:=n) (ks:=[1,3,29,30,31]) (K:=k89b1) (id:=2) l.length
  (fun i s=>∃c h,s=⟨[(1,.op 0 0),(3,c),(29,globals l),(30,int l.length),(31,int i)],h⟩∧GrowG str h c (out0++(l.take i).map (·.name))∧h[0]?=some M∧∀o k,c≠ .os 0 0 o k)
  (fun s=>∃c h,s=⟨[(1,.op 0 0),(3,c),(29,globals l),(30,int l.length),(31,int l.length),(32,bool false)],h⟩∧GrowG str h c (out0++l.map (·.name))∧h[0]?=some M∧∀o k,c≠ .os 0 0 o k)
  (fun i e h hi ⟨c,h2,hs,g1,g2,g3⟩=>by
   cases hs
   have e1:decide ((i:Int)<l.length)=true:=by simp;omega
   have e2:0≤(i:Int)∧(i:Int)<l.length:=by omega
   have e3:=wrap_next (n:=l.length) (i:=i) (by omega) (by omega)
   obtain⟨c',h',a1,a2,a3,a4⟩:=((g1.push (x:=.row 0 (encGlobal (gloAt l i)))).push (x:=.row 1 [str (gloAt l i).name])).append (gloAt l i).name (by simp;omega)
   refine⟨_,⟨c',h',rfl,?_,?_,?_⟩,by simp only[encGlobal] at a1;simp +decide -implicitDefEqProofs only[k89b1,go_sem,e1,e2,e3,set_new,encGlobal,a1]⟩
   ·rw[take_next (fun x:Tm.Global=>x.name) default hi,←List.append_assoc];exact a2
   ·refine a4 0 M ?_ g3
    rw[List.getElem?_append_left (by simp),List.getElem?_append_left (List.getElem?_eq_some_iff.1 g2).1];exact g2
   ·intro o k hq;rw[a3] at hq;simp at hq)
  (fun e h ⟨c,h2,hs,g1,g2,g3⟩=>by
   cases hs
   refine⟨_,⟨c,_,rfl,?_,g2,g3⟩,by simp +decide -implicitDefEqProofs only[k89b1,go_sem,Int.lt_irrefl,decide_false]⟩
   rw[List.take_length] at g1;exact g1)
  l.length 0 m _ h (by omega) hm ⟨c,h,rfl,by simpa using hg,h0,hc⟩
 exact⟨c',h',L,g1,g2,g3⟩
theorem named_l2 {vals:FuncId→Bool}{call:CallF}{n:Nat}(l:List Table)(hl:l.length<2^20)(M:Tm.Node)(out0:List ByteArray)(ho:out0.length<2^20)(m:Nat)(hm:l.length<m)(c:C)(h:Heap)(hg:GrowG str h c out0)(h0:h[0]?=some M)(hc:∀o k,c≠ .os 0 0 o k):
  ∃c' h',Tm.Loop Try.prog vals call n [1,3,42,43,44] k89b2 m ⟨[(1,.op 0 0),(3,c),(42,tables l),(43,int l.length),(44,int 0)],h⟩=some (.exit 4,⟨[(1,.op 0 0),(3,c'),(42,tables l),(43,int l.length),(44,int l.length),(45,bool false)],h'⟩)∧GrowG str h' c' (out0++l.map (·.name))∧h'[0]?=some M∧∀o k,c'≠ .os 0 0 o k:=by
 have hmr:(2:Nat)^22<maxRow:=by decide
 obtain⟨s,⟨c',h',rfl,g1,g2,g3⟩,L⟩:=Loop_run (P:=Try.prog) (vals:=vals) (call:=call) (n:=n) (ks:=[1,3,42,43,44]) (K:=k89b2) (id:=4) l.length
  (fun i s=>∃c h,s=⟨[(1,.op 0 0),(3,c),(42,tables l),(43,int l.length),(44,int i)],h⟩∧GrowG str h c (out0++(l.take i).map (·.name))∧h[0]?=some M∧∀o k,c≠ .os 0 0 o k)
  (fun s=>∃c h,s=⟨[(1,.op 0 0),(3,c),(42,tables l),(43,int l.length),(44,int l.length),(45,bool false)],h⟩∧GrowG str h c (out0++l.map (·.name))∧h[0]?=some M∧∀o k,c≠ .os 0 0 o k)
  (fun i e h hi ⟨c,h2,hs,g1,g2,g3⟩=>by
   cases hs
   have e1:decide ((i:Int)<l.length)=true:=by simp;omega
   have e2:0≤(i:Int)∧(i:Int)<l.length:=by omega
   have e3:=wrap_next (n:=l.length) (i:=i) (by omega) (by omega)
   obtain⟨c',h',a1,a2,a3,a4⟩:=((g1.push (x:=.row 0 (encTable (tblAt l i)))).push (x:=.row 1 [str (tblAt l i).name])).append (tblAt l i).name (by simp;omega)
   refine⟨_,⟨c',h',rfl,?_,?_,?_⟩,by simp only[encTable] at a1;simp +decide -implicitDefEqProofs only[k89b2,go_sem,e1,e2,e3,set_new,encTable,a1]⟩
   ·rw[take_next (fun x:Table=>x.name) default hi,←List.append_assoc];exact a2
   ·refine a4 0 M ?_ g3
    rw[List.getElem?_append_left (by simp),List.getElem?_append_left (List.getElem?_eq_some_iff.1 g2).1];exact g2
   ·intro o k hq;rw[a3] at hq;simp at hq)
  (fun e h ⟨c,h2,hs,g1,g2,g3⟩=>by
   cases hs
   refine⟨_,⟨c,_,rfl,?_,g2,g3⟩,by simp +decide -implicitDefEqProofs only[k89b2,go_sem,Int.lt_irrefl,decide_false]⟩
   rw[List.take_length] at g1;exact g1)
  l.length 0 m _ h (by omega) hm ⟨c,h,rfl,by simpa using hg,h0,hc⟩
 exact⟨c',h',L,g1,g2,g3⟩
theorem named_l3 {vals:FuncId→Bool}{call:CallF}{n:Nat}(l:List Tm.Func)(hl:l.length<2^20)(M:Tm.Node)(out0:List ByteArray)(ho:out0.length<2^20)(m:Nat)(hm:l.length<m)(c:C)(h:Heap)(hg:GrowG str h c out0)(h0:h[0]?=some M)(hc:∀o k,c≠ .os 0 0 o k):
  ∃c' h',Tm.Loop Try.prog vals call n [3,55,56,57] k89b3 m ⟨[(3,c),(55,funcs l),(56,int l.length),(57,int 0)],h⟩=some (.exit 6,⟨[(3,c'),(55,funcs l),(56,int l.length),(57,int l.length),(58,bool false)],h'⟩)∧GrowG str h' c' (out0++l.map (·.name))∧h'[0]?=some M∧∀o k,c'≠ .os 0 0 o k:=by
 have hmr:(2:Nat)^22<maxRow:=by decide
 obtain⟨s,⟨c',h',rfl,g1,g2,g3⟩,L⟩:=Loop_run (P:=Try.prog) (vals:=vals) (call:=call) (n:=n) (ks:=[3,55,56,57]) (K:=k89b3) (id:=6) l.length
  (fun i s=>∃c h,s=⟨[(3,c),(55,funcs l),(56,int l.length),(57,int i)],h⟩∧GrowG str h c (out0++(l.take i).map (·.name))∧h[0]?=some M∧∀o k,c≠ .os 0 0 o k)
  (fun s=>∃c h,s=⟨[(3,c),(55,funcs l),(56,int l.length),(57,int l.length),(58,bool false)],h⟩∧GrowG str h c (out0++l.map (·.name))∧h[0]?=some M∧∀o k,c≠ .os 0 0 o k)
  (fun i e h hi ⟨c,h2,hs,g1,g2,g3⟩=>by
   cases hs
   have e1:decide ((i:Int)<l.length)=true:=by simp;omega
   have e2:0≤(i:Int)∧(i:Int)<l.length:=by omega
   have e3:=wrap_next (n:=l.length) (i:=i) (by omega) (by omega)
   obtain⟨c',h',a1,a2,a3,a4⟩:=((g1.push (x:=.row 0 (encFunc (fnAt l i)))).push (x:=.row 1 [str (fnAt l i).name])).append (fnAt l i).name (by simp;omega)
   refine⟨_,⟨c',h',rfl,?_,?_,?_⟩,by simp only[encFunc] at a1;simp +decide -implicitDefEqProofs only[k89b3,go_sem,e1,e2,e3,set_new,encFunc,a1]⟩
   ·rw[take_next (fun x:Tm.Func=>x.name) default hi,←List.append_assoc];exact a2
   ·refine a4 0 M ?_ g3
    rw[List.getElem?_append_left (by simp),List.getElem?_append_left (List.getElem?_eq_some_iff.1 g2).1];exact g2
   ·intro o k hq;rw[a3] at hq;simp at hq)
  (fun e h ⟨c,h2,hs,g1,g2,g3⟩=>by
   cases hs
   refine⟨_,⟨c,_,rfl,?_,g2,g3⟩,by simp +decide -implicitDefEqProofs only[k89b3,go_sem,Int.lt_irrefl,decide_false]⟩
   rw[List.take_length] at g1;exact g1)
  l.length 0 m _ h (by omega) hm ⟨c,h,rfl,by simpa using hg,h0,hc⟩
 exact⟨c',h',L,g1,g2,g3⟩
theorem take_strs {L:List ByteArray}{i:Nat}(h:i<L.length):L.take (i+1)=L.take i++[L.getD i ByteArray.empty]:=by
 have:=take_next id ByteArray.empty h
 simpa using this
theorem named_l4 {vals:FuncId→Bool}{k:Nat}(hk:20≤k)(L:List ByteArray)(hL:L.length<2^20)(q:Nat)(c:C)(m:Nat)(hm:L.length<m)(h:Heap)(es:Array MapEntry)(ck:Nat)(hq:h[q]?=some (.map es ck))(he:MapOk es.toList [])(hg:GrowG str h c L):
  ∃h',Tm.Loop Try.prog vals (callAt Try.prog tab k) k [12,68,69,70] k89b4 m ⟨[(12,.om q),(68,c),(69,int L.length),(70,int 0)],h⟩=some (if (List.range' 0 L.length).any (badN nameB L)=true then(.ret,⟨[(2,bool false)],h'⟩) else(.exit 8,⟨[(12,.om q),(68,c),(69,int L.length),(70,int L.length),(71,bool false)],h'⟩)):=by
 have hn:∀s h,callAt Try.prog tab k 54 [str s] h=some (bool (nameB s),h):=fun s h=>name_runs s k hk _ h (by simp only[mapC_cons,mapC_nil,depth,view_str,Option.bind_some])
 generalize callAt Try.prog tab k=call at hn⊢
 obtain⟨h',j,_,L1⟩:=Loop_anyI (P:=Try.prog) (vals:=vals) (call:=call) (n:=k) (ks:=[12,68,69,70]) (K:=k89b4) (id:=8) L.length (badN nameB L) (fun i=>[(12,.om q),(68,c),(69,int L.length),(70,int i)]) [(2,bool false)] [(12,.om q),(68,c),(69,int L.length),(70,int L.length),(71,bool false)]
  (fun i h=>∃es ck,h[q]?=some (.map es ck)∧MapOk es.toList (L.take i)∧GrowG str h c L)
  (fun i h hi ⟨es,ck,h1,h2,h3⟩=>by
   have e1:decide ((i:Int)<L.length)=true:=by simp;omega
   have e2:0≤(i:Int)∧(i:Int)<L.length:=by omega
   have e3:=wrap_next (n:=L.length) (i:=i) (by omega) (by omega)
   generalize hs:L.getD i ByteArray.empty=s
   have hcn:(L.take i).count s<2^40:=Nat.lt_of_le_of_lt List.count_le_length (by rw[List.length_take];omega)
   obtain⟨es',ck',u1,u2⟩:=update_at map112 und9 h1 h2 s
   have l1:=lookup_at map112 und9 zero3 h1 h2 s
   have l2:=lookup_at (h:=h.set q (.map es' ck')) map112 und9 zero3 (List.getElem?_set_self (List.getElem?_eq_some_iff.1 h1).1) u2 s
   rw[count_self] at l2
   rcases h3 with ⟨rfl,_⟩|⟨p,rfl,hp⟩
   ·simp at hi
   ·refine⟨h.set q (.map es' ck'),⟨es',ck',List.getElem?_set_self (List.getElem?_eq_some_iff.1 h1).1,by rw[take_strs hi,hs];exact u2,.inr ⟨p,rfl,?_⟩⟩,?_⟩
    ·rw[List.getElem?_set_ne (fun e=>by rw[e,hp] at h1;simp at h1)];exact hp
    ·unfold badN
     rw[hs]
     have hj:(i:Int).toNat*1<L.length:=by omega
     have hs2:L.getD ((i:Int).toNat*1) ByteArray.empty=s:=by rw[←hs];simp
     cases c1:nameB s<;>cases c2:decide (0<(L.take i).count s)<;>(rw[←gt1] at c2;simp +decide -implicitDefEqProofs only[k89b4,go_sem,e1,e2,e3,hp,hj,hs2,l1,wrap1 hcn,u1,l2,hn,c1,c2,Nat.zero_add,Int.toNat_natCast,Nat.mul_one,hi,hs]))
  (fun h ⟨es,ck,h1,h2,h3⟩=>⟨h,⟨es,ck,h1,h2,h3⟩,by simp +decide -implicitDefEqProofs only[k89b4,go_sem,Int.lt_irrefl,decide_false]⟩)
  L.length 0 m h (by omega) hm ⟨es,ck,hq,he,hg⟩
 exact⟨h',L1⟩
def cntN (nm:ByteArray→Bool)(L:List ByteArray)(i:Nat):Nat:=(List.range i).countP (badN nm L)
theorem cntN_next (nm:ByteArray→Bool)(L:List ByteArray)(i:Nat):cntN nm L (i+1)=cntN nm L i+if badN nm L i=true then 1 else 0:=by
 unfold cntN
 rw[List.range_succ,List.countP_append,List.countP_singleton]
theorem cntN_le (nm:ByteArray→Bool)(L:List ByteArray)(i:Nat):cntN nm L i≤i:=by
 have:=List.countP_le_length (p:=badN nm L) (l:=List.range i)
 rwa [List.length_range] at this
theorem cntN_zero (nm:ByteArray→Bool)(L:List ByteArray)(i:Nat):decide ((cntN nm L i:Int)=0)= !(List.range' 0 i).any (badN nm L):=by
 unfold cntN
 rw[←List.range_eq_range']
 cases h:(List.range i).any (badN nm L) with
 |true=>
  have:0<(List.range i).countP (badN nm L):=by
   rw[List.countP_pos_iff]
   exact List.any_eq_true.1 h
  rw[decide_eq_false (by omega)];rfl
 |false=>
  have:(List.range i).countP (badN nm L)=0:=by
   rw[List.countP_eq_zero]
   exact fun a ha hb=>absurd (List.any_eq_false.1 h a ha) (by simp[hb])
  rw[decide_eq_true (by omega)];rfl
theorem getD_mid {α:Type}(f:α→ByteArray)(z:α)(A B:List ByteArray)(l:List α)(i:Nat)(hi:i<l.length):(A++l.map f++B).getD (A.length+i) ByteArray.empty=f (l.getD i z):=by
 rw[List.getD_eq_getElem?_getD,List.append_assoc,List.getElem?_append_right (by omega),Nat.add_sub_cancel_left,List.getElem?_append_left (by simpa using hi),List.getElem?_map,List.getElem?_eq_getElem hi,List.getD_eq_getElem?_getD,List.getElem?_eq_getElem hi]
 rfl
theorem names_l0 {vals:FuncId→Bool}{k:Nat}(hk:20≤k)(l:List Extern)(hl:l.length<2^20)(q:Nat)(A B:List ByteArray)(hL:(A++l.map (·.name)++B).length<2^20)(u v w:C)(m:Nat)(hm:l.length<m)(h:Heap)(es:Array MapEntry)(ck:Nat)(hq:h[q]?=some (.map es ck))(he:MapOk es.toList A)(h0:h[0]?=some (.row 0 [externs l,u,v,w])):
  ∃h' es' ck',Tm.Loop Try.prog vals (callAt Try.prog tab (k+1)) (k+1) [1,3,4,5] k81b0 m ⟨[(1,.op 0 0),(3,.om q),(4,int (cntN nameB (A++l.map (·.name)++B) A.length:Nat)),(5,int 0)],h⟩=some (.exit 0,⟨[(1,.op 0 0),(3,.om q),(4,int (cntN nameB (A++l.map (·.name)++B) (A++l.map (·.name)).length:Nat)),(5,int l.length),(14,bool false)],h'⟩)∧h'[q]?=some (.map es' ck')∧MapOk es'.toList (A++l.map (·.name))∧h'[0]?=some (.row 0 [externs l,u,v,w]):=by
 have hcall:=fun(h:Heap) (es:Array MapEntry) (ck:Nat) (L:List ByteArray) (s:ByteArray) (h1:h[q]?=some (.map es ck)) (h2:MapOk es.toList L) (h3:L.length<2^40)=>one_ref hk h1 h2 h3 s
 generalize callAt Try.prog tab (k+1)=call at hcall⊢
 generalize hLL:A++l.map (·.name)++B=L at hL⊢
 obtain⟨s,⟨h',es',ck',rfl,g1,g2,g3⟩,L1⟩:=Loop_run (P:=Try.prog) (vals:=vals) (call:=call) (n:=k+1) (ks:=[1,3,4,5]) (K:=k81b0) (id:=0) l.length
  (fun i s=>∃h es ck,s=⟨[(1,.op 0 0),(3,.om q),(4,int (cntN nameB L (A.length+i):Nat)),(5,int i)],h⟩∧h[q]?=some (.map es ck)∧MapOk es.toList (A++(l.take i).map (·.name))∧h[0]?=some (.row 0 [externs l,u,v,w]))
  (fun s=>∃h es ck,s=⟨[(1,.op 0 0),(3,.om q),(4,int (cntN nameB L (A++l.map (·.name)).length:Nat)),(5,int l.length),(14,bool false)],h⟩∧h[q]?=some (.map es ck)∧MapOk es.toList (A++l.map (·.name))∧h[0]?=some (.row 0 [externs l,u,v,w]))
  (fun i e h hi ⟨h2,es,ck,hs,g1,g2,g3⟩=>by
   cases hs
   have e1:decide ((i:Int)<l.length)=true:=by simp;omega
   have e2:0≤(i:Int)∧(i:Int)<l.length:=by omega
   have e3:=wrap_next (n:=l.length) (i:=i) (by omega) (by omega)
   have hAl:A.length+i<L.length:=by rw[←hLL];simp;omega
   have hle:=cntN_le nameB L (A.length+i)
   obtain⟨es',ck',a1,a2⟩:=hcall _ es ck _ (extAt l i).name g1 g2 (by simp;omega)
   have hb:badN nameB L (A.length+i)=(!nameB (extAt l i).name||decide (0<(A++(l.take i).map (·.name)).count (extAt l i).name)):=by
    unfold badN
    rw[←hLL,getD_mid (fun x:Extern=>x.name) default A B l i hi]
    congr 4
    rw[List.append_assoc,List.take_length_add_append,List.take_append_of_le_length (by simp;omega),List.map_take]
   rw[←hb] at a1
   have hw:IntKind.i64.wrap ((cntN nameB L (A.length+i):Int)+(if badN nameB L (A.length+i)=true then 1 else 0))=((cntN nameB L (A.length+(i+1)):Nat):Int):=by
    rw[←Nat.add_assoc,cntN_next]
    cases badN nameB L (A.length+i) with
    |true=>rw[if_pos rfl,if_pos rfl,wrap_in (by omega) (by omega)];omega
    |false=>rw[if_neg (by decide),if_neg (by decide),wrap_in (by omega) (by omega)];omega
   refine⟨_,⟨_,es',ck',rfl,List.getElem?_set_self (List.getElem?_eq_some_iff.1 g1).1,?_,?_⟩,by simp +decide -implicitDefEqProofs only[k81b0,go_sem,e1,e2,e3,g3,a1,hw]⟩
   ·rw[take_next (fun x:Extern=>x.name) default hi,←List.append_assoc];exact a2
   ·rw[List.getElem?_set_ne (fun e=>by rw[e,g3] at g1;simp at g1)];exact g3)
  (fun e h ⟨h2,es,ck,hs,g1,g2,g3⟩=>by
   cases hs
   refine⟨_,⟨_,es,ck,rfl,g1,?_,g3⟩,by simp +decide -implicitDefEqProofs only[k81b0,go_sem,g3,Int.lt_irrefl,decide_false,List.length_append,List.length_map]⟩
   rw[List.take_length] at g2;exact g2)
  l.length 0 m _ h (by omega) hm ⟨h,es,ck,rfl,hq,by simpa using he,h0⟩
 exact⟨h',es',ck',L1,g1,g2,g3⟩
theorem names_l1 {vals:FuncId→Bool}{k:Nat}(hk:20≤k)(l:List Tm.Global)(hl:l.length<2^20)(q:Nat)(A B:List ByteArray)(hL:(A++l.map (·.name)++B).length<2^20)(u v w:C)(m:Nat)(hm:l.length<m)(h:Heap)(es:Array MapEntry)(ck:Nat)(hq:h[q]?=some (.map es ck))(he:MapOk es.toList A)(h0:h[0]?=some (.row 0 [u,globals l,v,w])):
  ∃h' es' ck',Tm.Loop Try.prog vals (callAt Try.prog tab (k+1)) (k+1) [1,3,4,6] k81b1 m ⟨[(1,.op 0 0),(3,.om q),(4,int (cntN nameB (A++l.map (·.name)++B) A.length:Nat)),(6,int 0)],h⟩=some (.exit 2,⟨[(1,.op 0 0),(3,.om q),(4,int (cntN nameB (A++l.map (·.name)++B) (A++l.map (·.name)).length:Nat)),(6,int l.length),(31,bool false)],h'⟩)∧h'[q]?=some (.map es' ck')∧MapOk es'.toList (A++l.map (·.name))∧h'[0]?=some (.row 0 [u,globals l,v,w]):=by
 have hcall:=fun(h:Heap) (es:Array MapEntry) (ck:Nat) (L:List ByteArray) (s:ByteArray) (h1:h[q]?=some (.map es ck)) (h2:MapOk es.toList L) (h3:L.length<2^40)=>one_ref hk h1 h2 h3 s
 generalize callAt Try.prog tab (k+1)=call at hcall⊢
 generalize hLL:A++l.map (·.name)++B=L at hL⊢
 obtain⟨s,⟨h',es',ck',rfl,g1,g2,g3⟩,L1⟩:=Loop_run (P:=Try.prog) (vals:=vals) (call:=call) (n:=k+1) (ks:=[1,3,4,6]) (K:=k81b1) (id:=2) l.length
  (fun i s=>∃h es ck,s=⟨[(1,.op 0 0),(3,.om q),(4,int (cntN nameB L (A.length+i):Nat)),(6,int i)],h⟩∧h[q]?=some (.map es ck)∧MapOk es.toList (A++(l.take i).map (·.name))∧h[0]?=some (.row 0 [u,globals l,v,w]))
  (fun s=>∃h es ck,s=⟨[(1,.op 0 0),(3,.om q),(4,int (cntN nameB L (A++l.map (·.name)).length:Nat)),(6,int l.length),(31,bool false)],h⟩∧h[q]?=some (.map es ck)∧MapOk es.toList (A++l.map (·.name))∧h[0]?=some (.row 0 [u,globals l,v,w]))
  (fun i e h hi ⟨h2,es,ck,hs,g1,g2,g3⟩=>by
   cases hs
   have e1:decide ((i:Int)<l.length)=true:=by simp;omega
   have e2:0≤(i:Int)∧(i:Int)<l.length:=by omega
   have e3:=wrap_next (n:=l.length) (i:=i) (by omega) (by omega)
   have hAl:A.length+i<L.length:=by rw[←hLL];simp;omega
   have hle:=cntN_le nameB L (A.length+i)
   obtain⟨es',ck',a1,a2⟩:=hcall _ es ck _ (gloAt l i).name g1 g2 (by simp;omega)
   have hb:badN nameB L (A.length+i)=(!nameB (gloAt l i).name||decide (0<(A++(l.take i).map (·.name)).count (gloAt l i).name)):=by
    unfold badN
    rw[←hLL,getD_mid (fun x:Tm.Global=>x.name) default A B l i hi]
    congr 4
    rw[List.append_assoc,List.take_length_add_append,List.take_append_of_le_length (by simp;omega),List.map_take]
   rw[←hb] at a1
   have hw:IntKind.i64.wrap ((cntN nameB L (A.length+i):Int)+(if badN nameB L (A.length+i)=true then 1 else 0))=((cntN nameB L (A.length+(i+1)):Nat):Int):=by
    rw[←Nat.add_assoc,cntN_next]
    cases badN nameB L (A.length+i) with
    |true=>rw[if_pos rfl,if_pos rfl,wrap_in (by omega) (by omega)];omega
    |false=>rw[if_neg (by decide),if_neg (by decide),wrap_in (by omega) (by omega)];omega
   refine⟨_,⟨_,es',ck',rfl,List.getElem?_set_self (List.getElem?_eq_some_iff.1 g1).1,?_,?_⟩,by simp +decide -implicitDefEqProofs only[k81b1,go_sem,e1,e2,e3,g3,a1,hw]⟩
   ·rw[take_next (fun x:Tm.Global=>x.name) default hi,←List.append_assoc];exact a2
   ·rw[List.getElem?_set_ne (fun e=>by rw[e,g3] at g1;simp at g1)];exact g3)
  (fun e h ⟨h2,es,ck,hs,g1,g2,g3⟩=>by
   cases hs
   refine⟨_,⟨_,es,ck,rfl,g1,?_,g3⟩,by simp +decide -implicitDefEqProofs only[k81b1,go_sem,g3,Int.lt_irrefl,decide_false,List.length_append,List.length_map]⟩
   rw[List.take_length] at g2;exact g2)
  l.length 0 m _ h (by omega) hm ⟨h,es,ck,rfl,hq,by simpa using he,h0⟩
 exact⟨h',es',ck',L1,g1,g2,g3⟩
theorem names_l2 {vals:FuncId→Bool}{k:Nat}(hk:20≤k)(l:List Table)(hl:l.length<2^20)(q:Nat)(A B:List ByteArray)(hL:(A++l.map (·.name)++B).length<2^20)(u v w:C)(m:Nat)(hm:l.length<m)(h:Heap)(es:Array MapEntry)(ck:Nat)(hq:h[q]?=some (.map es ck))(he:MapOk es.toList A)(h0:h[0]?=some (.row 0 [u,v,tables l,w])):
  ∃h' es' ck',Tm.Loop Try.prog vals (callAt Try.prog tab (k+1)) (k+1) [1,3,4,7] k81b2 m ⟨[(1,.op 0 0),(3,.om q),(4,int (cntN nameB (A++l.map (·.name)++B) A.length:Nat)),(7,int 0)],h⟩=some (.exit 4,⟨[(1,.op 0 0),(3,.om q),(4,int (cntN nameB (A++l.map (·.name)++B) (A++l.map (·.name)).length:Nat)),(7,int l.length),(48,bool false)],h'⟩)∧h'[q]?=some (.map es' ck')∧MapOk es'.toList (A++l.map (·.name))∧h'[0]?=some (.row 0 [u,v,tables l,w]):=by
 have hcall:=fun(h:Heap) (es:Array MapEntry) (ck:Nat) (L:List ByteArray) (s:ByteArray) (h1:h[q]?=some (.map es ck)) (h2:MapOk es.toList L) (h3:L.length<2^40)=>one_ref hk h1 h2 h3 s
 generalize callAt Try.prog tab (k+1)=call at hcall⊢
 generalize hLL:A++l.map (·.name)++B=L at hL⊢
 obtain⟨s,⟨h',es',ck',rfl,g1,g2,g3⟩,L1⟩:=Loop_run (P:=Try.prog) (vals:=vals) (call:=call) (n:=k+1) (ks:=[1,3,4,7]) (K:=k81b2) (id:=4) l.length
  (fun i s=>∃h es ck,s=⟨[(1,.op 0 0),(3,.om q),(4,int (cntN nameB L (A.length+i):Nat)),(7,int i)],h⟩∧h[q]?=some (.map es ck)∧MapOk es.toList (A++(l.take i).map (·.name))∧h[0]?=some (.row 0 [u,v,tables l,w]))
  (fun s=>∃h es ck,s=⟨[(1,.op 0 0),(3,.om q),(4,int (cntN nameB L (A++l.map (·.name)).length:Nat)),(7,int l.length),(48,bool false)],h⟩∧h[q]?=some (.map es ck)∧MapOk es.toList (A++l.map (·.name))∧h[0]?=some (.row 0 [u,v,tables l,w]))
  (fun i e h hi ⟨h2,es,ck,hs,g1,g2,g3⟩=>by
   cases hs
   have e1:decide ((i:Int)<l.length)=true:=by simp;omega
   have e2:0≤(i:Int)∧(i:Int)<l.length:=by omega
   have e3:=wrap_next (n:=l.length) (i:=i) (by omega) (by omega)
   have hAl:A.length+i<L.length:=by rw[←hLL];simp;omega
   have hle:=cntN_le nameB L (A.length+i)
   obtain⟨es',ck',a1,a2⟩:=hcall _ es ck _ (tblAt l i).name g1 g2 (by simp;omega)
   have hb:badN nameB L (A.length+i)=(!nameB (tblAt l i).name||decide (0<(A++(l.take i).map (·.name)).count (tblAt l i).name)):=by
    unfold badN
    rw[←hLL,getD_mid (fun x:Table=>x.name) default A B l i hi]
    congr 4
    rw[List.append_assoc,List.take_length_add_append,List.take_append_of_le_length (by simp;omega),List.map_take]
   rw[←hb] at a1
   have hw:IntKind.i64.wrap ((cntN nameB L (A.length+i):Int)+(if badN nameB L (A.length+i)=true then 1 else 0))=((cntN nameB L (A.length+(i+1)):Nat):Int):=by
    rw[←Nat.add_assoc,cntN_next]
    cases badN nameB L (A.length+i) with
    |true=>rw[if_pos rfl,if_pos rfl,wrap_in (by omega) (by omega)];omega
    |false=>rw[if_neg (by decide),if_neg (by decide),wrap_in (by omega) (by omega)];omega
   refine⟨_,⟨_,es',ck',rfl,List.getElem?_set_self (List.getElem?_eq_some_iff.1 g1).1,?_,?_⟩,by simp +decide -implicitDefEqProofs only[k81b2,go_sem,e1,e2,e3,g3,a1,hw]⟩
   ·rw[take_next (fun x:Table=>x.name) default hi,←List.append_assoc];exact a2
   ·rw[List.getElem?_set_ne (fun e=>by rw[e,g3] at g1;simp at g1)];exact g3)
  (fun e h ⟨h2,es,ck,hs,g1,g2,g3⟩=>by
   cases hs
   refine⟨_,⟨_,es,ck,rfl,g1,?_,g3⟩,by simp +decide -implicitDefEqProofs only[k81b2,go_sem,g3,Int.lt_irrefl,decide_false,List.length_append,List.length_map]⟩
   rw[List.take_length] at g2;exact g2)
  l.length 0 m _ h (by omega) hm ⟨h,es,ck,rfl,hq,by simpa using he,h0⟩
 exact⟨h',es',ck',L1,g1,g2,g3⟩
theorem names_l3 {vals:FuncId→Bool}{k:Nat}(hk:20≤k)(l:List Tm.Func)(hl:l.length<2^20)(q:Nat)(A B:List ByteArray)(hL:(A++l.map (·.name)++B).length<2^20)(u v w:C)(m:Nat)(hm:l.length<m)(h:Heap)(es:Array MapEntry)(ck:Nat)(hq:h[q]?=some (.map es ck))(he:MapOk es.toList A)(h0:h[0]?=some (.row 0 [u,v,w,funcs l])):
  ∃h' es' ck',Tm.Loop Try.prog vals (callAt Try.prog tab (k+1)) (k+1) [1,3,4,8] k81b3 m ⟨[(1,.op 0 0),(3,.om q),(4,int (cntN nameB (A++l.map (·.name)++B) A.length:Nat)),(8,int 0)],h⟩=some (.exit 6,⟨[(1,.op 0 0),(3,.om q),(4,int (cntN nameB (A++l.map (·.name)++B) (A++l.map (·.name)).length:Nat)),(8,int l.length),(65,bool false)],h'⟩)∧h'[q]?=some (.map es' ck')∧MapOk es'.toList (A++l.map (·.name))∧h'[0]?=some (.row 0 [u,v,w,funcs l]):=by
 have hcall:=fun(h:Heap) (es:Array MapEntry) (ck:Nat) (L:List ByteArray) (s:ByteArray) (h1:h[q]?=some (.map es ck)) (h2:MapOk es.toList L) (h3:L.length<2^40)=>one_ref hk h1 h2 h3 s
 generalize callAt Try.prog tab (k+1)=call at hcall⊢
 generalize hLL:A++l.map (·.name)++B=L at hL⊢
 obtain⟨s,⟨h',es',ck',rfl,g1,g2,g3⟩,L1⟩:=Loop_run (P:=Try.prog) (vals:=vals) (call:=call) (n:=k+1) (ks:=[1,3,4,8]) (K:=k81b3) (id:=6) l.length
  (fun i s=>∃h es ck,s=⟨[(1,.op 0 0),(3,.om q),(4,int (cntN nameB L (A.length+i):Nat)),(8,int i)],h⟩∧h[q]?=some (.map es ck)∧MapOk es.toList (A++(l.take i).map (·.name))∧h[0]?=some (.row 0 [u,v,w,funcs l]))
  (fun s=>∃h es ck,s=⟨[(1,.op 0 0),(3,.om q),(4,int (cntN nameB L (A++l.map (·.name)).length:Nat)),(8,int l.length),(65,bool false)],h⟩∧h[q]?=some (.map es ck)∧MapOk es.toList (A++l.map (·.name))∧h[0]?=some (.row 0 [u,v,w,funcs l]))
  (fun i e h hi ⟨h2,es,ck,hs,g1,g2,g3⟩=>by
   cases hs
   have e1:decide ((i:Int)<l.length)=true:=by simp;omega
   have e2:0≤(i:Int)∧(i:Int)<l.length:=by omega
   have e3:=wrap_next (n:=l.length) (i:=i) (by omega) (by omega)
   have hAl:A.length+i<L.length:=by rw[←hLL];simp;omega
   have hle:=cntN_le nameB L (A.length+i)
   obtain⟨es',ck',a1,a2⟩:=hcall _ es ck _ (fnAt l i).name g1 g2 (by simp;omega)
   have hb:badN nameB L (A.length+i)=(!nameB (fnAt l i).name||decide (0<(A++(l.take i).map (·.name)).count (fnAt l i).name)):=by
    unfold badN
    rw[←hLL,getD_mid (fun x:Tm.Func=>x.name) default A B l i hi]
    congr 4
    rw[List.append_assoc,List.take_length_add_append,List.take_append_of_le_length (by simp;omega),List.map_take]
   rw[←hb] at a1
   have hw:IntKind.i64.wrap ((cntN nameB L (A.length+i):Int)+(if badN nameB L (A.length+i)=true then 1 else 0))=((cntN nameB L (A.length+(i+1)):Nat):Int):=by
    rw[←Nat.add_assoc,cntN_next]
    cases badN nameB L (A.length+i) with
    |true=>rw[if_pos rfl,if_pos rfl,wrap_in (by omega) (by omega)];omega
    |false=>rw[if_neg (by decide),if_neg (by decide),wrap_in (by omega) (by omega)];omega
   refine⟨_,⟨_,es',ck',rfl,List.getElem?_set_self (List.getElem?_eq_some_iff.1 g1).1,?_,?_⟩,by simp +decide -implicitDefEqProofs only[k81b3,go_sem,e1,e2,e3,g3,a1,hw]⟩
   ·rw[take_next (fun x:Tm.Func=>x.name) default hi,←List.append_assoc];exact a2
   ·rw[List.getElem?_set_ne (fun e=>by rw[e,g3] at g1;simp at g1)];exact g3)
  (fun e h ⟨h2,es,ck,hs,g1,g2,g3⟩=>by
   cases hs
   refine⟨_,⟨_,es,ck,rfl,g1,?_,g3⟩,by simp +decide -implicitDefEqProofs only[k81b3,go_sem,g3,Int.lt_irrefl,decide_false,List.length_append,List.length_map]⟩
   rw[List.take_length] at g2;exact g2)
  l.length 0 m _ h (by omega) hm ⟨h,es,ck,rfl,hq,by simpa using he,h0⟩
 exact⟨h',es',ck',L1,g1,g2,g3⟩
def namedB (m:Tm.Module):Bool:= !(List.range' 0 (namesOf m).length).any (badN nameB (namesOf m))
theorem wnamed_runs (m:Tm.Module)(F:FineM m):Runs Try.prog tab 200 89 [.agg (encModule m)] (bool (namedB m)):=by
 refine Runs.by (rs:=[.tmp 2]) (N:=88) rfl Try.func89 rfl rfl (by simp) fun k hk=>?_
 have b1:=F.externs
 have b2:=F.globals
 have b3:=F.tables
 have b4:=F.funcs
 have hlen:(namesOf m).length<100:=by simp[namesOf];omega
 obtain⟨c1,h1,L1,g1,m1,n1⟩:=named_l0 (vals:=valsOf tab) (call:=callAt Try.prog tab k) (n:=k) m.externs (by omega) (.row 0 [externs m.externs,globals m.globals,tables m.tables,funcs m.funcs]) [] (by simp) k (by omega) (.v (.slice none 0 0)) [.row 0 [externs m.externs,globals m.globals,tables m.tables,funcs m.funcs]] (.inl ⟨rfl,rfl⟩) rfl (by simp)
 obtain⟨c2,h2,L2,g2,m2,n2⟩:=named_l1 (vals:=valsOf tab) (call:=callAt Try.prog tab k) (n:=k) m.globals (by omega) (.row 0 [externs m.externs,globals m.globals,tables m.tables,funcs m.funcs]) _ (by simp;omega) k (by omega) c1 h1 g1 m1 n1
 obtain⟨c3,h3,L3,g3,m3,n3⟩:=named_l2 (vals:=valsOf tab) (call:=callAt Try.prog tab k) (n:=k) m.tables (by omega) (.row 0 [externs m.externs,globals m.globals,tables m.tables,funcs m.funcs]) _ (by simp;omega) k (by omega) c2 h2 g2 m2 n2
 obtain⟨c4,h4,L4,g4,m4,n4⟩:=named_l3 (vals:=valsOf tab) (call:=callAt Try.prog tab k) (n:=k) m.funcs (by omega) (.row 0 [externs m.externs,globals m.globals,tables m.tables,funcs m.funcs]) _ (by simp;omega) k (by omega) c3 h3 g3 m3 n3
 have g4:GrowG str h4 c4 (namesOf m):=by simpa[namesOf] using g4
 obtain⟨h5,L5⟩:=named_l4 (vals:=valsOf tab) (k:=k) (by omega) (namesOf m) (by omega) h4.length c4 k (by omega) (h4++[.map #[] 0]) #[] 0 (by simp) MapOk.nil g4.push
 have hl:lenS c4=some (int (namesOf m).length):=by
  rcases g4 with ⟨e1,rfl⟩|⟨p,rfl,_⟩
  ·rw[e1];rfl
  ·rfl
 rw[enc_module]
 unfold namedB
 cases x:(List.range' 0 (namesOf m).length).any (badN nameB (namesOf m)) with
 |true=>
  rw[x,if_pos rfl] at L5
  simp +decide -implicitDefEqProofs only[k89,go_sem,L1,L2,L3,L4,L5,m1,m2,m3,hl];exact⟨_,_,rfl,rfl⟩
 |false=>
  rw[x,if_neg (by decide)] at L5
  simp +decide -implicitDefEqProofs only[k89,go_sem,L1,L2,L3,L4,L5,m1,m2,m3,hl];exact⟨_,_,rfl,rfl⟩
theorem rnames_runs (m:Tm.Module)(F:FineM m):Runs Try.prog tab 200 81 [.agg (encModule m)] (bool (namedB m)):=by
 refine Runs.by (rs:=[.tmp 2]) (N:=80) rfl Try.func81 rfl rfl (by simp) fun k hk=>?_
 obtain⟨k,rfl⟩:∃p,k=p+1:=⟨k-1,by omega⟩
 have b1:=F.externs
 have b2:=F.globals
 have b3:=F.tables
 have b4:=F.funcs
 have hlen:(namesOf m).length<100:=by simp[namesOf];omega
 have q1:namesOf m=[]++m.externs.map (·.name)++(m.globals.map (·.name)++m.tables.map (·.name)++m.funcs.map (·.name)):=by simp[namesOf]
 have q2:namesOf m=m.externs.map (·.name)++m.globals.map (·.name)++(m.tables.map (·.name)++m.funcs.map (·.name)):=by simp[namesOf]
 have q3:namesOf m=(m.externs.map (·.name)++m.globals.map (·.name))++m.tables.map (·.name)++m.funcs.map (·.name):=by simp[namesOf]
 have q4:namesOf m=(m.externs.map (·.name)++m.globals.map (·.name)++m.tables.map (·.name))++m.funcs.map (·.name)++[]:=by simp[namesOf]
 obtain⟨h1,es1,ck1,L1,m1,o1,g1⟩:=names_l0 (vals:=valsOf tab) (k:=k) (by omega) m.externs (by omega) 1 [] (m.globals.map (·.name)++m.tables.map (·.name)++m.funcs.map (·.name)) (by rw[←q1];omega) _ _ _ (k+1) (by omega) [.row 0 [externs m.externs,globals m.globals,tables m.tables,funcs m.funcs],.map #[] 0] #[] 0 rfl MapOk.nil rfl
 obtain⟨h2,es2,ck2,L2,m2,o2,g2⟩:=names_l1 (vals:=valsOf tab) (k:=k) (by omega) m.globals (by omega) 1 (m.externs.map (·.name)) (m.tables.map (·.name)++m.funcs.map (·.name)) (by rw[←q2];omega) _ _ _ (k+1) (by omega) h1 es1 ck1 m1 o1 g1
 obtain⟨h3,es3,ck3,L3,m3,o3,g3⟩:=names_l2 (vals:=valsOf tab) (k:=k) (by omega) m.tables (by omega) 1 (m.externs.map (·.name)++m.globals.map (·.name)) (m.funcs.map (·.name)) (by rw[←q3];omega) _ _ _ (k+1) (by omega) h2 es2 ck2 m2 o2 g2
 obtain⟨h4,es4,ck4,L4,m4,o4,g4⟩:=names_l3 (vals:=valsOf tab) (k:=k) (by omega) m.funcs (by omega) 1 (m.externs.map (·.name)++m.globals.map (·.name)++m.tables.map (·.name)) [] (by rw[←q4];omega) _ _ _ (k+1) (by omega) h3 es3 ck3 m3 o3 g3
 rw[←q1] at L1
 simp only[List.nil_append] at L1 L2
 rw[←q2] at L2
 rw[←q3] at L3
 rw[←q4] at L4
 have z:cntN nameB (namesOf m) ([]:List ByteArray).length=0:=rfl
 rw[z] at L1
 simp only[show((0:Nat):Int)=0 from rfl] at L1
 have fl:(m.externs.map (·.name)++m.globals.map (·.name)++m.tables.map (·.name)++m.funcs.map (·.name)).length=(namesOf m).length:=rfl
 rw[fl] at L4
 rw[enc_module]
 unfold namedB
 rw[←cntN_zero]
 simp +decide -implicitDefEqProofs only[k81,go_sem,L1,L2,L3,L4]
 cases decide ((cntN nameB (namesOf m) (namesOf m).length:Int)=0)<;>exact⟨_,_,rfl,rfl⟩
end Go.Proofs.Ytkcimaibaicdcaa.Tk
namespace Go.Tm
def GrowC (h:Heap)(c:C)(out:List Int):Prop:=∃l cap,c=.os l 0 out.length cap∧(cap=none∨cap=some out.length)∧h[l]?=some (.row 1 (out.map int))
theorem GrowC.mono {h h':Heap}{c:C}{out:List Int}(H:GrowC h c out)(hh:∀(l:Nat) (nd:Node),h[l]?=some nd→h'[l]?=some nd):GrowC h' c out:=by
 obtain⟨l,cap,e,e2,hl⟩:=H
 exact⟨l,cap,e,e2,hh _ _ hl⟩
theorem GrowC.push {h:Heap}{x:Node}{c:C}{out:List Int}(H:GrowC h c out):GrowC (h++[x]) c out:=H.mono fun l nd hl=>by rw[List.getElem?_append_left (List.getElem?_eq_some_iff.1 hl).1];exact hl
theorem GrowC.view {h:Heap}{c:C}{out:List Int}(H:GrowC h c out){cl:Bool}{n:Nat}:view cl h (n+2) c=some (ints out):=by
 obtain⟨l,cap,rfl,_,hl⟩:=H
 exact view_os_ints hl
theorem takeN_all (xs:List C):takeN xs.length xs=some xs:=by simp[takeN]
theorem GrowC.append {h:Heap}{c:C}{out:List Int}(H:GrowC h c out)(v:Int)(hn:out.length<maxRow):
  ∃c' h',appendTo h none 1 1 [int v] c=some (c',h')∧GrowC h' c' (out++[v])∧c'=.os h.length 0 (out.length+1) none∧∀(l:Nat) (nd:Node),h[l]?=some nd→(∀o cp,c≠ .os l 0 o cp)→h'[l]?=some nd:=by
 obtain⟨l,cap,rfl,hcap,hl⟩:=H
 have hlt:=(List.getElem?_eq_some_iff.1 hl).1
 rcases hcap with rfl|rfl
 ·refine⟨.os h.length 0 (out.length+1) none,h.set l .dead++[.row 1 (out.map int++[int v])],?_,⟨h.length,none,by simp,.inl rfl,?_⟩,rfl,fun l' nd hl' hne=>?_⟩
  ·simp only[appendTo,hl]
   rw[if_pos ⟨trivial,hn⟩]
   simp only[Nat.one_ne_zero,if_false,Nat.zero_add,Nat.mul_one,List.length_map]
   rw[if_neg (by omega),if_true]
   simp only[newRow,new_none_1,new_none_2,List.length_set,List.drop_zero]
  ·rw[List.getElem?_append_right (by simp),List.length_set,Nat.sub_self,List.map_append];rfl
  ·have e:l≠l':=fun e=>hne _ _ (by rw[e])
   rw[List.getElem?_append_left (by rw[List.length_set];exact(List.getElem?_eq_some_iff.1 hl').1),List.getElem?_set_ne e]
   exact hl'
 ·have ht:takeN (out.length*1) ((out.map int).drop 0)=some (out.map int):=by
   rw[List.drop_zero,Nat.mul_one];have:=takeN_all (out.map int);rwa [List.length_map] at this
  refine⟨.os h.length 0 (out.length+1) none,h++[.row 1 (out.map int++[int v])],?_,⟨h.length,none,by simp,.inl rfl,?_⟩,rfl,fun l' nd hl' hne=>?_⟩
  ·simp only[appendTo,hl]
   rw[if_pos ⟨trivial,hn⟩,if_neg (by omega),ht]
   simp only[newRow,new_none_1,new_none_2]
  ·rw[List.getElem?_append_right (by simp),Nat.sub_self,List.map_append];rfl
  ·rw[List.getElem?_append_left (List.getElem?_eq_some_iff.1 hl').1];exact hl'
theorem GrowC.first {h:Heap}{l:Nat}{z:Int}(xs:List Int)(hl:h[l]?=some (.row 1 [int z]))(hn:xs.length<2^20):
  ∃c' h',appendTo h none 1 xs.length (xs.map int) (.os l 0 1 (some 1))=some (c',h')∧GrowC h' c' (z::xs)∧(∀(k:Nat) (nd:Node),h[k]?=some nd→k≠l→h'[k]?=some nd)∧∃q o cp,c'=.os q 0 o cp∧l≤q:=by
 have hmr:(2:Nat)^22<maxRow:=by decide
 have hlt:=(List.getElem?_eq_some_iff.1 hl).1
 cases xs with
 |nil=>
  refine⟨.os l 0 1 (some 1),h.set l (.row 1 [int z]),?_,⟨l,some 1,rfl,.inr rfl,?_⟩,fun k nd hk hne=>by rw[List.getElem?_set_ne (Ne.symm hne)];exact hk,l,_,_,rfl,Nat.le_refl _⟩
  ·simp only[appendTo,hl]
   rw[if_pos ⟨trivial,by simp;omega⟩,if_pos (by simp),if_pos (by simp)]
   rfl
  ·rw[List.getElem?_set_self hlt];rfl
 |cons x xs=>
  simp only[List.length_cons] at hn
  refine⟨.os h.length 0 (1+(xs.length+1)) none,h++[.row 1 (int z::(x::xs).map int)],?_,⟨h.length,none,by simp;omega,.inl rfl,?_⟩,fun k nd hk _=>?_,h.length,_,_,rfl,by omega⟩
  ·simp only[appendTo,hl,List.length_cons]
   rw[if_pos ⟨trivial,by omega⟩,if_neg (by omega),show takeN (1*1) (([int z]:List C).drop 0)=some [int z] from rfl]
   simp only[newRow,new_none_1,new_none_2]
   rfl
  ·rw[List.getElem?_append_right (by simp),Nat.sub_self];rfl
  ·rw[List.getElem?_append_left (List.getElem?_eq_some_iff.1 hk).1];exact hk
theorem srcOf_ints (h:Heap)(xs:List Int):srcOf h 1 (ints xs)=some (xs.length,xs.map int):=by
 have h2:takeN (xs.length*1) (xs.map int)=some (xs.map int):=by rw[Nat.mul_one];have:=takeN_all (xs.map int);rwa [List.length_map] at this
 change ((takeN (xs.length*1) (xs.map int)).map fun ys=>(xs.length,ys))=_
 rw[h2];rfl
theorem takeN_map (xs:List Int):takeN (xs.length*1) (xs.map int)=some (xs.map int):=by
 rw[Nat.mul_one];have:=takeN_all (xs.map int);rwa [List.length_map] at this
def tyI (x:Ins):Bool:= !decide (x.type=0)
def tsI (l:List Ins):List Int:=(l.filter tyI).map (·.type)
def tsB (l:List Block):List Int:=l.flatMap fun b=>tsI b.ins
theorem take_ins {l:List Ins}{i:Nat}(h:i<l.length):l.take (i+1)=l.take i++[insAt l i]:=by
 rw[List.take_add_one,List.getElem?_eq_getElem h];simp[insAt,List.getD_eq_getElem?_getD,List.getElem?_eq_getElem h]
theorem take_blk {l:List Block}{i:Nat}(h:i<l.length):l.take (i+1)=l.take i++[blkAt l i]:=by
 rw[List.take_add_one,List.getElem?_eq_getElem h];simp[blkAt,List.getD_eq_getElem?_getD,List.getElem?_eq_getElem h]
theorem tsI_next {l:List Ins}{i:Nat}(h:i<l.length):tsI (l.take (i+1))=tsI (l.take i)++if tyI (insAt l i)=true then[(insAt l i).type] else[]:=by
 rw[take_ins h]
 unfold tsI
 rw[List.filter_append,List.map_append]
 cases hq:tyI (insAt l i)<;>simp[List.filter,hq]
theorem tsB_next {l:List Block}{i:Nat}(h:i<l.length):tsB (l.take (i+1))=tsB (l.take i)++tsI (blkAt l i).ins:=by
 rw[take_blk h];simp[tsB]
theorem tsI_le (l:List Ins):(tsI l).length≤l.length:=by unfold tsI;rw[List.length_map];exact List.length_filter_le _ _
theorem tsB_le (M:Nat):∀(l:List Block),(∀b∈l,b.ins.length≤M)→(tsB l).length≤l.length*M
 |[],_=>by simp[tsB]
 |b::l,h=>by
  have h1:=tsB_le M l fun b hb=>h b (List.mem_cons_of_mem _ hb)
  have h2:=h b (List.mem_cons_self ..)
  have h3:=tsI_le b.ins
  simp only[tsB,List.flatMap_cons,List.length_append,List.length_cons,Nat.add_mul] at h1⊢
  omega
def typesOf (f:Func):List Int:=(0::f.params)++tsB f.blocks
end Go.Tm
namespace Go.Proofs.Ytkcimaibaicdcaa.Tk
open Go.Tm Go.Tm.Tab
theorem wtypes_l0 {vals:FuncId→Bool}{call:CallF}{n:Nat}(x y z:C)(l:List Ins)(hl:l.length<2^20)(M:Tm.Node)(out0:List Int)(ho:out0.length<2^20)(m:Nat)(hm:l.length<m)(c:C)(h:Heap)(hg:GrowC h c out0)(h0:h[0]?=some M)(hc:(∀o cp,c≠ .os 0 0 o cp)):
  ∃c' h',Tm.Loop Try.prog vals call n [3,13,14,15,20,21,22] k113b0 m ⟨[(3,c),(13,x),(14,y),(15,z),(20,inss l),(21,int l.length),(22,int 0)],h⟩=some (.exit 2,⟨[(3,c'),(13,x),(14,y),(15,z),(20,inss l),(21,int l.length),(22,int l.length),(23,bool false)],h'⟩)∧GrowC h' c' (out0++tsI l)∧h'[0]?=some M∧∀o cp,c'≠ .os 0 0 o cp:=by
 have hmr:(2:Nat)^22<maxRow:=by decide
 obtain⟨s,⟨c',h',rfl,g1,g2,g3⟩,L⟩:=Loop_run (P:=Try.prog) (vals:=vals) (call:=call) (n:=n) (ks:=[3,13,14,15,20,21,22]) (K:=k113b0) (id:=2) l.length
  (fun i s=>∃c h,s=⟨[(3,c),(13,x),(14,y),(15,z),(20,inss l),(21,int l.length),(22,int i)],h⟩∧GrowC h c (out0++tsI (l.take i))∧h[0]?=some M∧(∀o cp,c≠ .os 0 0 o cp))
  (fun s=>∃c h,s=⟨[(3,c),(13,x),(14,y),(15,z),(20,inss l),(21,int l.length),(22,int l.length),(23,bool false)],h⟩∧GrowC h c (out0++tsI l)∧h[0]?=some M∧(∀o cp,c≠ .os 0 0 o cp))
  (fun i e h hi ⟨c,h2,hs,g1,g2,g3⟩=>by
   cases hs
   have e1:decide ((i:Int)<l.length)=true:=by simp;omega
   have e2:0≤(i:Int)∧(i:Int)<l.length:=by omega
   have e3:=wrap_next (n:=l.length) (i:=i) (by omega) (by omega)
   have hle:=tsI_le (l.take i)
   have htl:(l.take i).length≤l.length:=by rw[List.length_take];omega
   cases c1:decide ((insAt l i).type=0) with
   |true=>
    refine⟨_,⟨c,h++[.row 0 (encIns (insAt l i))],rfl,?_,?_,g3⟩,by simp +decide -implicitDefEqProofs only[k113b0,go_sem,e1,e2,e3,set_new,encIns,c1]⟩
    ·rw[tsI_next hi];unfold tyI;rw[c1];simpa using g1.push
    ·exact(by rw[List.getElem?_append_left (List.getElem?_eq_some_iff.1 g2).1];exact g2)
   |false=>
    obtain⟨c',h',a1,a2,a3,a4⟩:=((g1.push (x:=.row 0 (encIns (insAt l i)))).push (x:=.row 1 [int (insAt l i).type])).append (insAt l i).type (by simp;omega)
    refine⟨_,⟨c',h',rfl,?_,?_,?_⟩,by simp only[encIns] at a1;simp +decide -implicitDefEqProofs only[k113b0,go_sem,e1,e2,e3,set_new,encIns,c1,a1]⟩
    ·rw[tsI_next hi];unfold tyI;rw[c1,←List.append_assoc];exact a2
    ·refine a4 0 _ ?_ g3
     rw[List.getElem?_append_left (by simp),List.getElem?_append_left (List.getElem?_eq_some_iff.1 g2).1];exact g2
    ·intro o cp hq;rw[a3] at hq;simp at hq)
  (fun e h ⟨c,h2,hs,g1,g2,g3⟩=>by
   cases hs
   refine⟨_,⟨c,_,rfl,?_,g2,g3⟩,by simp +decide -implicitDefEqProofs only[k113b0,go_sem,Int.lt_irrefl,decide_false]⟩
   rw[List.take_length] at g1;exact g1)
  l.length 0 m _ h (by omega) hm ⟨c,h,rfl,by simpa[tsI] using hg,h0,hc⟩
 exact⟨c',h',L,g1,g2,g3⟩
theorem rtypes_l0 {vals:FuncId→Bool}{call:CallF}{n:Nat}(u v w x:C)(bl:List Block)(q:Int)(hq:0≤q∧q<bl.length)(hl:(blkAt bl q).ins.length<2^20)(M:Tm.Node)(hM:M=.row 0 [u,v,w,x,blocks bl])(out0:List Int)(ho:out0.length<2^20)(m:Nat)(hm:(blkAt bl q).ins.length<m)(c:C)(h:Heap)(hg:GrowC h c out0)(h0:h[0]?=some M)(hc:(∀o cp,c≠ .os 0 0 o cp)):
  ∃c' h',Tm.Loop Try.prog vals call n [1,3,4,5] k94b0 m ⟨[(1,.op 0 0),(3,c),(4,int q),(5,int 0)],h⟩=some (.exit 2,⟨[(1,.op 0 0),(3,c'),(4,int q),(5,int (blkAt bl q).ins.length),(26,bool false)],h'⟩)∧GrowC h' c' (out0++tsI (blkAt bl q).ins)∧h'[0]?=some M∧∀o cp,c'≠ .os 0 0 o cp:=by
 have hmr:(2:Nat)^22<maxRow:=by decide
 obtain⟨s,⟨c',h',rfl,g1,g2,g3⟩,L⟩:=Loop_run (P:=Try.prog) (vals:=vals) (call:=call) (n:=n) (ks:=[1,3,4,5]) (K:=k94b0) (id:=2) (blkAt bl q).ins.length
  (fun i s=>∃c h,s=⟨[(1,.op 0 0),(3,c),(4,int q),(5,int i)],h⟩∧GrowC h c (out0++tsI ((blkAt bl q).ins.take i))∧h[0]?=some M∧(∀o cp,c≠ .os 0 0 o cp))
  (fun s=>∃c h,s=⟨[(1,.op 0 0),(3,c),(4,int q),(5,int (blkAt bl q).ins.length),(26,bool false)],h⟩∧GrowC h c (out0++tsI (blkAt bl q).ins)∧h[0]?=some M∧(∀o cp,c≠ .os 0 0 o cp))
  (fun i e h hi ⟨c,h2,hs,g1,g2,g3⟩=>by
   cases hs
   subst hM
   have e1:decide ((i:Int)<(blkAt bl q).ins.length)=true:=by simp;omega
   have e2:0≤(i:Int)∧(i:Int)<(blkAt bl q).ins.length:=by omega
   have e3:=wrap_next (n:=(blkAt bl q).ins.length) (i:=i) (by omega) (by omega)
   have hle:=tsI_le ((blkAt bl q).ins.take i)
   have htl:((blkAt bl q).ins.take i).length≤(blkAt bl q).ins.length:=by rw[List.length_take];omega
   cases c1:decide ((insAt (blkAt bl q).ins i).type=0) with
   |true=>
    refine⟨_,⟨c,h,rfl,?_,?_,g3⟩,by simp +decide -implicitDefEqProofs only[k94b0,go_sem,e1,e2,e3,set_new,encIns,c1,hq,g2]⟩
    ·rw[tsI_next hi];unfold tyI;rw[c1];simpa using g1
    ·exact g2
   |false=>
    obtain⟨c',h',a1,a2,a3,a4⟩:=(g1.push (x:=.row 1 [int (insAt (blkAt bl q).ins i).type])).append (insAt (blkAt bl q).ins i).type (by simp;omega)
    refine⟨_,⟨c',h',rfl,?_,?_,?_⟩,by simp +decide -implicitDefEqProofs only[k94b0,go_sem,e1,e2,e3,set_new,encIns,c1,a1,hq,g2]⟩
    ·rw[tsI_next hi];unfold tyI;rw[c1,←List.append_assoc];exact a2
    ·refine a4 0 _ ?_ g3
     rw[List.getElem?_append_left (List.getElem?_eq_some_iff.1 g2).1];exact g2
    ·intro o cp hq;rw[a3] at hq;simp at hq)
  (fun e h ⟨c,h2,hs,g1,g2,g3⟩=>by
   cases hs
   subst hM
   refine⟨_,⟨c,_,rfl,?_,g2,g3⟩,by simp +decide -implicitDefEqProofs only[k94b0,go_sem,Int.lt_irrefl,decide_false,hq,g2]⟩
   rw[List.take_length] at g1;exact g1)
  (blkAt bl q).ins.length 0 m _ h (by omega) hm ⟨c,h,rfl,by simpa[tsI] using hg,h0,hc⟩
 exact⟨c',h',L,g1,g2,g3⟩
theorem wtypes_l1 {vals:FuncId→Bool}{call:CallF}{n:Nat}(bl:List Block)(hl:bl.length≤17)(hb:∀b∈bl,b.ins.length≤91∧b.ins.length<n)(M:Tm.Node)(out0:List Int)(ho:out0.length<2^10)(m:Nat)(hm:bl.length<m)(c:C)(h:Heap)(hg:GrowC h c out0)(h0:h[0]?=some M)(hc:(∀o cp,c≠ .os 0 0 o cp)):
  ∃c' h',Tm.Loop Try.prog vals call n [3,13,14,15] k113b1 m ⟨[(3,c),(13,blocks bl),(14,int bl.length),(15,int 0)],h⟩=some (.exit 0,⟨[(3,c'),(13,blocks bl),(14,int bl.length),(15,int bl.length),(16,bool false)],h'⟩)∧GrowC h' c' (out0++tsB bl)∧h'[0]?=some M∧∀o cp,c'≠ .os 0 0 o cp:=by
 obtain⟨s,⟨c',h',rfl,g1,g2,g3⟩,L⟩:=Loop_run (P:=Try.prog) (vals:=vals) (call:=call) (n:=n) (ks:=[3,13,14,15]) (K:=k113b1) (id:=0) bl.length
  (fun i s=>∃c h,s=⟨[(3,c),(13,blocks bl),(14,int bl.length),(15,int i)],h⟩∧GrowC h c (out0++tsB (bl.take i))∧h[0]?=some M∧(∀o cp,c≠ .os 0 0 o cp))
  (fun s=>∃c h,s=⟨[(3,c),(13,blocks bl),(14,int bl.length),(15,int bl.length),(16,bool false)],h⟩∧GrowC h c (out0++tsB bl)∧h[0]?=some M∧(∀o cp,c≠ .os 0 0 o cp))
  (fun i e h hi ⟨c,h2,hs,g1,g2,g3⟩=>by
   cases hs
   have e1:decide ((i:Int)<bl.length)=true:=by simp;omega
   have e2:0≤(i:Int)∧(i:Int)<bl.length:=by omega
   have e3:=wrap_next (n:=bl.length) (i:=i) (by omega) (by omega)
   obtain⟨hb1,hb2⟩:=hb _ (blkAt_mem e2)
   have hle:=tsB_le 91 (bl.take i) fun b hb'=>(hb b (List.mem_of_mem_take hb')).1
   have htl:(bl.take i).length≤17:=by rw[List.length_take];omega
   have hle2:(bl.take i).length*91≤17*91:=Nat.mul_le_mul_right _ htl
   obtain⟨c',h',a1,a2,a3,a4⟩:=wtypes_l0 (vals:=vals) (call:=call) (n:=n) (blocks bl) (int bl.length) (int i) (blkAt bl i).ins (by omega) M (out0++tsB (bl.take i)) (by simp;omega) n hb2 c (_++[.row 0 [inss (blkAt bl i).ins]]) g1.push (by rw[List.getElem?_append_left (List.getElem?_eq_some_iff.1 g2).1];exact g2) g3
   refine⟨_,⟨c',h',rfl,?_,a3,a4⟩,by simp +decide -implicitDefEqProofs only[k113b1,go_sem,e1,e2,e3,set_new,a1]⟩
   rw[tsB_next hi,←List.append_assoc];exact a2)
  (fun e h ⟨c,h2,hs,g1,g2,g3⟩=>by
   cases hs
   refine⟨_,⟨c,_,rfl,?_,g2,g3⟩,by simp +decide -implicitDefEqProofs only[k113b1,go_sem,Int.lt_irrefl,decide_false]⟩
   rw[List.take_length] at g1;exact g1)
  bl.length 0 m _ h (by omega) hm ⟨c,h,rfl,by simpa[tsB] using hg,h0,hc⟩
 exact⟨c',h',L,g1,g2,g3⟩
theorem rtypes_l1 {vals:FuncId→Bool}{call:CallF}{n:Nat}(u v w x:C)(bl:List Block)(hl:bl.length≤17)(hb:∀b∈bl,b.ins.length≤91∧b.ins.length<n)(M:Tm.Node)(hM:M=.row 0 [u,v,w,x,blocks bl])(out0:List Int)(ho:out0.length<2^10)(m:Nat)(hm:bl.length<m)(c:C)(h:Heap)(hg:GrowC h c out0)(h0:h[0]?=some M)(hc:(∀o cp,c≠ .os 0 0 o cp)):
  ∃c' h',Tm.Loop Try.prog vals call n [1,3,4] k94b1 m ⟨[(1,.op 0 0),(3,c),(4,int 0)],h⟩=some (.exit 0,⟨[(1,.op 0 0),(3,c'),(4,int bl.length),(15,bool false)],h'⟩)∧GrowC h' c' (out0++tsB bl)∧h'[0]?=some M∧∀o cp,c'≠ .os 0 0 o cp:=by
 obtain⟨s,⟨c',h',rfl,g1,g2,g3⟩,L⟩:=Loop_run (P:=Try.prog) (vals:=vals) (call:=call) (n:=n) (ks:=[1,3,4]) (K:=k94b1) (id:=0) bl.length
  (fun i s=>∃c h,s=⟨[(1,.op 0 0),(3,c),(4,int i)],h⟩∧GrowC h c (out0++tsB (bl.take i))∧h[0]?=some M∧(∀o cp,c≠ .os 0 0 o cp))
  (fun s=>∃c h,s=⟨[(1,.op 0 0),(3,c),(4,int bl.length),(15,bool false)],h⟩∧GrowC h c (out0++tsB bl)∧h[0]?=some M∧(∀o cp,c≠ .os 0 0 o cp))
  (fun i e h hi ⟨c,h2,hs,g1,g2,g3⟩=>by
   cases hs
   subst hM
   have e1:decide ((i:Int)<bl.length)=true:=by simp;omega
   have e2:0≤(i:Int)∧(i:Int)<bl.length:=by omega
   have e3:=wrap_next (n:=bl.length) (i:=i) (by omega) (by omega)
   obtain⟨hb1,hb2⟩:=hb _ (blkAt_mem e2)
   have hle:=tsB_le 91 (bl.take i) fun b hb'=>(hb b (List.mem_of_mem_take hb')).1
   have htl:(bl.take i).length≤17:=by rw[List.length_take];omega
   have hle2:(bl.take i).length*91≤17*91:=Nat.mul_le_mul_right _ htl
   obtain⟨c',h',a1,a2,a3,a4⟩:=rtypes_l0 (vals:=vals) (call:=call) (n:=n) u v w x bl i e2 (by omega) _ rfl (out0++tsB (bl.take i)) (by simp;omega) n hb2 c _ g1 g2 g3
   refine⟨_,⟨c',h',rfl,?_,a3,a4⟩,by simp +decide -implicitDefEqProofs only[k94b1,go_sem,e1,e2,e3,set_new,a1,g2]⟩
   rw[tsB_next hi,←List.append_assoc];exact a2)
  (fun e h ⟨c,h2,hs,g1,g2,g3⟩=>by
   cases hs
   subst hM
   refine⟨_,⟨c,_,rfl,?_,g2,g3⟩,by simp +decide -implicitDefEqProofs only[k94b1,go_sem,Int.lt_irrefl,decide_false,g2]⟩
   rw[List.take_length] at g1;exact g1)
  bl.length 0 m _ h (by omega) hm ⟨c,h,rfl,by simpa[tsB] using hg,h0,hc⟩
 exact⟨c',h',L,g1,g2,g3⟩
theorem wtypes_runs (f:Tm.Func)(F:Fine f)(hp:f.params.length≤20):Runs Try.prog tab 200 113 [.agg (encFunc f)] (ints (typesOf f)):=by
 refine Runs.by (rs:=[.tmp 2]) (N:=37) rfl Try.func113 rfl rfl (by simp) fun k hk=>?_
 have b1:=F.blocks
 rw[enc_func]
 obtain⟨c1,h1,a1,a2,a3,q,o,cp,rfl,a4⟩:=GrowC.first (h:=[.row 0 [str f.name,bool f.out,ints f.params,int f.result,blocks f.blocks],.row 1 [int 0]]) (l:=1) (z:=0) f.params rfl (by omega)
 obtain⟨c2,h2,L1,g1,_,_⟩:=wtypes_l1 (vals:=valsOf tab) (call:=callAt Try.prog tab k) (n:=k) f.blocks b1 (fun b hb=>by have:=F.ins b hb;omega) (.row 0 [str f.name,bool f.out,ints f.params,int f.result,blocks f.blocks]) (0::f.params) (by simp;omega) k (by omega) _ h1 a2 (a3 0 _ rfl (by decide)) (fun o cp e=>by simp at e;omega)
 have ht:=takeN_map f.params
 have hm1:=a3 0 _ rfl (by decide)
 simp +decide -implicitDefEqProofs only[k113,go_sem,srcOf_ints,a1,L1,hm1]
 exact⟨_,_,rfl,g1.view⟩
theorem rtypes_runs (f:Tm.Func)(F:Fine f)(hp:f.params.length≤20):Runs Try.prog tab 200 94 [.agg (encFunc f)] (ints (typesOf f)):=by
 refine Runs.by (rs:=[.tmp 2]) (N:=46) rfl Try.func94 rfl rfl (by simp) fun k hk=>?_
 have b1:=F.blocks
 rw[enc_func]
 obtain⟨c1,h1,a1,a2,a3,q,o,cp,rfl,a4⟩:=GrowC.first (h:=[.row 0 [str f.name,bool f.out,ints f.params,int f.result,blocks f.blocks],.row 1 [int 0]]) (l:=1) (z:=0) f.params rfl (by omega)
 obtain⟨c2,h2,L1,g1,_,_⟩:=rtypes_l1 (vals:=valsOf tab) (call:=callAt Try.prog tab k) (n:=k) _ _ _ _ f.blocks b1 (fun b hb=>by have:=F.ins b hb;omega) (.row 0 [str f.name,bool f.out,ints f.params,int f.result,blocks f.blocks]) rfl (0::f.params) (by simp;omega) k (by omega) _ h1 a2 (a3 0 _ rfl (by decide)) (fun o cp e=>by simp at e;omega)
 have ht:=takeN_map f.params
 have hm1:=a3 0 _ rfl (by decide)
 simp +decide -implicitDefEqProofs only[k94,go_sem,srcOf_ints,a1,L1,hm1]
 exact⟨_,_,rfl,g1.view⟩
theorem values_runs (f:Tm.Func)(F:Fine f)(hp:f.params.length≤20):Runs Try.prog tab 201 59 [.agg (encFunc f)] (int ((typesOf f).length-1:Int)):=by
 refine Runs.by (rs:=[.tmp 2]) (N:=7) rfl Try.func59 rfl rfl (by simp) fun k hk=>?_
 have b1:=F.blocks
 have hle:=tsB_le 91 f.blocks fun b hb=>F.ins b hb
 have hle2:f.blocks.length*91≤17*91:=Nat.mul_le_mul_right _ b1
 have hlen:(typesOf f).length<2^20:=by simp[typesOf];omega
 have ht:∀h,callAt Try.prog tab k 94 [.agg (encFunc f)] h=some (ints (typesOf f),h):=fun h=>rtypes_runs f F hp k (by omega) _ h (by simp only[mapC_cons,mapC_nil,depth,view_func,Option.bind_some])
 have hw:=wrap_last (n:=(typesOf f).length) (by omega)
 rw[enc_func] at*
 simp +decide -implicitDefEqProofs only[k59,go_sem,ht,hw]
 exact⟨_,_,rfl,rfl⟩
end Go.Proofs.Ytkcimaibaicdcaa.Tk
namespace Go.Tm
def posI (b:Nat)(l:List Ins)(k:Nat):List (Nat×Nat):=((List.range k).filter fun(j:Nat)=>tyI (insAt l j)).map fun(j:Nat)=>(b,j)
def posB (bl:List Block)(b:Nat):List (Nat×Nat):=(List.range b).flatMap fun(c:Nat)=>posI c (blkAt bl c).ins (blkAt bl c).ins.length
def posU (bl:List Block)(b k:Nat):List (Nat×Nat):=posB bl b++posI b (blkAt bl b).ins k
def posOf (bl:List Block):List (Nat×Nat):=posB bl bl.length
theorem posI_next (b:Nat)(l:List Ins)(k:Nat):posI b l (k+1)=posI b l k++if tyI (insAt l k)=true then[(b,k)] else[]:=by
 unfold posI
 rw[List.range_succ,List.filter_append,List.map_append]
 cases hq:tyI (insAt l k)<;>simp[List.filter,hq]
theorem posU_next (bl:List Block)(b k:Nat):posU bl b (k+1)=posU bl b k++if tyI (insAt (blkAt bl b).ins k)=true then[(b,k)] else[]:=by
 unfold posU;rw[posI_next,List.append_assoc]
theorem posU_zero (bl:List Block)(b:Nat):posU bl b 0=posB bl b:=by simp[posU,posI]
theorem posB_next (bl:List Block)(b:Nat):posB bl (b+1)=posU bl b (blkAt bl b).ins.length:=by
 unfold posU posB;rw[List.range_succ,List.flatMap_append];simp
theorem posB_zero (bl:List Block):posB bl 0=[]:=rfl
theorem posI_len (b:Nat)(l:List Ins):∀k,k≤l.length→(posI b l k).length=(tsI (l.take k)).length
 |0,_=>rfl
 |k+1,h=>by
  rw[posI_next,tsI_next (by omega),List.length_append,List.length_append,posI_len b l k (by omega)]
  cases tyI (insAt l k)<;>rfl
theorem posB_len (bl:List Block):∀b,b≤bl.length→(posB bl b).length=(tsB (bl.take b)).length
 |0,_=>rfl
 |b+1,h=>by
  have hp:=posI_len b (blkAt bl b).ins (blkAt bl b).ins.length (Nat.le_refl _)
  rw[List.take_length] at hp
  rw[posB_next,tsB_next (by omega),List.length_append,posU,List.length_append,posB_len bl b (by omega),hp]
theorem posOf_len (bl:List Block):(posOf bl).length=(tsB bl).length:=by
 unfold posOf;rw[posB_len bl _ (Nat.le_refl _),List.take_length]
def ahead (b k:Nat)(q:Nat×Nat):Prop:=q.1<b∨(q.1=b∧q.2<k)
theorem posI_in {b:Nat}{l:List Ins}{k:Nat}{q:Nat×Nat}(h:q∈posI b l k):q.1=b∧q.2<k∧tyI (insAt l q.2)=true:=by
 unfold posI at h
 obtain⟨j,hj,rfl⟩:=List.mem_map.1 h
 obtain⟨h1,h2⟩:=List.mem_filter.1 hj
 exact⟨rfl,by simpa using h1,h2⟩
theorem posB_in {bl:List Block}{b:Nat}{q:Nat×Nat}(h:q∈posB bl b):q.1<b∧q.2<(blkAt bl q.1).ins.length:=by
 unfold posB at h
 obtain⟨c,hc,hq⟩:=List.mem_flatMap.1 h
 obtain⟨h1,h2,_⟩:=posI_in hq
 have:c<b:=by simpa using hc
 rw[h1]
 exact⟨this,h2⟩
theorem posU_ahead {bl:List Block}{b k:Nat}{q:Nat×Nat}(h:q∈posU bl b k):ahead b k q:=by
 rcases List.mem_append.1 h with h|h
 ·exact .inl (posB_in h).1
 ·exact .inr ⟨(posI_in h).1,(posI_in h).2.1⟩
theorem posI_rest (b:Nat)(l:List Ins)(k:Nat):∀d,∃R,posI b l (k+d)=posI b l k++R∧∀q∈R,q.1=b∧k≤q.2
 |0=>⟨[],by simp,by simp⟩
 |d+1=>by
  obtain⟨R,h1,h2⟩:=posI_rest b l k d
  refine⟨R++if tyI (insAt l (k+d:Nat))=true then[(b,k+d)] else[],by rw[←Nat.add_assoc,posI_next,h1,List.append_assoc],fun q hq=>?_⟩
  rcases List.mem_append.1 hq with h|h
  ·exact h2 q h
  ·split at h
   ·obtain rfl:=List.mem_singleton.1 h;exact⟨rfl,by simp⟩
   ·simp at h
theorem posB_rest (bl:List Block)(b:Nat):∀d,∃R,posB bl (b+d)=posB bl b++R∧∀q∈R,b≤q.1
 |0=>⟨[],by simp,by simp⟩
 |d+1=>by
  obtain⟨R,h1,h2⟩:=posB_rest bl b d
  refine⟨R++posI (b+d) (blkAt bl (b+d:Nat)).ins (blkAt bl (b+d:Nat)).ins.length,by rw[←Nat.add_assoc,posB_next,posU,h1,List.append_assoc],fun q hq=>?_⟩
  rcases List.mem_append.1 hq with h|h
  ·exact h2 q h
  ·rw[(posI_in h).1];omega
theorem posU_rest {bl:List Block}{b k:Nat}(hb:b<bl.length)(hk:k≤(blkAt bl b).ins.length):∃R,posOf bl=posU bl b k++R∧∀q∈R,¬ahead b k q:=by
 obtain⟨R1,h1,h2⟩:=posB_rest bl (b+1) (bl.length-(b+1))
 obtain⟨R2,h3,h4⟩:=posI_rest b (blkAt bl b).ins k ((blkAt bl b).ins.length-k)
 rw[show b+1+(bl.length-(b+1))=bl.length by omega] at h1
 rw[show k+((blkAt bl b).ins.length-k)=(blkAt bl b).ins.length by omega] at h3
 refine⟨R2++R1,by unfold posOf;rw[h1,posB_next];unfold posU;rw[h3];simp,fun q hq=>?_⟩
 unfold ahead
 rcases List.mem_append.1 hq with h|h
 ·have:=h4 q h;omega
 ·have:=h2 q h;omega
theorem pos_ahead {bl:List Block}{b k j:Nat}{q:Nat×Nat}(hb:b<bl.length)(hk:k≤(blkAt bl b).ins.length)(hj:(posOf bl)[j]?=some q):j<(posU bl b k).length↔ahead b k q:=by
 obtain⟨R,h1,h2⟩:=posU_rest hb hk
 rw[h1] at hj
 constructor
 ·intro h
  rw[List.getElem?_append_left h] at hj
  exact posU_ahead (List.mem_of_getElem? hj)
 ·intro h
  refine Classical.byContradiction fun hq=>?_
  rw[List.getElem?_append_right (by omega)] at hj
  exact h2 q (List.mem_of_getElem? hj) h
theorem posU_le {bl:List Block}{b k:Nat}(hb:b<bl.length)(hk:k≤(blkAt bl b).ins.length):(posU bl b k).length≤(posOf bl).length:=by
 obtain⟨R,h1,_⟩:=posU_rest hb hk
 rw[h1,List.length_append];omega
theorem posOf_in {bl:List Block}{q:Nat×Nat}(h:q∈posOf bl):q.1<bl.length∧q.2<(blkAt bl q.1).ins.length:=posB_in h
def encP (p:Int×Int):List C:=[int p.1,int p.2]
def flatP (l:List (Int×Int)):List C:=l.flatMap encP
def pairs (l:List (Int×Int)):C:=.fs (flatP l) l.length none
theorem flatP_len:∀(l:List (Int×Int)),(flatP l).length=l.length*2
 |[]=>rfl
 |p::l=>by
  have:=flatP_len l
  simp only[flatP,List.flatMap_cons,List.length_append,List.length_cons,encP,List.length_nil] at this⊢
  omega
theorem rep_flatP (n:Nat):rep n [int 0,int 0]=flatP (List.replicate n (0,0)):=by
 unfold rep flatP
 rw[List.flatMap_def,List.map_replicate];rfl
theorem put_flatP:∀(l:List (Int×Int)) (v:Nat) (q:Int×Int),v<l.length→put (flatP l) (v*2) (encP q)=flatP (l.set v q)
 |[],v,q,h=>by simp at h
 |p::l,0,q,h=>by
  simp[flatP,encP,put]
 |p::l,v+1,q,h=>by
  have ih:=put_flatP l v q (by simpa using h)
  have e:flatP (p::l)=int p.1::int p.2::flatP l:=rfl
  rw[e,show(v+1)*2=v*2+1+1 by omega,put_succ,put_succ,ih]
  rfl
theorem store_pair {h:Heap}{l v:Nat}{ps:List (Int×Int)}(a b:Int)(hv:v<ps.length):storeR h l (v*2) 2 (some (.row 2 (flatP ps))) [int a,int b]=some (h.set l (.row 2 (flatP (ps.set v (a,b))))):=by
 have hl:=flatP_len ps
 rw[storeR_row,if_pos ⟨rfl,by simp;omega,rfl⟩]
 rw[←put_flatP ps v (a,b) hv];rfl
theorem set_mid {α:Type}(A:List α)(z x:α)(r:Nat):(A++List.replicate (r+1) z).set A.length x=(A++[x])++List.replicate r z:=by
 rw[List.set_append_right _ _ (Nat.le_refl _),Nat.sub_self,List.replicate_succ,List.set_cons_zero,List.append_assoc];rfl
theorem mapC_flatP (h:Heap)(cl:Bool)(n:Nat):∀(l:List (Int×Int)),mapC (view cl h (n+1)) (flatP l)=some (flatP l)
 |[]=>rfl
 |p::l=>by
  have ih:=mapC_flatP h cl n l
  have e:flatP (p::l)=int p.1::int p.2::flatP l:=rfl
  rw[e,mapC_cons,mapC_cons,ih]
  rfl
theorem view_os_pairs {h:Heap}{cl:Bool}{n l:Nat}{ps:List (Int×Int)}{cap:Option Nat}(hl:h[l]?=some (.row 2 (flatP ps))):view cl h (n+2) (.os l 0 ps.length cap)=some (pairs ps):=by
 by_cases h0:ps.length=0
 ·have:ps=[]:=List.length_eq_zero_iff.1 h0
  subst this;rfl
 rw[view_os_eq,if_neg h0,hl]
 simp only[viewRow,List.drop_zero]
 rw[←flatP_len,takeN_all,Option.bind_some,mapC_flatP]
 rfl
theorem at_flatP:∀(l:List (Int×Int)) (v:Nat),v<l.length→∃r,(flatP l).drop (v*2)=int (l.getD v (0,0)).1::int (l.getD v (0,0)).2::r
 |[],v,h=>by simp at h
 |p::l,0,_=>⟨flatP l,rfl⟩
 |p::l,v+1,h=>by
  obtain⟨r,hr⟩:=at_flatP l v (by simpa using h)
  refine⟨r,?_⟩
  have e:flatP (p::l)=int p.1::int p.2::flatP l:=rfl
  rw[e,show(v+1)*2=v*2+1+1 by omega,List.drop_succ_cons,List.drop_succ_cons,hr]
  simp
theorem idx_pairs {l:List (Int×Int)}{i:Int}(h:0≤i∧i<l.length):∃r,idxC 2 (pairs l) i=some (.fp (int (l.getD i.toNat (0,0)).1::int (l.getD i.toNat (0,0)).2::r)):=by
 obtain⟨r,hr⟩:=at_flatP l i.toNat (by omega)
 refine⟨r,?_⟩
 unfold pairs
 rw[idxC_fs,if_pos h,hr]
def castP (p:Nat×Nat):Int×Int:=(p.1,p.2)
def whU (np:Nat)(U:List (Nat×Nat))(T:Nat):List (Int×Int):=(List.replicate (np+1) (-1, -1)++U.map castP)++List.replicate (T-U.length) (0,0)
def whOf (f:Func):List (Int×Int):=List.replicate (f.params.length+1) (-1, -1)++(posOf f.blocks).map castP
theorem whU_len (np:Nat)(U:List (Nat×Nat))(T:Nat)(h:U.length≤T):(whU np U T).length=np+1+T:=by unfold whU;simp;omega
theorem whU_set (np:Nat)(U:List (Nat×Nat))(T b k:Nat)(h:U.length<T):(whU np U T).set (np+U.length+1) (b,k)=whU np (U++[(b,k)]) T:=by
 unfold whU
 have hA:(List.replicate (np+1) ((-1, -1):Int×Int)++U.map castP).length=np+U.length+1:=by simp;omega
 obtain⟨r,hr⟩:∃r,T-U.length=r+1:=⟨T-U.length-1,by omega⟩
 rw[←hA,hr,set_mid,List.map_append,List.append_assoc (List.replicate _ _)]
 congr 2
 rw[List.length_append]
 congr 1
 simp;omega
end Go.Tm
namespace Go.Proofs.Ytkcimaibaicdcaa.Tk
open Go.Tm Go.Tm.Tab
theorem slice23 {h:Heap}{l:List Block}{b:Nat}(hb:b≤l.length):sliceC Try.prog h 23 (blocks l) none (some (int b)) none=some (blocks (l.take b)):=by
 rw[slice_fact (e:=54) (s:=1) (by kernel_rfl) (by kernel_rfl)]
 have h2:min b l.length=b:=by omega
 simp[blocks,bnds,bound,intOf,capLeft,hb,List.map_take,h2]
theorem build116 (a b:Int):buildC Try.prog 116 [(0,int a),(1,int b)]=some (.agg [int a,int b]):=by kernel_rfl
theorem ahead_l0 {vals:FuncId→Bool}{call:CallF}{n:Nat}(x y z:C)(l:List Ins)(hl:l.length<2^20)(w:Nat)(hw:w<2^20)(m:Nat)(hm:l.length<m)(h:Heap):
  ∃h',Tm.Loop Try.prog vals call n [5,16,17,18,23,24,25] k112b0 m ⟨[(5,int w),(16,x),(17,y),(18,z),(23,inss l),(24,int l.length),(25,int 0)],h⟩=some (.exit 2,⟨[(5,int (w+(tsI l).length:Nat)),(16,x),(17,y),(18,z),(23,inss l),(24,int l.length),(25,int l.length),(26,bool false)],h'⟩):=by
 obtain⟨s,⟨h',rfl⟩,L⟩:=Loop_run (P:=Try.prog) (vals:=vals) (call:=call) (n:=n) (ks:=[5,16,17,18,23,24,25]) (K:=k112b0) (id:=2) l.length
  (fun i s=>∃h,s=⟨[(5,int (w+(tsI (l.take i)).length:Nat)),(16,x),(17,y),(18,z),(23,inss l),(24,int l.length),(25,int i)],h⟩)
  (fun s=>∃h,s=⟨[(5,int (w+(tsI l).length:Nat)),(16,x),(17,y),(18,z),(23,inss l),(24,int l.length),(25,int l.length),(26,bool false)],h⟩)
  (fun i e h hi ⟨h2,hs⟩=>by
   cases hs
   have e1:decide ((i:Int)<l.length)=true:=by simp;omega
   have e2:0≤(i:Int)∧(i:Int)<l.length:=by omega
   have e3:=wrap_next (n:=l.length) (i:=i) (by omega) (by omega)
   have hle:=tsI_le (l.take i)
   have htl:(l.take i).length≤l.length:=by rw[List.length_take];omega
   have hw:=wrap1 (k:=w+(tsI (l.take i)).length) (by omega)
   have ht:=tsI_next hi
   unfold tyI at ht
   cases c1:decide ((insAt l i).type=0) with
   |true=>
    rw[c1] at ht
    refine⟨_,⟨h++[.row 0 (encIns (insAt l i))],rfl⟩,?_⟩
    rw[ht]
    simp +decide -implicitDefEqProofs only[k112b0,go_sem,e1,e2,e3,set_new,encIns,c1,hw,Bool.not_true,Bool.false_eq_true,if_false,List.append_nil]
   |false=>
    rw[c1] at ht
    refine⟨_,⟨h++[.row 0 (encIns (insAt l i))],rfl⟩,?_⟩
    rw[ht]
    simp +decide -implicitDefEqProofs only[k112b0,go_sem,e1,e2,e3,set_new,encIns,c1,hw]
    simp[Nat.add_assoc])
  (fun e h ⟨h2,hs⟩=>by
   cases hs
   refine⟨_,⟨h,rfl⟩,?_⟩
   simp +decide -implicitDefEqProofs only[k112b0,go_sem,Int.lt_irrefl,decide_false,List.take_length])
  l.length 0 m [(5,int w),(16,x),(17,y),(18,z),(23,inss l),(24,int l.length),(25,int 0)] h (by omega) hm ⟨h,by simp[tsI]⟩
 exact⟨h',L⟩
theorem ahead_l1 {vals:FuncId→Bool}{call:CallF}{n:Nat}(bl:List Block)(hl:bl.length≤17)(hb:∀b∈bl,b.ins.length≤91∧b.ins.length<n)(w:Nat)(hw:w<2^18)(m:Nat)(hm:bl.length<m)(h:Heap):
  ∃h',Tm.Loop Try.prog vals call n [5,16,17,18] k112b1 m ⟨[(5,int w),(16,blocks bl),(17,int bl.length),(18,int 0)],h⟩=some (.exit 0,⟨[(5,int (w+(tsB bl).length:Nat)),(16,blocks bl),(17,int bl.length),(18,int bl.length),(19,bool false)],h'⟩):=by
 obtain⟨s,⟨h',rfl⟩,L⟩:=Loop_run (P:=Try.prog) (vals:=vals) (call:=call) (n:=n) (ks:=[5,16,17,18]) (K:=k112b1) (id:=0) bl.length
  (fun i s=>∃h,s=⟨[(5,int (w+(tsB (bl.take i)).length:Nat)),(16,blocks bl),(17,int bl.length),(18,int i)],h⟩)
  (fun s=>∃h,s=⟨[(5,int (w+(tsB bl).length:Nat)),(16,blocks bl),(17,int bl.length),(18,int bl.length),(19,bool false)],h⟩)
  (fun i e h hi ⟨h2,hs⟩=>by
   cases hs
   have e1:decide ((i:Int)<bl.length)=true:=by simp;omega
   have e2:0≤(i:Int)∧(i:Int)<bl.length:=by omega
   have e3:=wrap_next (n:=bl.length) (i:=i) (by omega) (by omega)
   obtain⟨hb1,hb2⟩:=hb _ (blkAt_mem e2)
   have hle:=tsB_le 91 (bl.take i) fun b hb'=>(hb b (List.mem_of_mem_take hb')).1
   have htl:(bl.take i).length≤17:=by rw[List.length_take];omega
   have hle2:(bl.take i).length*91≤17*91:=Nat.mul_le_mul_right _ htl
   obtain⟨h',L0⟩:=ahead_l0 (vals:=vals) (call:=call) (n:=n) (blocks bl) (int bl.length) (int i) (blkAt bl i).ins (by omega) (w+(tsB (bl.take i)).length) (by omega) n hb2 (h++[.row 0 [inss (blkAt bl i).ins]])
   refine⟨_,⟨h',rfl⟩,?_⟩
   rw[tsB_next hi,List.length_append,←Nat.add_assoc]
   simp +decide -implicitDefEqProofs only[k112b1,go_sem,e1,e2,e3,set_new,L0])
  (fun e h ⟨h2,hs⟩=>by
   cases hs
   refine⟨_,⟨h,rfl⟩,?_⟩
   simp +decide -implicitDefEqProofs only[k112b1,go_sem,Int.lt_irrefl,decide_false,List.take_length])
  bl.length 0 m [(5,int w),(16,blocks bl),(17,int bl.length),(18,int 0)] h (by omega) hm ⟨h,by simp[tsB]⟩
 exact⟨h',L⟩
theorem ahead_runs (f:Tm.Func)(F:Fine f)(hp:f.params.length≤20)(b:Nat)(hb:b≤f.blocks.length):Runs Try.prog tab 200 112 [.agg (encFunc f),int b] (int (f.params.length+(posB f.blocks b).length:Nat)):=by
 refine Runs.by (rs:=[.tmp 4]) (N:=37) rfl Try.func112 rfl rfl (by simp) fun k hk=>?_
 have b1:=F.blocks
 obtain⟨h2,L1⟩:=ahead_l1 (vals:=valsOf tab) (call:=callAt Try.prog tab k) (n:=k) (f.blocks.take b) (by rw[List.length_take];omega) (fun x hx=>by have:=F.ins x (List.mem_of_mem_take hx);omega) f.params.length (by omega) k (by rw[List.length_take];omega) [.row 0 [str f.name,bool f.out,ints f.params,int f.result,blocks f.blocks]]
 have hs:=fun h=>slice23 (h:=h) hb
 rw[posB_len _ _ hb,enc_func]
 simp +decide -implicitDefEqProofs only[k112,go_sem,hs,L1]
 exact⟨_,_,rfl,rfl⟩
theorem where_l0 {vals:FuncId→Bool}{call:CallF}{n:Nat}(u v w x:C)(ps:List Int)(T:Nat)(hp:ps.length≤20)(m:Nat)(hm:ps.length+1<m):
  Tm.Loop Try.prog vals call n [1,3,4] k105b0 m ⟨[(1,.op 0 0),(3,.os 1 0 (ps.length+1+T) (some (ps.length+1+T))),(4,int 0)],[.row 0 [u,v,ints ps,w,x],.row 2 (flatP (List.replicate (ps.length+1+T) (0,0)))]⟩=some (.exit 0,⟨[(1,.op 0 0),(3,.os 1 0 (ps.length+1+T) (some (ps.length+1+T))),(4,int (ps.length+1:Nat)),(16,bool false)],[.row 0 [u,v,ints ps,w,x],.row 2 (flatP (whU ps.length [] T))]⟩):=by
 obtain⟨s,rfl,L⟩:=Loop_run (P:=Try.prog) (vals:=vals) (call:=call) (n:=n) (ks:=[1,3,4]) (K:=k105b0) (id:=0) (ps.length+1)
  (fun i s=>s=⟨[(1,.op 0 0),(3,.os 1 0 (ps.length+1+T) (some (ps.length+1+T))),(4,int i)],[.row 0 [u,v,ints ps,w,x],.row 2 (flatP (List.replicate i (-1, -1)++List.replicate (ps.length+1+T-i) (0,0)))]⟩)
  (fun s=>s=⟨[(1,.op 0 0),(3,.os 1 0 (ps.length+1+T) (some (ps.length+1+T))),(4,int (ps.length+1:Nat)),(16,bool false)],[.row 0 [u,v,ints ps,w,x],.row 2 (flatP (whU ps.length [] T))]⟩)
  (fun i e h hi hs=>by
   cases hs
   have e1:decide ((i:Int)≤ps.length)=true:=by simp;omega
   have e2:0≤(i:Int)∧(i:Int)<(ps.length+1+T:Nat):=by omega
   have e3:=wrap_next (n:=ps.length+1) (i:=i) (by omega) (by omega)
   obtain⟨r,hr⟩:∃r,ps.length+1+T-i=r+1:=⟨ps.length+1+T-i-1,by omega⟩
   have hset:=set_mid (List.replicate i ((-1, -1):Int×Int)) (0,0) (-1, -1) r
   rw[List.length_replicate,←List.replicate_succ'] at hset
   have hst:=store_pair (h:=[.row 0 [u,v,ints ps,w,x],.row 2 (flatP (List.replicate i (-1, -1)++List.replicate (ps.length+1+T-i) (0,0)))]) (l:=1) (v:=i) (ps:=List.replicate i (-1, -1)++List.replicate (ps.length+1+T-i) (0,0)) (-1) (-1) (by simp;omega)
   refine⟨_,rfl,?_⟩
   rw[show ps.length+1+T-(i+1)=r by omega,←hset]
   rw[hr] at hst⊢
   simp +decide -implicitDefEqProofs only[k105b0,go_sem,e1,e2,e3,build116,Int.toNat_natCast,hst])
  (fun e h hs=>by
   cases hs
   refine⟨_,rfl,?_⟩
   have e1:decide (((ps.length+1:Nat):Int)≤ps.length)=false:=by simp;omega
   have hw:whU ps.length [] T=List.replicate (ps.length+1) (-1, -1)++List.replicate (ps.length+1+T-(ps.length+1)) (0,0):=by
    unfold whU
    rw[List.map_nil,List.append_nil,List.length_nil,Nat.sub_zero,Nat.add_sub_cancel_left]
   rw[hw]
   simp +decide -implicitDefEqProofs only[k105b0,go_sem,e1])
  (ps.length+1) 0 m _ _ (by omega) hm rfl
 simpa using L
theorem where_l1 {vals:FuncId→Bool}{call:CallF}{n:Nat}(u v w:C)(ps:List Int)(hp:ps.length≤20)(bl:List Block)(hT:(posOf bl).length<2^20)(b:Nat)(hb:b<bl.length)(hl:(blkAt bl b).ins.length≤91)(m:Nat)(hm:(blkAt bl b).ins.length<m):
  Tm.Loop Try.prog vals call n [1,3,5,6,7] k105b1 m ⟨[(1,.op 0 0),(3,.os 1 0 (ps.length+1+(posOf bl).length) (some (ps.length+1+(posOf bl).length))),(5,int (ps.length+(posU bl b 0).length:Nat)),(6,int b),(7,int 0)],[.row 0 [u,v,ints ps,w,blocks bl],.row 2 (flatP (whU ps.length (posU bl b 0) (posOf bl).length))]⟩=some (.exit 4,⟨[(1,.op 0 0),(3,.os 1 0 (ps.length+1+(posOf bl).length) (some (ps.length+1+(posOf bl).length))),(5,int (ps.length+(posU bl b (blkAt bl b).ins.length).length:Nat)),(6,int b),(7,int (blkAt bl b).ins.length),(41,bool false)],[.row 0 [u,v,ints ps,w,blocks bl],.row 2 (flatP (whU ps.length (posU bl b (blkAt bl b).ins.length) (posOf bl).length))]⟩):=by
 obtain⟨s,rfl,L⟩:=Loop_run (P:=Try.prog) (vals:=vals) (call:=call) (n:=n) (ks:=[1,3,5,6,7]) (K:=k105b1) (id:=4) (blkAt bl b).ins.length
  (fun i s=>s=⟨[(1,.op 0 0),(3,.os 1 0 (ps.length+1+(posOf bl).length) (some (ps.length+1+(posOf bl).length))),(5,int (ps.length+(posU bl b i).length:Nat)),(6,int b),(7,int i)],[.row 0 [u,v,ints ps,w,blocks bl],.row 2 (flatP (whU ps.length (posU bl b i) (posOf bl).length))]⟩)
  (fun s=>s=⟨[(1,.op 0 0),(3,.os 1 0 (ps.length+1+(posOf bl).length) (some (ps.length+1+(posOf bl).length))),(5,int (ps.length+(posU bl b (blkAt bl b).ins.length).length:Nat)),(6,int b),(7,int (blkAt bl b).ins.length),(41,bool false)],[.row 0 [u,v,ints ps,w,blocks bl],.row 2 (flatP (whU ps.length (posU bl b (blkAt bl b).ins.length) (posOf bl).length))]⟩)
  (fun i e h hi hs=>by
   cases hs
   have e1:decide ((i:Int)<(blkAt bl b).ins.length)=true:=by simp;omega
   have e2:0≤(i:Int)∧(i:Int)<(blkAt bl b).ins.length:=by omega
   have eb:0≤(b:Int)∧(b:Int)<bl.length:=by omega
   have e3:=wrap_next (n:=(blkAt bl b).ins.length) (i:=i) (by omega) (by omega)
   have hn:=posU_next bl b i
   have hle:=posU_le (bl:=bl) (b:=b) (k:=i+1) hb (by omega)
   unfold tyI at hn
   cases c1:decide ((insAt (blkAt bl b).ins i).type=0) with
   |true=>
    rw[c1] at hn
    simp only[Bool.not_true,Bool.false_eq_true,if_false,List.append_nil] at hn
    refine⟨_,rfl,?_⟩
    rw[hn]
    simp +decide -implicitDefEqProofs only[k105b1,go_sem,e1,e2,eb,e3,c1]
   |false=>
    rw[c1] at hn
    simp only[Bool.not_false,if_true] at hn
    have hlt:(posU bl b i).length<(posOf bl).length:=by rw[hn,List.length_append,List.length_singleton] at hle;omega
    have hw:=wrap1 (k:=ps.length+(posU bl b i).length) (by omega)
    have ev:0≤((ps.length+(posU bl b i).length+1:Nat):Int)∧((ps.length+(posU bl b i).length+1:Nat):Int)<(ps.length+1+(posOf bl).length:Nat):=by omega
    have hset:=whU_set ps.length (posU bl b i) (posOf bl).length b i hlt
    have hst:=store_pair (h:=[.row 0 [u,v,ints ps,w,blocks bl],.row 2 (flatP (whU ps.length (posU bl b i) (posOf bl).length))]) (l:=1) (v:=ps.length+(posU bl b i).length+1) (ps:=whU ps.length (posU bl b i) (posOf bl).length) b i (by rw[whU_len _ _ _ (by omega)];omega)
    rw[hset] at hst
    refine⟨_,rfl,?_⟩
    rw[hn,List.length_append,List.length_singleton,←Nat.add_assoc]
    simp +decide -implicitDefEqProofs only[k105b1,go_sem,e1,e2,eb,e3,c1,hw,ev,build116,Int.toNat_natCast,hst])
  (fun e h hs=>by
   cases hs
   refine⟨_,rfl,?_⟩
   have eb:0≤(b:Int)∧(b:Int)<bl.length:=by omega
   simp +decide -implicitDefEqProofs only[k105b1,go_sem,eb,Int.lt_irrefl,decide_false])
  (blkAt bl b).ins.length 0 m _ _ (by omega) hm rfl
 simpa using L
theorem where_l2 {vals:FuncId→Bool}{call:CallF}{n:Nat}(u v w:C)(ps:List Int)(hp:ps.length≤20)(bl:List Block)(hT:(posOf bl).length<2^20)(hl:bl.length≤17)(hb:∀b∈bl,b.ins.length≤91∧b.ins.length<n)(m:Nat)(hm:bl.length<m):
  Tm.Loop Try.prog vals call n [1,3,5,6] k105b2 m ⟨[(1,.op 0 0),(3,.os 1 0 (ps.length+1+(posOf bl).length) (some (ps.length+1+(posOf bl).length))),(5,int (ps.length+(posB bl 0).length:Nat)),(6,int 0)],[.row 0 [u,v,ints ps,w,blocks bl],.row 2 (flatP (whU ps.length (posB bl 0) (posOf bl).length))]⟩=some (.exit 2,⟨[(1,.op 0 0),(3,.os 1 0 (ps.length+1+(posOf bl).length) (some (ps.length+1+(posOf bl).length))),(5,int (ps.length+(posOf bl).length:Nat)),(6,int bl.length),(30,bool false)],[.row 0 [u,v,ints ps,w,blocks bl],.row 2 (flatP (whU ps.length (posOf bl) (posOf bl).length))]⟩):=by
 obtain⟨s,rfl,L⟩:=Loop_run (P:=Try.prog) (vals:=vals) (call:=call) (n:=n) (ks:=[1,3,5,6]) (K:=k105b2) (id:=2) bl.length
  (fun i s=>s=⟨[(1,.op 0 0),(3,.os 1 0 (ps.length+1+(posOf bl).length) (some (ps.length+1+(posOf bl).length))),(5,int (ps.length+(posB bl i).length:Nat)),(6,int i)],[.row 0 [u,v,ints ps,w,blocks bl],.row 2 (flatP (whU ps.length (posB bl i) (posOf bl).length))]⟩)
  (fun s=>s=⟨[(1,.op 0 0),(3,.os 1 0 (ps.length+1+(posOf bl).length) (some (ps.length+1+(posOf bl).length))),(5,int (ps.length+(posOf bl).length:Nat)),(6,int bl.length),(30,bool false)],[.row 0 [u,v,ints ps,w,blocks bl],.row 2 (flatP (whU ps.length (posOf bl) (posOf bl).length))]⟩)
  (fun i e h hi hs=>by
   cases hs
   have e1:decide ((i:Int)<bl.length)=true:=by simp;omega
   have e2:0≤(i:Int)∧(i:Int)<bl.length:=by omega
   have e3:=wrap_next (n:=bl.length) (i:=i) (by omega) (by omega)
   obtain⟨hb1,hb2⟩:=hb _ (blkAt_mem e2)
   have L1:=where_l1 (vals:=vals) (call:=call) (n:=n) u v w ps hp bl hT i hi hb1 n hb2
   rw[posU_zero] at L1
   refine⟨_,rfl,?_⟩
   rw[posB_next]
   simp +decide -implicitDefEqProofs only[k105b2,go_sem,e1,e2,e3,L1])
  (fun e h hs=>by
   cases hs
   refine⟨_,rfl,?_⟩
   simp +decide -implicitDefEqProofs only[k105b2,go_sem,Int.lt_irrefl,decide_false]
   rfl)
  bl.length 0 m _ _ (by omega) hm rfl
 simpa using L
theorem where_runs (f:Tm.Func)(F:Fine f)(hp:f.params.length≤20):Runs Try.prog tab 202 105 [.agg (encFunc f)] (pairs (whOf f)):=by
 refine Runs.by (rs:=[.tmp 2]) (N:=64) rfl Try.func105 rfl rfl (by simp) fun k hk=>?_
 have b1:=F.blocks
 have hle:=tsB_le 91 f.blocks fun b hb=>F.ins b hb
 have hle2:f.blocks.length*91≤17*91:=Nat.mul_le_mul_right _ b1
 have hpl:=posOf_len f.blocks
 have hty:(typesOf f).length=f.params.length+1+(posOf f.blocks).length:=by rw[hpl];simp[typesOf];omega
 have hv:∀h,callAt Try.prog tab k 59 [.agg (encFunc f)] h=some (int ((typesOf f).length-1:Int),h):=fun h=>values_runs f F hp k (by omega) _ h (by simp only[mapC_cons,mapC_nil,depth,view_func,Option.bind_some])
 have hw:IntKind.i64.wrap (((typesOf f).length:Int)-1+1)=((f.params.length+1+(posOf f.blocks).length:Nat):Int):=by rw[hty,wrap_in (by omega) (by omega)];omega
 have L0:=where_l0 (vals:=valsOf tab) (call:=callAt Try.prog tab k) (n:=k) (str f.name) (bool f.out) (int f.result) (blocks f.blocks) f.params (posOf f.blocks).length hp k (by omega)
 have L2:=where_l2 (vals:=valsOf tab) (call:=callAt Try.prog tab k) (n:=k) (str f.name) (bool f.out) (int f.result) f.params hp f.blocks (by omega) b1 (fun b hb=>by have:=F.ins b hb;omega) k (by omega)
 rw[posB_zero] at L2
 simp only[List.length_nil,Nat.add_zero] at L2
 have hmr:(2:Nat)^22<maxRow:=by decide
 have em:(0:Int)≤(f.params.length+1+(posOf f.blocks).length:Nat)∧((f.params.length+1+(posOf f.blocks).length:Nat):Int)≤(f.params.length+1+(posOf f.blocks).length:Nat)∧((f.params.length+1+(posOf f.blocks).length:Nat):Int)≤maxRow:=by omega
 have hrep:=rep_flatP (f.params.length+1+(posOf f.blocks).length)
 have hwh:whU f.params.length (posOf f.blocks) (posOf f.blocks).length=whOf f:=by unfold whU whOf;simp
 have hwl:(whOf f).length=f.params.length+1+(posOf f.blocks).length:=by rw[←hwh,whU_len _ _ _ (Nat.le_refl _)]
 rw[hwh] at L2
 rw[enc_func] at*
 simp +decide -implicitDefEqProofs only[k105,go_sem,hv,hw,em,Int.toNat_natCast,hrep,L0,L2]
 refine⟨_,_,rfl,?_⟩
 rw[←hwl]
 exact view_os_pairs rfl
def Part (l:List Block)(b a:Int)(row:List Bool):Prop:=row.length=l.length∧∀x:Int,0≤x→x<(l.length:Int)→(rdOf false row x=true↔Ov l x b∧¬Ov l x a)
theorem rdOf_set {row:List Bool}{a:Nat}{x:Int}(ha:a<row.length)(hx:0≤x):rdOf false (row.set a true) x=true↔x=(a:Int)∨rdOf false row x=true:=by
 unfold rdOf
 rw[List.getD_eq_getElem?_getD,List.getD_eq_getElem?_getD,List.getElem?_set]
 by_cases h:a=x.toNat
 ·rw[if_pos h,if_pos ha]
  exact⟨fun _=>.inl (by omega),fun _=>rfl⟩
 ·rw[if_neg h]
  exact⟨fun h=>.inr h,fun h2=>h2.resolve_left fun e=>h (by omega)⟩
theorem Part.up {l:List Block}{b:Int}{a:Nat}{row:List Bool}{a':Int}(H:Part l b a row)(ha:a<l.length)(hab:Ov l a b)(hn:Near l a l.length a')(h0:0≤a'):
  Part l b a' (row.set a true)∧Ov l a' b∧a'<(l.length:Int):=by
 rcases hn with ⟨h,_⟩|⟨h1,h2,h3,h4⟩
 ·omega
 ·refine⟨⟨by rw[List.length_set];exact H.1,fun x x0 x1=>?_⟩,h3.trans hab,h1.2⟩
  rw[rdOf_set (by rw[H.1];exact ha) x0,H.2 x x0 x1]
  constructor
  ·rintro(h|⟨h,k⟩)
   ·subst h;exact⟨hab,fun q=>Ov.anti (fun e=>h2 e.symm) q h3⟩
   ·exact⟨h,fun q=>k (q.trans h3)⟩
  ·rintro⟨h,k⟩
   by_cases e:x=(a:Int)
   ·exact .inl e
   ·exact .inr ⟨h,fun q=>k (h4 x x0 x1 e q)⟩
theorem Part.top {l:List Block}{b:Int}{a:Nat}{row:List Bool}{a':Int}(H:Part l b a row)(ha:a<l.length)(hab:Ov l a b)(hn:Near l a l.length a')(h0:a'<0):
  (row.set a true).length=l.length∧∀x:Int,0≤x→x<(l.length:Int)→(rdOf false (row.set a true) x=true↔Ov l x b):=by
 rcases hn with ⟨h1,h2⟩|⟨h1,_⟩
 ·refine⟨by rw[List.length_set];exact H.1,fun x x0 x1=>?_⟩
  rw[rdOf_set (by rw[H.1];exact ha) x0,H.2 x x0 x1]
  constructor
  ·rintro(h|⟨h,k⟩)
   ·subst h;exact hab
   ·exact h
  ·intro h
   by_cases e:x=(a:Int)
   ·exact .inl e
   ·exact .inr ⟨h,h2 x x0 x1 e⟩
 ·omega
theorem Part.free {l:List Block}{b:Int}{a:Nat}{row:List Bool}(H:Part l b a row)(ha:a<l.length)(hab:Ov l a b):rdOf false row a=false:=by
 rw[←Bool.not_eq_true,H.2 a (by omega) (by omega)]
 exact fun q=>q.2 (Ov.self hab.1)
theorem Part.start {l:List Block}{b:Int}:Part l b b (List.replicate l.length false):=by
 refine⟨by simp,fun x x0 x1=>⟨fun h=>?_,fun h=>absurd h.1 h.2⟩⟩
 unfold rdOf at h
 rw[List.getD_eq_getElem?_getD,List.getElem?_replicate] at h
 split at h<;>simp at h
end Go.Proofs.Ytkcimaibaicdcaa.Tk
namespace Go.Tm
theorem Loop_anyS {P:Program}{vals:FuncId→Bool}{call:CallF}{n:Nat}{ks:List Nat}{K:K}{id:Nat}(N:Nat)(bad:Nat→Bool)(Φ:Nat→St→Prop)(Ψ:St→Prop)(R:Env)
  (hb:∀i e h,i<N→Φ i ⟨e,h⟩→bad i=true→∃h',exec P vals call n K ⟨keepE e ks,h⟩=some (.ret,⟨R,h'⟩))
  (hs:∀i e h,i<N→Φ i ⟨e,h⟩→bad i=false→∃s,Φ (i+1) s∧exec P vals call n K ⟨keepE e ks,h⟩=some (.normal,s))
  (he:∀e h,Φ N ⟨e,h⟩→∃s,Ψ s∧exec P vals call n K ⟨keepE e ks,h⟩=some (.exit id,s)):
  ∀(d i m:Nat) (e:Env) (h:Heap),i+d=N→d<m→Φ i ⟨e,h⟩→((List.range' i d).any bad=true∧∃h',Tm.Loop P vals call n ks K m ⟨e,h⟩=some (.ret,⟨R,h'⟩))∨((List.range' i d).any bad=false∧∃s,Ψ s∧Tm.Loop P vals call n ks K m ⟨e,h⟩=some (.exit id,s))
 |0,i,m,e,h,hi,hm,hI=>by
  obtain⟨m,rfl⟩:∃p,m=p+1:=⟨m-1,by omega⟩
  obtain rfl:i=N:=by omega
  obtain⟨s,h1,h2⟩:=he e h hI
  exact .inr ⟨rfl,s,h1,by rw[Tm.Loop_succ,h2];rfl⟩
 |d+1,i,m,e,h,hi,hm,hI=>by
  obtain⟨m,rfl⟩:∃p,m=p+1:=⟨m-1,by omega⟩
  rw[List.range'_succ,List.any_cons,Tm.Loop_succ]
  cases hq:bad i with
  |true=>
   obtain⟨h',h1⟩:=hb i e h (by omega) hI hq
   exact .inl ⟨by rw[Bool.true_or],h',by rw[h1];rfl⟩
  |false=>
   obtain⟨⟨e',h'⟩,h1,h2⟩:=hs i e h (by omega) hI hq
   rw[h2,Bool.false_or]
   exact Loop_anyS N bad Φ Ψ R hb hs he d (i+1) m e' h' (by omega) (by omega) h1
def badNm (np:Nat)(bl:List Block)(b k:Nat):Bool:=tyI (insAt (blkAt bl b).ins k)&&!decide ((insAt (blkAt bl b).ins k).to=((np+(posU bl b k).length+1:Nat):Int))
def badNB (np:Nat)(bl:List Block)(b:Nat):Bool:=(List.range' 0 (blkAt bl b).ins.length).any (badNm np bl b)
def homeU (np:Nat)(U:List (Nat×Nat)):List Int:=List.replicate (np+1) 0++U.map fun p=>(p.1:Int)
theorem homeU_more (np:Nat)(U:List (Nat×Nat))(b k:Nat):homeU np (U++[(b,k)])=homeU np U++[(b:Int)]:=by simp[homeU]
theorem homeU_len (np:Nat)(U:List (Nat×Nat)):(homeU np U).length=np+1+U.length:=by simp[homeU]
end Go.Tm
namespace Go.Proofs.Ytkcimaibaicdcaa.Tk
open Go.Tm Go.Tm.Tab
theorem unum_l0 {vals:FuncId→Bool}{call:CallF}{n:Nat}(u v w x:C)(np:Nat)(hnp:np≤20)(bl:List Block)(hT:(posOf bl).length<2^20)(q:Nat)(hq:q<bl.length)(hl:(blkAt bl q).ins.length<2^50)(I:Heap→Prop)(hp:∀h x,I h→I (h++[x]))(hg:∀h,I h→h[0]?=some (.row 0 [u,v,w,x,blocks bl]))(m:Nat)(hm:(blkAt bl q).ins.length<m)(h:Heap)(hI:I h):∃h1,I h1∧Tm.Loop Try.prog vals call n [1,3,4,5] k84b0 m ⟨[(1,.op 0 0),(3,int (np+(posU bl q 0).length:Nat)),(4,int q),(5,int 0)],h⟩=some (if (List.range' 0 (blkAt bl q).ins.length).any (badNm np bl q)=true then(.ret,⟨[(2,bool false)],h1⟩) else(.exit 2,⟨[(1,.op 0 0),(3,int (np+(posU bl q (blkAt bl q).ins.length).length:Nat)),(4,int q),(5,int (blkAt bl q).ins.length),(33,bool false)],h1⟩)):=by
 obtain⟨h1,J,L⟩:=Loop_any (P:=Try.prog) (vals:=vals) (call:=call) (n:=n) (ks:=[1,3,4,5]) (K:=k84b0) (id:=2) (blkAt bl q).ins.length (fun i=>badNm np bl q i) (fun i=>[(1,.op 0 0),(3,int (np+(posU bl q i).length:Nat)),(4,int q),(5,int i)]) [(2,bool false)] [(1,.op 0 0),(3,int (np+(posU bl q (blkAt bl q).ins.length).length:Nat)),(4,int q),(5,int (blkAt bl q).ins.length),(33,bool false)] I
  (fun i h hi hI=>by
   have e1:decide ((i:Int)<(blkAt bl q).ins.length)=true:=by simp;omega
   have e2:0≤(i:Int)∧(i:Int)<(blkAt bl q).ins.length:=by omega
   have e3:=wrap_next (n:=(blkAt bl q).ins.length) (i:=i) (by omega) (by omega)
   have I1:=hp _ (.row 0 (encIns (insAt (blkAt bl q).ins i))) hI
   have g0:=hg _ hI
   have g1:=hg _ I1
   simp only[encIns] at I1 g1
   have eq:0≤(q:Int)∧(q:Int)<bl.length:=by omega
   have hn:=posU_next bl q i
   have hle:=posU_le (bl:=bl) (b:=q) (k:=i) hq (by omega)
   have hw:=wrap1 (k:=np+(posU bl q i).length) (by omega)
   unfold tyI at hn
   refine⟨_,I1,?_⟩
   unfold badNm tyI
   cases c1:decide ((insAt (blkAt bl q).ins i).type=0) with
   |true=>
    rw[c1] at hn
    simp only[Bool.not_true,Bool.false_eq_true,if_false,List.append_nil] at hn
    rw[hn]
    simp +decide -implicitDefEqProofs only[k84b0,go_sem,e1,e2,e3,set_new,eq,g0,encIns,c1,Bool.not_true,Bool.false_and,Bool.false_eq_true,if_false]
   |false=>
    rw[c1] at hn
    simp only[Bool.not_false,if_true] at hn
    rw[hn,List.length_append,List.length_singleton,←Nat.add_assoc]
    cases c2:decide ((insAt (blkAt bl q).ins i).to=((np+(posU bl q i).length+1:Nat):Int))<;>simp +decide -implicitDefEqProofs only[k84b0,go_sem,e1,e2,e3,set_new,eq,g0,encIns,c1,c2,hw,Bool.not_false,Bool.true_and])
  (fun h hI=>by
   have g0:=hg h hI
   have eq:0≤(q:Int)∧(q:Int)<bl.length:=by omega
   exact⟨h,hI,by simp +decide -implicitDefEqProofs only[k84b0,go_sem,Int.lt_irrefl,decide_false,g0,eq]⟩) (blkAt bl q).ins.length 0 m h (by omega) hm hI
 simp only[show((0:Nat):Int)=0 from rfl] at L
 rw[any_eta] at L
 exact⟨h1,J,L⟩
theorem unum_l1 {vals:FuncId→Bool}{call:CallF}{n:Nat}(u v w x:C)(np:Nat)(hnp:np≤20)(bl:List Block)(hT:(posOf bl).length<2^20)(hl2:bl.length<2^50)(hb:∀b∈bl,b.ins.length<n∧b.ins.length<2^50)(I:Heap→Prop)(hp:∀h x,I h→I (h++[x]))(hg:∀h,I h→h[0]?=some (.row 0 [u,v,w,x,blocks bl]))(m:Nat)(hm:bl.length<m)(h:Heap)(hI:I h):∃h1,I h1∧Tm.Loop Try.prog vals call n [1,3,4] k84b1 m ⟨[(1,.op 0 0),(3,int (np+(posB bl 0).length:Nat)),(4,int 0)],h⟩=some (if (List.range' 0 bl.length).any (badNB np bl)=true then(.ret,⟨[(2,bool false)],h1⟩) else(.exit 0,⟨[(1,.op 0 0),(3,int (np+(posB bl bl.length).length:Nat)),(4,int bl.length),(22,bool false)],h1⟩)):=by
 obtain⟨h1,J,L⟩:=Loop_any (P:=Try.prog) (vals:=vals) (call:=call) (n:=n) (ks:=[1,3,4]) (K:=k84b1) (id:=0) bl.length (fun i=>badNB np bl i) (fun i=>[(1,.op 0 0),(3,int (np+(posB bl i).length:Nat)),(4,int i)]) [(2,bool false)] [(1,.op 0 0),(3,int (np+(posB bl bl.length).length:Nat)),(4,int bl.length),(22,bool false)] I
  (fun i h hi hI=>by
   have e1:decide ((i:Int)<bl.length)=true:=by simp;omega
   have e2:0≤(i:Int)∧(i:Int)<bl.length:=by omega
   have e3:=wrap_next (n:=bl.length) (i:=i) (by omega) (by omega)
   have hx:=blkAt_mem e2
   obtain⟨hb1,hb2⟩:=hb _ hx
   have g0:=hg h hI
   obtain⟨h1,I1,L1⟩:=unum_l0 (vals:=vals) (call:=call) (n:=n) u v w x np hnp bl hT i hi hb2 I hp hg n hb1 _ hI
   rw[posU_zero] at L1
   refine⟨h1,I1,?_⟩
   unfold badNB
   rw[posB_next]
   cases c1:(List.range' 0 (blkAt bl i).ins.length).any (badNm np bl i) with
   |true=>
    rw[c1,if_pos rfl] at L1
    simp +decide -implicitDefEqProofs only[k84b1,go_sem,e1,e2,e3,set_new,g0,L1]
   |false=>
    rw[c1,if_neg (by decide)] at L1
    simp +decide -implicitDefEqProofs only[k84b1,go_sem,e1,e2,e3,set_new,g0,L1])
  (fun h hI=>by
   have g0:=hg h hI
   exact⟨h,hI,by simp +decide -implicitDefEqProofs only[k84b1,go_sem,Int.lt_irrefl,decide_false,g0]⟩) bl.length 0 m h (by omega) hm hI
 simp only[show((0:Nat):Int)=0 from rfl] at L
 rw[any_eta] at L
 exact⟨h1,J,L⟩
theorem wnum_l0 {vals:FuncId→Bool}{call:CallF}{n:Nat}(M:Tm.Node)(np:Nat)(hnp:np≤20)(bl:List Block)(hT:(posOf bl).length<2^20)(q:Nat)(hq:q<bl.length)(hl:(blkAt bl q).ins.length<2^20)(m:Nat)(hm:(blkAt bl q).ins.length<m)(c:C)(h:Heap)(hg:GrowC h c (homeU np (posU bl q 0)))(h0:h[0]?=some M)(hc:(∀o cp,c≠ .os 0 0 o cp)):
  ((List.range' 0 (blkAt bl q).ins.length).any (badNm np bl q)=true∧∃h',Tm.Loop Try.prog vals call n [1,3,4,5,28,29,30,36,37,38] k92b0 m ⟨[(1,.op 0 0),(3,int (np+(posU bl q 0).length:Nat)),(4,c),(5,int q),(28,blocks bl),(29,int bl.length),(30,int q),(36,inss (blkAt bl q).ins),(37,int (blkAt bl q).ins.length),(38,int 0)],h⟩=some (.ret,⟨[(2,bool false)],h'⟩))∨((List.range' 0 (blkAt bl q).ins.length).any (badNm np bl q)=false∧∃s,(∃c h,s=⟨[(1,.op 0 0),(3,int (np+(posU bl q (blkAt bl q).ins.length).length:Nat)),(4,c),(5,int q),(28,blocks bl),(29,int bl.length),(30,int q),(36,inss (blkAt bl q).ins),(37,int (blkAt bl q).ins.length),(38,int (blkAt bl q).ins.length),(39,bool false)],h⟩∧GrowC h c (homeU np (posU bl q (blkAt bl q).ins.length))∧h[0]?=some M∧(∀o cp,c≠ .os 0 0 o cp))∧Tm.Loop Try.prog vals call n [1,3,4,5,28,29,30,36,37,38] k92b0 m ⟨[(1,.op 0 0),(3,int (np+(posU bl q 0).length:Nat)),(4,c),(5,int q),(28,blocks bl),(29,int bl.length),(30,int q),(36,inss (blkAt bl q).ins),(37,int (blkAt bl q).ins.length),(38,int 0)],h⟩=some (.exit 2,s)):=by
 have hmr:(2:Nat)^22<maxRow:=by decide
 refine Loop_anyS (P:=Try.prog) (vals:=vals) (call:=call) (n:=n) (ks:=[1,3,4,5,28,29,30,36,37,38]) (K:=k92b0) (id:=2) (blkAt bl q).ins.length (badNm np bl q)
  (fun i s=>∃c h,s=⟨[(1,.op 0 0),(3,int (np+(posU bl q i).length:Nat)),(4,c),(5,int q),(28,blocks bl),(29,int bl.length),(30,int q),(36,inss (blkAt bl q).ins),(37,int (blkAt bl q).ins.length),(38,int i)],h⟩∧GrowC h c (homeU np (posU bl q i))∧h[0]?=some M∧(∀o cp,c≠ .os 0 0 o cp))
  (fun s=>∃c h,s=⟨[(1,.op 0 0),(3,int (np+(posU bl q (blkAt bl q).ins.length).length:Nat)),(4,c),(5,int q),(28,blocks bl),(29,int bl.length),(30,int q),(36,inss (blkAt bl q).ins),(37,int (blkAt bl q).ins.length),(38,int (blkAt bl q).ins.length),(39,bool false)],h⟩∧GrowC h c (homeU np (posU bl q (blkAt bl q).ins.length))∧h[0]?=some M∧(∀o cp,c≠ .os 0 0 o cp)) [(2,bool false)]
  (fun i e h hi ⟨c,h2,hs,g1,g2,g3⟩ hbad=>by
   cases hs
   have e1:decide ((i:Int)<(blkAt bl q).ins.length)=true:=by simp;omega
   have e2:0≤(i:Int)∧(i:Int)<(blkAt bl q).ins.length:=by omega
   have hle:=posU_le (bl:=bl) (b:=q) (k:=i) hq (by omega)
   have hw:=wrap1 (k:=np+(posU bl q i).length) (by omega)
   unfold badNm tyI at hbad
   rw[Bool.and_eq_true,Bool.not_eq_true',Bool.not_eq_true'] at hbad
   refine⟨h++[.row 0 (encIns (insAt (blkAt bl q).ins i))],?_⟩
   simp +decide -implicitDefEqProofs only[k92b0,go_sem,e1,e2,set_new,encIns,hbad.1,hbad.2,hw])
  (fun i e h hi ⟨c,h2,hs,g1,g2,g3⟩ hbad=>by
   cases hs
   have e1:decide ((i:Int)<(blkAt bl q).ins.length)=true:=by simp;omega
   have e2:0≤(i:Int)∧(i:Int)<(blkAt bl q).ins.length:=by omega
   have e3:=wrap_next (n:=(blkAt bl q).ins.length) (i:=i) (by omega) (by omega)
   have hn:=posU_next bl q i
   have hle:=posU_le (bl:=bl) (b:=q) (k:=i) hq (by omega)
   have hw:=wrap1 (k:=np+(posU bl q i).length) (by omega)
   unfold badNm tyI at hbad
   unfold tyI at hn
   cases c1:decide ((insAt (blkAt bl q).ins i).type=0) with
   |true=>
    rw[c1] at hn
    simp only[Bool.not_true,Bool.false_eq_true,if_false,List.append_nil] at hn
    refine⟨_,⟨c,h++[.row 0 (encIns (insAt (blkAt bl q).ins i))],rfl,by rw[hn];exact g1.push,by rw[List.getElem?_append_left (List.getElem?_eq_some_iff.1 g2).1];exact g2,g3⟩,?_⟩
    rw[hn]
    simp +decide -implicitDefEqProofs only[k92b0,go_sem,e1,e2,e3,set_new,encIns,c1]
   |false=>
    rw[c1] at hn hbad
    simp only[Bool.not_false,if_true] at hn
    simp only[Bool.not_false,Bool.true_and,Bool.not_eq_false'] at hbad
    obtain⟨c',h',a1,a2,a3,a4⟩:=((g1.push (x:=.row 0 (encIns (insAt (blkAt bl q).ins i)))).push (x:=.row 1 [int q])).append (q:Int) (by rw[homeU_len];omega)
    rw[←homeU_more np _ q i,←hn] at a2
    refine⟨_,⟨c',h',rfl,a2,?_,?_⟩,?_⟩
    ·refine a4 0 _ ?_ g3
     rw[List.getElem?_append_left (by simp),List.getElem?_append_left (List.getElem?_eq_some_iff.1 g2).1];exact g2
    ·intro o cp hq;rw[a3] at hq;simp at hq
    ·simp only[encIns] at a1
     rw[hn,List.length_append,List.length_singleton,←Nat.add_assoc]
     simp +decide -implicitDefEqProofs only[k92b0,go_sem,e1,e2,e3,set_new,encIns,c1,hbad,hw,a1])
  (fun e h ⟨c,h2,hs,g1,g2,g3⟩=>by
   cases hs
   refine⟨_,⟨c,h,rfl,g1,g2,g3⟩,?_⟩
   simp +decide -implicitDefEqProofs only[k92b0,go_sem,Int.lt_irrefl,decide_false])
  (blkAt bl q).ins.length 0 m _ h (by omega) hm ⟨c,h,rfl,hg,h0,hc⟩
theorem wnum_l1 {vals:FuncId→Bool}{call:CallF}{n:Nat}(M:Tm.Node)(np:Nat)(hnp:np≤20)(bl:List Block)(hT:(posOf bl).length<2^20)(hl:bl.length≤17)(hb:∀b∈bl,b.ins.length≤91∧b.ins.length<n)(m:Nat)(hm:bl.length<m)(c:C)(h:Heap)(hg:GrowC h c (homeU np (posB bl 0)))(h0:h[0]?=some M)(hc:(∀o cp,c≠ .os 0 0 o cp)):
  ((List.range' 0 bl.length).any (badNB np bl)=true∧∃h',Tm.Loop Try.prog vals call n [1,3,4,28,29,30] k92b1 m ⟨[(1,.op 0 0),(3,int (np+(posB bl 0).length:Nat)),(4,c),(28,blocks bl),(29,int bl.length),(30,int 0)],h⟩=some (.ret,⟨[(2,bool false)],h'⟩))∨((List.range' 0 bl.length).any (badNB np bl)=false∧∃s,(∃c h,s=⟨[(1,.op 0 0),(3,int (np+(posOf bl).length:Nat)),(4,c),(28,blocks bl),(29,int bl.length),(30,int bl.length),(31,bool false)],h⟩∧GrowC h c (homeU np (posOf bl))∧h[0]?=some M∧(∀o cp,c≠ .os 0 0 o cp))∧Tm.Loop Try.prog vals call n [1,3,4,28,29,30] k92b1 m ⟨[(1,.op 0 0),(3,int (np+(posB bl 0).length:Nat)),(4,c),(28,blocks bl),(29,int bl.length),(30,int 0)],h⟩=some (.exit 0,s)):=by
 refine Loop_anyS (P:=Try.prog) (vals:=vals) (call:=call) (n:=n) (ks:=[1,3,4,28,29,30]) (K:=k92b1) (id:=0) bl.length (badNB np bl)
  (fun i s=>∃c h,s=⟨[(1,.op 0 0),(3,int (np+(posB bl i).length:Nat)),(4,c),(28,blocks bl),(29,int bl.length),(30,int i)],h⟩∧GrowC h c (homeU np (posB bl i))∧h[0]?=some M∧(∀o cp,c≠ .os 0 0 o cp))
  (fun s=>∃c h,s=⟨[(1,.op 0 0),(3,int (np+(posOf bl).length:Nat)),(4,c),(28,blocks bl),(29,int bl.length),(30,int bl.length),(31,bool false)],h⟩∧GrowC h c (homeU np (posOf bl))∧h[0]?=some M∧(∀o cp,c≠ .os 0 0 o cp)) [(2,bool false)]
  (fun i e h hi ⟨c,h2,hs,g1,g2,g3⟩ hbad=>by
   cases hs
   have e1:decide ((i:Int)<bl.length)=true:=by simp;omega
   have e2:0≤(i:Int)∧(i:Int)<bl.length:=by omega
   obtain⟨hb1,hb2⟩:=hb _ (blkAt_mem e2)
   have L:=wnum_l0 (vals:=vals) (call:=call) (n:=n) M np hnp bl hT i hi (by omega) n hb2 c (h++[.row 0 [inss (blkAt bl i).ins]]) (by rw[posU_zero];exact g1.push) (by rw[List.getElem?_append_left (List.getElem?_eq_some_iff.1 g2).1];exact g2) g3
   rw[posU_zero] at L
   unfold badNB at hbad
   rw[hbad] at L
   rcases L with ⟨_,h',L⟩|⟨L,_⟩
   ·exact⟨h',by simp +decide -implicitDefEqProofs only[k92b1,go_sem,e1,e2,set_new,L]⟩
   ·exact absurd L (by decide))
  (fun i e h hi ⟨c,h2,hs,g1,g2,g3⟩ hbad=>by
   cases hs
   have e1:decide ((i:Int)<bl.length)=true:=by simp;omega
   have e2:0≤(i:Int)∧(i:Int)<bl.length:=by omega
   have e3:=wrap_next (n:=bl.length) (i:=i) (by omega) (by omega)
   obtain⟨hb1,hb2⟩:=hb _ (blkAt_mem e2)
   have L:=wnum_l0 (vals:=vals) (call:=call) (n:=n) M np hnp bl hT i hi (by omega) n hb2 c (h++[.row 0 [inss (blkAt bl i).ins]]) (by rw[posU_zero];exact g1.push) (by rw[List.getElem?_append_left (List.getElem?_eq_some_iff.1 g2).1];exact g2) g3
   rw[posU_zero] at L
   unfold badNB at hbad
   rw[hbad] at L
   rcases L with ⟨L,_⟩|⟨_,s,⟨c',h',rfl,a1,a2,a3⟩,L⟩
   ·exact absurd L (by decide)
   ·refine⟨_,⟨c',h',rfl,by rw[posB_next];exact a1,a2,a3⟩,?_⟩
    rw[posB_next]
    simp +decide -implicitDefEqProofs only[k92b1,go_sem,e1,e2,e3,set_new,L])
  (fun e h ⟨c,h2,hs,g1,g2,g3⟩=>by
   cases hs
   refine⟨_,⟨c,h,rfl,g1,g2,g3⟩,?_⟩
   simp +decide -implicitDefEqProofs only[k92b1,go_sem,Int.lt_irrefl,decide_false]
   rfl)
  bl.length 0 m _ h (by omega) hm ⟨c,h,rfl,hg,h0,hc⟩
noncomputable def colOv (l:List Block)(b:Nat):List Bool:=(List.range l.length).map fun(a:Nat)=>rdOf false (rowOv l a) b
theorem colOv_len (l:List Block)(b:Nat):(colOv l b).length=l.length:=by simp[colOv]
theorem colOv_at {l:List Block}{b:Nat}{a:Int}(a0:0≤a)(a1:a<(l.length:Int)):rdOf false (colOv l b) a=rdOf false (rowOv l a) b:=by
 have h:a.toNat<l.length:=by omega
 have e:((a.toNat:Nat):Int)=a:=by omega
 unfold colOv
 rw[rdOf,List.getD_eq_getElem?_getD,List.getElem?_map,List.getElem?_range h,Option.map_some,Option.getD_some,e]
theorem chain_loop {vals:FuncId→Bool}{call:CallF}{n:Nat}(l:List Block)(hl:l.length≤17)(b:Nat)(hb:b<l.length)(R L:Nat)(cells:List C)(hci:(cells.drop b).head?=some (.os L 0 l.length (some l.length)))(hRL:R≠L)(x3 x4 y z:C):
  ∀(d m:Nat) (a:Nat) (row:List Bool) (h:Heap),row.count false≤d→d<m→a<l.length→Part l b a row→Ov l a b→h[R]?=some (.row 1 cells)→h[L]?=some (.row 1 (row.map bool))→
  ∃(row':List Bool) (v:Int),(row'.length=l.length∧∀x:Int,0≤x→x<(l.length:Int)→(rdOf false row' x=true↔Ov l x b))∧Tm.Loop Try.prog vals call n [1,3,4,9,10,11,12,64,65] k92b2 m ⟨[(1,.op 0 0),(3,x3),(4,x4),(9,.os R 0 l.length (some l.length)),(10,ints (overI l)),(11,int b),(12,int a),(64,y),(65,z)],h⟩=some (.exit 6,⟨[(1,.op 0 0),(3,x3),(4,x4),(9,.os R 0 l.length (some l.length)),(10,ints (overI l)),(11,int b),(12,int v),(64,y),(65,z),(77,bool false)],h.set L (.row 1 (row'.map bool))⟩):=by
 intro d
 induction d with
 |zero=>
  intro m a row h hc _ ha hP hab _ _
  have hf:=hP.free ha hab
  have hal:a<row.length:=by rw[hP.1];exact ha
  unfold rdOf at hf
  rw[Int.toNat_natCast] at hf
  have:=countf_put hal hf
  omega
 |succ d ih=>
  intro m a row h hc hm ha hP hab hR hL
  obtain⟨m,rfl⟩:∃p,m=p+1:=⟨m-1,by omega⟩
  have hf:=hP.free ha hab
  have hal:a<row.length:=by rw[hP.1];exact ha
  unfold rdOf at hf
  rw[Int.toNat_natCast] at hf
  have hcnt:=countf_put hal hf
  have hn:=overI_near l hl ha
  have hov:=overI_len l
  generalize hnx:(overI l).getD a 0=nx at hn
  have ho:rd (overI l) (a:Int)=nx:=by rw[rd,Int.toNat_natCast];exact hnx
  have hlt:=(List.getElem?_eq_some_iff.1 hL).1
  have e1:decide ((a:Int)≥0)=true:=by simp
  have ea:0≤(a:Int)∧(a:Int)<l.length:=by omega
  have eo:0≤(a:Int)∧(a:Int)<(overI l).length:=by omega
  have eb:0≤(b:Int)∧(b:Int)<l.length:=by omega
  have a1:storeR h L a 1 (some (.row 1 (row.map bool))) [bool true]=some (h.set L (.row 1 ((row.set a true).map bool))):=by
   rw[storeR_row,if_pos ⟨rfl,by simp;omega,rfl⟩,put_map (f:=bool) hal]
  rw[Tm.Loop_succ]
  by_cases h0:0≤nx
  ·obtain⟨hP2,hab2,hlt2⟩:=hP.up ha hab hn h0
   obtain⟨row',v,h1,h2⟩:=ih m nx.toNat (row.set a true) (h.set L (.row 1 ((row.set a true).map bool))) (by omega) (by omega) (by omega) (by rw[Int.toNat_of_nonneg h0];exact hP2) (by rw[Int.toNat_of_nonneg h0];exact hab2) (by rw[List.getElem?_set_ne (Ne.symm hRL)];exact hR) (List.getElem?_set_self hlt)
   rw[List.set_set,Int.toNat_of_nonneg h0] at h2
   refine⟨row',v,h1,?_⟩
   generalize Tm.Loop Try.prog vals call n [1,3,4,9,10,11,12,64,65] k92b2 m=LL at h2⊢
   simp +decide -implicitDefEqProofs only[k92b2,go_sem,e1,ea,eb,eo,ho,hR,hci,hL,Int.toNat_natCast,a1]
   exact h2
  ·have hT:=hP.top ha hab hn (by omega)
   refine⟨row.set a true,nx,hT,?_⟩
   obtain⟨m,rfl⟩:∃p,m=p+1:=⟨m-1,by omega⟩
   have e2:decide (nx≥0)=false:=by simp;omega
   have hnext:∀h,Tm.Loop Try.prog vals call n [1,3,4,9,10,11,12,64,65] k92b2 (m+1) ⟨[(1,.op 0 0),(3,x3),(4,x4),(9,.os R 0 l.length (some l.length)),(10,ints (overI l)),(11,int b),(12,int nx),(64,y),(65,z)],h⟩=some (.exit 6,⟨[(1,.op 0 0),(3,x3),(4,x4),(9,.os R 0 l.length (some l.length)),(10,ints (overI l)),(11,int b),(12,int nx),(64,y),(65,z),(77,bool false)],h⟩):=fun h=>by
    rw[Tm.Loop_succ]
    simp +decide -implicitDefEqProofs only[k92b2,go_sem,e2]
   generalize Tm.Loop Try.prog vals call n [1,3,4,9,10,11,12,64,65] k92b2 (m+1)=LL at hnext⊢
   simp +decide -implicitDefEqProofs only[k92b2,go_sem,e1,ea,eb,eo,ho,hR,hci,hL,Int.toNat_natCast,a1,hnext]
structure OT (l:List Block)(h:Heap)(R:Nat)(cells:List C)(i:Nat):Prop where
 at_:h[R]?=some (.row 1 cells)
 len:cells.length=l.length
 each:∀j,j<i→∃lj,cells[j]?=some (.os lj 0 l.length (some l.length))∧h[lj]?=some (.row 1 ((colOv l j).map bool))∧R<lj
theorem OT.push {l:List Block}{h:Heap}{R:Nat}{cells:List C}{i:Nat}(H:OT l h R cells i)(x:Tm.Node):OT l (h++[x]) R cells i:=
 ⟨by rw[List.getElem?_append_left (List.getElem?_eq_some_iff.1 H.at_).1];exact H.at_,H.len,fun j hj=>by
  obtain⟨lj,q1,q2,q3⟩:=H.each j hj
  exact⟨lj,q1,by rw[List.getElem?_append_left (List.getElem?_eq_some_iff.1 q2).1];exact q2,q3⟩⟩
theorem over_build {vals:FuncId→Bool}{call:CallF}{n:Nat}(hn:30≤n)(l:List Block)(hl:l.length≤17)(hre:∀b:Nat,b<l.length→Rc (nextOf l) (fun _=>True) 0 b)(u v w x:C)(R:Nat)(hR0:R≠0)(x3 x4:C)(h0:Heap)(cells0:List C)(hc0:cells0.length=l.length)(hR:h0[R]?=some (.row 1 cells0))(hM:h0[0]?=some (.row 0 [u,v,w,x,blocks l]))(m:Nat)(hm:l.length<m):
  ∃h' cells',Tm.Loop Try.prog vals call n [1,3,4,9,10,64,65] k92b3 m ⟨[(1,.op 0 0),(3,x3),(4,x4),(9,.os R 0 l.length (some l.length)),(10,ints (overI l)),(64,int l.length),(65,int 0)],h0⟩=some (.exit 4,⟨[(1,.op 0 0),(3,x3),(4,x4),(9,.os R 0 l.length (some l.length)),(10,ints (overI l)),(64,int l.length),(65,int l.length),(66,bool false)],h'⟩)∧OT l h' R cells' l.length∧∀(k:Nat) (nd:Tm.Node),k≠R→h0[k]?=some nd→h'[k]?=some nd:=by
 obtain⟨s,⟨h',cells',rfl,g1,g2⟩,L⟩:=Loop_run (P:=Try.prog) (vals:=vals) (call:=call) (n:=n) (ks:=[1,3,4,9,10,64,65]) (K:=k92b3) (id:=4) l.length
  (fun i s=>∃h cells,s=⟨[(1,.op 0 0),(3,x3),(4,x4),(9,.os R 0 l.length (some l.length)),(10,ints (overI l)),(64,int l.length),(65,int i)],h⟩∧OT l h R cells i∧∀(k:Nat) (nd:Tm.Node),k≠R→h0[k]?=some nd→h[k]?=some nd)
  (fun s=>∃h cells,s=⟨[(1,.op 0 0),(3,x3),(4,x4),(9,.os R 0 l.length (some l.length)),(10,ints (overI l)),(64,int l.length),(65,int l.length),(66,bool false)],h⟩∧OT l h R cells l.length∧∀(k:Nat) (nd:Tm.Node),k≠R→h0[k]?=some nd→h[k]?=some nd)
  (fun i e h hi ⟨h2,cells,hs,H,hfr⟩=>by
   cases hs
   have e1:decide ((i:Int)<l.length)=true:=by simp;omega
   have ei:0≤(i:Int)∧(i:Int)<l.length:=by omega
   have e3:=wrap_next (n:=l.length) (i:=i) (by omega) (by omega)
   have eM:0≤(l.length:Int)∧(l.length:Int)≤(l.length:Int)∧(l.length:Int)≤(maxRow:Nat):=⟨by omega,by omega,by unfold maxRow;omega⟩
   have e7:=rep_map (f:=bool) l.length false
   have hRl:=(List.getElem?_eq_some_iff.1 H.at_).1
   have hic:i<cells.length:=by rw[H.len];exact hi
   have hm0:=hfr 0 _ (Ne.symm hR0) hM
   have hat:(h++[Tm.Node.row 1 ((List.replicate l.length false).map bool)])[R]?=some (.row 1 cells):=by rw[List.getElem?_append_left hRl];exact H.at_
   obtain⟨h2,hh2⟩:∃h2,h2=(h++[Tm.Node.row 1 ((List.replicate l.length false).map bool)]).set R (.row 1 (cells.set i (.os h.length 0 l.length (some l.length)))):=⟨_,rfl⟩
   have a1:storeR (h++[Tm.Node.row 1 ((List.replicate l.length false).map bool)]) R i 1 (some (.row 1 cells)) [.os h.length 0 l.length (some l.length)]=some h2:=by
    rw[storeR_row,if_pos ⟨rfl,by simp;omega,rfl⟩,put_cell hic,hh2]
   have gR:h2[R]?=some (.row 1 (cells.set i (.os h.length 0 l.length (some l.length)))):=by rw[hh2,List.getElem?_set_self (by simp;omega)]
   have gL:h2[h.length]?=some (.row 1 ((List.replicate l.length false).map bool)):=by rw[hh2,List.getElem?_set_ne (by omega)];simp
   have gh:∀(k:Nat) (nd:Tm.Node),k≠R→h[k]?=some nd→h2[k]?=some nd:=fun k nd q e=>by rw[hh2,List.getElem?_set_ne (Ne.symm q),List.getElem?_append_left (List.getElem?_eq_some_iff.1 e).1];exact e
   have hrc:=hre i hi
   obtain⟨row',z,⟨p1,p2⟩,p3⟩:=chain_loop (vals:=vals) (call:=call) (n:=n) l hl i hi R h.length _ (get_isSome (List.getElem?_set_self hic)) (by omega) x3 x4 (int l.length) (int i) l.length n i (List.replicate l.length false) h2 (by simp) (by omega) hi Part.start (Ov.self hrc) gR gL
   have hrow:row'=colOv l i:=by
    refine bools_ext (by rw[p1,colOv_len]) fun j j0 j1=>?_
    rw[Bool.eq_iff_iff,p2 j j0 (by omega),colOv_at j0 (by omega),rowOv_at ei.1 ei.2]
   subst hrow
   have hL2:h.length<h2.length:=by rw[hh2];simp
   refine⟨_,⟨h2.set h.length (.row 1 ((colOv l i).map bool)),cells.set i (.os h.length 0 l.length (some l.length)),rfl,⟨?_,by simp[H.len],fun j hj=>?_⟩,fun k nd q e=>?_⟩,?_⟩
   ·rw[List.getElem?_set_ne (by omega)];exact gR
   ·by_cases ej:j=i
    ·subst ej
     exact⟨_,List.getElem?_set_self hic,List.getElem?_set_self hL2,hRl⟩
    ·obtain⟨lj,q1,q2,q3⟩:=H.each j (by omega)
     have hlj:=(List.getElem?_eq_some_iff.1 q2).1
     exact⟨lj,by rw[List.getElem?_set_ne (Ne.symm ej)];exact q1,by rw[List.getElem?_set_ne (by omega)];exact gh lj _ (by omega) q2,q3⟩
   ·have e2:=hfr k nd q e
    have:=(List.getElem?_eq_some_iff.1 e2).1
    rw[List.getElem?_set_ne (by omega)];exact gh k nd q e2
   ·simp +decide -implicitDefEqProofs only[k92b3,go_sem,e1,ei,e3,eM,e7,Int.toNat_natCast,hm0,hat,a1,p3])
  (fun e h ⟨h2,cells,hs,H,hfr⟩=>by
   cases hs
   refine⟨_,⟨h,cells,rfl,H,hfr⟩,?_⟩
   simp +decide -implicitDefEqProofs only[k92b3,go_sem,Int.lt_irrefl,decide_false])
  l.length 0 m _ h0 (by omega) hm ⟨h0,cells0,rfl,⟨hR,hc0,fun j hj=>by omega⟩,fun k nd _ e=>e⟩
 exact⟨h',cells',L,g1,g2⟩
noncomputable def ovB (l:List Block)(c t:Int):Bool:=rdOf false (rowOv l c) t
def homeAt (np:Nat)(l:List Block)(v:Int):Int:=(homeU np (posOf l)).getD v.toNat 0
noncomputable def thereB (np:Nat)(l:List Block)(b k:Nat)(ph:Bool)(v t:Int):Bool:=
 if ph=true then ovB l (homeAt np l v) t else if decide (homeAt np l v=(b:Int))=true then decide (v≤((np+(posU l b k).length:Nat):Int)) else ovB l (homeAt np l v) b
noncomputable def badA (np:Nat)(l:List Block)(b k:Nat)(x:Ins)(j:Nat):Bool:=
 (decide (rd x.args j<1)||decide (rd x.args j>((np+(posOf l).length:Nat):Int)))||(!decide (rd x.args j≤(np:Int))&&!thereB np l b k (phiB x) (rd x.args j) (rd x.into j))
noncomputable def badUX (np:Nat)(l:List Block)(b k:Nat):Bool:=(List.range' 0 (insAt (blkAt l b).ins k).args.length).any (badA np l b k (insAt (blkAt l b).ins k))
noncomputable def badUB (np:Nat)(l:List Block)(b:Nat):Bool:=(List.range' 0 (blkAt l b).ins.length).any (badUX np l b)
noncomputable def usedB (f:Tm.Func):Bool:= !(List.range' 0 f.blocks.length).any (badNB f.params.length f.blocks)&&!(List.range' 0 f.blocks.length).any (badUB f.params.length f.blocks)
theorem home_at {np:Nat}{l:List Block}{v:Nat}(h1:np<v)(h2:v≤np+(posOf l).length):∃q,(posOf l)[v-np-1]?=some q∧(homeU np (posOf l)).getD v 0=(q.1:Int):=by
 have h3:v-np-1<(posOf l).length:=by omega
 refine⟨(posOf l)[v-np-1],List.getElem?_eq_getElem h3,?_⟩
 unfold homeU
 rw[List.getD_eq_getElem?_getD,List.getElem?_append_right (by simp;omega),List.length_replicate,show v-(np+1)=v-np-1 by omega,List.getElem?_map,List.getElem?_eq_getElem h3]
 rfl
theorem mem_of_rd {xs:List Int}{i:Nat}(h:i<xs.length):rd xs i∈xs:=by
 unfold rd;rw[Int.toNat_natCast,List.getD_eq_getElem?_getD,List.getElem?_eq_getElem h];exact List.getElem_mem _
structure PhiOk (n:Nat)(x:Ins):Prop where
 len:phiB x=true→x.into.length=x.args.length
 to:phiB x=true→∀t∈x.into,0≤t∧t<(n:Int)
theorem wuse_l0 {vals:FuncId→Bool}{call:CallF}{n:Nat}(u v w:C)(ps:List Int)(np:Nat)(hps:(ps.length:Int)=(np:Int))(l:List Block)(hl:l.length≤17)(hT:(posOf l).length<2^20)(hnp:np≤20)(b k:Nat)(hb:b<l.length)(x:Ins)(hx:PhiOk l.length x)(hxa:x.args.length<2^50)(lh:Nat)(cap:Option Nat)(R:Nat)(cells:List C)(p:Nat)(x90 x91 x92 x108 x109 x110:C)(m:Nat)(hm:x.args.length<m)(h:Heap)
  (g0:h[0]?=some (.row 0 [u,v,ints ps,w,blocks l]))(g1:h[p]?=some (.row 0 [int x.op,int x.type,int x.to,int x.sym,int x.num,ints x.args,ints x.into]))(gh:h[lh]?=some (.row 1 ((homeU np (posOf l)).map int)))(H:OT l h R cells l.length):
  Tm.Loop Try.prog vals call n [1,3,4,9,13,15,17,90,91,92,108,109,110,115,116,117] k92b4 m ⟨[(1,.op 0 0),(3,int (np+(posOf l).length:Nat)),(4,.os lh 0 (homeU np (posOf l)).length cap),(9,.os R 0 l.length (some l.length)),(13,int b),(15,int (np+(posU l b k).length:Nat)),(17,.op p 0),(90,x90),(91,x91),(92,x92),(108,x108),(109,x109),(110,x110),(115,ints x.args),(116,int x.args.length),(117,int 0)],h⟩=some (if (List.range' 0 x.args.length).any (badA np l b k x)=true then(.ret,⟨[(2,bool false)],h⟩) else(.exit 12,⟨[(1,.op 0 0),(3,int (np+(posOf l).length:Nat)),(4,.os lh 0 (homeU np (posOf l)).length cap),(9,.os R 0 l.length (some l.length)),(13,int b),(15,int (np+(posU l b k).length:Nat)),(17,.op p 0),(90,x90),(91,x91),(92,x92),(108,x108),(109,x109),(110,x110),(115,ints x.args),(116,int x.args.length),(117,int x.args.length),(118,bool false)],h⟩)):=by
 have hHR:=H.at_
 obtain⟨h1,e,L⟩:=Loop_any (P:=Try.prog) (vals:=vals) (call:=call) (n:=n) (ks:=[1,3,4,9,13,15,17,90,91,92,108,109,110,115,116,117]) (K:=k92b4) (id:=12) x.args.length (badA np l b k x) (fun i=>[(1,.op 0 0),(3,int (np+(posOf l).length:Nat)),(4,.os lh 0 (homeU np (posOf l)).length cap),(9,.os R 0 l.length (some l.length)),(13,int b),(15,int (np+(posU l b k).length:Nat)),(17,.op p 0),(90,x90),(91,x91),(92,x92),(108,x108),(109,x109),(110,x110),(115,ints x.args),(116,int x.args.length),(117,int i)]) [(2,bool false)] [(1,.op 0 0),(3,int (np+(posOf l).length:Nat)),(4,.os lh 0 (homeU np (posOf l)).length cap),(9,.os R 0 l.length (some l.length)),(13,int b),(15,int (np+(posU l b k).length:Nat)),(17,.op p 0),(90,x90),(91,x91),(92,x92),(108,x108),(109,x109),(110,x110),(115,ints x.args),(116,int x.args.length),(117,int x.args.length),(118,bool false)] (fun g=>g=h)
  (fun i g hi hg=>⟨h,rfl,by
   rw[hg]
   have e1:decide ((i:Int)<x.args.length)=true:=by simp;omega
   have e2:0≤(i:Int)∧(i:Int)<x.args.length:=by omega
   have e3:=wrap_next (n:=x.args.length) (i:=i) (by omega) (by omega)
   cases c1:decide (rd x.args i<1) with
   |true=>
    rw[show badA np l b k x i=true by unfold badA;rw[c1];rfl]
    simp +decide -implicitDefEqProofs only[k92b4,go_sem,e1,e2,e3,c1]
   |false=>
    cases c2:decide (rd x.args i>((np+(posOf l).length:Nat):Int)) with
    |true=>
     rw[show badA np l b k x i=true by unfold badA;rw[c1,c2];rfl]
     simp +decide -implicitDefEqProofs only[k92b4,go_sem,e1,e2,e3,c1,c2]
    |false=>
     have v1:=of_decide_eq_false c1
     have v2:=of_decide_eq_false c2
     obtain⟨vn,hv⟩:∃vn:Nat,rd x.args i=(vn:Int):=⟨(rd x.args i).toNat,by omega⟩
     cases c3:decide ((vn:Int)≤(np:Int)) with
     |true=>
      rw[show badA np l b k x i=false by unfold badA;rw[c1,c2,hv,c3];rfl]
      rw[hv] at c1 c2
      simp +decide -implicitDefEqProofs only[k92b4,go_sem,e1,e2,e3,g0,hv,c1,c2,c3,hps]
     |false=>
      have v3:=of_decide_eq_false c3
      obtain⟨q,hq,hhq⟩:=home_at (np:=np) (l:=l) (v:=vn) (by omega) (by omega)
      have hqb:=posOf_in (List.mem_of_getElem? hq)
      have hbad:badA np l b k x i= !thereB np l b k (phiB x) vn (rd x.into i):=by unfold badA;rw[c1,c2,hv,c3];rfl
      have hth:thereB np l b k (phiB x) vn (rd x.into i)=if phiB x=true then ovB l q.1 (rd x.into i) else if decide ((q.1:Int)=(b:Int))=true then decide ((vn:Int)≤((np+(posU l b k).length:Nat):Int)) else ovB l q.1 b:=by
       unfold thereB homeAt
       rw[Int.toNat_natCast,hhq]
      rw[hbad,hth]
      rw[hv] at c1 c2
      have hhl:=homeU_len np (posOf l)
      have ev:0≤(vn:Int)∧(vn:Int)<((homeU np (posOf l)).length:Nat):=by omega
      have evl:vn<(homeU np (posOf l)).length:=by omega
      have eb:0≤(b:Int)∧(b:Int)<l.length:=by omega
      have eq:0≤(q.1:Int)∧(q.1:Int)<l.length:=by omega
      obtain⟨lb,p1,p2,p3⟩:=H.each b hb
      have hcb:=get_isSome p1
      have ecl:q.1<(colOv l b).length:=by rw[colOv_len];exact hqb.1
      have hcv:(colOv l b).getD q.1 false=ovB l q.1 b:=by have:=colOv_at (l:=l) (b:=b) (a:=(q.1:Int)) eq.1 eq.2;rw[rdOf,Int.toNat_natCast] at this;exact this
      obtain⟨o1,q1⟩:∃z,decide ((q.1:Int)=(b:Int))=z:=⟨_,rfl⟩
      obtain⟨o2,q2⟩:∃z,ovB l q.1 b=z:=⟨_,rfl⟩
      obtain⟨o3,q3⟩:∃z,decide ((vn:Int)≤((np+(posU l b k).length:Nat):Int))=z:=⟨_,rfl⟩
      rw[q1,q2,q3]
      rw[q2] at hcv
      cases q4:decide (x.op=26) with
      |false=>
       unfold phiB
       rw[q4]
       cases o1<;>cases o2<;>cases o3<;>simp +decide -implicitDefEqProofs only[k92b4,go_sem,e1,e2,e3,g0,g1,gh,hHR,hv,c1,c2,c3,hps,ev,evl,hhq,eb,eq,hcb,p2,ecl,hcv,q1,q3,q4,Int.toNat_natCast,Bool.false_eq_true,if_false]
      |true=>
       have hil:i<x.into.length:=by rw[hx.len q4];exact hi
       have hto:=hx.to q4 (rd x.into i) (mem_of_rd hil)
       obtain⟨tn,ht⟩:∃tn:Nat,rd x.into i=(tn:Int):=⟨(rd x.into i).toNat,by omega⟩
       have ei:0≤(i:Int)∧(i:Int)<x.into.length:=by omega
       have et:0≤(tn:Int)∧(tn:Int)<l.length:=by omega
       obtain⟨lt,t1,t2,t3⟩:=H.each tn (by omega)
       have hct:=get_isSome t1
       have etl:q.1<(colOv l tn).length:=by rw[colOv_len];exact hqb.1
       have hcw:(colOv l tn).getD q.1 false=ovB l q.1 tn:=by have:=colOv_at (l:=l) (b:=tn) (a:=(q.1:Int)) eq.1 eq.2;rw[rdOf,Int.toNat_natCast] at this;exact this
       obtain⟨o4,q5⟩:∃z,ovB l q.1 tn=z:=⟨_,rfl⟩
       unfold phiB
       rw[q4,ht,q5]
       rw[q5] at hcw
       cases o1<;>cases o2<;>cases o3<;>cases o4<;>simp +decide -implicitDefEqProofs only[k92b4,go_sem,e1,e2,e3,g0,g1,gh,hHR,hv,ht,c1,c2,c3,hps,ev,evl,hhq,eb,eq,ei,et,hcb,p2,ecl,hcv,hct,t2,etl,hcw,q1,q3,q4,Int.toNat_natCast,Bool.false_eq_true,if_false,if_true]⟩)
  (fun g hg=>⟨h,rfl,by rw[hg];simp +decide -implicitDefEqProofs only[k92b4,go_sem,Int.lt_irrefl,decide_false]⟩) x.args.length 0 m h (by omega) hm rfl
 rw[e] at L
 simp only[show((0:Nat):Int)=0 from rfl] at L
 exact L
end Go.Proofs.Ytkcimaibaicdcaa.Tk
