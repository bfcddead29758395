/- The law returns true at every input. No condition. A part of its proof. -/
import Derived.Test.YtlcnmocicghilaaN14
set_option linter.unusedSimpArgs false
set_option linter.unusedVariables false
namespace Go.Proofs.Ytlcnmocicghilaa.Tk
open Go.Tm Go.Tm.Tab
set_option maxRecDepth 100000
theorem rows_own {k:Nat}(hk:200≤k)(ty a:List Int)(hx:a.length<100)(hin:∀v∈a,0≤v∧v<(ty.length:Int))(w:List Int)(l:Nat)(h:Heap)(hl:h[l]?=some (.row 1 (w.map int))):callAt Try.prog tab k 104 [ints ty,ints a,.os l 0 w.length (some w.length)] h=some (bool (decide (gotOf ty a=w)),h):=
 wrows_runs ty a w hx hin k hk _ h (by
  have h1:=view_os_ints (cl:=false) (n:=10) (cap:=some w.length) hl
  have h2:view false h depth (ints ty)=some (ints ty):=by simp +decide -implicitDefEqProofs only[depth,go_sem]
  have h3:view false h depth (ints a)=some (ints a):=by simp +decide -implicitDefEqProofs only[depth,go_sem]
  have h4:view false h depth (.os l 0 w.length (some w.length))=some (ints w):=h1
  simp only[mapC_cons,mapC_nil,h2,h3,h4,Option.bind_some])
structure SymOk (m:Tm.Module)(x:Ins):Prop where
 fn:x.op=22→0≤x.sym∧x.sym<m.funcs.length
 ext:x.op=23→0≤x.sym∧x.sym<m.externs.length
theorem fitB_is (m:Tm.Module)(f:Tm.Func)(ty:List Int)(x:Ins):fitB m f ty x=fitG m f x (gotOf ty x.args):=rfl
@[go_sem] theorem view_externs (h:Heap)(n:Nat)(l:List Extern):view false h (n+1) (externs l)=some (externs l):=view_fs _ l
@[go_sem] theorem view_globals (h:Heap)(n:Nat)(l:List Tm.Global):view false h (n+1) (globals l)=some (globals l):=view_fs _ l
@[go_sem] theorem view_tables (h:Heap)(n:Nat)(l:List Table):view false h (n+1) (tables l)=some (tables l):=view_fs _ l
@[go_sem] theorem view_funcs (h:Heap)(n:Nat)(l:List Tm.Func):view false h (n+1) (funcs l)=some (funcs l):=view_fs _ l
theorem wfit_runs (m:Tm.Module)(f:Tm.Func)(ty:List Int)(x:Ins)(H:ShapeOk x)(S:SymOk m x)(hx:x.args.length<100)(hin:∀v∈x.args,0≤v∧v<(ty.length:Int)):Runs Try.prog tab 300 84 [.agg [externs m.externs,globals m.globals,tables m.tables,funcs m.funcs],.agg [str f.name,bool f.out,ints f.params,int f.result,blocks f.blocks],ints ty,.agg [int x.op,int x.type,int x.to,int x.sym,int x.num,ints x.args,ints x.into]] (bool (fitB m f ty x)):=by
 refine Runs.by (rs:=[.tmp 8]) (N:=229) rfl Try.func84 rfl rfl (by simp) fun k hk=> ?_
 have hall:∀t h,callAt Try.prog tab k 103 [ints ty,ints x.args,int t] h=some (bool (allT t (gotOf ty x.args)),h):=fun t h=>wall_runs ty x.args t hx hin k (by omega) _ h (by simp +decide -implicitDefEqProofs only[depth,go_sem])
 have hfrz:∀(w:List Int) h,callAt Try.prog tab k 104 [ints ty,ints x.args,ints w] h=some (bool (decide (gotOf ty x.args=w)),h):=fun w h=>wrows_runs ty x.args w hx hin k (by omega) _ h (by simp +decide -implicitDefEqProofs only[depth,go_sem])
 have hrow:=fun(w:List Int) (l:Nat) (h:Heap) hl=>rows_own (k:=k) (by omega) ty x.args hx hin w l h hl
 rcases ops_of H.lo H.hi with hop|hop|hop|hop|hop|hop|hop|hop|hop|hop|hop|hop|hop|hop|hop|hop|hop|hop|hop|hop|hop|hop|hop|hop|hop|hop|hop|hop|hop|hop
 ·exact fit_1 m f ty x hop hall hrow hfrz
 ·exact fit_2 m f ty x hop hall hrow hfrz
 ·exact fit_3 m f ty x hop hall hrow hfrz
 ·exact fit_4 m f ty x hop hall hrow hfrz
 ·exact fit_5 m f ty x hop hall hrow hfrz
 ·exact fit_6 m f ty x hop hall hrow hfrz
 ·exact fit_7 m f ty x hop hall hrow hfrz
 ·exact fit_8 m f ty x hop hall hrow hfrz
 ·exact fit_9 m f ty x hop hall hrow hfrz
 ·exact fit_10 m f ty x hop hall hrow hfrz
 ·exact fit_11 m f ty x hop hall hrow hfrz
 ·exact fit_12 m f ty x hop hall hrow hfrz
 ·exact fit_13 m f ty x hop hall hrow hfrz
 ·exact fit_14 m f ty x hop hall hrow hfrz
 ·exact fit_15 m f ty x hop hall hrow hfrz
 ·exact fit_16 m f ty x hop hall hrow hfrz
 ·exact fit_17 m f ty x hop hall hrow hfrz
 ·exact fit_18 m f ty x hop hall hrow hfrz
 ·exact fit_19 m f ty x hop hall hrow hfrz
 ·exact fit_20 m f ty x hop hall hrow hfrz
 ·exact fit_21 m f ty x hop hall hrow hfrz
 ·exact fit_22 m f ty x hop hall hrow hfrz (S.fn hop)
 ·exact fit_23 m f ty x hop hall hrow hfrz (S.ext hop)
 ·exact fit_24 m f ty x hop hall hrow hfrz
 ·exact fit_25 m f ty x hop hall hrow hfrz (H.via hop) hin
 ·exact fit_26 m f ty x hop hall hrow hfrz
 ·exact fit_27 m f ty x hop hall hrow hfrz
 ·exact fit_28 m f ty x hop hall hrow hfrz
 ·exact fit_29 m f ty x hop hall hrow hfrz
 ·exact fit_30 m f ty x hop hall hrow hfrz
theorem rfit_runs (m:Tm.Module)(f:Tm.Func)(got:List Int)(x:Ins)(H:ShapeOk x)(S:SymOk m x)(hx:x.args.length<100)(hgl:got.length=x.args.length):Runs Try.prog tab 300 64 [.agg [externs m.externs,globals m.globals,tables m.tables,funcs m.funcs],.agg [str f.name,bool f.out,ints f.params,int f.result,blocks f.blocks],.agg [int x.op,int x.type,int x.to,int x.sym,int x.num,ints x.args,ints x.into],ints got] (bool (fitG m f x got)):=by
 refine Runs.by (rs:=[.tmp 8]) (N:=268) rfl Try.func64 rfl rfl (by simp) fun k hk=> ?_
 have hv:valsOf tab 14=true:=by decide
 have h18:∀(w:List Int) h,callAt Try.prog tab k 14 [ints got,ints w] h=some (bool (decide (got=w)),h):=fun w h=>requal_runs got w (by omega) k (by omega) _ h (by simp +decide -implicitDefEqProofs only[depth,go_sem])
 have hlen:∀n:Nat,x.op≠26→(markOf x.op).args=n→got.length=n:=fun n h1 h2=>by
  have:=H.args h1
  rw[h2] at this
  omega
 rcases ops_of H.lo H.hi with hop|hop|hop|hop|hop|hop|hop|hop|hop|hop|hop|hop|hop|hop|hop|hop|hop|hop|hop|hop|hop|hop|hop|hop|hop|hop|hop|hop|hop|hop
 ·exact rfit_1 m f got x hop
 ·exact rfit_2 m f got x hop
 ·exact rfit_3 m f got x hop
 ·exact rfit_4 m f got x hop (hlen 2 (by omega) (by rw[hop];rfl))
 ·exact rfit_5 m f got x hop (hlen 2 (by omega) (by rw[hop];rfl))
 ·exact rfit_6 m f got x hop (hlen 2 (by omega) (by rw[hop];rfl))
 ·exact rfit_7 m f got x hop (hlen 2 (by omega) (by rw[hop];rfl))
 ·exact rfit_8 m f got x hop (hlen 2 (by omega) (by rw[hop];rfl))
 ·exact rfit_9 m f got x hop (hlen 2 (by omega) (by rw[hop];rfl))
 ·exact rfit_10 m f got x hop (hlen 2 (by omega) (by rw[hop];rfl))
 ·exact rfit_11 m f got x hop (hlen 2 (by omega) (by rw[hop];rfl))
 ·exact rfit_12 m f got x hop (hlen 2 (by omega) (by rw[hop];rfl))
 ·exact rfit_13 m f got x hop (hlen 2 (by omega) (by rw[hop];rfl))
 ·exact rfit_14 m f got x hop (hlen 2 (by omega) (by rw[hop];rfl))
 ·exact rfit_15 m f got x hop (hlen 2 (by omega) (by rw[hop];rfl))
 ·exact rfit_16 m f got x hop (hlen 1 (by omega) (by rw[hop];rfl))
 ·exact rfit_17 m f got x hop (hlen 3 (by omega) (by rw[hop];rfl))
 ·exact rfit_18 m f got x hop
 ·exact rfit_19 m f got x hop (hlen 2 (by omega) (by rw[hop];rfl))
 ·exact rfit_20 m f got x hop (hlen 1 (by omega) (by rw[hop];rfl))
 ·exact rfit_21 m f got x hop (hlen 2 (by omega) (by rw[hop];rfl))
 ·exact rfit_22 m f got x hop (S.fn hop) hv h18
 ·exact rfit_23 m f got x hop (S.ext hop) hv h18
 ·exact rfit_24 m f got x hop (hlen 1 (by omega) (by rw[hop];rfl))
 ·exact rfit_25 m f got x hop (by have:=H.via hop;omega)
 ·exact rfit_26 m f got x hop (by omega) (by omega)
 ·exact rfit_27 m f got x hop
 ·exact rfit_28 m f got x hop (hlen 1 (by omega) (by rw[hop];rfl))
 ·exact rfit_29 m f got x hop
 ·exact rfit_30 m f got x hop
def badFI (m:Tm.Module)(f:Tm.Func)(x:Ins):Bool:= !fitB m f (typesOf f) x
def badFB (m:Tm.Module)(f:Tm.Func)(b:Block):Bool:=b.ins.any (badFI m f)
def typedB (m:Tm.Module)(f:Tm.Func):Bool:= !f.blocks.any (badFB m f)
set_option maxHeartbeats 2000000 in
theorem typed_l0 {vals:FuncId→Bool} {call:CallF} {n:Nat} (a b c:C) (m:Tm.Module) (f:Tm.Func) (l:List Ins) (hl:l.length<2^50) (I:Heap→Prop) (hp:∀h x,I h→I (h++[x])) (hg:∀h,I h→h[0]?=some (.row 0 [externs m.externs,globals m.globals,tables m.tables,funcs m.funcs])) (hg1:∀h,I h→h[1]?=some (.row 0 [str f.name,bool f.out,ints f.params,int f.result,blocks f.blocks])) (hc:∀x∈l,∀h,call 84 [.agg [externs m.externs,globals m.globals,tables m.tables,funcs m.funcs],.agg [str f.name,bool f.out,ints f.params,int f.result,blocks f.blocks],ints (typesOf f),.agg [int x.op,int x.type,int x.to,int x.sym,int x.num,ints x.args,ints x.into]] h=some (bool (fitB m f (typesOf f) x),h)) (mm:Nat) (hm:l.length<mm) (h:Heap) (hI:I h):∃h1,I h1∧Tm.Loop Try.prog vals call n [2,3,5,13,14,15,20,21,22] k54b0 mm ⟨[(2,.op 0 0),(3,.op 1 0),(5,ints (typesOf f)),(13,a),(14,b),(15,c),(20,inss l),(21,int l.length),(22,int 0)],h⟩=some (if l.any (badFI m f)=true then(.ret,⟨[(4,bool false)],h1⟩) else(.exit 2,⟨[(2,.op 0 0),(3,.op 1 0),(5,ints (typesOf f)),(13,a),(14,b),(15,c),(20,inss l),(21,int l.length),(22,int l.length),(23,bool false)],h1⟩)):=by
 obtain⟨h1,J,L⟩:=Loop_any (P:=Try.prog) (vals:=vals) (call:=call) (n:=n) (ks:=[2,3,5,13,14,15,20,21,22]) (K:=k54b0) (id:=2) l.length (fun i=>badFI m f (insAt l i)) (fun i=>[(2,.op 0 0),(3,.op 1 0),(5,ints (typesOf f)),(13,a),(14,b),(15,c),(20,inss l),(21,int l.length),(22,int i)]) [(4,bool false)] [(2,.op 0 0),(3,.op 1 0),(5,ints (typesOf f)),(13,a),(14,b),(15,c),(20,inss l),(21,int l.length),(22,int l.length),(23,bool false)] I
  (fun i h hi hI=>by
   have e1:decide ((i:Int)<l.length)=true:=by simp;omega
   have e2:0≤(i:Int)∧(i:Int)<l.length:=by omega
   have e3:=wrap_next (n:=l.length) (i:=i) (by omega) (by omega)
   have I1:=hp _ (.row 0 (encIns (insAt l i))) hI
   have hc1:=hc _ (insAt_mem e2)
   have g0:=hg _ I1
   have g1:=hg1 _ I1
   simp only[encIns] at I1 g0 g1
   refine⟨_,I1, ?_⟩
   unfold badFI
   cases c1:fitB m f (typesOf f) (insAt l i)<;>simp +decide -implicitDefEqProofs only[k54b0,go_sem,e1,e2,e3,set_new,encIns,g0,g1,hc1,c1])
  (fun h hI=>by
   exact⟨h,hI,by simp +decide -implicitDefEqProofs only[k54b0,go_sem,Int.lt_irrefl,decide_false]⟩) l.length 0 mm h (by omega) hm hI
 simp only[show((0:Nat):Int)=0 from rfl] at L
 rw[any_inss] at L
 exact⟨h1,J,L⟩
theorem typed_l1 {vals:FuncId→Bool}{call:CallF}{n:Nat}(m:Tm.Module)(f:Tm.Func)(l:List Block)(hl2:l.length<2^50)(hb:∀b∈l,b.ins.length<n∧b.ins.length<2^50)(I:Heap→Prop)(hp:∀h x,I h→I (h++[x]))(hg:∀h,I h→h[0]?=some (.row 0 [externs m.externs,globals m.globals,tables m.tables,funcs m.funcs]))(hg1:∀h,I h→h[1]?=some (.row 0 [str f.name,bool f.out,ints f.params,int f.result,blocks f.blocks]))(hc:∀b∈l,∀x∈b.ins,∀h,call 84 [.agg [externs m.externs,globals m.globals,tables m.tables,funcs m.funcs],.agg [str f.name,bool f.out,ints f.params,int f.result,blocks f.blocks],ints (typesOf f),.agg [int x.op,int x.type,int x.to,int x.sym,int x.num,ints x.args,ints x.into]] h=some (bool (fitB m f (typesOf f) x),h))(mm:Nat)(hm:l.length<mm)(h:Heap)(hI:I h):∃h1,I h1∧Tm.Loop Try.prog vals call n [2,3,5,13,14,15] k54b1 mm ⟨[(2,.op 0 0),(3,.op 1 0),(5,ints (typesOf f)),(13,blocks l),(14,int l.length),(15,int 0)],h⟩=some (if l.any (badFB m f)=true then(.ret,⟨[(4,bool false)],h1⟩) else(.exit 0,⟨[(2,.op 0 0),(3,.op 1 0),(5,ints (typesOf f)),(13,blocks l),(14,int l.length),(15,int l.length),(16,bool false)],h1⟩)):=by
 obtain⟨h1,J,L⟩:=Loop_any (P:=Try.prog) (vals:=vals) (call:=call) (n:=n) (ks:=[2,3,5,13,14,15]) (K:=k54b1) (id:=0) l.length (fun i=>badFB m f (blkAt l i)) (fun i=>[(2,.op 0 0),(3,.op 1 0),(5,ints (typesOf f)),(13,blocks l),(14,int l.length),(15,int i)]) [(4,bool false)] [(2,.op 0 0),(3,.op 1 0),(5,ints (typesOf f)),(13,blocks l),(14,int l.length),(15,int l.length),(16,bool false)] I
  (fun i h hi hI=>by
   have e1:decide ((i:Int)<l.length)=true:=by simp;omega
   have e2:0≤(i:Int)∧(i:Int)<l.length:=by omega
   have e3:=wrap_next (n:=l.length) (i:=i) (by omega) (by omega)
   have hx:=blkAt_mem e2
   obtain⟨hb1,hb2⟩:=hb _ hx
   obtain⟨h1,J1,L1⟩:=typed_l0 (vals:=vals) (call:=call) (n:=n) (blocks l) (int l.length) (int i) m f (blkAt l i).ins hb2 I hp hg hg1 (hc _ hx) n hb1 _ (hp _ (.row 0 [inss (blkAt l i).ins]) hI)
   unfold badFB
   refine⟨h1,J1, ?_⟩
   cases c1:(blkAt l i).ins.any (badFI m f) with
   |true=>
    rw[c1,if_pos rfl] at L1
    simp +decide -implicitDefEqProofs only[k54b1,go_sem,e1,e2,e3,set_new,L1]
   |false=>
    rw[c1,if_neg (by decide)] at L1
    simp +decide -implicitDefEqProofs only[k54b1,go_sem,e1,e2,e3,set_new,L1])
  (fun h hI=>by
   exact⟨h,hI,by simp +decide -implicitDefEqProofs only[k54b1,go_sem,Int.lt_irrefl,decide_false]⟩) l.length 0 mm h (by omega) hm hI
 simp only[show((0:Nat):Int)=0 from rfl] at L
 rw[any_blks] at L
 exact⟨h1,J,L⟩
set_option maxHeartbeats 2000000 in
theorem wtyped_runs (m:Tm.Module) (f:Tm.Func) (F:Fine f) (hpar:f.params.length≤20) (hsh:∀b∈f.blocks,∀x∈b.ins,ShapeOk x) (hsy:∀b∈f.blocks,∀x∈b.ins,SymOk m x) (hin:∀b∈f.blocks,∀x∈b.ins,∀v∈x.args,0≤v∧v<((typesOf f).length:Int)):Runs Try.prog tab 400 54 [.agg (encModule m),.agg (encFunc f)] (bool (typedB m f)):=by
 refine Runs.by (rs:=[.tmp 4]) (N:=34) rfl Try.func54 rfl rfl (by simp) fun k hk=> ?_
 have b1:=F.blocks
 have hty:∀h,callAt Try.prog tab k 83 [.agg (encFunc f)] h=some (ints (typesOf f),h):=fun h=>wtypes_runs f F hpar k (by omega) _ h (by simp only[mapC_cons,mapC_nil,depth,view_func,Option.bind_some])
 have hfit:∀b∈f.blocks,∀x∈b.ins,∀h,callAt Try.prog tab k 84 [.agg [externs m.externs,globals m.globals,tables m.tables,funcs m.funcs],.agg [str f.name,bool f.out,ints f.params,int f.result,blocks f.blocks],ints (typesOf f),.agg [int x.op,int x.type,int x.to,int x.sym,int x.num,ints x.args,ints x.into]] h=some (bool (fitB m f (typesOf f) x),h):=fun b hb x hx h=>by
  have:=(F.into b hb x hx).1
  exact wfit_runs m f (typesOf f) x (hsh b hb x hx) (hsy b hb x hx) (by omega) (hin b hb x hx) k (by omega) _ h (by simp +decide -implicitDefEqProofs only[depth,go_sem])
 generalize hc':callAt Try.prog tab k=call at*
 generalize hv':valsOf tab=vals at*
 rw[enc_func,enc_module] at*
 have hp:∀(h:Heap) (x:Tm.Node),(h[0]?=some (.row 0 [externs m.externs,globals m.globals,tables m.tables,funcs m.funcs])∧h[1]?=some (.row 0 [str f.name,bool f.out,ints f.params,int f.result,blocks f.blocks]))→((h++[x])[0]?=some (.row 0 [externs m.externs,globals m.globals,tables m.tables,funcs m.funcs])∧(h++[x])[1]?=some (.row 0 [str f.name,bool f.out,ints f.params,int f.result,blocks f.blocks])):=fun h x H=>⟨by rw[List.getElem?_append_left (List.getElem?_eq_some_iff.1 H.1).1];exact H.1,by rw[List.getElem?_append_left (List.getElem?_eq_some_iff.1 H.2).1];exact H.2⟩
 obtain⟨h1,I1,L1⟩:=typed_l1 (vals:=vals) (call:=call) (n:=k) m f f.blocks (by omega) (fun b hb=>by have:=F.ins b hb;omega) (fun h=>h[0]?=some (.row 0 [externs m.externs,globals m.globals,tables m.tables,funcs m.funcs])∧h[1]?=some (.row 0 [str f.name,bool f.out,ints f.params,int f.result,blocks f.blocks])) hp (fun h H=>H.1) (fun h H=>H.2) hfit k (by omega) [.row 0 [externs m.externs,globals m.globals,tables m.tables,funcs m.funcs],.row 0 [str f.name,bool f.out,ints f.params,int f.result,blocks f.blocks]] ⟨rfl,rfl⟩
 unfold typedB
 cases x1:f.blocks.any (badFB m f) with
 |true=>
  rw[x1,if_pos rfl] at L1
  simp +decide -implicitDefEqProofs only[k54,go_sem,hty,L1];exact⟨_,_,rfl,rfl⟩
 |false=>
  rw[x1,if_neg (by decide)] at L1
  simp +decide -implicitDefEqProofs only[k54,go_sem,hty,L1];exact⟨_,_,rfl,rfl⟩
end Go.Proofs.Ytlcnmocicghilaa.Tk
namespace Go.Tm
theorem GrowG.viewI {h:Heap}{c:C}{out:List Int}(H:GrowG int h c out){cl:Bool}{n:Nat}:view cl h (n+2) c=some (ints out):=by
 rcases H with ⟨rfl,rfl⟩|⟨l,rfl,hl⟩
 ·rfl
 ·exact view_os_ints hl
end Go.Tm
namespace Go.Proofs.Ytlcnmocicghilaa.Tk
open Go.Tm Go.Tm.Tab
set_option maxRecDepth 100000
theorem rgot_loop {vals:FuncId→Bool}{call:CallF}{n:Nat}(ty:List Int)(x:Ins)(hxa:x.args.length<100)(hin:∀v∈x.args,0≤v∧v<(ty.length:Int))(x6 x7:C)(p:Nat)(h0:Heap)(hp:h0[p]?=some (.row 0 [int x.op,int x.type,int x.to,int x.sym,int x.num,ints x.args,ints x.into]))(m:Nat)(hm:x.args.length<m):
  ∃c h,Tm.Loop Try.prog vals call n [2,3,5,6,7,8,9,10] k32b0 m ⟨[(2,.op 0 0),(3,.op 1 0),(5,ints ty),(6,x6),(7,x7),(8,.op p 0),(9,.v (.slice none 0 0)),(10,int 0)],h0⟩=some (.exit 4,⟨[(2,.op 0 0),(3,.op 1 0),(5,ints ty),(6,x6),(7,x7),(8,.op p 0),(9,c),(10,int x.args.length),(44,bool false)],h⟩)∧GrowG int h c (gotOf ty x.args)∧(∀(l:Nat) (nd:Tm.Node),h0[l]?=some nd→h[l]?=some nd)∧∀l o k,c=.os l 0 o k→h0.length≤l:=by
 have hmr:(2:Nat)^22<maxRow:=by decide
 obtain⟨s,⟨c',h',rfl,g1,g2,g3⟩,L⟩:=Loop_run (P:=Try.prog) (vals:=vals) (call:=call) (n:=n) (ks:=[2,3,5,6,7,8,9,10]) (K:=k32b0) (id:=4) x.args.length
  (fun i s=>∃c h,s=⟨[(2,.op 0 0),(3,.op 1 0),(5,ints ty),(6,x6),(7,x7),(8,.op p 0),(9,c),(10,int i)],h⟩∧GrowG int h c (gotOf ty (x.args.take i))∧(∀(l:Nat) (nd:Tm.Node),h0[l]?=some nd→h[l]?=some nd)∧∀l o k,c=.os l 0 o k→h0.length≤l)
  (fun s=>∃c h,s=⟨[(2,.op 0 0),(3,.op 1 0),(5,ints ty),(6,x6),(7,x7),(8,.op p 0),(9,c),(10,int x.args.length),(44,bool false)],h⟩∧GrowG int h c (gotOf ty x.args)∧(∀(l:Nat) (nd:Tm.Node),h0[l]?=some nd→h[l]?=some nd)∧∀l o k,c=.os l 0 o k→h0.length≤l)
  (fun i e h hi ⟨c,h2,hs,g1,g2,g3⟩=>by
   cases hs
   have e1:decide ((i:Int)<x.args.length)=true:=by simp;omega
   have e2:0≤(i:Int)∧(i:Int)<x.args.length:=by omega
   have e3:=wrap_next (n:=x.args.length) (i:=i) (by omega) (by omega)
   have hr:=hin _ (mem_of_rd hi)
   have gp:=g2 p _ hp
   obtain⟨c',h',a1,a2,a3,a4⟩:=(g1.push (x:=.row 1 [int (rd ty (rd x.args i))])).append (rd ty (rd x.args i)) (by simp[gotOf];omega)
   refine⟨_,⟨c',h',rfl, ?_,fun l nd hl=> ?_,fun l o k hk=> ?_⟩,by simp +decide -implicitDefEqProofs only[k32b0,go_sem,e1,e2,e3,gp,hr,a1]⟩
   ·unfold gotOf at a2⊢
    rw[List.take_add_one,List.getElem?_eq_getElem hi,List.map_append]
    simpa[rd,List.getD_eq_getElem?_getD,List.getElem?_eq_getElem hi] using a2
   ·have hl0:=(List.getElem?_eq_some_iff.1 hl).1
    refine a4 l nd (by rw[List.getElem?_append_left (List.getElem?_eq_some_iff.1 (g2 l nd hl)).1];exact g2 l nd hl) fun o k hk=> ?_
    have:=g3 _ _ _ hk
    omega
   ·rw[a3] at hk
    injection hk with q1
    have hle:h0.length≤h.length:=by
     refine Classical.byContradiction fun hn=> ?_
     have hq:h.length<h0.length:=by omega
     have:=(List.getElem?_eq_some_iff.1 (g2 h.length _ (List.getElem?_eq_getElem hq))).1
     omega
    simp at q1
    omega)
  (fun e h ⟨c,h2,hs,g1,g2,g3⟩=>by
   cases hs
   have gp:=g2 p _ hp
   refine⟨_,⟨c,h,rfl, ?_,g2,g3⟩,by simp +decide -implicitDefEqProofs only[k32b0,go_sem,gp,Int.lt_irrefl,decide_false]⟩
   rw[List.take_length] at g1;exact g1)
  x.args.length 0 m _ h0 (by omega) hm ⟨.v (.slice none 0 0),h0,rfl,.inl ⟨by simp[gotOf],rfl⟩,fun l nd h=>h,fun l o k h=>by simp at h⟩
 exact⟨c',h',L,g1,g2,g3⟩
set_option maxHeartbeats 2000000 in
theorem rtyped_l1 {vals:FuncId→Bool} {call:CallF} {n:Nat} (m:Tm.Module) (f:Tm.Func) (q:Int) (hq:0≤q∧q<f.blocks.length) (hl:(blkAt f.blocks q).ins.length<2^50) (hxs:∀x∈(blkAt f.blocks q).ins,x.args.length<100∧x.args.length<n) (hin:∀x∈(blkAt f.blocks q).ins,∀v∈x.args,0≤v∧v<((typesOf f).length:Int)) (I:Heap→Prop) (hmo:∀h h2,I h→(∀(l:Nat) (nd:Tm.Node),h[l]?=some nd→h2[l]?=some nd)→I h2) (hg:∀h,I h→h[0]?=some (.row 0 [externs m.externs,globals m.globals,tables m.tables,funcs m.funcs])) (hg1:∀h,I h→h[1]?=some (.row 0 [str f.name,bool f.out,ints f.params,int f.result,blocks f.blocks])) (hc:∀x∈(blkAt f.blocks q).ins,∀c h,GrowG int h c (gotOf (typesOf f) x.args)→call 64 [.agg [externs m.externs,globals m.globals,tables m.tables,funcs m.funcs],.agg [str f.name,bool f.out,ints f.params,int f.result,blocks f.blocks],.agg [int x.op,int x.type,int x.to,int x.sym,int x.num,ints x.args,ints x.into],c] h=some (bool (fitB m f (typesOf f) x),h)) (mm:Nat) (hm:(blkAt f.blocks q).ins.length<mm) (h:Heap) (hI:I h):∃h1,I h1∧Tm.Loop Try.prog vals call n [2,3,5,6,7] k32b1 mm ⟨[(2,.op 0 0),(3,.op 1 0),(5,ints (typesOf f)),(6,int q),(7,int 0)],h⟩=some (if (blkAt f.blocks q).ins.any (badFI m f)=true then(.ret,⟨[(4,bool false)],h1⟩) else(.exit 2,⟨[(2,.op 0 0),(3,.op 1 0),(5,ints (typesOf f)),(6,int q),(7,int (blkAt f.blocks q).ins.length),(28,bool false)],h1⟩)):=by
 obtain⟨h1,J,L⟩:=Loop_any (P:=Try.prog) (vals:=vals) (call:=call) (n:=n) (ks:=[2,3,5,6,7]) (K:=k32b1) (id:=2) (blkAt f.blocks q).ins.length (fun i=>badFI m f (insAt (blkAt f.blocks q).ins i)) (fun i=>[(2,.op 0 0),(3,.op 1 0),(5,ints (typesOf f)),(6,int q),(7,int i)]) [(4,bool false)] [(2,.op 0 0),(3,.op 1 0),(5,ints (typesOf f)),(6,int q),(7,int (blkAt f.blocks q).ins.length),(28,bool false)] I
  (fun i h hi hI=>by
   have e1:decide ((i:Int)<(blkAt f.blocks q).ins.length)=true:=by simp;omega
   have e2:0≤(i:Int)∧(i:Int)<(blkAt f.blocks q).ins.length:=by omega
   have e3:=wrap_next (n:=(blkAt f.blocks q).ins.length) (i:=i) (by omega) (by omega)
   have hxm:=insAt_mem e2
   obtain⟨hx1,hx2⟩:=hxs _ hxm
   have I1:=hmo _ (h++[.row 0 (encIns (insAt (blkAt f.blocks q).ins i))]) hI fun l nd hl=>by rw[List.getElem?_append_left (List.getElem?_eq_some_iff.1 hl).1];exact hl
   have j0:=hg _ hI
   have j1:=hg1 _ hI
   obtain⟨c,h2,L0,G,fr,_⟩:=rgot_loop (vals:=vals) (call:=call) (n:=n) (typesOf f) (insAt (blkAt f.blocks q).ins i) hx1 (hin _ hxm) (int q) (int i) h.length (h++[.row 0 (encIns (insAt (blkAt f.blocks q).ins i))]) (by rw[get_new];rfl) n hx2
   have I2:=hmo _ h2 I1 fr
   have hc1:=hc _ hxm c h2 G
   have g0:=hg _ I2
   have g1:=hg1 _ I2
   have g2:=fr h.length _ (get_new h (.row 0 (encIns (insAt (blkAt f.blocks q).ins i))))
   simp only[encIns] at L0 g2
   refine⟨h2,I2, ?_⟩
   unfold badFI
   cases c1:fitB m f (typesOf f) (insAt (blkAt f.blocks q).ins i)<;>(rw[c1] at hc1;simp +decide -implicitDefEqProofs only[k32b1,go_sem,e1,e2,e3,set_new,encIns,hq,j0,j1,g0,g1,g2,L0,hc1]))
  (fun h hI=>by
   have j1:=hg1 _ hI
   exact⟨h,hI,by simp +decide -implicitDefEqProofs only[k32b1,go_sem,Int.lt_irrefl,decide_false,j1,hq]⟩) (blkAt f.blocks q).ins.length 0 mm h (by omega) hm hI
 simp only[show((0:Nat):Int)=0 from rfl] at L
 rw[any_inss] at L
 exact⟨h1,J,L⟩
theorem rtyped_l2 {vals:FuncId→Bool}{call:CallF}{n:Nat}(m:Tm.Module)(f:Tm.Func)(hl2:f.blocks.length<2^50)(hb:∀b∈f.blocks,b.ins.length<n∧b.ins.length<2^50)(hxs:∀b∈f.blocks,∀x∈b.ins,x.args.length<100∧x.args.length<n)(hin:∀b∈f.blocks,∀x∈b.ins,∀v∈x.args,0≤v∧v<((typesOf f).length:Int))(I:Heap→Prop)(hmo:∀h h2,I h→(∀(l:Nat) (nd:Tm.Node),h[l]?=some nd→h2[l]?=some nd)→I h2)(hg:∀h,I h→h[0]?=some (.row 0 [externs m.externs,globals m.globals,tables m.tables,funcs m.funcs]))(hg1:∀h,I h→h[1]?=some (.row 0 [str f.name,bool f.out,ints f.params,int f.result,blocks f.blocks]))(hc:∀b∈f.blocks,∀x∈b.ins,∀c h,GrowG int h c (gotOf (typesOf f) x.args)→call 64 [.agg [externs m.externs,globals m.globals,tables m.tables,funcs m.funcs],.agg [str f.name,bool f.out,ints f.params,int f.result,blocks f.blocks],.agg [int x.op,int x.type,int x.to,int x.sym,int x.num,ints x.args,ints x.into],c] h=some (bool (fitB m f (typesOf f) x),h))(mm:Nat)(hm:f.blocks.length<mm)(h:Heap)(hI:I h):∃h1,I h1∧Tm.Loop Try.prog vals call n [2,3,5,6] k32b2 mm ⟨[(2,.op 0 0),(3,.op 1 0),(5,ints (typesOf f)),(6,int 0)],h⟩=some (if f.blocks.any (badFB m f)=true then(.ret,⟨[(4,bool false)],h1⟩) else(.exit 0,⟨[(2,.op 0 0),(3,.op 1 0),(5,ints (typesOf f)),(6,int f.blocks.length),(17,bool false)],h1⟩)):=by
 obtain⟨h1,J,L⟩:=Loop_any (P:=Try.prog) (vals:=vals) (call:=call) (n:=n) (ks:=[2,3,5,6]) (K:=k32b2) (id:=0) f.blocks.length (fun i=>badFB m f (blkAt f.blocks i)) (fun i=>[(2,.op 0 0),(3,.op 1 0),(5,ints (typesOf f)),(6,int i)]) [(4,bool false)] [(2,.op 0 0),(3,.op 1 0),(5,ints (typesOf f)),(6,int f.blocks.length),(17,bool false)] I
  (fun i h hi hI=>by
   have e1:decide ((i:Int)<f.blocks.length)=true:=by simp;omega
   have e2:0≤(i:Int)∧(i:Int)<f.blocks.length:=by omega
   have e3:=wrap_next (n:=f.blocks.length) (i:=i) (by omega) (by omega)
   have hx:=blkAt_mem e2
   obtain⟨hb1,hb2⟩:=hb _ hx
   have j1:=hg1 _ hI
   obtain⟨h1,J1,L1⟩:=rtyped_l1 (vals:=vals) (call:=call) (n:=n) m f i e2 hb2 (hxs _ hx) (hin _ hx) I hmo hg hg1 (hc _ hx) n hb1 _ hI
   unfold badFB
   refine⟨h1,J1, ?_⟩
   cases c1:(blkAt f.blocks i).ins.any (badFI m f) with
   |true=>
    rw[c1,if_pos rfl] at L1
    simp +decide -implicitDefEqProofs only[k32b2,go_sem,e1,e2,e3,set_new,j1,L1]
   |false=>
    rw[c1,if_neg (by decide)] at L1
    simp +decide -implicitDefEqProofs only[k32b2,go_sem,e1,e2,e3,set_new,j1,L1])
  (fun h hI=>by
   have j1:=hg1 _ hI
   exact⟨h,hI,by simp +decide -implicitDefEqProofs only[k32b2,go_sem,Int.lt_irrefl,decide_false,j1]⟩) f.blocks.length 0 mm h (by omega) hm hI
 simp only[show((0:Nat):Int)=0 from rfl] at L
 rw[any_blks] at L
 exact⟨h1,J,L⟩
set_option maxHeartbeats 2000000 in
theorem rtyped_runs (m:Tm.Module) (f:Tm.Func) (F:Fine f) (hpar:f.params.length≤20) (hsh:∀b∈f.blocks,∀x∈b.ins,ShapeOk x) (hsy:∀b∈f.blocks,∀x∈b.ins,SymOk m x) (hin:∀b∈f.blocks,∀x∈b.ins,∀v∈x.args,0≤v∧v<((typesOf f).length:Int)):Runs Try.prog tab 400 32 [.agg (encModule m),.agg (encFunc f)] (bool (typedB m f)):=by
 refine Runs.by (rs:=[.tmp 4]) (N:=64) rfl Try.func32 rfl rfl (by simp) fun k hk=> ?_
 have b1:=F.blocks
 have hty:∀h,callAt Try.prog tab k 63 [.agg (encFunc f)] h=some (ints (typesOf f),h):=fun h=>rtypes_runs f F hpar k (by omega) _ h (by simp only[mapC_cons,mapC_nil,depth,view_func,Option.bind_some])
 have hfit:∀b∈f.blocks,∀x∈b.ins,∀c h,GrowG int h c (gotOf (typesOf f) x.args)→callAt Try.prog tab k 64 [.agg [externs m.externs,globals m.globals,tables m.tables,funcs m.funcs],.agg [str f.name,bool f.out,ints f.params,int f.result,blocks f.blocks],.agg [int x.op,int x.type,int x.to,int x.sym,int x.num,ints x.args,ints x.into],c] h=some (bool (fitB m f (typesOf f) x),h):=fun b hb x hx c h G=>by
  have:=(F.into b hb x hx).1
  rw[fitB_is]
  have v1:view false h depth (.agg [externs m.externs,globals m.globals,tables m.tables,funcs m.funcs])=some (.agg [externs m.externs,globals m.globals,tables m.tables,funcs m.funcs]):=by simp +decide -implicitDefEqProofs only[depth,go_sem]
  have v2:view false h depth (.agg [str f.name,bool f.out,ints f.params,int f.result,blocks f.blocks])=some (.agg [str f.name,bool f.out,ints f.params,int f.result,blocks f.blocks]):=by simp +decide -implicitDefEqProofs only[depth,go_sem]
  have v3:view false h depth (.agg [int x.op,int x.type,int x.to,int x.sym,int x.num,ints x.args,ints x.into])=some (.agg [int x.op,int x.type,int x.to,int x.sym,int x.num,ints x.args,ints x.into]):=by simp +decide -implicitDefEqProofs only[depth,go_sem]
  have v4:view false h depth c=some (ints (gotOf (typesOf f) x.args)):=G.viewI
  exact rfit_runs m f (gotOf (typesOf f) x.args) x (hsh b hb x hx) (hsy b hb x hx) (by omega) (by simp[gotOf]) k (by omega) _ h (by simp only[mapC_cons,mapC_nil,v1,v2,v3,v4,Option.bind_some])
 generalize hc':callAt Try.prog tab k=call at*
 generalize hv':valsOf tab=vals at*
 rw[enc_func,enc_module] at*
 obtain⟨h1,I1,L1⟩:=rtyped_l2 (vals:=vals) (call:=call) (n:=k) m f (by omega) (fun b hb=>by have:=F.ins b hb;omega) (fun b hb x hx=>by have:=(F.into b hb x hx).1;omega) hin (fun(h:Heap)=>h[0]?=some (.row 0 [externs m.externs,globals m.globals,tables m.tables,funcs m.funcs])∧h[1]?=some (.row 0 [str f.name,bool f.out,ints f.params,int f.result,blocks f.blocks])) (fun h h2 H e=>⟨e 0 (.row 0 [externs m.externs,globals m.globals,tables m.tables,funcs m.funcs]) H.1,e 1 (.row 0 [str f.name,bool f.out,ints f.params,int f.result,blocks f.blocks]) H.2⟩) (fun h H=>H.1) (fun h H=>H.2) hfit k (by omega) [.row 0 [externs m.externs,globals m.globals,tables m.tables,funcs m.funcs],.row 0 [str f.name,bool f.out,ints f.params,int f.result,blocks f.blocks]] ⟨rfl,rfl⟩
 unfold typedB
 cases x1:f.blocks.any (badFB m f) with
 |true=>
  rw[x1,if_pos rfl] at L1
  simp +decide -implicitDefEqProofs only[k32,go_sem,hty,L1];exact⟨_,_,rfl,rfl⟩
 |false=>
  rw[x1,if_neg (by decide)] at L1
  simp +decide -implicitDefEqProofs only[k32,go_sem,hty,L1];exact⟨_,_,rfl,rfl⟩
end Go.Proofs.Ytlcnmocicghilaa.Tk
namespace Go.Proofs.Ytlcnmocicghilaa.Tk
open Go.Tm Go.Tm.Tab
set_option maxRecDepth 100000
noncomputable def checkN (m:Tm.Module):Int:=
 if limitsB m=false then 2 else if formedB m=false then 1 else if namedB m=false then 3 else if knownB m=false then 4
 else if (m.funcs.any fun f=> !flowsB f.blocks)=true then 5 else if (m.funcs.any fun f=> !usedB f)=true then 6 else if (m.funcs.any fun f=> !typedB m f)=true then 7 else 0
theorem limits_blocks {m:Tm.Module}(h:limitsB m=true):∀f∈m.funcs,0<f.blocks.length:=by
 intro f hf
 unfold limitsB at h
 rw[Bool.and_eq_true,Bool.and_eq_true,Bool.and_eq_true,Bool.and_eq_true] at h
 have h1:=h.2.2.2.2
 rw[Bool.not_eq_true',List.any_eq_false] at h1
 have h2:=h1 f hf
 unfold moreF at h2
 rw[Bool.not_eq_true,Bool.or_eq_false_iff,Bool.or_eq_false_iff,Bool.or_eq_false_iff] at h2
 have:=of_decide_eq_false h2.1.1.2
 omega
theorem formed_shape {m:Tm.Module}(h:formedB m=true):∀f∈m.funcs,∀b∈f.blocks,∀x∈b.ins,ShapeOk x:=by
 intro f hf b hb x hx
 unfold formedB at h
 rw[Bool.and_eq_true] at h
 have h1:=h.2
 rw[Bool.not_eq_true',List.any_eq_false] at h1
 have h2:=h1 f hf
 unfold badF at h2
 rw[Bool.not_eq_true,Bool.or_eq_false_iff,Bool.or_eq_false_iff,List.any_eq_false,List.any_eq_false] at h2
 have h3:=h2.2.2 b hb
 unfold badB2 at h3
 rw[Bool.not_eq_true,List.any_eq_false] at h3
 have h4:=h3 x hx
 unfold badI at h4
 exact shape_ok (by simpa using h4)
theorem known_sym {m:Tm.Module}(h:knownB m=true):∀f∈m.funcs,∀b∈f.blocks,∀x∈b.ins,SymOk m x:=by
 intro f hf b hb x hx
 unfold knownB at h
 rw[Bool.and_eq_true] at h
 have h1:=h.2
 rw[Bool.not_eq_true',List.any_eq_false] at h1
 have h2:=h1 f hf
 unfold badSF at h2
 rw[Bool.not_eq_true,List.any_eq_false] at h2
 have h3:=h2 b hb
 unfold badSB at h3
 rw[Bool.not_eq_true,List.any_eq_false] at h3
 have h4:=h3 x hx
 unfold badSI at h4
 rw[Bool.not_eq_true,Bool.or_eq_false_iff] at h4
 have a1:=of_decide_eq_false h4.1
 have a2:=of_decide_eq_false h4.2
 constructor
 ·intro e
  have:boundI m.externs.length m.globals.length m.tables.length m.funcs.length x=(m.funcs.length:Int):=by unfold boundI;rw[e];rfl
  rw[this] at a2
  omega
 ·intro e
  have:boundI m.externs.length m.globals.length m.tables.length m.funcs.length x=(m.externs.length:Int):=by unfold boundI;rw[e];rfl
  rw[this] at a2
  omega
theorem blk_of_mem {l:List Block}{b:Block}(h:b∈l):∃i:Nat,i<l.length∧blkAt l i=b:=by
 obtain⟨i,hi,e⟩:=List.getElem_of_mem h
 exact⟨i,hi,by simp[blkAt,List.getD_eq_getElem?_getD,List.getElem?_eq_getElem hi,e]⟩
theorem ins_of_mem {l:List Ins}{b:Ins}(h:b∈l):∃i:Nat,i<l.length∧insAt l i=b:=by
 obtain⟨i,hi,e⟩:=List.getElem_of_mem h
 exact⟨i,hi,by rw[insAt_get hi];exact e⟩
structure FlowOk (l:List Block):Prop where
 ins:∀b∈l,0<b.ins.length
 met:∀b:Nat,b<l.length→Rc (nextOf l) (fun _=>True) 0 b
 phi:∀b∈l,∀x∈b.ins,phiB x=true→∀t∈x.into,0≤t∧t<(l.length:Int)
theorem flow_ok {l:List Block}(h:flowsB l=true):FlowOk l:=by
 unfold flowsB at h
 rw[Bool.and_eq_true,Bool.and_eq_true,Bool.not_eq_true',Bool.not_eq_true',Bool.not_eq_true',any_no,any_no,reach_all] at h
 obtain⟨h1,h2,h3⟩:=h
 refine⟨fun b hb=> ?_,fun b hb=>(reach_at (by omega) (by omega)).1 (h2 b hb),fun b hb x hx hp t ht=> ?_⟩
 ·obtain⟨i,hi,rfl⟩:=blk_of_mem hb
  have:=h1 i hi
  unfold badBW badW at this
  rw[Bool.or_eq_false_iff] at this
  have:=of_decide_eq_false this.1
  omega
 ·obtain⟨i,hi,rfl⟩:=blk_of_mem hb
  have:=h3 i hi
  unfold badBP at this
  rw[List.any_eq_false] at this
  have:=this x hx
  unfold badPhi at this
  rw[hp,Bool.true_and] at this
  have e:x.into=rowOfL (prevOf l) i:=by simpa using this
  rw[e] at ht
  have:=(prev_mem (l:=l) (b:=(i:Int)) (by omega)).1 ht
  exact⟨this.1,this.2.1⟩
theorem used_args {f:Tm.Func}(h:usedB f=true):∀b∈f.blocks,∀x∈b.ins,∀v∈x.args,1≤v∧v≤((f.params.length+(posOf f.blocks).length:Nat):Int):=by
 intro b hb x hx v hv
 unfold usedB at h
 rw[Bool.and_eq_true,Bool.not_eq_true',Bool.not_eq_true',any_no,any_no] at h
 obtain⟨i,hi,rfl⟩:=blk_of_mem hb
 have h1:=h.2 i hi
 unfold badUB at h1
 rw[any_no] at h1
 obtain⟨k,hk,rfl⟩:=ins_of_mem hx
 have h2:=h1 k hk
 unfold badUX at h2
 rw[any_no] at h2
 obtain⟨j,hj,e⟩:=List.getElem_of_mem hv
 have h3:=h2 j hj
 unfold badA at h3
 rw[Bool.or_eq_false_iff,Bool.or_eq_false_iff] at h3
 have e2:rd (insAt (blkAt f.blocks i).ins k).args j=v:=by rw[rd,Int.toNat_natCast,List.getD_eq_getElem?_getD,List.getElem?_eq_getElem hj,Option.getD_some,e]
 rw[e2] at h3
 have a1:=of_decide_eq_false h3.1.1
 have a2:=of_decide_eq_false h3.1.2
 omega
theorem types_len (f:Tm.Func):(typesOf f).length=f.params.length+1+(posOf f.blocks).length:=by rw[posOf_len];simp[typesOf];omega
set_option maxHeartbeats 2000000 in
theorem wcheck_l0 {vals:FuncId→Bool} {call:CallF} {n:Nat} (m:Tm.Module) (hl:m.funcs.length<2^50) (I:Heap→Prop) (hp:∀h x,I h→I (h++[x])) (hg:∀h,I h→h[0]?=some (.row 0 [externs m.externs,globals m.globals,tables m.tables,funcs m.funcs])) (hc:∀f∈m.funcs,∀h,call 52 [.agg [str f.name,bool f.out,ints f.params,int f.result,blocks f.blocks]] h=some (bool (flowsB f.blocks),h)) (mm:Nat) (hm:m.funcs.length<mm) (h:Heap) (hI:I h):∃h1,I h1∧Tm.Loop Try.prog vals call n [1,26,27,28] k23b0 mm ⟨[(1,.op 0 0),(26,funcs m.funcs),(27,int m.funcs.length),(28,int 0)],h⟩=some (if (m.funcs.any fun f=> !flowsB f.blocks)=true then(.ret,⟨[(2,int 5)],h1⟩) else(.exit 1,⟨[(1,.op 0 0),(26,funcs m.funcs),(27,int m.funcs.length),(28,int m.funcs.length),(29,bool false)],h1⟩)):=by
 obtain⟨h1,J,L⟩:=Loop_any (P:=Try.prog) (vals:=vals) (call:=call) (n:=n) (ks:=[1,26,27,28]) (K:=k23b0) (id:=1) m.funcs.length (fun i=> !flowsB (fnAt m.funcs i).blocks) (fun i=>[(1,.op 0 0),(26,funcs m.funcs),(27,int m.funcs.length),(28,int i)]) [(2,int 5)] [(1,.op 0 0),(26,funcs m.funcs),(27,int m.funcs.length),(28,int m.funcs.length),(29,bool false)] I
  (fun i h hi hI=>by
   have e1:decide ((i:Int)<m.funcs.length)=true:=by simp;omega
   have e2:0≤(i:Int)∧(i:Int)<m.funcs.length:=by omega
   have e3:=wrap_next (n:=m.funcs.length) (i:=i) (by omega) (by omega)
   have hx:fnAt m.funcs i∈m.funcs:=getD_mem hi
   have hc1:=hc _ hx
   have g0:=hg _ hI
   have I1:=hp _ (.row 0 (encFunc (fnAt m.funcs i))) hI
   have g1:=hg _ I1
   simp only[enc_func] at I1 g1
   refine⟨_,I1, ?_⟩
   cases c1:flowsB (fnAt m.funcs i).blocks<;>simp +decide -implicitDefEqProofs only[k23b0,go_sem,e1,e2,e3,set_new,enc_func,g0,g1,hc1,c1])
  (fun h hI=>by
   exact⟨h,hI,by simp +decide -implicitDefEqProofs only[k23b0,go_sem,Int.lt_irrefl,decide_false]⟩) m.funcs.length 0 mm h (by omega) hm hI
 simp only[show((0:Nat):Int)=0 from rfl] at L
 rw[any_fns (fun f=> !flowsB f.blocks)] at L
 exact⟨h1,J,L⟩
set_option maxHeartbeats 2000000 in
theorem wcheck_l1 {vals:FuncId→Bool} {call:CallF} {n:Nat} (m:Tm.Module) (hl:m.funcs.length<2^50) (I:Heap→Prop) (hp:∀h x,I h→I (h++[x])) (hg:∀h,I h→h[0]?=some (.row 0 [externs m.externs,globals m.globals,tables m.tables,funcs m.funcs])) (hc:∀f∈m.funcs,∀h,call 53 [.agg [str f.name,bool f.out,ints f.params,int f.result,blocks f.blocks]] h=some (bool (usedB f),h)) (mm:Nat) (hm:m.funcs.length<mm) (h:Heap) (hI:I h):∃h1,I h1∧Tm.Loop Try.prog vals call n [1,37,38,39] k23b1 mm ⟨[(1,.op 0 0),(37,funcs m.funcs),(38,int m.funcs.length),(39,int 0)],h⟩=some (if (m.funcs.any fun f=> !usedB f)=true then(.ret,⟨[(2,int 6)],h1⟩) else(.exit 3,⟨[(1,.op 0 0),(37,funcs m.funcs),(38,int m.funcs.length),(39,int m.funcs.length),(40,bool false)],h1⟩)):=by
 obtain⟨h1,J,L⟩:=Loop_any (P:=Try.prog) (vals:=vals) (call:=call) (n:=n) (ks:=[1,37,38,39]) (K:=k23b1) (id:=3) m.funcs.length (fun i=> !usedB (fnAt m.funcs i)) (fun i=>[(1,.op 0 0),(37,funcs m.funcs),(38,int m.funcs.length),(39,int i)]) [(2,int 6)] [(1,.op 0 0),(37,funcs m.funcs),(38,int m.funcs.length),(39,int m.funcs.length),(40,bool false)] I
  (fun i h hi hI=>by
   have e1:decide ((i:Int)<m.funcs.length)=true:=by simp;omega
   have e2:0≤(i:Int)∧(i:Int)<m.funcs.length:=by omega
   have e3:=wrap_next (n:=m.funcs.length) (i:=i) (by omega) (by omega)
   have hx:fnAt m.funcs i∈m.funcs:=getD_mem hi
   have hc1:=hc _ hx
   have g0:=hg _ hI
   have I1:=hp _ (.row 0 (encFunc (fnAt m.funcs i))) hI
   have g1:=hg _ I1
   simp only[enc_func] at I1 g1
   refine⟨_,I1, ?_⟩
   cases c1:usedB (fnAt m.funcs i)<;>simp +decide -implicitDefEqProofs only[k23b1,go_sem,e1,e2,e3,set_new,enc_func,g0,g1,hc1,c1])
  (fun h hI=>by
   exact⟨h,hI,by simp +decide -implicitDefEqProofs only[k23b1,go_sem,Int.lt_irrefl,decide_false]⟩) m.funcs.length 0 mm h (by omega) hm hI
 simp only[show((0:Nat):Int)=0 from rfl] at L
 rw[any_fns (fun f=> !usedB f)] at L
 exact⟨h1,J,L⟩
set_option maxHeartbeats 2000000 in
theorem wcheck_l2 {vals:FuncId→Bool} {call:CallF} {n:Nat} (m:Tm.Module) (hl:m.funcs.length<2^50) (I:Heap→Prop) (hp:∀h x,I h→I (h++[x])) (hg:∀h,I h→h[0]?=some (.row 0 [externs m.externs,globals m.globals,tables m.tables,funcs m.funcs])) (hc:∀f∈m.funcs,∀h,call 54 [.agg [externs m.externs,globals m.globals,tables m.tables,funcs m.funcs],.agg [str f.name,bool f.out,ints f.params,int f.result,blocks f.blocks]] h=some (bool (typedB m f),h)) (mm:Nat) (hm:m.funcs.length<mm) (h:Heap) (hI:I h):∃h1,I h1∧Tm.Loop Try.prog vals call n [1,48,49,50] k23b2 mm ⟨[(1,.op 0 0),(48,funcs m.funcs),(49,int m.funcs.length),(50,int 0)],h⟩=some (if (m.funcs.any fun f=> !typedB m f)=true then(.ret,⟨[(2,int 7)],h1⟩) else(.exit 5,⟨[(1,.op 0 0),(48,funcs m.funcs),(49,int m.funcs.length),(50,int m.funcs.length),(51,bool false)],h1⟩)):=by
 obtain⟨h1,J,L⟩:=Loop_any (P:=Try.prog) (vals:=vals) (call:=call) (n:=n) (ks:=[1,48,49,50]) (K:=k23b2) (id:=5) m.funcs.length (fun i=> !typedB m (fnAt m.funcs i)) (fun i=>[(1,.op 0 0),(48,funcs m.funcs),(49,int m.funcs.length),(50,int i)]) [(2,int 7)] [(1,.op 0 0),(48,funcs m.funcs),(49,int m.funcs.length),(50,int m.funcs.length),(51,bool false)] I
  (fun i h hi hI=>by
   have e1:decide ((i:Int)<m.funcs.length)=true:=by simp;omega
   have e2:0≤(i:Int)∧(i:Int)<m.funcs.length:=by omega
   have e3:=wrap_next (n:=m.funcs.length) (i:=i) (by omega) (by omega)
   have hx:fnAt m.funcs i∈m.funcs:=getD_mem hi
   have hc1:=hc _ hx
   have g0:=hg _ hI
   have I1:=hp _ (.row 0 (encFunc (fnAt m.funcs i))) hI
   have g1:=hg _ I1
   simp only[enc_func] at I1 g1
   refine⟨_,I1, ?_⟩
   cases c1:typedB m (fnAt m.funcs i)<;>simp +decide -implicitDefEqProofs only[k23b2,go_sem,e1,e2,e3,set_new,enc_func,g0,g1,hc1,c1])
  (fun h hI=>by
   exact⟨h,hI,by simp +decide -implicitDefEqProofs only[k23b2,go_sem,Int.lt_irrefl,decide_false]⟩) m.funcs.length 0 mm h (by omega) hm hI
 simp only[show((0:Nat):Int)=0 from rfl] at L
 rw[any_fns (fun f=> !typedB m f)] at L
 exact⟨h1,J,L⟩
set_option maxHeartbeats 2000000 in
theorem rcheck_l0 {vals:FuncId→Bool} {call:CallF} {n:Nat} (m:Tm.Module) (hl:m.funcs.length<2^50) (I:Heap→Prop) (hp:∀h x,I h→I (h++[x])) (hg:∀h,I h→h[0]?=some (.row 0 [externs m.externs,globals m.globals,tables m.tables,funcs m.funcs])) (hc:∀f∈m.funcs,∀h,call 30 [.agg [str f.name,bool f.out,ints f.params,int f.result,blocks f.blocks]] h=some (bool (flowsB f.blocks),h)) (mm:Nat) (hm:m.funcs.length<mm) (h:Heap) (hI:I h):∃h1,I h1∧Tm.Loop Try.prog vals call n [1,3] k9b0 mm ⟨[(1,.op 0 0),(3,int 0)],h⟩=some (if (m.funcs.any fun f=> !flowsB f.blocks)=true then(.ret,⟨[(2,int 5)],h1⟩) else(.exit 0,⟨[(1,.op 0 0),(3,int m.funcs.length),(22,bool false)],h1⟩)):=by
 obtain⟨h1,J,L⟩:=Loop_any (P:=Try.prog) (vals:=vals) (call:=call) (n:=n) (ks:=[1,3]) (K:=k9b0) (id:=0) m.funcs.length (fun i=> !flowsB (fnAt m.funcs i).blocks) (fun i=>[(1,.op 0 0),(3,int i)]) [(2,int 5)] [(1,.op 0 0),(3,int m.funcs.length),(22,bool false)] I
  (fun i h hi hI=>by
   have e1:decide ((i:Int)<m.funcs.length)=true:=by simp;omega
   have e2:0≤(i:Int)∧(i:Int)<m.funcs.length:=by omega
   have e3:=wrap_next (n:=m.funcs.length) (i:=i) (by omega) (by omega)
   have hx:fnAt m.funcs i∈m.funcs:=getD_mem hi
   have hc1:=hc _ hx
   have g0:=hg _ hI
   refine⟨_,hI, ?_⟩
   cases c1:flowsB (fnAt m.funcs i).blocks<;>simp +decide -implicitDefEqProofs only[k9b0,go_sem,e1,e2,e3,set_new,g0,hc1,c1])
  (fun h hI=>by
   have g0:=hg h hI
   exact⟨h,hI,by simp +decide -implicitDefEqProofs only[k9b0,go_sem,Int.lt_irrefl,decide_false,g0]⟩) m.funcs.length 0 mm h (by omega) hm hI
 simp only[show((0:Nat):Int)=0 from rfl] at L
 rw[any_fns (fun f=> !flowsB f.blocks)] at L
 exact⟨h1,J,L⟩
set_option maxHeartbeats 2000000 in
theorem rcheck_l1 {vals:FuncId→Bool} {call:CallF} {n:Nat} (m:Tm.Module) (hl:m.funcs.length<2^50) (I:Heap→Prop) (hp:∀h x,I h→I (h++[x])) (hg:∀h,I h→h[0]?=some (.row 0 [externs m.externs,globals m.globals,tables m.tables,funcs m.funcs])) (hc:∀f∈m.funcs,∀h,call 31 [.agg [str f.name,bool f.out,ints f.params,int f.result,blocks f.blocks]] h=some (bool (usedB f),h)) (mm:Nat) (hm:m.funcs.length<mm) (h:Heap) (hI:I h):∃h1,I h1∧Tm.Loop Try.prog vals call n [1,4] k9b1 mm ⟨[(1,.op 0 0),(4,int 0)],h⟩=some (if (m.funcs.any fun f=> !usedB f)=true then(.ret,⟨[(2,int 6)],h1⟩) else(.exit 2,⟨[(1,.op 0 0),(4,int m.funcs.length),(36,bool false)],h1⟩)):=by
 obtain⟨h1,J,L⟩:=Loop_any (P:=Try.prog) (vals:=vals) (call:=call) (n:=n) (ks:=[1,4]) (K:=k9b1) (id:=2) m.funcs.length (fun i=> !usedB (fnAt m.funcs i)) (fun i=>[(1,.op 0 0),(4,int i)]) [(2,int 6)] [(1,.op 0 0),(4,int m.funcs.length),(36,bool false)] I
  (fun i h hi hI=>by
   have e1:decide ((i:Int)<m.funcs.length)=true:=by simp;omega
   have e2:0≤(i:Int)∧(i:Int)<m.funcs.length:=by omega
   have e3:=wrap_next (n:=m.funcs.length) (i:=i) (by omega) (by omega)
   have hx:fnAt m.funcs i∈m.funcs:=getD_mem hi
   have hc1:=hc _ hx
   have g0:=hg _ hI
   refine⟨_,hI, ?_⟩
   cases c1:usedB (fnAt m.funcs i)<;>simp +decide -implicitDefEqProofs only[k9b1,go_sem,e1,e2,e3,set_new,g0,hc1,c1])
  (fun h hI=>by
   have g0:=hg h hI
   exact⟨h,hI,by simp +decide -implicitDefEqProofs only[k9b1,go_sem,Int.lt_irrefl,decide_false,g0]⟩) m.funcs.length 0 mm h (by omega) hm hI
 simp only[show((0:Nat):Int)=0 from rfl] at L
 rw[any_fns (fun f=> !usedB f)] at L
 exact⟨h1,J,L⟩
set_option maxHeartbeats 2000000 in
theorem rcheck_l2 {vals:FuncId→Bool} {call:CallF} {n:Nat} (m:Tm.Module) (hl:m.funcs.length<2^50) (I:Heap→Prop) (hp:∀h x,I h→I (h++[x])) (hg:∀h,I h→h[0]?=some (.row 0 [externs m.externs,globals m.globals,tables m.tables,funcs m.funcs])) (hc:∀f∈m.funcs,∀h,call 32 [.agg [externs m.externs,globals m.globals,tables m.tables,funcs m.funcs],.agg [str f.name,bool f.out,ints f.params,int f.result,blocks f.blocks]] h=some (bool (typedB m f),h)) (hv:vals 32=true) (mm:Nat) (hm:m.funcs.length<mm) (h:Heap) (hI:I h):∃h1,I h1∧Tm.Loop Try.prog vals call n [1,5] k9b2 mm ⟨[(1,.op 0 0),(5,int 0)],h⟩=some (if (m.funcs.any fun f=> !typedB m f)=true then(.ret,⟨[(2,int 7)],h1⟩) else(.exit 4,⟨[(1,.op 0 0),(5,int m.funcs.length),(50,bool false)],h1⟩)):=by
 obtain⟨h1,J,L⟩:=Loop_any (P:=Try.prog) (vals:=vals) (call:=call) (n:=n) (ks:=[1,5]) (K:=k9b2) (id:=4) m.funcs.length (fun i=> !typedB m (fnAt m.funcs i)) (fun i=>[(1,.op 0 0),(5,int i)]) [(2,int 7)] [(1,.op 0 0),(5,int m.funcs.length),(50,bool false)] I
  (fun i h hi hI=>by
   have e1:decide ((i:Int)<m.funcs.length)=true:=by simp;omega
   have e2:0≤(i:Int)∧(i:Int)<m.funcs.length:=by omega
   have e3:=wrap_next (n:=m.funcs.length) (i:=i) (by omega) (by omega)
   have hx:fnAt m.funcs i∈m.funcs:=getD_mem hi
   have hc1:=hc _ hx
   have g0:=hg _ hI
   refine⟨_,hI, ?_⟩
   cases c1:typedB m (fnAt m.funcs i)<;>simp +decide -implicitDefEqProofs only[k9b2,go_sem,e1,e2,e3,set_new,g0,hc1,c1,hv])
  (fun h hI=>by
   have g0:=hg h hI
   exact⟨h,hI,by simp +decide -implicitDefEqProofs only[k9b2,go_sem,Int.lt_irrefl,decide_false,g0]⟩) m.funcs.length 0 mm h (by omega) hm hI
 simp only[show((0:Nat):Int)=0 from rfl] at L
 rw[any_fns (fun f=> !typedB m f)] at L
 exact⟨h1,J,L⟩
end Go.Proofs.Ytlcnmocicghilaa.Tk
namespace Go.Proofs.Ytlcnmocicghilaa.Tk
open Go.Tm Go.Tm.Tab
set_option maxRecDepth 100000
theorem any_not {α:Type}{p:α→Bool}{l:List α}(h:(l.any fun x=> !p x)=false):∀x∈l,p x=true:=by
 intro x hx
 rw[List.any_eq_false] at h
 have:=h x hx
 simpa using this
set_option maxHeartbeats 4000000 in
theorem wcheck_runs (m:Tm.Module) (F:FineM m):Runs Try.prog tab (2^36+200) 23 [.agg (encModule m)] (int (checkN m)):=by
 refine Runs.by (rs:=[.tmp 2]) (N:=59) rfl Try.func23 rfl rfl (by simp) fun k hk=> ?_
 have b4:=F.funcs
 rw[enc_module]
 have h87:∀h,callAt Try.prog tab k 48 [.agg [externs m.externs,globals m.globals,tables m.tables,funcs m.funcs]] h=some (bool (limitsB m),h):=fun h=>wsmall_runs m F k (by omega) _ h (by rw[enc_module];simp +decide -implicitDefEqProofs only[depth,go_sem])
 have h88:∀h,callAt Try.prog tab k 49 [.agg [externs m.externs,globals m.globals,tables m.tables,funcs m.funcs]] h=some (bool (formedB m),h):=fun h=>wformed_runs m F k (by omega) _ h (by rw[enc_module];simp +decide -implicitDefEqProofs only[depth,go_sem])
 have h89:∀h,callAt Try.prog tab k 50 [.agg [externs m.externs,globals m.globals,tables m.tables,funcs m.funcs]] h=some (bool (namedB m),h):=fun h=>wnamed_runs m F k (by omega) _ h (by rw[enc_module];simp +decide -implicitDefEqProofs only[depth,go_sem])
 have hp:∀(h:Heap) (x:Tm.Node),h[0]?=some (.row 0 [externs m.externs,globals m.globals,tables m.tables,funcs m.funcs])→(h++[x])[0]?=some (.row 0 [externs m.externs,globals m.globals,tables m.tables,funcs m.funcs]):=fun h x H=>by rw[List.getElem?_append_left (List.getElem?_eq_some_iff.1 H).1];exact H
 unfold checkN
 cases c1:limitsB m with
 |false=>rw[if_pos rfl];rw[c1] at h87;(simp +decide -implicitDefEqProofs only[k23,go_sem,h87];exact⟨_,_,rfl,rfl⟩)
 |true=>
 rw[if_neg (by decide)]
 rw[c1] at h87
 cases c2:formedB m with
 |false=>rw[if_pos rfl];rw[c2] at h88;(simp +decide -implicitDefEqProofs only[k23,go_sem,h87,h88];exact⟨_,_,rfl,rfl⟩)
 |true=>
 rw[if_neg (by decide)]
 rw[c2] at h88
 cases c3:namedB m with
 |false=>rw[if_pos rfl];rw[c3] at h89;(simp +decide -implicitDefEqProofs only[k23,go_sem,h87,h88,h89];exact⟨_,_,rfl,rfl⟩)
 |true=>
 rw[if_neg (by decide)]
 rw[c3] at h89
 have hpos:=limits_blocks c1
 have hsh:=formed_shape c2
 have h90:∀h,callAt Try.prog tab k 51 [.agg [externs m.externs,globals m.globals,tables m.tables,funcs m.funcs]] h=some (bool (knownB m),h):=fun h=>wknown_runs m F (fun f hf b hb x hx=>(hsh f hf b hb x hx).noSym) k (by omega) _ h (by rw[enc_module];simp +decide -implicitDefEqProofs only[depth,go_sem])
 cases c4:knownB m with
 |false=>rw[if_pos rfl];rw[c4] at h90;(simp +decide -implicitDefEqProofs only[k23,go_sem,h87,h88,h89,h90];exact⟨_,_,rfl,rfl⟩)
 |true=>
 rw[if_neg (by decide)]
 rw[c4] at h90
 have hsy:=known_sym c4
 have q5:∀f∈m.funcs,∀h,callAt Try.prog tab k 52 [.agg [str f.name,bool f.out,ints f.params,int f.result,blocks f.blocks]] h=some (bool (flowsB f.blocks),h):=fun f hf h=>wflows_runs f (F.fn f hf).1 k (by omega) _ h (by rw[enc_func];simp +decide -implicitDefEqProofs only[depth,go_sem])
 obtain⟨g1,I1,L1⟩:=wcheck_l0 (vals:=valsOf tab) (call:=callAt Try.prog tab k) (n:=k) m (by omega) (fun(h:Heap)=>h[0]?=some (.row 0 [externs m.externs,globals m.globals,tables m.tables,funcs m.funcs])) hp (fun h H=>H) q5 k (by omega) [.row 0 [externs m.externs,globals m.globals,tables m.tables,funcs m.funcs]] rfl
 cases c5:(m.funcs.any fun f=> !flowsB f.blocks) with
 |true=>rw[if_pos rfl];rw[c5,if_pos rfl] at L1;(simp +decide -implicitDefEqProofs only[k23,go_sem,h87,h88,h89,h90,L1];exact⟨_,_,rfl,rfl⟩)
 |false=>
 rw[if_neg (by decide)]
 rw[c5,if_neg (by decide)] at L1
 have hfl:∀f∈m.funcs,FlowOk f.blocks:=fun f hf=>flow_ok (any_not c5 f hf)
 have hph:∀f∈m.funcs,∀b∈f.blocks,∀x∈b.ins,PhiOk f.blocks.length x:=fun f hf b hb x hx=>⟨fun hq=>((hsh f hf b hb x hx).phi (of_decide_eq_true hq)).1,fun hq=>(hfl f hf).phi b hb x hx hq⟩
 have q6:∀f∈m.funcs,∀h,callAt Try.prog tab k 53 [.agg [str f.name,bool f.out,ints f.params,int f.result,blocks f.blocks]] h=some (bool (usedB f),h):=fun f hf h=>wused_runs f (F.fn f hf).1 (by have:=(F.fn f hf).2.2;omega) (hpos f hf) (hfl f hf).ins (hph f hf) (hfl f hf).met k (by omega) _ h (by rw[enc_func];simp +decide -implicitDefEqProofs only[depth,go_sem])
 obtain⟨g2,I2,L2⟩:=wcheck_l1 (vals:=valsOf tab) (call:=callAt Try.prog tab k) (n:=k) m (by omega) (fun(h:Heap)=>h[0]?=some (.row 0 [externs m.externs,globals m.globals,tables m.tables,funcs m.funcs])) hp (fun h H=>H) q6 k (by omega) g1 I1
 cases c6:(m.funcs.any fun f=> !usedB f) with
 |true=>rw[if_pos rfl];rw[c6,if_pos rfl] at L2;(simp +decide -implicitDefEqProofs only[k23,go_sem,h87,h88,h89,h90,L1,I1,L2];exact⟨_,_,rfl,rfl⟩)
 |false=>
 rw[if_neg (by decide)]
 rw[c6,if_neg (by decide)] at L2
 have q7:∀f∈m.funcs,∀h,callAt Try.prog tab k 54 [.agg [externs m.externs,globals m.globals,tables m.tables,funcs m.funcs],.agg [str f.name,bool f.out,ints f.params,int f.result,blocks f.blocks]] h=some (bool (typedB m f),h):=fun f hf h=>wtyped_runs m f (F.fn f hf).1 (by have:=(F.fn f hf).2.2;omega) (hsh f hf) (hsy f hf) (fun b hb x hx v hv=>by have:=used_args (any_not c6 f hf) b hb x hx v hv;have:=types_len f;omega) k (by omega) _ h (by rw[enc_func,enc_module];simp +decide -implicitDefEqProofs only[depth,go_sem])
 obtain⟨g3,I3,L3⟩:=wcheck_l2 (vals:=valsOf tab) (call:=callAt Try.prog tab k) (n:=k) m (by omega) (fun(h:Heap)=>h[0]?=some (.row 0 [externs m.externs,globals m.globals,tables m.tables,funcs m.funcs])) hp (fun h H=>H) q7 k (by omega) g2 I2
 cases c7:(m.funcs.any fun f=> !typedB m f) with
 |true=>rw[if_pos rfl];rw[c7,if_pos rfl] at L3;(simp +decide -implicitDefEqProofs only[k23,go_sem,h87,h88,h89,h90,L1,I1,L2,I2,L3];exact⟨_,_,rfl,rfl⟩)
 |false=>rw[if_neg (by decide)];rw[c7,if_neg (by decide)] at L3;(simp +decide -implicitDefEqProofs only[k23,go_sem,h87,h88,h89,h90,L1,I1,L2,I2,L3];exact⟨_,_,rfl,rfl⟩)
set_option maxHeartbeats 4000000 in
theorem rcheck_runs (m:Tm.Module) (F:FineM m):Runs Try.prog tab (2^36+200) 9 [.agg (encModule m)] (int (checkN m)):=by
 refine Runs.by (rs:=[.tmp 2]) (N:=61) rfl Try.func9 rfl rfl (by simp) fun k hk=> ?_
 have b4:=F.funcs
 rw[enc_module]
 have h79:∀h,callAt Try.prog tab k 26 [.agg [externs m.externs,globals m.globals,tables m.tables,funcs m.funcs]] h=some (bool (limitsB m),h):=fun h=>rlimits_runs m F k (by omega) _ h (by rw[enc_module];simp +decide -implicitDefEqProofs only[depth,go_sem])
 have h80:∀h,callAt Try.prog tab k 27 [.agg [externs m.externs,globals m.globals,tables m.tables,funcs m.funcs]] h=some (bool (formedB m),h):=fun h=>rforms_runs m F k (by omega) _ h (by rw[enc_module];simp +decide -implicitDefEqProofs only[depth,go_sem])
 have h81:∀h,callAt Try.prog tab k 28 [.agg [externs m.externs,globals m.globals,tables m.tables,funcs m.funcs]] h=some (bool (namedB m),h):=fun h=>rnames_runs m F k (by omega) _ h (by rw[enc_module];simp +decide -implicitDefEqProofs only[depth,go_sem])
 have hp:∀(h:Heap) (x:Tm.Node),h[0]?=some (.row 0 [externs m.externs,globals m.globals,tables m.tables,funcs m.funcs])→(h++[x])[0]?=some (.row 0 [externs m.externs,globals m.globals,tables m.tables,funcs m.funcs]):=fun h x H=>by rw[List.getElem?_append_left (List.getElem?_eq_some_iff.1 H).1];exact H
 unfold checkN
 cases c1:limitsB m with
 |false=>rw[if_pos rfl];rw[c1] at h79;(simp +decide -implicitDefEqProofs only[k9,go_sem,h79];exact⟨_,_,rfl,rfl⟩)
 |true=>
 rw[if_neg (by decide)]
 rw[c1] at h79
 cases c2:formedB m with
 |false=>rw[if_pos rfl];rw[c2] at h80;(simp +decide -implicitDefEqProofs only[k9,go_sem,h79,h80];exact⟨_,_,rfl,rfl⟩)
 |true=>
 rw[if_neg (by decide)]
 rw[c2] at h80
 cases c3:namedB m with
 |false=>rw[if_pos rfl];rw[c3] at h81;(simp +decide -implicitDefEqProofs only[k9,go_sem,h79,h80,h81];exact⟨_,_,rfl,rfl⟩)
 |true=>
 rw[if_neg (by decide)]
 rw[c3] at h81
 have hpos:=limits_blocks c1
 have hsh:=formed_shape c2
 have h82:∀h,callAt Try.prog tab k 29 [.agg [externs m.externs,globals m.globals,tables m.tables,funcs m.funcs]] h=some (bool (knownB m),h):=fun h=>rsyms_runs m F k (by omega) _ h (by rw[enc_module];simp +decide -implicitDefEqProofs only[depth,go_sem])
 cases c4:knownB m with
 |false=>rw[if_pos rfl];rw[c4] at h82;(simp +decide -implicitDefEqProofs only[k9,go_sem,h79,h80,h81,h82];exact⟨_,_,rfl,rfl⟩)
 |true=>
 rw[if_neg (by decide)]
 rw[c4] at h82
 have hsy:=known_sym c4
 have q5:∀f∈m.funcs,∀h,callAt Try.prog tab k 30 [.agg [str f.name,bool f.out,ints f.params,int f.result,blocks f.blocks]] h=some (bool (flowsB f.blocks),h):=fun f hf h=>rflows_runs f (F.fn f hf).1 (hpos f hf) (fun b hb x hx=>(hsh f hf b hb x hx).intoOk) k (by omega) _ h (by rw[enc_func];simp +decide -implicitDefEqProofs only[depth,go_sem])
 obtain⟨g1,I1,L1⟩:=rcheck_l0 (vals:=valsOf tab) (call:=callAt Try.prog tab k) (n:=k) m (by omega) (fun(h:Heap)=>h[0]?=some (.row 0 [externs m.externs,globals m.globals,tables m.tables,funcs m.funcs])) hp (fun h H=>H) q5 k (by omega) [.row 0 [externs m.externs,globals m.globals,tables m.tables,funcs m.funcs]] rfl
 cases c5:(m.funcs.any fun f=> !flowsB f.blocks) with
 |true=>rw[if_pos rfl];rw[c5,if_pos rfl] at L1;(simp +decide -implicitDefEqProofs only[k9,go_sem,h79,h80,h81,h82,L1];exact⟨_,_,rfl,rfl⟩)
 |false=>
 rw[if_neg (by decide)]
 rw[c5,if_neg (by decide)] at L1
 have hfl:∀f∈m.funcs,FlowOk f.blocks:=fun f hf=>flow_ok (any_not c5 f hf)
 have hph:∀f∈m.funcs,∀b∈f.blocks,∀x∈b.ins,PhiOk f.blocks.length x:=fun f hf b hb x hx=>⟨fun hq=>((hsh f hf b hb x hx).phi (of_decide_eq_true hq)).1,fun hq=>(hfl f hf).phi b hb x hx hq⟩
 have q6:∀f∈m.funcs,∀h,callAt Try.prog tab k 31 [.agg [str f.name,bool f.out,ints f.params,int f.result,blocks f.blocks]] h=some (bool (usedB f),h):=fun f hf h=>ruses_runs f (F.fn f hf).1 (by have:=(F.fn f hf).2.2;omega) (hpos f hf) (hph f hf) k (by omega) _ h (by rw[enc_func];simp +decide -implicitDefEqProofs only[depth,go_sem])
 obtain⟨g2,I2,L2⟩:=rcheck_l1 (vals:=valsOf tab) (call:=callAt Try.prog tab k) (n:=k) m (by omega) (fun(h:Heap)=>h[0]?=some (.row 0 [externs m.externs,globals m.globals,tables m.tables,funcs m.funcs])) hp (fun h H=>H) q6 k (by omega) g1 I1
 cases c6:(m.funcs.any fun f=> !usedB f) with
 |true=>rw[if_pos rfl];rw[c6,if_pos rfl] at L2;(simp +decide -implicitDefEqProofs only[k9,go_sem,h79,h80,h81,h82,L1,I1,L2];exact⟨_,_,rfl,rfl⟩)
 |false=>
 rw[if_neg (by decide)]
 rw[c6,if_neg (by decide)] at L2
 have q7:∀f∈m.funcs,∀h,callAt Try.prog tab k 32 [.agg [externs m.externs,globals m.globals,tables m.tables,funcs m.funcs],.agg [str f.name,bool f.out,ints f.params,int f.result,blocks f.blocks]] h=some (bool (typedB m f),h):=fun f hf h=>rtyped_runs m f (F.fn f hf).1 (by have:=(F.fn f hf).2.2;omega) (hsh f hf) (hsy f hf) (fun b hb x hx v hv=>by have:=used_args (any_not c6 f hf) b hb x hx v hv;have:=types_len f;omega) k (by omega) _ h (by rw[enc_func,enc_module];simp +decide -implicitDefEqProofs only[depth,go_sem])
 obtain⟨g3,I3,L3⟩:=rcheck_l2 (vals:=valsOf tab) (call:=callAt Try.prog tab k) (n:=k) m (by omega) (fun(h:Heap)=>h[0]?=some (.row 0 [externs m.externs,globals m.globals,tables m.tables,funcs m.funcs])) hp (fun h H=>H) q7 (by decide) k (by omega) g2 I2
 cases c7:(m.funcs.any fun f=> !typedB m f) with
 |true=>rw[if_pos rfl];rw[c7,if_pos rfl] at L3;(simp +decide -implicitDefEqProofs only[k9,go_sem,h79,h80,h81,h82,L1,I1,L2,I2,L3];exact⟨_,_,rfl,rfl⟩)
 |false=>rw[if_neg (by decide)];rw[c7,if_neg (by decide)] at L3;(simp +decide -implicitDefEqProofs only[k9,go_sem,h79,h80,h81,h82,L1,I1,L2,I2,L3];exact⟨_,_,rfl,rfl⟩)
end Go.Proofs.Ytlcnmocicghilaa.Tk
namespace Go.Tm
def insOf (f:Tm.Func):List Ins:=f.blocks.flatMap (·.ins)
def kindOf (op:Int):Option Nat:=if op=22∨op=2 then some 0 else if op=3 then some 2 else if op=23 then some 3 else if op=24 then some 1 else none
inductive Hit (m:Tm.Module):Nat→Int→Prop
 |out (k:Nat):k<m.funcs.length→(fnAt m.funcs k).out=true→Hit m 0 k
 |ins (j:Int) (x:Ins) (c:Nat):Hit m 0 j→x∈insOf (fnAt m.funcs j)→kindOf x.op=some c→Hit m c x.sym
 |entry (t v:Int):Hit m 1 t→v∈(tblAt m.tables t).funcs→0≤v→Hit m 0 v
structure KS where
 ex:List Bool
 gl:List Bool
 ta:List Bool
 fu:List Bool
def KS.at (s:KS)(c:Nat)(k:Int):Bool:=match c with
 |0=>rdOf false s.fu k
 |1=>rdOf false s.ta k
 |2=>rdOf false s.gl k
 |3=>rdOf false s.ex k
 |_=>false
def KS.mark (s:KS)(c:Nat)(k:Int):KS:=match c with
 |0=>{ s with fu:=s.fu.set k.toNat true }
 |1=>{ s with ta:=s.ta.set k.toNat true }
 |2=>{ s with gl:=s.gl.set k.toNat true }
 |3=>{ s with ex:=s.ex.set k.toNat true }
 |_=>s
def cntM (m:Tm.Module):Nat→Nat
 |0=>m.funcs.length
 |1=>m.tables.length
 |2=>m.globals.length
 |3=>m.externs.length
 |_=>0
structure KLen (m:Tm.Module)(s:KS):Prop where
 ex:s.ex.length=m.externs.length
 gl:s.gl.length=m.globals.length
 ta:s.ta.length=m.tables.length
 fu:s.fu.length=m.funcs.length
theorem KLen.mark {m:Tm.Module}{s:KS}(H:KLen m s)(c:Nat)(k:Int):KLen m (s.mark c k):=by
 unfold KS.mark
 split
 ·exact⟨H.ex,H.gl,H.ta,by simp[H.fu]⟩
 ·exact⟨H.ex,H.gl,by simp[H.ta],H.fu⟩
 ·exact⟨H.ex,by simp[H.gl],H.ta,H.fu⟩
 ·exact⟨by simp[H.ex],H.gl,H.ta,H.fu⟩
 ·exact H
theorem at_mark {m:Tm.Module}{s:KS}(H:KLen m s){c:Nat}{k:Int}(h0:0≤k)(h1:k<(cntM m c:Int))(c':Nat){j:Int}(hj:0≤j):(s.mark c k).at c' j=if c=c'∧k=j then true else s.at c' j:=by
 obtain⟨a1,a2,a3,a4⟩:=H
 match c,h1 with
 |0,h1=>
  match c' with
  |0=>
   have:(s.mark 0 k).at 0 j=if k=j then true else s.at 0 j:=rdb_set h0 (by rw[a4];exact h1) hj
   rw[this];simp
  |1=>simp[KS.at,KS.mark]
  |2=>simp[KS.at,KS.mark]
  |3=>simp[KS.at,KS.mark]
  |n+4=>simp[KS.at,KS.mark]
 |1,h1=>
  match c' with
  |0=>simp[KS.at,KS.mark]
  |1=>
   have:(s.mark 1 k).at 1 j=if k=j then true else s.at 1 j:=rdb_set h0 (by rw[a3];exact h1) hj
   rw[this];simp
  |2=>simp[KS.at,KS.mark]
  |3=>simp[KS.at,KS.mark]
  |n+4=>simp[KS.at,KS.mark]
 |2,h1=>
  match c' with
  |0=>simp[KS.at,KS.mark]
  |1=>simp[KS.at,KS.mark]
  |2=>
   have:(s.mark 2 k).at 2 j=if k=j then true else s.at 2 j:=rdb_set h0 (by rw[a2];exact h1) hj
   rw[this];simp
  |3=>simp[KS.at,KS.mark]
  |n+4=>simp[KS.at,KS.mark]
 |3,h1=>
  match c' with
  |0=>simp[KS.at,KS.mark]
  |1=>simp[KS.at,KS.mark]
  |2=>simp[KS.at,KS.mark]
  |3=>
   have:(s.mark 3 k).at 3 j=if k=j then true else s.at 3 j:=rdb_set h0 (by rw[a1];exact h1) hj
   rw[this];simp
  |n+4=>simp[KS.at,KS.mark]
 |n+4,h1=>exact absurd h1 (by simp[cntM];omega)
structure Named (m:Tm.Module):Prop where
 ins:∀f∈m.funcs,∀x∈insOf f,∀c,kindOf x.op=some c→0≤x.sym∧x.sym<(cntM m c:Int)
 tab:∀t∈m.tables,∀v∈t.funcs,v<(m.funcs.length:Int)
theorem fnAt_in {l:List Tm.Func}{k:Int}(h:0≤k∧k<l.length):fnAt l k∈l:=by
 unfold fnAt;rw[List.getD_eq_getElem?_getD,List.getElem?_eq_getElem (by omega)];exact List.getElem_mem _
theorem tblAt_in {l:List Table}{k:Int}(h:0≤k∧k<l.length):tblAt l k∈l:=by
 unfold tblAt;rw[List.getD_eq_getElem?_getD,List.getElem?_eq_getElem (by omega)];exact List.getElem_mem _
theorem Hit.in {m:Tm.Module}(N:Named m){c:Nat}{k:Int}(h:Hit m c k):0≤k∧k<(cntM m c:Int):=by
 induction h with
 |out k hk _=>exact⟨by omega,by show(k:Int)<(m.funcs.length:Int);omega⟩
 |ins j x c hj hx hc ih=>exact N.ins _ (fnAt_in ih) x hx c hc
 |entry t v ht hv h0 ih=>exact⟨h0,N.tab _ (tblAt_in ih) v hv⟩
structure ToldK (m:Tm.Module)(s:KS):Prop where
 len:KLen m s
 iff:∀c (k:Int),0≤k→k<(cntM m c:Int)→(s.at c k=true↔Hit m c k)
theorem boolsN_ext {a b:List Bool}(hl:a.length=b.length)(h:∀k:Nat,k<a.length→rdOf false a k=rdOf false b k):a=b:=by
 apply List.ext_getElem hl
 intro i h1 h2
 have:=h i h1
 unfold rdOf at this
 rw[Int.toNat_natCast,List.getD_eq_getElem?_getD,List.getD_eq_getElem?_getD,List.getElem?_eq_getElem h1,List.getElem?_eq_getElem h2] at this
 exact this
theorem ToldK.same {m:Tm.Module}{s s':KS}(H:ToldK m s)(H':ToldK m s'):s=s':=by
 have e:∀c (k:Int),0≤k→k<(cntM m c:Int)→s.at c k=s'.at c k:=fun c k h0 h1=>by
  have a:=H.iff c k h0 h1
  have b:=H'.iff c k h0 h1
  cases q:s.at c k<;>cases q':s'.at c k<;>simp_all
 obtain⟨a1,a2,a3,a4⟩:=H.len
 obtain⟨b1,b2,b3,b4⟩:=H'.len
 cases s;cases s'
 simp only at*
 congr 1
 ·exact boolsN_ext (by omega) fun k hk=>e 3 k (by omega) (by show(k:Int)<(m.externs.length:Int);omega)
 ·exact boolsN_ext (by omega) fun k hk=>e 2 k (by omega) (by show(k:Int)<(m.globals.length:Int);omega)
 ·exact boolsN_ext (by omega) fun k hk=>e 1 k (by omega) (by show(k:Int)<(m.tables.length:Int);omega)
 ·exact boolsN_ext (by omega) fun k hk=>e 0 k (by omega) (by show(k:Int)<(m.funcs.length:Int);omega)
def Le (s s':KS):Prop:=∀c (k:Int),0≤k→s.at c k=true→s'.at c k=true
theorem Le.refl (s:KS):Le s s:=fun _ _ _ h=>h
theorem Le.trans {a b c:KS}(h:Le a b)(h':Le b c):Le a c:=fun d k h0 hk=>h' d k h0 (h d k h0 hk)
theorem le_mark {m:Tm.Module}{s:KS}(H:KLen m s){c:Nat}{k:Int}(h0:0≤k)(h1:k<(cntM m c:Int)):Le s (s.mark c k):=fun c' j hj h=>by
 rw[at_mark H h0 h1 c' hj]
 split
 ·rfl
 ·exact h
def DoneF (m:Tm.Module)(s:KS)(j:Int):Prop:=∀x∈insOf (fnAt m.funcs j),∀c,kindOf x.op=some c→s.at c x.sym=true
def DoneT (m:Tm.Module)(s:KS)(t:Int):Prop:=∀v∈(tblAt m.tables t).funcs,0≤v→s.at 0 v=true
theorem DoneF.mono {m:Tm.Module}(N:Named m){s s':KS}(L:Le s s'){j:Int}(hj:0≤j∧j<(m.funcs.length:Int))(h:DoneF m s j):DoneF m s' j:=fun x hx c hc=>L c _ (N.ins _ (fnAt_in hj) x hx c hc).1 (h x hx c hc)
theorem DoneT.mono {m:Tm.Module}{s s':KS}(L:Le s s'){t:Int}(h:DoneT m s t):DoneT m s' t:=fun v hv h0=>L 0 v h0 (h v hv h0)
theorem told_of {m:Tm.Module}(N:Named m){s:KS}(hl:KLen m s)(hh:∀c (k:Int),0≤k→k<(cntM m c:Int)→s.at c k=true→Hit m c k)
  (ho:∀k:Nat,k<m.funcs.length→(fnAt m.funcs k).out=true→s.at 0 k=true)(hf:∀j:Int,0≤j→j<(m.funcs.length:Int)→s.at 0 j=true→DoneF m s j)
  (ht:∀t:Int,0≤t→t<(m.tables.length:Int)→s.at 1 t=true→DoneT m s t):ToldK m s:=by
 refine⟨hl,fun c k h0 h1=>⟨hh c k h0 h1,fun h=> ?_⟩⟩
 clear h0 h1
 induction h with
 |out k hk hout=>exact ho k hk hout
 |ins j x c hj hx hc ih=>have:=hj.in N;exact hf j this.1 this.2 ih x hx c hc
 |entry t v ht' hv h0 ih=>have:=ht'.in N;exact ht t this.1 this.2 ih v hv h0
def pfun (p:KS×List Int)(k:Int):KS×List Int:=if (decide (k≥0)&& !p.1.at 0 k)=true then(p.1.mark 0 k,p.2++[k]) else p
def ptab (m:Tm.Module)(p:KS×List Int)(k:Int):KS×List Int:=if p.1.at 1 k=true then p else(tblAt m.tables k).funcs.foldl pfun (p.1.mark 1 k,p.2)
def pnam (m:Tm.Module)(p:KS×List Int)(x:Ins):KS×List Int:=match kindOf x.op with
 |some 0=>pfun p x.sym
 |some 1=>ptab m p x.sym
 |some c=>(p.1.mark c x.sym,p.2)
 |none=>p
structure PI (m:Tm.Module)(P Q:Int→Prop)(p:KS×List Int):Prop where
 len:KLen m p.1
 hit:∀c (k:Int),0≤k→k<(cntM m c:Int)→p.1.at c k=true→Hit m c k
 wk:∀v∈p.2,(0≤v∧v<(m.funcs.length:Int))∧p.1.at 0 v=true
 done:∀j:Int,0≤j→j<(m.funcs.length:Int)→p.1.at 0 j=true→j∈p.2∨P j∨DoneF m p.1 j
 tabs:∀t:Int,0≤t→t<(m.tables.length:Int)→p.1.at 1 t=true→Q t∨DoneT m p.1 t
def meas (p:KS×List Int):Nat:=p.2.length+p.1.fu.count false
theorem count_set {l:List Bool}{k:Nat}(hk:k<l.length)(h:l.getD k false=false):(l.set k true).count false+1=l.count false:=countf_put hk h
theorem PI.mark {m:Tm.Module}(N:Named m){P Q:Int→Prop}{p:KS×List Int}(H:PI m P Q p){c:Nat}{k:Int}(hk:Hit m c k)(w':List Int)(hw:∀v∈p.2,v∈w')(hw2:∀v∈w',v∈p.2∨(c=0∧v=k))(hc:c=0→k∈w')(Q':Int→Prop)(hQ:∀t,Q t→Q' t)(hq:c=1→Q' k):PI m P Q' (p.1.mark c k,w'):=by
 have hin:=hk.in N
 have L:=le_mark H.len hin.1 hin.2
 refine⟨H.len.mark c k,fun c' j h0 h1 h=> ?_,fun v hv=> ?_,fun j h0 h1 h=> ?_,fun t h0 h1 h=> ?_⟩
 ·rw[at_mark H.len hin.1 hin.2 c' h0] at h
  split at h
  ·rename_i e;rw[←e.1, ←e.2];exact hk
  ·exact H.hit c' j h0 h1 h
 ·rcases hw2 v hv with h|⟨rfl,rfl⟩
  ·have:=H.wk v h;exact⟨this.1,L 0 v this.1.1 this.2⟩
  ·exact⟨hin,by rw[at_mark H.len hin.1 hin.2 0 hin.1,if_pos ⟨rfl,rfl⟩]⟩
 ·rw[at_mark H.len hin.1 hin.2 0 h0] at h
  split at h
  ·rename_i e;exact .inl (by rw[←e.2];exact hc e.1)
  ·rcases H.done j h0 h1 h with a|a|a
   ·exact .inl (hw j a)
   ·exact .inr (.inl a)
   ·exact .inr (.inr (a.mono N L ⟨h0,h1⟩))
 ·rw[at_mark H.len hin.1 hin.2 1 h0] at h
  split at h
  ·rename_i e;exact .inl (by rw[←e.2];exact hq e.1)
  ·rcases H.tabs t h0 h1 h with a|a
   ·exact .inl (hQ t a)
   ·exact .inr (a.mono L)
theorem pfun_step {m:Tm.Module}(N:Named m){P Q:Int→Prop}{p:KS×List Int}(H:PI m P Q p){k:Int}(hk:0≤k→Hit m 0 k):PI m P Q (pfun p k)∧Le p.1 (pfun p k).1∧(0≤k→(pfun p k).1.at 0 k=true)∧meas (pfun p k)=meas p:=by
 unfold pfun
 split
 ·rename_i h
  rw[Bool.and_eq_true,Bool.not_eq_true'] at h
  have h0:0≤k:=of_decide_eq_true h.1
  have hk:=hk h0
  have hin:=hk.in N
  refine⟨H.mark N hk _ (fun v hv=>List.mem_append_left _ hv) (fun v hv=> ?_) (fun _=>by simp) Q (fun _ h=>h) (fun h=>(by cases h)),le_mark H.len hin.1 hin.2,fun _=>by rw[at_mark H.len hin.1 hin.2 0 h0,if_pos ⟨rfl,rfl⟩], ?_⟩
  ·rcases List.mem_append.1 hv with h|h
   ·exact .inl h
   ·exact .inr ⟨rfl,List.mem_singleton.1 h⟩
  ·have hl:=H.len.fu
   have h2:k<(m.funcs.length:Int):=hin.2
   have:=count_set (l:=p.1.fu) (k:=k.toNat) (by omega) h.2
   show(p.2++[k]).length+(p.1.fu.set k.toNat true).count false=p.2.length+p.1.fu.count false
   rw[List.length_append,List.length_singleton];omega
 ·rename_i h
  refine⟨H,Le.refl _,fun h0=> ?_,rfl⟩
  have:decide (k≥0)=true:=decide_eq_true h0
  rw[this,Bool.true_and,Bool.not_eq_true,Bool.not_eq_false'] at h
  exact h
theorem pfuns_step {m:Tm.Module}(N:Named m){P Q:Int→Prop}:∀(l:List Int) {p:KS×List Int},PI m P Q p→(∀v∈l,0≤v→Hit m 0 v)→PI m P Q (l.foldl pfun p)∧Le p.1 (l.foldl pfun p).1∧(∀v∈l,0≤v→(l.foldl pfun p).1.at 0 v=true)∧meas (l.foldl pfun p)=meas p
 |[],p,H,hl=>⟨H,Le.refl _,fun _ h=>(by cases h),rfl⟩
 |v::l,p,H,hl=>by
  obtain⟨a1,a2,a3,a4⟩:=pfun_step N H (hl v (by simp))
  obtain⟨b1,b2,b3,b4⟩:=pfuns_step N l a1 (fun u hu=>hl u (by simp[hu]))
  rw[List.foldl_cons]
  refine⟨b1,a2.trans b2,fun u hu h0=> ?_,b4.trans a4⟩
  rcases List.mem_cons.1 hu with rfl|hu
  ·exact b2 0 u h0 (a3 h0)
  ·exact b3 u hu h0
theorem ptab_step {m:Tm.Module}(N:Named m){P:Int→Prop}{p:KS×List Int}(H:PI m P (fun _=>False) p){k:Int}(hk:Hit m 1 k):PI m P (fun _=>False) (ptab m p k)∧Le p.1 (ptab m p k).1∧(ptab m p k).1.at 1 k=true∧meas (ptab m p k)=meas p:=by
 have hin:=hk.in N
 unfold ptab
 split
 ·rename_i h;exact⟨H,Le.refl _,h,rfl⟩
 ·have H1:=H.mark N hk p.2 (fun _ h=>h) (fun v hv=>.inl hv) (fun h=>(by cases h)) (fun t=>t=k) (fun _ h=>h.elim) (fun _=>rfl)
  have L1:=le_mark H.len hin.1 hin.2
  obtain⟨b1,b2,b3,b4⟩:=pfuns_step N (tblAt m.tables k).funcs H1 (fun v hv h0=>.entry k v hk hv h0)
  refine⟨⟨b1.len,b1.hit,b1.wk,b1.done,fun t h0 h1 h=> ?_⟩,L1.trans b2,b2 1 k hin.1 (by rw[at_mark H.len hin.1 hin.2 1 hin.1,if_pos ⟨rfl,rfl⟩]),b4.trans rfl⟩
  rcases b1.tabs t h0 h1 h with rfl|a
  ·exact .inr b3
  ·exact .inr a
theorem pnam_step {m:Tm.Module}(N:Named m){P:Int→Prop}{p:KS×List Int}(H:PI m P (fun _=>False) p){x:Ins}(hx:∀c,kindOf x.op=some c→Hit m c x.sym):PI m P (fun _=>False) (pnam m p x)∧Le p.1 (pnam m p x).1∧(∀c,kindOf x.op=some c→(pnam m p x).1.at c x.sym=true)∧meas (pnam m p x)=meas p:=by
 unfold pnam
 split
 ·rename_i e
  have hk:=hx 0 e
  obtain⟨a1,a2,a3,a4⟩:=pfun_step N H (fun _=>hk)
  exact⟨a1,a2,fun c hc=>by rw[e] at hc;cases hc;exact a3 (hk.in N).1,a4⟩
 ·rename_i e
  obtain⟨a1,a2,a3,a4⟩:=ptab_step N H (hx 1 e)
  exact⟨a1,a2,fun c hc=>by rw[e] at hc;cases hc;exact a3,a4⟩
 ·rename_i c n0 n1 e
  have hk:=hx c e
  have hin:=hk.in N
  refine⟨H.mark N hk p.2 (fun _ h=>h) (fun v hv=>.inl hv) (fun h=>absurd h n0) _ (fun _ h=>h) (fun h=>absurd h n1),le_mark H.len hin.1 hin.2,fun c' hc=> ?_, ?_⟩
  ·rw[e] at hc;cases hc
   rw[at_mark H.len hin.1 hin.2 c hin.1,if_pos ⟨rfl,rfl⟩]
  ·unfold meas KS.mark
   split<;>first|rfl|exact absurd rfl n0
 ·rename_i e
  exact⟨H,Le.refl _,fun c hc=>(by rw[e] at hc;cases hc),rfl⟩
theorem pnams_step {m:Tm.Module}(N:Named m){P:Int→Prop}:∀(l:List Ins) {p:KS×List Int},PI m P (fun _=>False) p→(∀x∈l,∀c,kindOf x.op=some c→Hit m c x.sym)→PI m P (fun _=>False) (l.foldl (pnam m) p)∧Le p.1 (l.foldl (pnam m) p).1∧(∀x∈l,∀c,kindOf x.op=some c→(l.foldl (pnam m) p).1.at c x.sym=true)∧meas (l.foldl (pnam m) p)=meas p
 |[],p,H,hl=>⟨H,Le.refl _,fun _ h=>(by cases h),rfl⟩
 |x::l,p,H,hl=>by
  obtain⟨a1,a2,a3,a4⟩:=pnam_step N H (hl x (by simp))
  obtain⟨b1,b2,b3,b4⟩:=pnams_step N l a1 (fun u hu=>hl u (by simp[hu]))
  rw[List.foldl_cons]
  refine⟨b1,a2.trans b2,fun u hu c hc=> ?_,b4.trans a4⟩
  rcases List.mem_cons.1 hu with rfl|hu
  ·exact b2 c _ ((hl u (by simp) c hc).in N).1 (a3 c hc)
  ·exact b3 u hu c hc
theorem work_step {m:Tm.Module}(N:Named m){s:KS}{w:List Int}{j:Int}(H:PI m (fun _=>False) (fun _=>False) (s,w++[j])):PI m (fun _=>False) (fun _=>False) ((insOf (fnAt m.funcs j)).foldl (pnam m) (s,w))∧Le s ((insOf (fnAt m.funcs j)).foldl (pnam m) (s,w)).1∧meas ((insOf (fnAt m.funcs j)).foldl (pnam m) (s,w))+1=meas (s,w++[j]):=by
 have hj:=H.wk j (by simp)
 have hh:=H.hit 0 j hj.1.1 hj.1.2 hj.2
 have H1:PI m (fun i=>i=j) (fun _=>False) (s,w):=⟨H.len,H.hit,fun v hv=>H.wk v (List.mem_append_left _ hv),fun i h0 h1 h=>by
  rcases H.done i h0 h1 h with a|a|a
  ·rcases List.mem_append.1 a with a|a
   ·exact .inl a
   ·exact .inr (.inl (List.mem_singleton.1 a))
  ·exact a.elim
  ·exact .inr (.inr a),H.tabs⟩
 obtain⟨b1,b2,b3,b4⟩:=pnams_step N _ H1 (fun x hx c hc=>.ins j x c hh hx hc)
 refine⟨⟨b1.len,b1.hit,b1.wk,fun i h0 h1 h=> ?_,b1.tabs⟩,b2, ?_⟩
 ·rcases b1.done i h0 h1 h with a|rfl|a
  ·exact .inl a
  ·exact .inr (.inr b3)
  ·exact .inr (.inr a)
 ·rw[b4];unfold meas;simp;omega
theorem work_end {m:Tm.Module}(N:Named m){s:KS}(H:PI m (fun _=>False) (fun _=>False) (s,[]))(ho:∀k:Nat,k<m.funcs.length→(fnAt m.funcs k).out=true→s.at 0 k=true):ToldK m s:=
 told_of N H.len H.hit ho (fun j h0 h1 h=>by
  rcases H.done j h0 h1 h with a|a|a
  ·cases a
  ·exact a.elim
  ·exact a) (fun t h0 h1 h=>by
  rcases H.tabs t h0 h1 h with a|a
  ·exact a.elim
  ·exact a)
end Go.Tm
namespace Go.Tm
def rmk (p:KS×Bool)(c:Nat)(k:Int):KS×Bool:=if p.1.at c k=true then p else(p.1.mark c k,true)
def rins (p:KS×Bool)(x:Ins):KS×Bool:=match kindOf x.op with
 |some c=>rmk p c x.sym
 |none=>p
def rent (p:KS×Bool)(v:Int):KS×Bool:=if 0≤v then rmk p 0 v else p
def rfn (m:Tm.Module)(p:KS×Bool)(k:Nat):KS×Bool:=if p.1.at 0 k=true then(insOf (fnAt m.funcs k)).foldl rins p else p
def rtb (m:Tm.Module)(p:KS×Bool)(t:Nat):KS×Bool:=if p.1.at 1 t=true then(tblAt m.tables t).funcs.foldl rent p else p
def rfns (m:Tm.Module)(p:KS×Bool):KS×Bool:=(List.range m.funcs.length).foldl (rfn m) p
def rtbs (m:Tm.Module)(p:KS×Bool):KS×Bool:=(List.range m.tables.length).foldl (rtb m) p
def roundK (m:Tm.Module)(s:KS):KS×Bool:=rtbs m (rfns m (s,false))
def falses (s:KS):Nat:=s.ex.count false+s.gl.count false+s.ta.count false+s.fu.count false
structure RI (m:Tm.Module)(s:KS):Prop where
 len:KLen m s
 hit:∀c (k:Int),0≤k→k<(cntM m c:Int)→s.at c k=true→Hit m c k
theorem falses_mark {m:Tm.Module}{s:KS}(H:KLen m s){c:Nat}{k:Int}(h0:0≤k)(h1:k<(cntM m c:Int))(hq:s.at c k=false):falses (s.mark c k)+1=falses s:=by
 obtain⟨a1,a2,a3,a4⟩:=H
 match c,h1,hq with
 |0,h1,hq=>
  have h1':k<(m.funcs.length:Int):=h1
  have:=count_set (l:=s.fu) (k:=k.toNat) (by omega) hq
  show s.ex.count false+s.gl.count false+s.ta.count false+(s.fu.set k.toNat true).count false+1=_
  unfold falses;omega
 |1,h1,hq=>
  have h1':k<(m.tables.length:Int):=h1
  have:=count_set (l:=s.ta) (k:=k.toNat) (by omega) hq
  show s.ex.count false+s.gl.count false+(s.ta.set k.toNat true).count false+s.fu.count false+1=_
  unfold falses;omega
 |2,h1,hq=>
  have h1':k<(m.globals.length:Int):=h1
  have:=count_set (l:=s.gl) (k:=k.toNat) (by omega) hq
  show s.ex.count false+(s.gl.set k.toNat true).count false+s.ta.count false+s.fu.count false+1=_
  unfold falses;omega
 |3,h1,hq=>
  have h1':k<(m.externs.length:Int):=h1
  have:=count_set (l:=s.ex) (k:=k.toNat) (by omega) hq
  show(s.ex.set k.toNat true).count false+s.gl.count false+s.ta.count false+s.fu.count false+1=_
  unfold falses;omega
 |n+4,h1,hq=>exact absurd h1 (by simp[cntM];omega)
structure StepK (m:Tm.Module)(p p':KS×Bool)(Cl:KS→Prop):Prop where
 ri:RI m p'.1
 le:Le p.1 p'.1
 few:falses p'.1≤falses p.1
 new:p'.2=true→p.2=true∨falses p'.1<falses p.1
 quiet:p'.2=false→p.2=false∧p'.1=p.1∧Cl p.1
theorem StepK.none {m:Tm.Module}{p:KS×Bool}(H:RI m p.1){Cl:KS→Prop}(hc:Cl p.1):StepK m p p Cl:=⟨H,Le.refl _,Nat.le_refl _,fun h=>.inl h,fun h=>⟨h,rfl,hc⟩⟩
theorem StepK.trans {m:Tm.Module}{a b c:KS×Bool}{C D E:KS→Prop}(h1:StepK m a b C)(h2:StepK m b c D)(hE:∀s,C s→D s→E s):StepK m a c E:=by
 refine⟨h2.ri,h1.le.trans h2.le,Nat.le_trans h2.few h1.few,fun h=> ?_,fun h=> ?_⟩
 ·rcases h2.new h with q|q
  ·rcases h1.new q with q|q
   ·exact .inl q
   ·exact .inr (Nat.lt_of_le_of_lt h2.few q)
  ·exact .inr (Nat.lt_of_lt_of_le q h1.few)
 ·obtain⟨a1,a2,a3⟩:=h2.quiet h
  obtain⟨b1,b2,b3⟩:=h1.quiet a1
  exact⟨b1,a2.trans b2,hE _ b3 (by rw[←b2];exact a3)⟩
theorem rmk_step {m:Tm.Module}(N:Named m){p:KS×Bool}(H:RI m p.1){c:Nat}{k:Int}(hk:Hit m c k):StepK m p (rmk p c k) (fun s=>s.at c k=true):=by
 have hin:=hk.in N
 unfold rmk
 split
 ·rename_i h;exact .none H h
 ·rename_i h
  rw[Bool.not_eq_true] at h
  have hf:=falses_mark H.len hin.1 hin.2 h
  refine⟨⟨H.len.mark c k,fun c' j h0 h1 hj=> ?_⟩,le_mark H.len hin.1 hin.2,by show falses (p.1.mark c k)≤_;omega,fun _=>.inr (by show falses (p.1.mark c k)<_;omega),fun h=>by cases h⟩
  change (p.1.mark c k).at c' j=true at hj
  rw[at_mark H.len hin.1 hin.2 c' h0] at hj
  split at hj
  ·rename_i e;rw[←e.1, ←e.2];exact hk
  ·exact H.hit c' j h0 h1 hj
theorem fold_step {m:Tm.Module}{α:Type}{f:KS×Bool→α→KS×Bool}{Cl:α→KS→Prop}(R:α→KS→Prop)(hR:∀x s s',Le s s'→R x s→R x s')
  (hf:∀x (p:KS×Bool),RI m p.1→R x p.1→StepK m p (f p x) (Cl x)):∀(l:List α) (p:KS×Bool),RI m p.1→(∀x∈l,R x p.1)→StepK m p (l.foldl f p) (fun s=>∀x∈l,Cl x s)
 |[],p,H,_=>.none H (fun _ h=>by cases h)
 |x::l,p,H,hl=>by
  have h1:=hf x p H (hl x (by simp))
  have h2:=fold_step R hR hf l (f p x) h1.ri (fun y hy=>hR y _ _ h1.le (hl y (by simp[hy])))
  rw[List.foldl_cons]
  refine h1.trans h2 fun s a b y hy=> ?_
  rcases List.mem_cons.1 hy with rfl|hy
  ·exact a
  ·exact b y hy
theorem rins_step {m:Tm.Module}(N:Named m)(x:Ins)(p:KS×Bool)(H:RI m p.1)(hx:∀c,kindOf x.op=some c→Hit m c x.sym):StepK m p (rins p x) (fun s=>∀c,kindOf x.op=some c→s.at c x.sym=true):=by
 unfold rins
 split
 ·rename_i c e
  have:=rmk_step N H (hx c e)
  exact⟨this.ri,this.le,this.few,this.new,fun h=>by
   obtain⟨a,b,d⟩:=this.quiet h
   exact⟨a,b,fun c' hc=>by rw[e] at hc;cases hc;exact d⟩⟩
 ·rename_i e
  exact .none H (fun c hc=>by rw[e] at hc;cases hc)
theorem rent_step {m:Tm.Module}(N:Named m)(v:Int)(p:KS×Bool)(H:RI m p.1)(hv:0≤v→Hit m 0 v):StepK m p (rent p v) (fun s=>0≤v→s.at 0 v=true):=by
 unfold rent
 split
 ·rename_i h
  have:=rmk_step N H (hv h)
  exact⟨this.ri,this.le,this.few,this.new,fun q=>by
   obtain⟨a,b,d⟩:=this.quiet q
   exact⟨a,b,fun _=>d⟩⟩
 ·rename_i h;exact .none H (fun q=>absurd q h)
theorem rfn_step {m:Tm.Module}(N:Named m)(k:Nat)(hk:k<m.funcs.length)(p:KS×Bool)(H:RI m p.1):StepK m p (rfn m p k) (fun s=>s.at 0 k=true→DoneF m s k):=by
 unfold rfn
 split
 ·rename_i h
  have hh:=H.hit 0 k (by omega) (by show(k:Int)<(m.funcs.length:Int);omega) h
  have:=fold_step (m:=m) (f:=rins) (Cl:=fun x s=>∀c,kindOf x.op=some c→s.at c x.sym=true) (fun x _=>∀c,kindOf x.op=some c→Hit m c x.sym) (fun _ _ _ _ h=>h) (fun x p H hx=>rins_step N x p H hx) (insOf (fnAt m.funcs k)) p H (fun x hx c hc=>.ins k x c hh hx hc)
  exact⟨this.ri,this.le,this.few,this.new,fun q=>by
   obtain⟨a,b,d⟩:=this.quiet q
   exact⟨a,b,fun _=>d⟩⟩
 ·rename_i h;exact .none H (fun q=>absurd q h)
theorem rtb_step {m:Tm.Module}(N:Named m)(t:Nat)(ht:t<m.tables.length)(p:KS×Bool)(H:RI m p.1):StepK m p (rtb m p t) (fun s=>s.at 1 t=true→DoneT m s t):=by
 unfold rtb
 split
 ·rename_i h
  have hh:=H.hit 1 t (by omega) (by show(t:Int)<(m.tables.length:Int);omega) h
  have:=fold_step (m:=m) (f:=rent) (Cl:=fun v s=>0≤v→s.at 0 v=true) (fun v _=>0≤v→Hit m 0 v) (fun _ _ _ _ h=>h) (fun x p H hx=>rent_step N x p H hx) (tblAt m.tables t).funcs p H (fun v hv h0=>.entry t v hh hv h0)
  exact⟨this.ri,this.le,this.few,this.new,fun q=>by
   obtain⟨a,b,d⟩:=this.quiet q
   exact⟨a,b,fun _=>d⟩⟩
 ·rename_i h;exact .none H (fun q=>absurd q h)
theorem rfns_step {m:Tm.Module}(N:Named m)(p:KS×Bool)(H:RI m p.1):StepK m p (rfns m p) (fun s=>∀j:Int,0≤j→j<(m.funcs.length:Int)→s.at 0 j=true→DoneF m s j):=by
 have:=fold_step (m:=m) (f:=rfn m) (Cl:=fun(k:Nat) s=>s.at 0 k=true→DoneF m s k) (fun k _=>k<m.funcs.length) (fun _ _ _ _ h=>h) (fun k p H hk=>rfn_step N k hk p H) (List.range m.funcs.length) p H (fun k hk=>List.mem_range.1 hk)
 refine⟨this.ri,this.le,this.few,this.new,fun q=> ?_⟩
 obtain⟨a,b,d⟩:=this.quiet q
 refine⟨a,b,fun j h0 h1 h=> ?_⟩
 have:=d j.toNat (List.mem_range.2 (by omega))
 rw[Int.toNat_of_nonneg h0] at this
 exact this h
theorem rtbs_step {m:Tm.Module}(N:Named m)(p:KS×Bool)(H:RI m p.1):StepK m p (rtbs m p) (fun s=>∀t:Int,0≤t→t<(m.tables.length:Int)→s.at 1 t=true→DoneT m s t):=by
 have:=fold_step (m:=m) (f:=rtb m) (Cl:=fun(k:Nat) s=>s.at 1 k=true→DoneT m s k) (fun k _=>k<m.tables.length) (fun _ _ _ _ h=>h) (fun k p H hk=>rtb_step N k hk p H) (List.range m.tables.length) p H (fun k hk=>List.mem_range.1 hk)
 refine⟨this.ri,this.le,this.few,this.new,fun q=> ?_⟩
 obtain⟨a,b,d⟩:=this.quiet q
 refine⟨a,b,fun j h0 h1 h=> ?_⟩
 have:=d j.toNat (List.mem_range.2 (by omega))
 rw[Int.toNat_of_nonneg h0] at this
 exact this h
theorem round_step {m:Tm.Module}(N:Named m)(s:KS)(H:RI m s):StepK m (s,false) (roundK m s) (fun s=>(∀j:Int,0≤j→j<(m.funcs.length:Int)→s.at 0 j=true→DoneF m s j)∧∀t:Int,0≤t→t<(m.tables.length:Int)→s.at 1 t=true→DoneT m s t):=by
 have h1:=rfns_step N (s,false) H
 exact h1.trans (rtbs_step N _ h1.ri) fun s a b=>⟨a,b⟩
theorem round_end {m:Tm.Module}(N:Named m){s:KS}(H:RI m s)(ho:∀k:Nat,k<m.funcs.length→(fnAt m.funcs k).out=true→s.at 0 k=true)(hq:(roundK m s).2=false):(roundK m s).1=s∧ToldK m s:=by
 obtain⟨_,b,c⟩:=(round_step N s H).quiet hq
 exact⟨b,told_of N H.len H.hit ho c.1 c.2⟩
end Go.Tm
namespace Go.Proofs.Ytlcnmocicghilaa.Tk
open Go.Tm Go.Tm.Tab
set_option maxRecDepth 100000
def roomI (x:Ins):Bool:=decide (x.op=18)&&decide (x.num=1)
def markI (s:List Bool)(x:Ins):List Bool:=if roomI x=true then s.set x.to.toNat true else s
def m0 (l:List Ins)(s:List Bool):Nat→List Bool
 |0=>s
 |i+1=>markI (m0 l s i) (insAt l i)
def m1 (bl:List Block)(s:List Bool):Nat→List Bool
 |0=>s
 |i+1=>m0 (blkAt bl i).ins (m1 bl s i) (blkAt bl i).ins.length
def lostB (x:Ins)(n:Nat):Bool:=decide ((n:Int)>0)||(!decide (x.op=20)&& !decide (x.op=21))
def u0 (x:Ins)(s:List Bool):Nat→List Bool
 |0=>s
 |i+1=>if lostB x i=true then(u0 x s i).set (rd x.args i).toNat false else u0 x s i
def u1 (l:List Ins)(s:List Bool):Nat→List Bool
 |0=>s
 |i+1=>u0 (insAt l i) (u1 l s i) (insAt l i).args.length
def u2 (bl:List Block)(s:List Bool):Nat→List Bool
 |0=>s
 |i+1=>u1 (blkAt bl i).ins (u2 bl s i) (blkAt bl i).ins.length
structure InT (N:Nat)(x:Ins):Prop where
 to:roomI x=true→0≤x.to∧x.to<(N:Int)
 args:∀v∈x.args,0≤v∧v<(N:Int)
theorem store_b {h:Heap}{q k:Nat}{s:List Bool}(hk:k<s.length)(v:Bool):storeR h q k 1 (some (.row 1 (s.map bool))) [bool v]=some (h.set q (.row 1 ((s.set k v).map bool))):=by
 rw[storeR_row,if_pos ⟨rfl,by simp;omega,rfl⟩,put_map (f:=bool) hk]
theorem set_at {h:Heap}{q:Nat}{M x:Tm.Node}(hq:h[q]?=some M):(h.set q x)[q]?=some x:=List.getElem?_set_self (List.getElem?_eq_some_iff.1 hq).1
theorem push_at' {h:Heap}{q:Nat}{M x:Tm.Node}(h0:h[q]?=some M):(h++[x])[q]?=some M:=by
 rw[List.getElem?_append_left (List.getElem?_eq_some_iff.1 h0).1];exact h0
section
variable {vals:FuncId→Bool} {call:CallF} {n:Nat}
end
end Go.Proofs.Ytlcnmocicghilaa.Tk
namespace Go.Tm
def StackA (a:Nat)(h:Heap)(c:C)(xs:List Int):Prop:=(xs=[]∧c=.v (.slice none 0 0))∨∃l cells,c=.os l 0 xs.length none∧h[l]?=some (.row 1 cells)∧xs.length≤cells.length∧cells.take xs.length=xs.map int∧a<l
theorem StackA.len {a:Nat}{h:Heap}{c:C}{xs:List Int}(H:StackA a h c xs):lenS c=some (int xs.length):=by
 rcases H with ⟨rfl,rfl⟩|⟨l,cells,rfl,_⟩<;>rfl
theorem StackA.mono {a:Nat}{h h':Heap}{c:C}{xs:List Int}(H:StackA a h c xs)(hh:∀(l:Nat) (nd:Node),a<l→h[l]?=some nd→h'[l]?=some nd):StackA a h' c xs:=by
 rcases H with H|⟨l,cells,h1,h2,h3,h4,h5⟩
 ·exact .inl H
 ·exact .inr ⟨l,cells,h1,hh _ _ h5 h2,h3,h4,h5⟩
theorem StackA.push {a:Nat}{h:Heap}{c:C}{xs:List Int}(H:StackA a h c xs)(v:Int)(hn:xs.length<maxRow)(h0:a<h.length):
  ∃c' h',appendTo (h++[.row 1 [int v]]) none 1 1 [int v] c=some (c',h')∧StackA a h' c' (xs++[v])∧(∀i,i≤a→h'[i]?=h[i]?)∧c'.cells=[c']∧c'.isCell=true:=by
 have e0:∀(nd:Node) (i:Nat),i≤a→(h++[nd])[i]?=h[i]?:=fun nd i hi=>List.getElem?_append_left (by omega)
 rcases H with ⟨rfl,rfl⟩|⟨l,cells,rfl,hl,hle,ht,hl0⟩
 ·refine⟨.os (h.length+1) 0 1 none,h++[.row 1 [int v]]++[.row 1 [int v]],by simp only[appendTo];rw[if_neg (by decide),if_pos (by decide)];simp[newRow,new],.inr ⟨h.length+1,[int v],rfl, ?_,by simp,by simp,by omega⟩,fun i hi=> ?_,rfl,rfl⟩
  ·rw[List.getElem?_append_right (by simp)];simp
  ·rw[List.getElem?_append_left (by simp;omega),e0 _ i hi]
 ·have hlt:=(List.getElem?_eq_some_iff.1 hl).1
  have hl':(h++[Node.row 1 [int v]])[l]?=some (.row 1 cells):=by rw[List.getElem?_append_left hlt];exact hl
  by_cases c1:xs.length+1≤cells.length
  ·refine⟨_,_,by simp only[appendTo,hl'];rw[if_pos ⟨trivial,hn⟩];simp only[Nat.one_ne_zero,if_false,Nat.zero_add,Nat.mul_one];rw[if_pos c1],.inr ⟨l,put cells xs.length [int v],by simp,List.getElem?_set_self (by simp;omega), ?_, ?_,hl0⟩,fun i hi=> ?_,rfl,rfl⟩
   ·simp[put];omega
   ·have e1:(xs++[v]).length=(cells.take xs.length++[int v]).length:=by simp;omega
    have e2:put cells xs.length [int v]=(cells.take xs.length++[int v])++cells.drop (xs.length+1):=by simp[put]
    rw[e1,e2,List.take_left,ht];simp
   ·rw[List.getElem?_set_ne (by omega),e0 _ i hi]
  ·have hcl:xs.length=cells.length:=by omega
   have hc:cells=xs.map int:=by rw[←ht,List.take_of_length_le (by omega)]
   refine⟨.os (h.length+1) 0 (xs.length+1) none,List.set (h++[Node.row 1 [int v]]) l Node.dead++[Node.row 1 (cells++[int v])],by simp only[appendTo,hl'];rw[if_pos ⟨trivial,hn⟩];simp only[Nat.one_ne_zero,if_false,Nat.zero_add,Nat.mul_one];rw[if_neg c1,if_pos hcl];simp[newRow,new],.inr ⟨h.length+1,cells++[int v],by simp, ?_, ?_, ?_,by omega⟩,fun i hi=> ?_,rfl,rfl⟩
   ·rw[List.getElem?_append_right (by simp)];simp
   ·simp[hcl]
   ·rw[hc,List.take_of_length_le (by simp)];simp
   ·rw[List.getElem?_append_left (by simp;omega),List.getElem?_set_ne (by omega),e0 _ i hi]
theorem StackA.pop {a:Nat}{h:Heap}{c:C}{xs:List Int}{v:Int}(H:StackA a h c (xs++[v])):∃l cells,c=.os l 0 (xs.length+1) none∧h[l]?=some (.row 1 cells)∧(cells.drop xs.length).head?=some (int v)∧StackA a h (.os l 0 xs.length none) xs:=by
 rcases H with ⟨h1,_⟩|⟨l,cells,rfl,hl,hle,ht,hl0⟩
 ·simp at h1
 ·simp only[List.length_append,List.length_cons,List.length_nil,Nat.zero_add] at*
  have hx:xs.length<cells.length:=by omega
  refine⟨l,cells,by simp,hl, ?_,.inr ⟨l,cells,rfl,hl,by omega, ?_,hl0⟩⟩
  ·have:=congrArg (fun l=>l[xs.length]?) ht
   simp only[List.getElem?_take,List.map_append,List.map_cons,List.map_nil] at this
   rw[if_pos (by omega),List.getElem?_append_right (by simp)] at this
   rw[List.head?_drop,this]
   simp
  ·have:=congrArg (List.take xs.length) ht
   rw[List.take_take,Nat.min_eq_left (by omega)] at this
   rw[this]
   simp
theorem pfun_len {m:Tm.Module}{p:KS×List Int}(H:KLen m p.1)(k:Int):KLen m (pfun p k).1:=by
 unfold pfun
 split
 ·exact H.mark 0 k
 ·exact H
theorem fold_len' {m:Tm.Module}{α β:Type}{f:KS×β→α→KS×β}(hf:∀p x,KLen m p.1→KLen m (f p x).1):∀(l:List α) (p:KS×β),KLen m p.1→KLen m (l.foldl f p).1
 |[],_,H=>H
 |x::l,p,H=>fold_len' hf l _ (hf p x H)
theorem ptab_len {m:Tm.Module}{p:KS×List Int}(H:KLen m p.1)(k:Int):KLen m (ptab m p k).1:=by
 unfold ptab;split
 ·exact H
 ·exact fold_len' (fun p x h=>pfun_len h x) _ _ (H.mark 1 k)
theorem pnam_len {m:Tm.Module}{p:KS×List Int}(H:KLen m p.1)(x:Ins):KLen m (pnam m p x).1:=by
 unfold pnam;split
 ·exact pfun_len H _
 ·exact ptab_len H _
 ·exact H.mark _ _
 ·exact H
theorem pfun_wk (p:KS×List Int)(k:Int)(hl:k<(p.1.fu.length:Int)):meas (pfun p k)=meas p:=by
 unfold pfun
 split
 ·rename_i h
  rw[Bool.and_eq_true,Bool.not_eq_true'] at h
  have h0:0≤k:=of_decide_eq_true h.1
  have:=count_set (l:=p.1.fu) (k:=k.toNat) (by omega) h.2
  show(p.2++[k]).length+(p.1.fu.set k.toNat true).count false=p.2.length+p.1.fu.count false
  rw[List.length_append,List.length_singleton];omega
 ·rfl
theorem pfuns_wk (n:Nat):∀(l:List Int) (p:KS×List Int),p.1.fu.length=n→(∀v∈l,v<(n:Int))→meas (l.foldl pfun p)=meas p∧(l.foldl pfun p).1.fu.length=n
 |[],p,hn,_=>⟨rfl,hn⟩
 |v::l,p,hn,hl=>by
  have h1:=pfun_wk p v (by rw[hn];exact hl v (by simp))
  have h2:(pfun p v).1.fu.length=n:=by
   unfold pfun
   split
   ·show(p.1.fu.set _ _).length=n
    simp[hn]
   ·exact hn
  obtain⟨a,b⟩:=pfuns_wk n l (pfun p v) h2 (fun u hu=>hl u (by simp[hu]))
  exact⟨a.trans h1,b⟩
end Go.Tm
namespace Go.Proofs.Ytlcnmocicghilaa.Tk
open Go.Tm Go.Tm.Tab
set_option maxRecDepth 100000
structure KAt (m:Tm.Module)(h:Heap)(c:C)(p:KS×List Int):Prop where
 len:KLen m p.1
 k5:h[5]?=some (.row 0 [externs m.externs,globals m.globals,tables m.tables,funcs m.funcs,.os 1 0 m.externs.length (some m.externs.length),.os 2 0 m.globals.length (some m.globals.length),.os 3 0 m.tables.length (some m.tables.length),.os 4 0 m.funcs.length (some m.funcs.length),c])
 r0:h[0]?=some (.row 0 [externs m.externs,globals m.globals,tables m.tables,funcs m.funcs])
 r1:h[1]?=some (.row 1 (p.1.ex.map bool))
 r2:h[2]?=some (.row 1 (p.1.gl.map bool))
 r3:h[3]?=some (.row 1 (p.1.ta.map bool))
 r4:h[4]?=some (.row 1 (p.1.fu.map bool))
 st:StackA 5 h c p.2
theorem KAt.push {m:Tm.Module}{h:Heap}{c:C}{p:KS×List Int}(H:KAt m h c p)(x:Tm.Node):KAt m (h++[x]) c p:=
 ⟨H.len,push_at' H.k5,push_at' H.r0,push_at' H.r1,push_at' H.r2,push_at' H.r3,push_at' H.r4,H.st.mono fun l nd _ hl=>push_at' hl⟩
theorem KAt.fun {m:Tm.Module}{h:Heap}{c:C}{p:KS×List Int}(H:KAt m h c p)(v:Int):KAt m (h.set 4 (.row 1 ((p.1.fu.set v.toNat true).map bool))) c (p.1.mark 0 v,p.2):=
 ⟨H.len.mark 0 v,by rw[List.getElem?_set_ne (by decide)];exact H.k5,by rw[List.getElem?_set_ne (by decide)];exact H.r0,by rw[List.getElem?_set_ne (by decide)];exact H.r1,by rw[List.getElem?_set_ne (by decide)];exact H.r2,by rw[List.getElem?_set_ne (by decide)];exact H.r3,set_at H.r4,H.st.mono fun l nd hl e=>by rw[List.getElem?_set_ne (by omega)];exact e⟩
theorem KAt.tab {m:Tm.Module}{h:Heap}{c:C}{p:KS×List Int}(H:KAt m h c p)(v:Int):KAt m (h.set 3 (.row 1 ((p.1.ta.set v.toNat true).map bool))) c (p.1.mark 1 v,p.2):=
 ⟨H.len.mark 1 v,by rw[List.getElem?_set_ne (by decide)];exact H.k5,by rw[List.getElem?_set_ne (by decide)];exact H.r0,by rw[List.getElem?_set_ne (by decide)];exact H.r1,by rw[List.getElem?_set_ne (by decide)];exact H.r2,set_at H.r3,by rw[List.getElem?_set_ne (by decide)];exact H.r4,H.st.mono fun l nd hl e=>by rw[List.getElem?_set_ne (by omega)];exact e⟩
theorem KAt.glo {m:Tm.Module}{h:Heap}{c:C}{p:KS×List Int}(H:KAt m h c p)(v:Int):KAt m (h.set 2 (.row 1 ((p.1.gl.set v.toNat true).map bool))) c (p.1.mark 2 v,p.2):=
 ⟨H.len.mark 2 v,by rw[List.getElem?_set_ne (by decide)];exact H.k5,by rw[List.getElem?_set_ne (by decide)];exact H.r0,by rw[List.getElem?_set_ne (by decide)];exact H.r1,set_at H.r2,by rw[List.getElem?_set_ne (by decide)];exact H.r3,by rw[List.getElem?_set_ne (by decide)];exact H.r4,H.st.mono fun l nd hl e=>by rw[List.getElem?_set_ne (by omega)];exact e⟩
theorem KAt.ext {m:Tm.Module}{h:Heap}{c:C}{p:KS×List Int}(H:KAt m h c p)(v:Int):KAt m (h.set 1 (.row 1 ((p.1.ex.set v.toNat true).map bool))) c (p.1.mark 3 v,p.2):=
 ⟨H.len.mark 3 v,by rw[List.getElem?_set_ne (by decide)];exact H.k5,by rw[List.getElem?_set_ne (by decide)];exact H.r0,set_at H.r1,by rw[List.getElem?_set_ne (by decide)];exact H.r2,by rw[List.getElem?_set_ne (by decide)];exact H.r3,by rw[List.getElem?_set_ne (by decide)];exact H.r4,H.st.mono fun l nd hl e=>by rw[List.getElem?_set_ne (by omega)];exact e⟩
set_option maxHeartbeats 4000000 in
/-- (*keeper).function. -/
theorem function_ref {m:Tm.Module} {h:Heap} {c:C} {p:KS×List Int} (H:KAt m h c p) (v:Int) (hv:v<(m.funcs.length:Int)) (hw:p.2.length<2^20) (k:Nat):
  ∃r c' h',callAt Try.prog tab (k+1) 24 [.op 5 0,int v] h=some (r,h')∧KAt m h' c' (pfun p v):=by
 have hmr:(2:Nat)^22<maxRow:=by decide
 rw[ref_call (rs:=[]) (N:=32) rfl Try.func24 rfl rfl (by simp)]
 have k5:=H.k5
 have r4:=H.r4
 have hlen:=H.len.fu
 have hp:pfun p v=if (decide (v≥0)&& !rdOf false p.1.fu v)=true then(p.1.mark 0 v,p.2++[v]) else p:=rfl
 cases c1:decide (v≥0) with
 |false=>
  rw[hp,c1,if_neg (by simp)]
  exact⟨_,c,h,by simp +decide -implicitDefEqProofs only[k24,go_sem,c1];rfl,H⟩
 |true=>
  have h0:0≤v:=of_decide_eq_true c1
  have e4:0≤v∧v<(m.funcs.length:Int):=⟨h0,hv⟩
  have e5:v.toNat<p.1.fu.length:=by omega
  cases c2:rdOf false p.1.fu v with
  |true=>
   have c2':p.1.fu.getD v.toNat false=true:=c2
   rw[hp,c1,c2,if_neg (by decide)]
   exact⟨_,c,h,by simp +decide -implicitDefEqProofs only[k24,go_sem,c1,k5,r4,e4,e5,c2'];rfl,H⟩
  |false=>
   have c2':p.1.fu.getD v.toNat false=false:=c2
   rw[hp,c1,c2,if_pos (by decide)]
   have st:=store_b (h:=h) (q:=4) (k:=v.toNat) (s:=p.1.fu) e5 true
   have H1:=H.fun v
   have hlt:=(List.getElem?_eq_some_iff.1 H1.k5).1
   obtain⟨c',h',a1,a2,a3,a4,a5⟩:=H1.st.push v (show p.2.length<maxRow by omega) hlt
   have k5':=H1.k5
   have k5'':=(a3 5 (by omega)).trans H1.k5
   refine⟨_,c',h'.set 5 (.row 0 [externs m.externs,globals m.globals,tables m.tables,funcs m.funcs,.os 1 0 m.externs.length (some m.externs.length),.os 2 0 m.globals.length (some m.globals.length),.os 3 0 m.tables.length (some m.tables.length),.os 4 0 m.funcs.length (some m.funcs.length),c']),by simp +decide -implicitDefEqProofs only[k24,go_sem,c1,k5,r4,e4,e5,c2',st,k5',a1,k5'',a4,a5];rfl, ?_⟩
   refine⟨H1.len,set_at k5'', ?_, ?_, ?_, ?_, ?_,a2.mono fun l nd hl e=>by rw[List.getElem?_set_ne (by omega)];exact e⟩
   ·rw[List.getElem?_set_ne (by decide),a3 0 (by omega)];exact H1.r0
   ·rw[List.getElem?_set_ne (by decide),a3 1 (by omega)];exact H1.r1
   ·rw[List.getElem?_set_ne (by decide),a3 2 (by omega)];exact H1.r2
   ·rw[List.getElem?_set_ne (by decide),a3 3 (by omega)];exact H1.r3
   ·rw[List.getElem?_set_ne (by decide),a3 4 (by omega)];exact H1.r4
theorem fold_next {α β:Type}{f:β→α→β}{l:List α}{i:Nat}{p:β}(d:α)(h:i<l.length):(l.take (i+1)).foldl f p=f ((l.take i).foldl f p) (l.getD i d):=by
 rw[List.take_add_one,List.getElem?_eq_getElem h,List.foldl_append,List.getD_eq_getElem?_getD,List.getElem?_eq_getElem h];rfl
set_option maxHeartbeats 4000000 in
theorem table_loop {m:Tm.Module} (es:List Int) (he:∀v∈es,v<(m.funcs.length:Int)) (hl:es.length<2^20) {k n:Nat} (p:KS×List Int) (hf:p.1.fu.length=m.funcs.length) (hw:meas p<2^20) (mm:Nat) (hm:es.length<mm) (h:Heap) (c:C) (H:KAt m h c p):
  ∃c' h',Tm.Loop Try.prog (valsOf tab) (callAt Try.prog tab (k+1)) n [0,27,28,29] k55b0 mm ⟨[(0,.op 5 0),(27,ints es),(28,int es.length),(29,int 0)],h⟩=some (.exit 0,⟨[(0,.op 5 0),(27,ints es),(28,int es.length),(29,int es.length),(30,bool false)],h'⟩)∧KAt m h' c' (es.foldl pfun p):=by
 obtain⟨s,⟨c',h',rfl,g1⟩,L⟩:=Loop_run (P:=Try.prog) (vals:=valsOf tab) (call:=callAt Try.prog tab (k+1)) (n:=n) (ks:=[0,27,28,29]) (K:=k55b0) (id:=0) es.length
  (fun i s=>∃c h,s=⟨[(0,.op 5 0),(27,ints es),(28,int es.length),(29,int i)],h⟩∧KAt m h c ((es.take i).foldl pfun p))
  (fun s=>∃c h,s=⟨[(0,.op 5 0),(27,ints es),(28,int es.length),(29,int es.length),(30,bool false)],h⟩∧KAt m h c (es.foldl pfun p))
  (fun i e h hi ⟨c,h2,hs,g1⟩=>by
   cases hs
   have e1:decide ((i:Int)<es.length)=true:=by simp;omega
   have e2:0≤(i:Int)∧(i:Int)<es.length:=by omega
   have e3:=wrap_next (n:=es.length) (i:=i) (by omega) (by omega)
   have hv:=he _ (rd_mem e2.1 e2.2)
   have hm2:=pfuns_wk m.funcs.length (es.take i) p hf (fun v hv=>he v (List.mem_of_mem_take hv))
   obtain⟨r,c',h',a1,a2⟩:=function_ref g1 _ hv (by have:=hm2.1;unfold meas at this hw;omega) k
   refine⟨_,⟨c',h',rfl, ?_⟩,by simp +decide -implicitDefEqProofs only[k55b0,go_sem,e1,e2,e3,a1]⟩
   rw[fold_next 0 hi]
   exact a2)
  (fun e h ⟨c,h2,hs,g1⟩=>by
   cases hs
   rw[List.take_length] at g1
   exact⟨_,⟨c,_,rfl,g1⟩,by simp +decide -implicitDefEqProofs only[k55b0,go_sem,Int.lt_irrefl,decide_false]⟩)
  es.length 0 mm _ h (by omega) hm ⟨c,h,rfl,H⟩
 exact⟨c',h',L,g1⟩
set_option maxHeartbeats 4000000 in
/-- (*keeper).table. -/
theorem table_ref {m:Tm.Module} (N:Named m) (hel:∀t∈m.tables,t.funcs.length<2^20) {h:Heap} {c:C} {p:KS×List Int} (H:KAt m h c p) (v:Int) (hv:0≤v∧v<(m.tables.length:Int)) (hw:meas p<2^20) (k:Nat) (hk:2^20≤k):
  ∃r c' h',callAt Try.prog tab (k+2) 55 [.op 5 0,int v] h=some (r,h')∧KAt m h' c' (ptab m p v):=by
 rw[ref_call (rs:=[]) (N:=37) rfl Try.func55 rfl rfl (by simp)]
 have k5:=H.k5
 have r3:=H.r3
 have hlen:=H.len.ta
 have e5:v.toNat<p.1.ta.length:=by omega
 have hp:ptab m p v=if rdOf false p.1.ta v=true then p else(tblAt m.tables v).funcs.foldl pfun (p.1.mark 1 v,p.2):=rfl
 cases c2:rdOf false p.1.ta v with
 |true=>
  have c2':p.1.ta.getD v.toNat false=true:=c2
  rw[hp,c2,if_pos rfl]
  exact⟨_,c,h,by simp +decide -implicitDefEqProofs only[k55,go_sem,k5,r3,hv,e5,c2'];rfl,H⟩
 |false=>
  have c2':p.1.ta.getD v.toNat false=false:=c2
  rw[hp,c2,if_neg (by decide)]
  have st:=store_b (h:=h) (q:=3) (k:=v.toNat) (s:=p.1.ta) e5 true
  have H1:=H.tab v
  have hes:=hel _ (tblAt_in hv)
  have k5':=H1.k5
  obtain⟨c',h',L,a⟩:=table_loop (tblAt m.tables v).funcs (N.tab _ (tblAt_in hv)) hes (k:=k) (n:=k+1) (p.1.mark 1 v,p.2) H.len.fu hw (k+1) (by omega) _ c H1
  exact⟨_,c',h',by simp +decide -implicitDefEqProofs only[k55,go_sem,k5,r3,hv,e5,c2',st,k5',L];rfl,a⟩
end Go.Proofs.Ytlcnmocicghilaa.Tk
namespace Go.Tm
theorem Loop_while {P:Program}{vals:FuncId→Bool}{call:CallF}{n:Nat}{ks:List Nat}{K:K}{id:Nat}(Φ:Nat→St→Prop)(Ψ:St→Prop)
  (hs:∀M e h,Φ M ⟨e,h⟩→(∃s,Ψ s∧exec P vals call n K ⟨keepE e ks,h⟩=some (.exit id,s))∨∃M' s,M'<M∧Φ M' s∧exec P vals call n K ⟨keepE e ks,h⟩=some (.normal,s)):
  ∀(B M m:Nat) (e:Env) (h:Heap),M≤B→B<m→Φ M ⟨e,h⟩→∃s,Ψ s∧Tm.Loop P vals call n ks K m ⟨e,h⟩=some (.exit id,s)
 |0,M,m,e,h,hM,hm,hI=>by
  obtain⟨m,rfl⟩:∃p,m=p+1:=⟨m-1,by omega⟩
  rcases hs M e h hI with ⟨s,h1,h2⟩|⟨M',s,h1,_,_⟩
  ·exact⟨s,h1,by rw[Tm.Loop_succ,h2];rfl⟩
  ·omega
 |B+1,M,m,e,h,hM,hm,hI=>by
  obtain⟨m,rfl⟩:∃p,m=p+1:=⟨m-1,by omega⟩
  rcases hs M e h hI with ⟨s,h1,h2⟩|⟨M',⟨e',h'⟩,h1,h2,h3⟩
  ·exact⟨s,h1,by rw[Tm.Loop_succ,h2];rfl⟩
  ·rw[Tm.Loop_succ,h3]
   exact Loop_while Φ Ψ hs B M' m e' h' (by omega) (by omega) h2
theorem pnam_0 {m:Tm.Module}{p:KS×List Int}{x:Ins}(h:kindOf x.op=some 0):pnam m p x=pfun p x.sym:=by unfold pnam;rw[h];rfl
theorem pnam_1 {m:Tm.Module}{p:KS×List Int}{x:Ins}(h:kindOf x.op=some 1):pnam m p x=ptab m p x.sym:=by unfold pnam;rw[h];rfl
theorem pnam_2 {m:Tm.Module}{p:KS×List Int}{x:Ins}(h:kindOf x.op=some 2):pnam m p x=(p.1.mark 2 x.sym,p.2):=by unfold pnam;rw[h];rfl
theorem pnam_3 {m:Tm.Module}{p:KS×List Int}{x:Ins}(h:kindOf x.op=some 3):pnam m p x=(p.1.mark 3 x.sym,p.2):=by unfold pnam;rw[h];rfl
theorem pnam_none {m:Tm.Module}{p:KS×List Int}{x:Ins}(h:kindOf x.op=none):pnam m p x=p:=by unfold pnam;rw[h]
def SymIn (m:Tm.Module)(x:Ins):Prop:=∀c,kindOf x.op=some c→0≤x.sym∧x.sym<(cntM m c:Int)
theorem kind_cases (op:Int):(kindOf op=some 0∧(op=22∨op=2))∨(kindOf op=some 2∧op=3)∨(kindOf op=some 3∧op=23)∨(kindOf op=some 1∧op=24)∨(kindOf op=none∧op≠22∧op≠2∧op≠3∧op≠23∧op≠24):=by
 unfold kindOf
 by_cases a:op=22∨op=2
 ·exact .inl ⟨if_pos a,a⟩
 ·rw[if_neg a]
  by_cases b:op=3
  ·exact .inr (.inl ⟨if_pos b,b⟩)
  ·rw[if_neg b]
   by_cases c:op=23
   ·exact .inr (.inr (.inl ⟨if_pos c,c⟩))
   ·rw[if_neg c]
    by_cases d:op=24
    ·exact .inr (.inr (.inr (.inl ⟨if_pos d,d⟩)))
    ·exact .inr (.inr (.inr (.inr ⟨if_neg d,fun h=>a (.inl h),fun h=>a (.inr h),b,c,d⟩)))
theorem pnam_wk {m:Tm.Module}(N:Named m){p:KS×List Int}(H:KLen m p.1){x:Ins}(hx:SymIn m x):meas (pnam m p x)=meas p:=by
 rcases kind_cases x.op with ⟨a,_⟩|⟨a,_⟩|⟨a,_⟩|⟨a,_⟩|⟨a,_⟩
 ·rw[pnam_0 a];exact pfun_wk p x.sym (by rw[H.fu];exact(hx 0 a).2)
 ·rw[pnam_2 a];rfl
 ·rw[pnam_3 a];rfl
 ·rw[pnam_1 a]
  unfold ptab
  split
  ·rfl
  ·exact(pfuns_wk m.funcs.length _ (p.1.mark 1 x.sym,p.2) H.fu (N.tab _ (tblAt_in (hx 1 a)))).1
 ·rw[pnam_none a]
theorem pnams_wk {m:Tm.Module}(N:Named m):∀(l:List Ins) (p:KS×List Int),KLen m p.1→(∀x∈l,SymIn m x)→meas (l.foldl (pnam m) p)=meas p∧KLen m (l.foldl (pnam m) p).1
 |[],p,H,_=>⟨rfl,H⟩
 |x::l,p,H,hl=>by
  obtain⟨a,b⟩:=pnams_wk N l (pnam m p x) (pnam_len H x) (fun y hy=>hl y (by simp[hy]))
  exact⟨a.trans (pnam_wk N H (hl x (by simp))),b⟩
def pblk (m:Tm.Module)(p:KS×List Int)(b:Block):KS×List Int:=b.ins.foldl (pnam m) p
theorem pblks_wk {m:Tm.Module}(N:Named m):∀(l:List Block) (p:KS×List Int),KLen m p.1→(∀b∈l,∀x∈b.ins,SymIn m x)→meas (l.foldl (pblk m) p)=meas p∧KLen m (l.foldl (pblk m) p).1
 |[],p,H,_=>⟨rfl,H⟩
 |b::l,p,H,hl=>by
  obtain⟨c1,c2⟩:=pnams_wk N b.ins p H (hl b (by simp))
  obtain⟨a,b⟩:=pblks_wk N l (pblk m p b) c2 (fun y hy=>hl y (by simp[hy]))
  exact⟨a.trans c1,b⟩
theorem pblks_flat (m:Tm.Module)(f:Tm.Func)(p:KS×List Int):f.blocks.foldl (pblk m) p=(insOf f).foldl (pnam m) p:=by
 unfold insOf;rw[List.foldl_flatMap];rfl
theorem Named.sym {m:Tm.Module}(N:Named m){f:Tm.Func}(hf:f∈m.funcs){b:Block}(hb:b∈f.blocks){x:Ins}(hx:x∈b.ins):SymIn m x:=N.ins f hf x (List.mem_flatMap.2 ⟨b,hb,hx⟩)
end Go.Tm
namespace Go.Proofs.Ytlcnmocicghilaa.Tk
open Go.Tm Go.Tm.Tab
set_option maxRecDepth 100000
set_option maxHeartbeats 8000000 in
/-- (*keeper).names. -/
theorem names_ref {m:Tm.Module} (N:Named m) (hel:∀t∈m.tables,t.funcs.length<2^20) {h:Heap} {c:C} {p:KS×List Int} (H:KAt m h c p) (x:Ins) (hx:SymIn m x) (hw:meas p<2^20) (k:Nat) (hk:2^20≤k):
  ∃r c' h',callAt Try.prog tab (k+3) 25 [.op 5 0,.agg (encIns x)] h=some (r,h')∧KAt m h' c' (pnam m p x):=by
 rw[ref_call (rs:=[]) (N:=37) rfl Try.func25 rfl rfl (by simp)]
 have H1:=H.push (.row 0 (encIns x))
 simp only[encIns] at H1
 have k5:=H1.k5
 rcases kind_cases x.op with ⟨a,e⟩|⟨a,e⟩|⟨a,e⟩|⟨a,e⟩|⟨a,e1,e2,e3,e4,e5⟩
 ·rw[pnam_0 a]
  obtain⟨r,c',h',a1,a2⟩:=function_ref H1 x.sym (hx 0 a).2 (by unfold meas at hw;omega) (k+1)
  have a1':callAt Try.prog tab (k+2) 24 [.op 5 0,int x.sym] (h++[.row 0 [int x.op,int x.type,int x.to,int x.sym,int x.num,ints x.args,ints x.into]])=some (r,h'):=a1
  cases q:decide (x.op=22) with
  |true=>
   exact⟨_,c',h',by simp +decide -implicitDefEqProofs only[k25,go_sem,encIns,get_new,q,a1'];rfl,a2⟩
  |false=>
   have q2:decide (x.op=2)=true:=decide_eq_true (e.resolve_left (of_decide_eq_false q))
   exact⟨_,c',h',by simp +decide -implicitDefEqProofs only[k25,go_sem,encIns,get_new,q,q2,a1'];rfl,a2⟩
 ·rw[pnam_2 a]
  have hs:=hx 2 a
  have hs2:0≤x.sym∧x.sym<(m.globals.length:Int):=hs
  have hl:=H.len.gl
  have st:=store_b (h:=h++[.row 0 [int x.op,int x.type,int x.to,int x.sym,int x.num,ints x.args,ints x.into]]) (q:=2) (k:=x.sym.toNat) (s:=p.1.gl) (by omega) true
  have r2:=H1.r2
  have q1:decide (x.op=22)=false:=by rw[e];rfl
  have q2:decide (x.op=2)=false:=by rw[e];rfl
  have q3:decide (x.op=3)=true:=by rw[e];rfl
  exact⟨_,c,_,by simp +decide -implicitDefEqProofs only[k25,go_sem,encIns,get_new,q1,q2,q3,k5,hs2,r2,st];rfl,H1.glo x.sym⟩
 ·rw[pnam_3 a]
  have hs:=hx 3 a
  have hs2:0≤x.sym∧x.sym<(m.externs.length:Int):=hs
  have hl:=H.len.ex
  have st:=store_b (h:=h++[.row 0 [int x.op,int x.type,int x.to,int x.sym,int x.num,ints x.args,ints x.into]]) (q:=1) (k:=x.sym.toNat) (s:=p.1.ex) (by omega) true
  have r1:=H1.r1
  have q1:decide (x.op=22)=false:=by rw[e];rfl
  have q2:decide (x.op=2)=false:=by rw[e];rfl
  have q3:decide (x.op=3)=false:=by rw[e];rfl
  have q4:decide (x.op=23)=true:=by rw[e];rfl
  exact⟨_,c,_,by simp +decide -implicitDefEqProofs only[k25,go_sem,encIns,get_new,q1,q2,q3,q4,k5,hs2,r1,st];rfl,H1.ext x.sym⟩
 ·rw[pnam_1 a]
  obtain⟨r,c',h',a1,a2⟩:=table_ref N hel H1 x.sym (hx 1 a) hw k hk
  have q1:decide (x.op=22)=false:=by rw[e];rfl
  have q2:decide (x.op=2)=false:=by rw[e];rfl
  have q3:decide (x.op=3)=false:=by rw[e];rfl
  have q4:decide (x.op=23)=false:=by rw[e];rfl
  have q5:decide (x.op=24)=true:=by rw[e];rfl
  exact⟨_,c',h',by simp +decide -implicitDefEqProofs only[k25,go_sem,encIns,get_new,q1,q2,q3,q4,q5,a1];rfl,a2⟩
 ·rw[pnam_none a]
  have q1:decide (x.op=22)=false:=decide_eq_false e1
  have q2:decide (x.op=2)=false:=decide_eq_false e2
  have q3:decide (x.op=3)=false:=decide_eq_false e3
  have q4:decide (x.op=23)=false:=decide_eq_false e4
  have q5:decide (x.op=24)=false:=decide_eq_false e5
  exact⟨_,c,_,by simp +decide -implicitDefEqProofs only[k25,go_sem,encIns,get_new,q1,q2,q3,q4,q5];rfl,H1⟩
set_option maxHeartbeats 4000000 in
theorem kept_l1 {m:Tm.Module} (N:Named m) (hel:∀t∈m.tables,t.funcs.length<2^20) (u v w:C) (l:List Ins) (hl:l.length<2^50) (hx:∀x∈l,SymIn m x) {k n:Nat} (hk:2^20≤k) (p:KS×List Int) (hw:meas p<2^20) (mm:Nat) (hm:l.length<mm) (h:Heap) (c:C) (H:KAt m h c p):
  ∃c' h',Tm.Loop Try.prog (valsOf tab) (callAt Try.prog tab (k+3)) n [1,6,87,88,89,94,95,96] k8b1 mm ⟨[(1,.op 0 0),(6,.op 5 0),(87,u),(88,v),(89,w),(94,inss l),(95,int l.length),(96,int 0)],h⟩=some (.exit 6,⟨[(1,.op 0 0),(6,.op 5 0),(87,u),(88,v),(89,w),(94,inss l),(95,int l.length),(96,int l.length),(97,bool false)],h'⟩)∧KAt m h' c' (l.foldl (pnam m) p):=by
 obtain⟨s,⟨c',h',rfl,g1⟩,L⟩:=Loop_run (P:=Try.prog) (vals:=valsOf tab) (call:=callAt Try.prog tab (k+3)) (n:=n) (ks:=[1,6,87,88,89,94,95,96]) (K:=k8b1) (id:=6) l.length
  (fun i s=>∃c h,s=⟨[(1,.op 0 0),(6,.op 5 0),(87,u),(88,v),(89,w),(94,inss l),(95,int l.length),(96,int i)],h⟩∧KAt m h c ((l.take i).foldl (pnam m) p))
  (fun s=>∃c h,s=⟨[(1,.op 0 0),(6,.op 5 0),(87,u),(88,v),(89,w),(94,inss l),(95,int l.length),(96,int l.length),(97,bool false)],h⟩∧KAt m h c (l.foldl (pnam m) p))
  (fun i e h hi ⟨c,h2,hs,g1⟩=>by
   cases hs
   have e1:decide ((i:Int)<l.length)=true:=by simp;omega
   have e2:0≤(i:Int)∧(i:Int)<l.length:=by omega
   have e3:=wrap_next (n:=l.length) (i:=i) (by omega) (by omega)
   have hx1:=hx _ (insAt_mem e2)
   have hm2:=pnams_wk N (l.take i) p H.len (fun x hx'=>hx x (List.mem_of_mem_take hx'))
   have hn:=fold_next (f:=pnam m) (p:=p) (default:Ins) hi
   have hat:l.getD i default=insAt l i:=rfl
   rw[hat] at hn
   generalize hxi:insAt l i=x at hx1 hn
   obtain⟨r,c',h',a1,a2⟩:=names_ref N hel (g1.push (.row 0 (encIns x))) x hx1 (by rw[hm2.1];exact hw) k hk
   simp only[encIns] at a1
   rw[hn]
   exact⟨_,⟨c',h',rfl,a2⟩,by simp +decide -implicitDefEqProofs only[k8b1,go_sem,e1,e2,e3,hxi,set_new,get_new,encIns,a1]⟩)
  (fun e h ⟨c,h2,hs,g1⟩=>by
   cases hs
   rw[List.take_length] at g1
   exact⟨_,⟨c,_,rfl,g1⟩,by simp +decide -implicitDefEqProofs only[k8b1,go_sem,Int.lt_irrefl,decide_false]⟩)
  l.length 0 mm _ h (by omega) hm ⟨c,h,rfl,H⟩
 exact⟨c',h',L,g1⟩
end Go.Proofs.Ytlcnmocicghilaa.Tk
namespace Go.Proofs.Ytlcnmocicghilaa.Tk
open Go.Tm Go.Tm.Tab
set_option maxRecDepth 100000
set_option maxHeartbeats 4000000 in
theorem kept_l2 {m:Tm.Module} (N:Named m) (hel:∀t∈m.tables,t.funcs.length<2^20) (l:List Block) (hl:l.length<2^50) {k n:Nat} (hb:∀b∈l,(b.ins.length<n∧b.ins.length<2^50)∧∀x∈b.ins,SymIn m x) (hk:2^20≤k) (p:KS×List Int) (hw:meas p<2^20) (mm:Nat) (hm:l.length<mm) (h:Heap) (c:C) (H:KAt m h c p):
  ∃c' h',Tm.Loop Try.prog (valsOf tab) (callAt Try.prog tab (k+3)) n [1,6,87,88,89] k8b2 mm ⟨[(1,.op 0 0),(6,.op 5 0),(87,blocks l),(88,int l.length),(89,int 0)],h⟩=some (.exit 4,⟨[(1,.op 0 0),(6,.op 5 0),(87,blocks l),(88,int l.length),(89,int l.length),(90,bool false)],h'⟩)∧KAt m h' c' (l.foldl (pblk m) p):=by
 obtain⟨s,⟨c',h',rfl,g1⟩,L⟩:=Loop_run (P:=Try.prog) (vals:=valsOf tab) (call:=callAt Try.prog tab (k+3)) (n:=n) (ks:=[1,6,87,88,89]) (K:=k8b2) (id:=4) l.length
  (fun i s=>∃c h,s=⟨[(1,.op 0 0),(6,.op 5 0),(87,blocks l),(88,int l.length),(89,int i)],h⟩∧KAt m h c ((l.take i).foldl (pblk m) p))
  (fun s=>∃c h,s=⟨[(1,.op 0 0),(6,.op 5 0),(87,blocks l),(88,int l.length),(89,int l.length),(90,bool false)],h⟩∧KAt m h c (l.foldl (pblk m) p))
  (fun i e h hi ⟨c,h2,hs,g1⟩=>by
   cases hs
   have e1:decide ((i:Int)<l.length)=true:=by simp;omega
   have e2:0≤(i:Int)∧(i:Int)<l.length:=by omega
   have e3:=wrap_next (n:=l.length) (i:=i) (by omega) (by omega)
   obtain⟨⟨hn,hx⟩,hI⟩:=hb _ (blkAt_mem e2)
   have hm2:=pblks_wk N (l.take i) p H.len (fun b hb'=>(hb b (List.mem_of_mem_take hb')).2)
   have hnx:=fold_next (f:=pblk m) (p:=p) (default:Block) hi
   have hat:l.getD i default=blkAt l i:=rfl
   have hpb:∀q b,pblk m q b=b.ins.foldl (pnam m) q:=fun _ _=>rfl
   rw[hat,hpb] at hnx
   generalize hbi:(blkAt l i).ins=ins at hn hx hI hnx
   obtain⟨c',h',L0,a2⟩:=kept_l1 N hel (blocks l) (int l.length) (int i) ins hx hI (n:=n) hk _ (by rw[hm2.1];exact hw) n hn _ c (g1.push (.row 0 [inss ins]))
   rw[hnx]
   exact⟨_,⟨c',h',rfl,a2⟩,by simp +decide -implicitDefEqProofs only[k8b2,go_sem,e1,e2,e3,hbi,set_new,get_new,L0]⟩)
  (fun e h ⟨c,h2,hs,g1⟩=>by
   cases hs
   rw[List.take_length] at g1
   exact⟨_,⟨c,_,rfl,g1⟩,by simp +decide -implicitDefEqProofs only[k8b2,go_sem,Int.lt_irrefl,decide_false]⟩)
  l.length 0 mm _ h (by omega) hm ⟨c,h,rfl,H⟩
 exact⟨c',h',L,g1⟩
structure KOk (m:Tm.Module)(n:Nat):Prop where
 nm:Named m
 tb:∀t∈m.tables,t.funcs.length<2^20
 fn:∀f∈m.funcs,f.blocks.length<n∧f.blocks.length<2^50∧∀b∈f.blocks,b.ins.length<n∧b.ins.length<2^50
set_option maxHeartbeats 4000000 in
theorem kept_l3 {m:Tm.Module} {k n:Nat} (O:KOk m n) (hk:2^20≤k) (B:Nat) (hB:B<2^20) (ho:KS→Prop) (hmo:∀s s',Le s s'→ho s→ho s') (p:KS×List Int) (hP:PI m (fun _=>False) (fun _=>False) p) (h0:ho p.1) (hw:meas p≤B) (mm:Nat) (hm:B<mm) (e:Env) (he:keepE e [1,6]=[(1,.op 0 0),(6,.op 5 0)]) (h:Heap) (c:C) (H:KAt m h c p):
  ∃c' h' s',Tm.Loop Try.prog (valsOf tab) (callAt Try.prog tab (k+3)) n [1,6] k8b3 mm ⟨e,h⟩=some (.exit 2,⟨[(1,.op 0 0),(6,.op 5 0),(55,bool false)],h'⟩)∧KAt m h' c' (s',[])∧PI m (fun _=>False) (fun _=>False) (s',[])∧ho s':=by
 obtain⟨s,⟨c',h',s',rfl,g1,g2,g3⟩,L⟩:=Loop_while (P:=Try.prog) (vals:=valsOf tab) (call:=callAt Try.prog tab (k+3)) (n:=n) (ks:=[1,6]) (K:=k8b3) (id:=2)
  (fun M t=>∃c h p,keepE t.env [1,6]=[(1,.op 0 0),(6,.op 5 0)]∧t.heap=h∧KAt m h c p∧PI m (fun _=>False) (fun _=>False) p∧ho p.1∧meas p=M∧M≤B)
  (fun t=>∃c h s',t=⟨[(1,.op 0 0),(6,.op 5 0),(55,bool false)],h⟩∧KAt m h c (s',[])∧PI m (fun _=>False) (fun _=>False) (s',[])∧ho s')
  (fun M e h ⟨c,h2,p,hs2,hh,g1,g2,g3,g4,g5⟩=>by
   change h=h2 at hh
   subst hh
   change keepE e [1,6]=_ at hs2
   rw[hs2]
   obtain⟨s,w⟩:=p
   have k5:=g1.k5
   have hlen:=g1.st.len
   rcases List.eq_nil_or_concat w with rfl|⟨w,j,rfl⟩
   ·left
    have hl0:lenS c=some (int 0):=hlen
    have d0:decide ((0:Int)>0)=false:=rfl
    exact⟨_,⟨c,_,s,rfl,g1,g2,g3⟩,by simp +decide -implicitDefEqProofs only[k8b3,go_sem,k5,hl0,d0]⟩
   ·right
    rw[List.concat_eq_append] at*
    obtain⟨l,cells,rfl,hl,hd,hS'⟩:=g1.st.pop
    have hwl:w.length+1≤B:=by unfold meas at g4;simp at g4;omega
    have e1:decide (((w.length+1:Nat):Int)>0)=true:=decide_eq_true (by omega)
    have e2:IntKind.i64.wrap (((w.length+1:Nat):Int)-1)=(w.length:Int):=by rw[wrap_in (by omega) (by omega)];omega
    have e3:0≤(w.length:Int)∧(w.length:Int)<((w.length+1:Nat):Int):=by omega
    have hsl:=slice22 (l:=l) (len:=w.length) hl
    have H2:KAt m (h.set 5 (.row 0 [externs m.externs,globals m.globals,tables m.tables,funcs m.funcs,.os 1 0 m.externs.length (some m.externs.length),.os 2 0 m.globals.length (some m.globals.length),.os 3 0 m.tables.length (some m.tables.length),.os 4 0 m.funcs.length (some m.funcs.length),.os l 0 w.length none])) (.os l 0 w.length none) (s,w):=by
     refine⟨g1.len,set_at g1.k5, ?_, ?_, ?_, ?_, ?_,hS'.mono fun q nd hq e=>by rw[List.getElem?_set_ne (by omega)];exact e⟩
     ·rw[List.getElem?_set_ne (by decide)];exact g1.r0
     ·rw[List.getElem?_set_ne (by decide)];exact g1.r1
     ·rw[List.getElem?_set_ne (by decide)];exact g1.r2
     ·rw[List.getElem?_set_ne (by decide)];exact g1.r3
     ·rw[List.getElem?_set_ne (by decide)];exact g1.r4
    have hj:=g2.wk j (by simp)
    obtain⟨ws1,ws2,ws3⟩:=work_step O.nm g2
    have hf:=fnAt_in hj.1
    obtain⟨o1,o2,o3⟩:=O.fn _ hf
    have hpf:=pblks_flat m (fnAt m.funcs j) (s,w)
    have r0:=H2.r0
    have hsym:∀b∈(fnAt m.funcs j).blocks,∀x∈b.ins,SymIn m x:=fun b hb x hx=>O.nm.sym hf hb hx
    rw[←hpf] at ws1 ws2 ws3
    generalize hfa:fnAt m.funcs j=f at o1 o2 o3 ws1 ws2 ws3 hsym
    obtain⟨c',h',L0,a2⟩:=kept_l2 O.nm O.tb f.blocks o2 (n:=n) (fun b hb=>⟨o3 b hb,hsym b hb⟩) hk (s,w) (by unfold meas at g4⊢;simp at g4⊢;omega) n o1 _ _ H2
    have hj1:=hj.1
    refine⟨meas (f.blocks.foldl (pblk m) (s,w)),⟨[(1,.op 0 0),(6,.op 5 0),(87,blocks f.blocks),(88,int f.blocks.length),(89,int f.blocks.length),(90,bool false)],h'⟩,by omega,⟨c',h',_,rfl,rfl,a2,ws1,hmo _ _ ws2 g3,rfl,by omega⟩,by simp +decide -implicitDefEqProofs only[k8b3,go_sem,k5,e1,e2,e3,Int.toNat_natCast,hl,hd,hsl,r0,hj1,hfa,L0]⟩)
  B (meas p) mm e h hw hm ⟨c,h,p,he,rfl,H,hP,h0,rfl,hw⟩
 exact⟨c',h',s',L,g1,g2,g3⟩
def outs (m:Tm.Module)(p:KS×List Int)(i:Nat):KS×List Int:=(List.range i).foldl (fun p (k:Nat)=>if (fnAt m.funcs k).out=true then pfun p k else p) p
theorem outs_next (m:Tm.Module)(p:KS×List Int)(i:Nat):outs m p (i+1)=if (fnAt m.funcs i).out=true then pfun (outs m p i) i else outs m p i:=by
 unfold outs;rw[List.range_succ,List.foldl_append];rfl
theorem outs_step {m:Tm.Module}(N:Named m){p:KS×List Int}(H:PI m (fun _=>False) (fun _=>False) p):∀i,i≤m.funcs.length→PI m (fun _=>False) (fun _=>False) (outs m p i)∧meas (outs m p i)=meas p∧∀k:Nat,k<i→(fnAt m.funcs k).out=true→(outs m p i).1.at 0 k=true
 |0,_=>⟨H,rfl,fun k hk=>by omega⟩
 |i+1,hi=>by
  obtain⟨a1,a2,a3⟩:=outs_step N H i (by omega)
  rw[outs_next]
  split
  ·rename_i ho
   obtain⟨b1,b2,b3,b4⟩:=pfun_step N a1 (k:=(i:Int)) (fun _=>.out i (by omega) ho)
   refine⟨b1,b4.trans a2,fun k hk hko=> ?_⟩
   by_cases e:k=i
   ·subst e;exact b3 (by omega)
   ·exact b2 0 k (by omega) (a3 k (by omega) hko)
  ·rename_i ho
   refine⟨a1,a2,fun k hk hko=> ?_⟩
   by_cases e:k=i
   ·subst e;exact absurd hko ho
   ·exact a3 k (by omega) hko
set_option maxHeartbeats 4000000 in
theorem kept_l0 {m:Tm.Module} (N:Named m) {k n:Nat} (hl:m.funcs.length<2^50) (p:KS×List Int) (hP:PI m (fun _=>False) (fun _=>False) p) (hw:meas p<2^20) (mm:Nat) (hm:m.funcs.length<mm) (h:Heap) (c:C) (H:KAt m h c p):
  ∃c' h',Tm.Loop Try.prog (valsOf tab) (callAt Try.prog tab (k+3)) n [1,6,37,38,39] k8b0 mm ⟨[(1,.op 0 0),(6,.op 5 0),(37,funcs m.funcs),(38,int m.funcs.length),(39,int 0)],h⟩=some (.exit 0,⟨[(1,.op 0 0),(6,.op 5 0),(37,funcs m.funcs),(38,int m.funcs.length),(39,int m.funcs.length),(40,bool false)],h'⟩)∧KAt m h' c' (outs m p m.funcs.length):=by
 obtain⟨s,⟨c',h',rfl,g1⟩,L⟩:=Loop_run (P:=Try.prog) (vals:=valsOf tab) (call:=callAt Try.prog tab (k+3)) (n:=n) (ks:=[1,6,37,38,39]) (K:=k8b0) (id:=0) m.funcs.length
  (fun i s=>∃c h,s=⟨[(1,.op 0 0),(6,.op 5 0),(37,funcs m.funcs),(38,int m.funcs.length),(39,int i)],h⟩∧KAt m h c (outs m p i))
  (fun s=>∃c h,s=⟨[(1,.op 0 0),(6,.op 5 0),(37,funcs m.funcs),(38,int m.funcs.length),(39,int m.funcs.length),(40,bool false)],h⟩∧KAt m h c (outs m p m.funcs.length))
  (fun i e h hi ⟨c,h2,hs,g1⟩=>by
   cases hs
   have e1:decide ((i:Int)<m.funcs.length)=true:=by simp;omega
   have e2:0≤(i:Int)∧(i:Int)<m.funcs.length:=by omega
   have e3:=wrap_next (n:=m.funcs.length) (i:=i) (by omega) (by omega)
   have hst:=outs_step N hP i (by omega)
   have hn:=outs_next m p i
   generalize hfa:fnAt m.funcs i=f at hn
   have g2:=g1.push (.row 0 (encFunc f))
   cases ho:f.out with
   |true=>
    rw[ho,if_pos rfl] at hn
    obtain⟨r,c',h',a1,a2⟩:=function_ref g2 (i:Int) (by omega) (by have:=hst.2.1;unfold meas at this hw;omega) (k+2)
    replace a1:callAt Try.prog tab (k+3) 24 [.op 5 0,int i] (h++[.row 0 (encFunc f)])=some (r,h'):=a1
    rw[enc_func,ho] at a1
    rw[hn]
    exact⟨_,⟨c',h',rfl,a2⟩,by simp +decide -implicitDefEqProofs only[k8b0,go_sem,e1,e2,e3,hfa,enc_func,ho,set_new,get_new,a1]⟩
   |false=>
    rw[ho,if_neg (by decide)] at hn
    rw[enc_func,ho] at g2
    rw[hn]
    exact⟨_,⟨c,_,rfl,g2⟩,by simp +decide -implicitDefEqProofs only[k8b0,go_sem,e1,e2,e3,hfa,enc_func,ho,set_new,get_new]⟩)
  (fun e h ⟨c,h2,hs,g1⟩=>by
   cases hs
   exact⟨_,⟨c,_,rfl,g1⟩,by simp +decide -implicitDefEqProofs only[k8b0,go_sem,Int.lt_irrefl,decide_false]⟩)
  m.funcs.length 0 mm _ h (by omega) hm ⟨c,h,rfl,H⟩
 exact⟨c',h',L,g1⟩
end Go.Proofs.Ytlcnmocicghilaa.Tk
namespace Go.Proofs.Ytlcnmocicghilaa.Tk
open Go.Tm Go.Tm.Tab
set_option maxRecDepth 100000
theorem rep_bools (n:Nat)(c:C):rep n [c]=List.replicate n c:=by
 induction n with
 |zero=>rfl
 |succ n ih=>rw[rep_succ,ih];rfl
def s0K (m:Tm.Module):KS:=⟨List.replicate m.externs.length false,List.replicate m.globals.length false,List.replicate m.tables.length false,List.replicate m.funcs.length false⟩
theorem s0_len (m:Tm.Module):KLen m (s0K m):=⟨by simp[s0K],by simp[s0K],by simp[s0K],by simp[s0K]⟩
theorem rd_none (n:Nat)(k:Int):rdOf false (List.replicate n false) k=false:=by
 unfold rdOf;rw[List.getD_eq_getElem?_getD,List.getElem?_replicate];split<;>rfl
theorem s0_at (m:Tm.Module)(c:Nat)(k:Int):(s0K m).at c k=false:=by
 match c with
 |0=>exact rd_none _ k
 |1=>exact rd_none _ k
 |2=>exact rd_none _ k
 |3=>exact rd_none _ k
 |n+4=>rfl
theorem map_rep (n:Nat):(List.replicate n false).map bool=List.replicate n (.v (.bool false)):=by rw[List.map_replicate]
theorem view_rows4 {h:Heap}{s:KS}{m:Tm.Module}(L:KLen m s)(r1:h[1]?=some (.row 1 (s.ex.map bool)))(r2:h[2]?=some (.row 1 (s.gl.map bool)))(r3:h[3]?=some (.row 1 (s.ta.map bool)))(r4:h[4]?=some (.row 1 (s.fu.map bool))):
  view true h depth (.tup [.os 1 0 m.externs.length (some m.externs.length),.os 2 0 m.globals.length (some m.globals.length),.os 3 0 m.tables.length (some m.tables.length),.os 4 0 m.funcs.length (some m.funcs.length)])=some (.tup [bools s.ex,bools s.gl,bools s.ta,bools s.fu]):=by
 have v1:=view_os_bools (cl:=true) (n:=9) (cap:=some m.externs.length) r1
 have v2:=view_os_bools (cl:=true) (n:=9) (cap:=some m.globals.length) r2
 have v3:=view_os_bools (cl:=true) (n:=9) (cap:=some m.tables.length) r3
 have v4:=view_os_bools (cl:=true) (n:=9) (cap:=some m.funcs.length) r4
 rw[L.ex] at v1
 rw[L.gl] at v2
 rw[L.ta] at v3
 rw[L.fu] at v4
 simp only[depth,view_tup,mapC_cons,mapC_nil,v1,v2,v3,v4,Option.bind_some,Option.map_some]
def keptC (m:Tm.Module)(s:KS):C:=.tup [bools s.ex,bools s.gl,bools s.ta,bools s.fu]
set_option maxHeartbeats 8000000 in
/-- strip.Kept. -/
theorem kept_runs (m:Tm.Module) (F:FineM m) (O:checkN m=0→KOk m (2^21)):
  (checkN m≠0→Runs Try.prog tab (2^36+300) 8 [.agg (encModule m)] (.tup [bools [],bools [],bools [],bools []]))∧(checkN m=0→∃s,ToldK m s∧Runs Try.prog tab (2^36+300) 8 [.agg (encModule m)] (keptC m s)):=by
 have f1:=F.externs
 have f2:=F.globals
 have f3:=F.tables
 have f4:=F.funcs
 have hv:valsOf tab 23=true:=by decide
 constructor
 ·intro hc
  refine Runs.by (rs:=[.tmp 2,.tmp 3,.tmp 4,.tmp 5]) (N:=121) rfl Try.func8 rfl rfl (by simp) fun k hk=> ?_
  rw[enc_module]
  have hck:∀h,callAt Try.prog tab k 23 [.agg [externs m.externs,globals m.globals,tables m.tables,funcs m.funcs]] h=some (int (checkN m),h):=fun h=>wcheck_runs m F k (by omega) _ h (by rw[enc_module];simp +decide -implicitDefEqProofs only[depth,go_sem])
  have c0:decide (checkN m=0)=false:=decide_eq_false hc
  generalize checkN m=ck at hck c0
  simp +decide -implicitDefEqProofs only[k8,go_sem,hck,hv,c0]
  exact⟨_,_,rfl,rfl⟩
 ·intro hc
  have O:=O hc
  have key:∀k,2^36+299≤k→∃s,ToldK m s∧∃c h,fin Try.prog [.tmp 2,.tmp 3,.tmp 4,.tmp 5] (exec Try.prog (valsOf tab) (callAt Try.prog tab k) k k8 ⟨enterE 0 [.agg [externs m.externs,globals m.globals,tables m.tables,funcs m.funcs]],[]⟩)=some (c,h)∧view true h depth c=some (keptC m s):=by
   intro k hk
   have hck:∀h,callAt Try.prog tab k 23 [.agg [externs m.externs,globals m.globals,tables m.tables,funcs m.funcs]] h=some (int (checkN m),h):=fun h=>wcheck_runs m F k (by omega) _ h (by rw[enc_module];simp +decide -implicitDefEqProofs only[depth,go_sem])
   rw[hc] at hck
   obtain⟨q,rfl⟩:∃q,k=q+3:=⟨k-3,by omega⟩
   have O':KOk m (q+3):=⟨O.nm,O.tb,fun f hf=>by obtain⟨a,b,c⟩:=O.fn f hf;exact⟨by omega,b,fun y hy=>by have:=c y hy;omega⟩⟩
   have M1:0≤(m.externs.length:Int)∧(m.externs.length:Int)≤(m.externs.length:Int)∧(m.externs.length:Int)≤(maxRow:Nat):=⟨by omega,by omega,by unfold maxRow;omega⟩
   have M2:0≤(m.globals.length:Int)∧(m.globals.length:Int)≤(m.globals.length:Int)∧(m.globals.length:Int)≤(maxRow:Nat):=⟨by omega,by omega,by unfold maxRow;omega⟩
   have M3:0≤(m.tables.length:Int)∧(m.tables.length:Int)≤(m.tables.length:Int)∧(m.tables.length:Int)≤(maxRow:Nat):=⟨by omega,by omega,by unfold maxRow;omega⟩
   have M4:0≤(m.funcs.length:Int)∧(m.funcs.length:Int)≤(m.funcs.length:Int)∧(m.funcs.length:Int)≤(maxRow:Nat):=⟨by omega,by omega,by unfold maxRow;omega⟩
   have H0:KAt m [.row 0 [externs m.externs,globals m.globals,tables m.tables,funcs m.funcs],.row 1 (List.replicate m.externs.length (.v (.bool false))),.row 1 (List.replicate m.globals.length (.v (.bool false))),.row 1 (List.replicate m.tables.length (.v (.bool false))),.row 1 (List.replicate m.funcs.length (.v (.bool false))),.row 0 [externs m.externs,globals m.globals,tables m.tables,funcs m.funcs,.os 1 0 m.externs.length (some m.externs.length),.os 2 0 m.globals.length (some m.globals.length),.os 3 0 m.tables.length (some m.tables.length),.os 4 0 m.funcs.length (some m.funcs.length),.v (.slice none 0 0)]] (.v (.slice none 0 0)) (s0K m,[]):=
    ⟨s0_len m,rfl,rfl,by unfold s0K;rw[map_rep];rfl,by unfold s0K;rw[map_rep];rfl,by unfold s0K;rw[map_rep];rfl,by unfold s0K;rw[map_rep];rfl,.inl ⟨rfl,rfl⟩⟩
   have P0:PI m (fun _=>False) (fun _=>False) (s0K m,[]):=
    ⟨s0_len m,fun c k _ _ h=>(by rw[s0_at] at h;cases h),fun _ h=>(by cases h),fun j _ _ h=>(by rw[s0_at] at h;cases h),fun t _ _ h=>(by rw[s0_at] at h;cases h)⟩
   have hm0:meas (s0K m,[])≤26:=by
    unfold meas
    have:=List.count_le_length (a:=false) (l:=(s0K m).fu)
    rw[(s0_len m).fu] at this
    show 0+(s0K m).fu.count false≤26
    omega
   obtain⟨c1,h1,L1,a1⟩:=kept_l0 O.nm (k:=q) (n:=q+3) (by omega) _ P0 (by omega) (q+3) (by omega) _ _ H0
   obtain⟨o1,o2,o3⟩:=outs_step O.nm P0 m.funcs.length (Nat.le_refl _)
   obtain⟨c2,h2,s,L2,a2,a3,a4⟩:=kept_l3 O' (k:=q) (by omega) 26 (by omega) (fun s=>∀k:Nat,k<m.funcs.length→(fnAt m.funcs k).out=true→s.at 0 k=true) (fun s s' L h k hk ho=>L 0 k (by omega) (h k hk ho)) _ o1 o3 (by rw[o2];exact hm0) (q+3) (by omega) [(1,.op 0 0),(6,.op 5 0),(37,funcs m.funcs),(38,int m.funcs.length),(39,int m.funcs.length),(40,bool false)] rfl h1 c1 a1
   refine⟨s,work_end O.nm a3 a4, ?_⟩
   have r0:=a1.r0
   have k5:=a2.k5
   simp +decide -implicitDefEqProofs only[k8,go_sem,hck,hv,M1,M2,M3,M4,Int.toNat_natCast,rep_bools,L1,L2,k5]
   exact⟨_,_,rfl,view_rows4 a2.len a2.r1 a2.r2 a2.r3 a2.r4⟩
  obtain⟨s,ht,_⟩:=key (2^36+299) (Nat.le_refl _)
  refine⟨s,ht, ?_⟩
  refine Runs.by (rs:=[.tmp 2,.tmp 3,.tmp 4,.tmp 5]) (N:=121) rfl Try.func8 rfl rfl (by simp) fun k hk=> ?_
  obtain⟨s',ht',h⟩:=key k hk
  rw[ht.same ht',enc_module]
  exact h
end Go.Proofs.Ytlcnmocicghilaa.Tk
namespace Go.Tm
theorem rins_c {p:KS×Bool}{x:Ins}{c:Nat}(h:kindOf x.op=some c):rins p x=rmk p c x.sym:=by unfold rins;rw[h]
theorem rins_n {p:KS×Bool}{x:Ins}(h:kindOf x.op=none):rins p x=p:=by unfold rins;rw[h]
end Go.Tm
namespace Go.Proofs.Ytlcnmocicghilaa.Tk
open Go.Tm Go.Tm.Tab
set_option maxRecDepth 100000
structure RAt (m:Tm.Module)(h:Heap)(s:KS):Prop where
 len:KLen m s
 r0:h[0]?=some (.row 0 [externs m.externs,globals m.globals,tables m.tables,funcs m.funcs])
 r1:h[1]?=some (.row 1 (s.ex.map bool))
 r2:h[2]?=some (.row 1 (s.gl.map bool))
 r3:h[3]?=some (.row 1 (s.ta.map bool))
 r4:h[4]?=some (.row 1 (s.fu.map bool))
theorem RAt.push {m:Tm.Module}{h:Heap}{s:KS}(H:RAt m h s)(x:Tm.Node):RAt m (h++[x]) s:=
 ⟨H.len,push_at' H.r0,push_at' H.r1,push_at' H.r2,push_at' H.r3,push_at' H.r4⟩
theorem RAt.mark0 {m:Tm.Module}{h:Heap}{s:KS}(H:RAt m h s)(v:Int):RAt m (h.set 4 (.row 1 ((s.fu.set v.toNat true).map bool))) (s.mark 0 v):=
 ⟨H.len.mark 0 v,by rw[List.getElem?_set_ne (by decide)];exact H.r0,by rw[List.getElem?_set_ne (by decide)];exact H.r1,by rw[List.getElem?_set_ne (by decide)];exact H.r2,by rw[List.getElem?_set_ne (by decide)];exact H.r3,set_at H.r4⟩
theorem RAt.mark1 {m:Tm.Module}{h:Heap}{s:KS}(H:RAt m h s)(v:Int):RAt m (h.set 3 (.row 1 ((s.ta.set v.toNat true).map bool))) (s.mark 1 v):=
 ⟨H.len.mark 1 v,by rw[List.getElem?_set_ne (by decide)];exact H.r0,by rw[List.getElem?_set_ne (by decide)];exact H.r1,by rw[List.getElem?_set_ne (by decide)];exact H.r2,set_at H.r3,by rw[List.getElem?_set_ne (by decide)];exact H.r4⟩
theorem RAt.mark2 {m:Tm.Module}{h:Heap}{s:KS}(H:RAt m h s)(v:Int):RAt m (h.set 2 (.row 1 ((s.gl.set v.toNat true).map bool))) (s.mark 2 v):=
 ⟨H.len.mark 2 v,by rw[List.getElem?_set_ne (by decide)];exact H.r0,by rw[List.getElem?_set_ne (by decide)];exact H.r1,set_at H.r2,by rw[List.getElem?_set_ne (by decide)];exact H.r3,by rw[List.getElem?_set_ne (by decide)];exact H.r4⟩
theorem RAt.mark3 {m:Tm.Module}{h:Heap}{s:KS}(H:RAt m h s)(v:Int):RAt m (h.set 1 (.row 1 ((s.ex.set v.toNat true).map bool))) (s.mark 3 v):=
 ⟨H.len.mark 3 v,by rw[List.getElem?_set_ne (by decide)];exact H.r0,set_at H.r1,by rw[List.getElem?_set_ne (by decide)];exact H.r2,by rw[List.getElem?_set_ne (by decide)];exact H.r3,by rw[List.getElem?_set_ne (by decide)];exact H.r4⟩
set_option maxHeartbeats 16000000 in
theorem rk_l1 {vals:FuncId→Bool} {call:CallF} {n:Nat} {m:Tm.Module} (j:Nat) (hj:j<m.funcs.length) (b:Nat) (hb:b<(fnAt m.funcs j).blocks.length) (hl:(blkAt (fnAt m.funcs j).blocks b).ins.length<2^50) (hx:∀x∈(blkAt (fnAt m.funcs j).blocks b).ins,SymIn m x) (p:KS×Bool) (mm:Nat) (hm:(blkAt (fnAt m.funcs j).blocks b).ins.length<mm) (h:Heap) (H:RAt m h p.1):
  ∃h',Tm.Loop Try.prog vals call n [1,2,3,4,5,7,8,9,10] k10b1 mm ⟨[(1,.op 0 0),(2,.os 1 0 m.externs.length (some m.externs.length)),(3,.os 2 0 m.globals.length (some m.globals.length)),(4,.os 3 0 m.tables.length (some m.tables.length)),(5,.os 4 0 m.funcs.length (some m.funcs.length)),(7,bool p.2),(8,int j),(9,int b),(10,int 0)],h⟩=some (.exit 8,⟨[(1,.op 0 0),(2,.os 1 0 m.externs.length (some m.externs.length)),(3,.os 2 0 m.globals.length (some m.globals.length)),(4,.os 3 0 m.tables.length (some m.tables.length)),(5,.os 4 0 m.funcs.length (some m.funcs.length)),(7,bool ((blkAt (fnAt m.funcs j).blocks b).ins.foldl rins p).2),(8,int j),(9,int b),(10,int (blkAt (fnAt m.funcs j).blocks b).ins.length),(82,bool false)],h'⟩)∧RAt m h' ((blkAt (fnAt m.funcs j).blocks b).ins.foldl rins p).1:=by
 have hj1:0≤(j:Int)∧(j:Int)<m.funcs.length:=by omega
 have hb1:0≤(b:Int)∧(b:Int)<(fnAt m.funcs j).blocks.length:=by omega
 generalize hfa:fnAt m.funcs j=f at hb hl hx hm hb1⊢
 generalize hbi:(blkAt f.blocks b).ins=l at hl hx hm⊢
 obtain⟨s,⟨h',rfl,g1⟩,L⟩:=Loop_run (P:=Try.prog) (vals:=vals) (call:=call) (n:=n) (ks:=[1,2,3,4,5,7,8,9,10]) (K:=k10b1) (id:=8) l.length
  (fun i s=>∃h,s=⟨[(1,.op 0 0),(2,.os 1 0 m.externs.length (some m.externs.length)),(3,.os 2 0 m.globals.length (some m.globals.length)),(4,.os 3 0 m.tables.length (some m.tables.length)),(5,.os 4 0 m.funcs.length (some m.funcs.length)),(7,bool ((l.take i).foldl rins p).2),(8,int j),(9,int b),(10,int i)],h⟩∧RAt m h ((l.take i).foldl rins p).1)
  (fun s=>∃h,s=⟨[(1,.op 0 0),(2,.os 1 0 m.externs.length (some m.externs.length)),(3,.os 2 0 m.globals.length (some m.globals.length)),(4,.os 3 0 m.tables.length (some m.tables.length)),(5,.os 4 0 m.funcs.length (some m.funcs.length)),(7,bool (l.foldl rins p).2),(8,int j),(9,int b),(10,int l.length),(82,bool false)],h⟩∧RAt m h (l.foldl rins p).1)
  (fun i e h hi ⟨h2,hs,g1⟩=>by
   cases hs
   have e1:decide ((i:Int)<l.length)=true:=by simp;omega
   have e2:0≤(i:Int)∧(i:Int)<l.length:=by omega
   have e3:=wrap_next (n:=l.length) (i:=i) (by omega) (by omega)
   have hx1:=hx _ (insAt_mem e2)
   have hn:=fold_next (f:=rins) (p:=p) (default:Ins) hi
   have hat:l.getD i default=insAt l i:=rfl
   rw[hat] at hn
   generalize hxi:insAt l i=x at hx1 hn
   rw[hn]
   generalize (l.take i).foldl rins p=p1 at g1
   obtain⟨s,ag⟩:=p1
   have r0:=g1.r0
   have g2:=g1.push (.row 0 (encIns x))
   simp only[encIns] at g2
   change RAt m (h++[.row 0 [int x.op,int x.type,int x.to,int x.sym,int x.num,ints x.args,ints x.into]]) s at g2
   change RAt m h s at g1
   have r0':=g2.r0
   rcases kind_cases x.op with ⟨a,e⟩|⟨a,e⟩|⟨a,e⟩|⟨a,e⟩|⟨a,e1',e2',e3',e4',e5'⟩
   ·rw[rins_c a]
    have hs2:0≤x.sym∧x.sym<(m.funcs.length:Int):=hx1 0 a
    have eL:decide ((m.funcs.length:Int)>0)=true:=decide_eq_true (by omega)
    have hle:=g1.len.fu
    change s.fu.length=_ at hle
    have e5:x.sym.toNat<s.fu.length:=by omega
    have rq:=g2.r4
    have st:=store_b (h:=h++[.row 0 [int x.op,int x.type,int x.to,int x.sym,int x.num,ints x.args,ints x.into]]) (q:=4) (k:=x.sym.toNat) (s:=s.fu) e5 true
    have hmk:rmk (s,ag) 0 x.sym=if rdOf false s.fu x.sym=true then(s,ag) else(s.mark 0 x.sym,true):=rfl
    rw[hmk]
    have q0:decide (x.op=22)=true∨(decide (x.op=22)=false∧decide (x.op=2)=true):=by
     rcases e with e|e
     ·exact .inl (decide_eq_true e)
     ·exact .inr (by rw[e];exact⟨rfl,rfl⟩)
    rcases q0 with q0|⟨q0,q1⟩
    ·cases c2:rdOf false s.fu x.sym with
     |true=>
      have c2':s.fu.getD x.sym.toNat false=true:=c2
      rw[if_pos rfl]
      exact⟨_,⟨_,rfl,g2⟩,by simp +decide -implicitDefEqProofs only[k10b1,go_sem,r0,r0',hj1,hfa,hb1,hbi,e1,e2,e3,hxi,set_new,get_new,encIns,q0,eL,hs2,rq,e5,c2']⟩
     |false=>
      have c2':s.fu.getD x.sym.toNat false=false:=c2
      rw[if_neg (by decide)]
      exact⟨_,⟨_,rfl,g2.mark0 x.sym⟩,by simp +decide -implicitDefEqProofs only[k10b1,go_sem,r0,r0',hj1,hfa,hb1,hbi,e1,e2,e3,hxi,set_new,get_new,encIns,q0,eL,hs2,rq,e5,c2',st]⟩
    ·cases c2:rdOf false s.fu x.sym with
     |true=>
      have c2':s.fu.getD x.sym.toNat false=true:=c2
      rw[if_pos rfl]
      exact⟨_,⟨_,rfl,g2⟩,by simp +decide -implicitDefEqProofs only[k10b1,go_sem,r0,r0',hj1,hfa,hb1,hbi,e1,e2,e3,hxi,set_new,get_new,encIns,q0,q1,eL,hs2,rq,e5,c2']⟩
     |false=>
      have c2':s.fu.getD x.sym.toNat false=false:=c2
      rw[if_neg (by decide)]
      exact⟨_,⟨_,rfl,g2.mark0 x.sym⟩,by simp +decide -implicitDefEqProofs only[k10b1,go_sem,r0,r0',hj1,hfa,hb1,hbi,e1,e2,e3,hxi,set_new,get_new,encIns,q0,q1,eL,hs2,rq,e5,c2',st]⟩
   ·rw[rins_c a]
    have hs2:0≤x.sym∧x.sym<(m.globals.length:Int):=hx1 2 a
    have eL:decide ((m.globals.length:Int)>0)=true:=decide_eq_true (by omega)
    have hle:=g1.len.gl
    change s.gl.length=_ at hle
    have e5:x.sym.toNat<s.gl.length:=by omega
    have rq:=g2.r2
    have st:=store_b (h:=h++[.row 0 [int x.op,int x.type,int x.to,int x.sym,int x.num,ints x.args,ints x.into]]) (q:=2) (k:=x.sym.toNat) (s:=s.gl) e5 true
    have hmk:rmk (s,ag) 2 x.sym=if rdOf false s.gl x.sym=true then(s,ag) else(s.mark 2 x.sym,true):=rfl
    rw[hmk]
    have q0:decide (x.op=22)=false:=by rw[e];rfl
    have q1:decide (x.op=2)=false:=by rw[e];rfl
    have q2:decide (x.op=3)=true:=by rw[e];rfl
    cases c2:rdOf false s.gl x.sym with
    |true=>
     have c2':s.gl.getD x.sym.toNat false=true:=c2
     rw[if_pos rfl]
     exact⟨_,⟨_,rfl,g2⟩,by simp +decide -implicitDefEqProofs only[k10b1,go_sem,r0,r0',hj1,hfa,hb1,hbi,e1,e2,e3,hxi,set_new,get_new,encIns,q0,q1,q2,eL,hs2,rq,e5,c2']⟩
    |false=>
     have c2':s.gl.getD x.sym.toNat false=false:=c2
     rw[if_neg (by decide)]
     exact⟨_,⟨_,rfl,g2.mark2 x.sym⟩,by simp +decide -implicitDefEqProofs only[k10b1,go_sem,r0,r0',hj1,hfa,hb1,hbi,e1,e2,e3,hxi,set_new,get_new,encIns,q0,q1,q2,eL,hs2,rq,e5,c2',st]⟩
   ·rw[rins_c a]
    have hs2:0≤x.sym∧x.sym<(m.externs.length:Int):=hx1 3 a
    have eL:decide ((m.externs.length:Int)>0)=true:=decide_eq_true (by omega)
    have hle:=g1.len.ex
    change s.ex.length=_ at hle
    have e5:x.sym.toNat<s.ex.length:=by omega
    have rq:=g2.r1
    have st:=store_b (h:=h++[.row 0 [int x.op,int x.type,int x.to,int x.sym,int x.num,ints x.args,ints x.into]]) (q:=1) (k:=x.sym.toNat) (s:=s.ex) e5 true
    have hmk:rmk (s,ag) 3 x.sym=if rdOf false s.ex x.sym=true then(s,ag) else(s.mark 3 x.sym,true):=rfl
    rw[hmk]
    have q0:decide (x.op=22)=false:=by rw[e];rfl
    have q1:decide (x.op=2)=false:=by rw[e];rfl
    have q2:decide (x.op=3)=false:=by rw[e];rfl
    have q3:decide (x.op=23)=true:=by rw[e];rfl
    cases c2:rdOf false s.ex x.sym with
    |true=>
     have c2':s.ex.getD x.sym.toNat false=true:=c2
     rw[if_pos rfl]
     exact⟨_,⟨_,rfl,g2⟩,by simp +decide -implicitDefEqProofs only[k10b1,go_sem,r0,r0',hj1,hfa,hb1,hbi,e1,e2,e3,hxi,set_new,get_new,encIns,q0,q1,q2,q3,eL,hs2,rq,e5,c2']⟩
    |false=>
     have c2':s.ex.getD x.sym.toNat false=false:=c2
     rw[if_neg (by decide)]
     exact⟨_,⟨_,rfl,g2.mark3 x.sym⟩,by simp +decide -implicitDefEqProofs only[k10b1,go_sem,r0,r0',hj1,hfa,hb1,hbi,e1,e2,e3,hxi,set_new,get_new,encIns,q0,q1,q2,q3,eL,hs2,rq,e5,c2',st]⟩
   ·rw[rins_c a]
    have hs2:0≤x.sym∧x.sym<(m.tables.length:Int):=hx1 1 a
    have eL:decide ((m.tables.length:Int)>0)=true:=decide_eq_true (by omega)
    have hle:=g1.len.ta
    change s.ta.length=_ at hle
    have e5:x.sym.toNat<s.ta.length:=by omega
    have rq:=g2.r3
    have st:=store_b (h:=h++[.row 0 [int x.op,int x.type,int x.to,int x.sym,int x.num,ints x.args,ints x.into]]) (q:=3) (k:=x.sym.toNat) (s:=s.ta) e5 true
    have hmk:rmk (s,ag) 1 x.sym=if rdOf false s.ta x.sym=true then(s,ag) else(s.mark 1 x.sym,true):=rfl
    rw[hmk]
    have q0:decide (x.op=22)=false:=by rw[e];rfl
    have q1:decide (x.op=2)=false:=by rw[e];rfl
    have q2:decide (x.op=3)=false:=by rw[e];rfl
    have q3:decide (x.op=23)=false:=by rw[e];rfl
    have q4:decide (x.op=24)=true:=by rw[e];rfl
    cases c2:rdOf false s.ta x.sym with
    |true=>
     have c2':s.ta.getD x.sym.toNat false=true:=c2
     rw[if_pos rfl]
     exact⟨_,⟨_,rfl,g2⟩,by simp +decide -implicitDefEqProofs only[k10b1,go_sem,r0,r0',hj1,hfa,hb1,hbi,e1,e2,e3,hxi,set_new,get_new,encIns,q0,q1,q2,q3,q4,eL,hs2,rq,e5,c2']⟩
    |false=>
     have c2':s.ta.getD x.sym.toNat false=false:=c2
     rw[if_neg (by decide)]
     exact⟨_,⟨_,rfl,g2.mark1 x.sym⟩,by simp +decide -implicitDefEqProofs only[k10b1,go_sem,r0,r0',hj1,hfa,hb1,hbi,e1,e2,e3,hxi,set_new,get_new,encIns,q0,q1,q2,q3,q4,eL,hs2,rq,e5,c2',st]⟩
   ·rw[rins_n a]
    have q0:decide (x.op=22)=false:=decide_eq_false e1'
    have q1:decide (x.op=2)=false:=decide_eq_false e2'
    have q2:decide (x.op=3)=false:=decide_eq_false e3'
    have q3:decide (x.op=23)=false:=decide_eq_false e4'
    have q4:decide (x.op=24)=false:=decide_eq_false e5'
    exact⟨_,⟨_,rfl,g2⟩,by simp +decide -implicitDefEqProofs only[k10b1,go_sem,r0,r0',hj1,hfa,hb1,hbi,e1,e2,e3,hxi,set_new,get_new,encIns,q0,q1,q2,q3,q4]⟩)
  (fun e h ⟨h2,hs,g1⟩=>by
   cases hs
   rw[List.take_length] at g1⊢
   have r0:=g1.r0
   exact⟨_,⟨_,rfl,g1⟩,by simp +decide -implicitDefEqProofs only[k10b1,go_sem,r0,hj1,hfa,hb1,hbi,Int.lt_irrefl,decide_false]⟩)
  l.length 0 mm _ h (by omega) hm ⟨h,rfl,H⟩
 exact⟨h',L,g1⟩
end Go.Proofs.Ytlcnmocicghilaa.Tk
