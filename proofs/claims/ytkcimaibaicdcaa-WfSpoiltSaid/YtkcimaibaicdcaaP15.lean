/- The law returns true at every input. No condition. A part of its proof. -/
import Derived.Test.YtkcimaibaicdcaaP14
set_option linter.unusedSimpArgs false
set_option linter.unusedVariables false
set_option maxHeartbeats 16000000
set_option maxRecDepth 100000
namespace Go.Proofs.Ytkcimaibaicdcaa.Tk
open Go.Tm Go.Tm.Tab
theorem rows_own {k:Nat}(hk:200≤k)(ty a:List Int)(hx:a.length<100)(hin:∀v∈a,0≤v∧v<(ty.length:Int))(w:List Int)(l:Nat)(h:Heap)(hl:h[l]?=some (.row 1 (w.map int))):callAt Try.prog tab k 119 [ints ty,ints a,.os l 0 w.length (some w.length)] h=some (bool (decide (gotOf ty a=w)),h):=
 wrows_runs ty a w hx hin k hk _ h (by
  have h1:=view_os_ints (cl:=false) (n:=10) (cap:=some w.length) hl
  have h2:view false h depth (ints ty)=some (ints ty):=by simp +decide -implicitDefEqProofs only[depth,go_sem]
  have h3:view false h depth (ints a)=some (ints a):=by simp +decide -implicitDefEqProofs only[depth,go_sem]
  have h4:view false h depth (.os l 0 w.length (some w.length))=some (ints w):=h1
  simp only[mapC_cons,mapC_nil,h2,h3,h4,Option.bind_some])
structure SymOk (m:Tm.Module)(x:Ins):Prop where
 fn:x.op=22→0≤x.sym∧x.sym<m.funcs.length
 ext:x.op=23→0≤x.sym∧x.sym<m.externs.length
theorem fitB_is (m:Tm.Module)(f:Tm.Func)(ty:List Int)(x:Ins):fitB m f ty x=fitG m f x (gotOf ty x.args):=rfl
@[go_sem] theorem view_externs (h:Heap)(n:Nat)(l:List Extern):view false h (n+1) (externs l)=some (externs l):=view_fs _ l
@[go_sem] theorem view_globals (h:Heap)(n:Nat)(l:List Tm.Global):view false h (n+1) (globals l)=some (globals l):=view_fs _ l
@[go_sem] theorem view_tables (h:Heap)(n:Nat)(l:List Table):view false h (n+1) (tables l)=some (tables l):=view_fs _ l
@[go_sem] theorem view_funcs (h:Heap)(n:Nat)(l:List Tm.Func):view false h (n+1) (funcs l)=some (funcs l):=view_fs _ l
theorem wfit_runs (m:Tm.Module)(f:Tm.Func)(ty:List Int)(x:Ins)(H:ShapeOk x)(S:SymOk m x)(hx:x.args.length<100)(hin:∀v∈x.args,0≤v∧v<(ty.length:Int)):Runs Try.prog tab 300 114 [.agg [externs m.externs,globals m.globals,tables m.tables,funcs m.funcs],.agg [str f.name,bool f.out,ints f.params,int f.result,blocks f.blocks],ints ty,.agg [int x.op,int x.type,int x.to,int x.sym,int x.num,ints x.args,ints x.into]] (bool (fitB m f ty x)):=by
 refine Runs.by (rs:=[.tmp 8]) (N:=229) rfl Try.func114 rfl rfl (by simp) fun k hk=>?_
 have hall:∀t h,callAt Try.prog tab k 118 [ints ty,ints x.args,int t] h=some (bool (allT t (gotOf ty x.args)),h):=fun t h=>wall_runs ty x.args t hx hin k (by omega) _ h (by simp +decide -implicitDefEqProofs only[depth,go_sem])
 have hfrz:∀(w:List Int) h,callAt Try.prog tab k 119 [ints ty,ints x.args,ints w] h=some (bool (decide (gotOf ty x.args=w)),h):=fun w h=>wrows_runs ty x.args w hx hin k (by omega) _ h (by simp +decide -implicitDefEqProofs only[depth,go_sem])
 have hrow:=fun(w:List Int) (l:Nat) (h:Heap) hl=>rows_own (k:=k) (by omega) ty x.args hx hin w l h hl
 rcases ops_of H.lo H.hi with hop|hop|hop|hop|hop|hop|hop|hop|hop|hop|hop|hop|hop|hop|hop|hop|hop|hop|hop|hop|hop|hop|hop|hop|hop|hop|hop|hop|hop|hop
 ·exact fit_1 m f ty x hop hall hrow hfrz
 ·exact fit_2 m f ty x hop hall hrow hfrz
 ·exact fit_3 m f ty x hop hall hrow hfrz
 ·exact fit_4 m f ty x hop hall hrow hfrz
 ·exact fit_5 m f ty x hop hall hrow hfrz
 ·exact fit_6 m f ty x hop hall hrow hfrz
 ·exact fit_7 m f ty x hop hall hrow hfrz
 ·exact fit_8 m f ty x hop hall hrow hfrz
 ·exact fit_9 m f ty x hop hall hrow hfrz
 ·exact fit_10 m f ty x hop hall hrow hfrz
 ·exact fit_11 m f ty x hop hall hrow hfrz
 ·exact fit_12 m f ty x hop hall hrow hfrz
 ·exact fit_13 m f ty x hop hall hrow hfrz
 ·exact fit_14 m f ty x hop hall hrow hfrz
 ·exact fit_15 m f ty x hop hall hrow hfrz
 ·exact fit_16 m f ty x hop hall hrow hfrz
 ·exact fit_17 m f ty x hop hall hrow hfrz
 ·exact fit_18 m f ty x hop hall hrow hfrz
 ·exact fit_19 m f ty x hop hall hrow hfrz
 ·exact fit_20 m f ty x hop hall hrow hfrz
 ·exact fit_21 m f ty x hop hall hrow hfrz
 ·exact fit_22 m f ty x hop hall hrow hfrz (S.fn hop)
 ·exact fit_23 m f ty x hop hall hrow hfrz (S.ext hop)
 ·exact fit_24 m f ty x hop hall hrow hfrz
 ·exact fit_25 m f ty x hop hall hrow hfrz (H.via hop) hin
 ·exact fit_26 m f ty x hop hall hrow hfrz
 ·exact fit_27 m f ty x hop hall hrow hfrz
 ·exact fit_28 m f ty x hop hall hrow hfrz
 ·exact fit_29 m f ty x hop hall hrow hfrz
 ·exact fit_30 m f ty x hop hall hrow hfrz
theorem rfit_runs (m:Tm.Module)(f:Tm.Func)(got:List Int)(x:Ins)(H:ShapeOk x)(S:SymOk m x)(hx:x.args.length<100)(hgl:got.length=x.args.length):Runs Try.prog tab 300 106 [.agg [externs m.externs,globals m.globals,tables m.tables,funcs m.funcs],.agg [str f.name,bool f.out,ints f.params,int f.result,blocks f.blocks],.agg [int x.op,int x.type,int x.to,int x.sym,int x.num,ints x.args,ints x.into],ints got] (bool (fitG m f x got)):=by
 refine Runs.by (rs:=[.tmp 8]) (N:=268) rfl Try.func106 rfl rfl (by simp) fun k hk=>?_
 have hv:valsOf tab 18=true:=by decide
 have h18:∀(w:List Int) h,callAt Try.prog tab k 18 [ints got,ints w] h=some (bool (decide (got=w)),h):=fun w h=>requal_runs got w (by omega) k (by omega) _ h (by simp +decide -implicitDefEqProofs only[depth,go_sem])
 have hlen:∀n:Nat,x.op≠26→(markOf x.op).args=n→got.length=n:=fun n h1 h2=>by
  have:=H.args h1
  rw[h2] at this
  omega
 rcases ops_of H.lo H.hi with hop|hop|hop|hop|hop|hop|hop|hop|hop|hop|hop|hop|hop|hop|hop|hop|hop|hop|hop|hop|hop|hop|hop|hop|hop|hop|hop|hop|hop|hop
 ·exact rfit_1 m f got x hop
 ·exact rfit_2 m f got x hop
 ·exact rfit_3 m f got x hop
 ·exact rfit_4 m f got x hop (hlen 2 (by omega) (by rw[hop];rfl))
 ·exact rfit_5 m f got x hop (hlen 2 (by omega) (by rw[hop];rfl))
 ·exact rfit_6 m f got x hop (hlen 2 (by omega) (by rw[hop];rfl))
 ·exact rfit_7 m f got x hop (hlen 2 (by omega) (by rw[hop];rfl))
 ·exact rfit_8 m f got x hop (hlen 2 (by omega) (by rw[hop];rfl))
 ·exact rfit_9 m f got x hop (hlen 2 (by omega) (by rw[hop];rfl))
 ·exact rfit_10 m f got x hop (hlen 2 (by omega) (by rw[hop];rfl))
 ·exact rfit_11 m f got x hop (hlen 2 (by omega) (by rw[hop];rfl))
 ·exact rfit_12 m f got x hop (hlen 2 (by omega) (by rw[hop];rfl))
 ·exact rfit_13 m f got x hop (hlen 2 (by omega) (by rw[hop];rfl))
 ·exact rfit_14 m f got x hop (hlen 2 (by omega) (by rw[hop];rfl))
 ·exact rfit_15 m f got x hop (hlen 2 (by omega) (by rw[hop];rfl))
 ·exact rfit_16 m f got x hop (hlen 1 (by omega) (by rw[hop];rfl))
 ·exact rfit_17 m f got x hop (hlen 3 (by omega) (by rw[hop];rfl))
 ·exact rfit_18 m f got x hop
 ·exact rfit_19 m f got x hop (hlen 2 (by omega) (by rw[hop];rfl))
 ·exact rfit_20 m f got x hop (hlen 1 (by omega) (by rw[hop];rfl))
 ·exact rfit_21 m f got x hop (hlen 2 (by omega) (by rw[hop];rfl))
 ·exact rfit_22 m f got x hop (S.fn hop) hv h18
 ·exact rfit_23 m f got x hop (S.ext hop) hv h18
 ·exact rfit_24 m f got x hop (hlen 1 (by omega) (by rw[hop];rfl))
 ·exact rfit_25 m f got x hop (by have:=H.via hop;omega)
 ·exact rfit_26 m f got x hop (by omega) (by omega)
 ·exact rfit_27 m f got x hop
 ·exact rfit_28 m f got x hop (hlen 1 (by omega) (by rw[hop];rfl))
 ·exact rfit_29 m f got x hop
 ·exact rfit_30 m f got x hop
def badFI (m:Tm.Module)(f:Tm.Func)(x:Ins):Bool:= !fitB m f (typesOf f) x
def badFB (m:Tm.Module)(f:Tm.Func)(b:Block):Bool:=b.ins.any (badFI m f)
def typedB (m:Tm.Module)(f:Tm.Func):Bool:= !f.blocks.any (badFB m f)
theorem typed_l0 {vals:FuncId→Bool}{call:CallF}{n:Nat}(a b c:C)(m:Tm.Module)(f:Tm.Func)(l:List Ins)(hl:l.length<2^50)(I:Heap→Prop)(hp:∀h x,I h→I (h++[x]))(hg:∀h,I h→h[0]?=some (.row 0 [externs m.externs,globals m.globals,tables m.tables,funcs m.funcs]))(hg1:∀h,I h→h[1]?=some (.row 0 [str f.name,bool f.out,ints f.params,int f.result,blocks f.blocks]))(hc:∀x∈l,∀h,call 114 [.agg [externs m.externs,globals m.globals,tables m.tables,funcs m.funcs],.agg [str f.name,bool f.out,ints f.params,int f.result,blocks f.blocks],ints (typesOf f),.agg [int x.op,int x.type,int x.to,int x.sym,int x.num,ints x.args,ints x.into]] h=some (bool (fitB m f (typesOf f) x),h))(mm:Nat)(hm:l.length<mm)(h:Heap)(hI:I h):∃h1,I h1∧Tm.Loop Try.prog vals call n [2,3,5,13,14,15,20,21,22] k93b0 mm ⟨[(2,.op 0 0),(3,.op 1 0),(5,ints (typesOf f)),(13,a),(14,b),(15,c),(20,inss l),(21,int l.length),(22,int 0)],h⟩=some (if l.any (badFI m f)=true then(.ret,⟨[(4,bool false)],h1⟩) else(.exit 2,⟨[(2,.op 0 0),(3,.op 1 0),(5,ints (typesOf f)),(13,a),(14,b),(15,c),(20,inss l),(21,int l.length),(22,int l.length),(23,bool false)],h1⟩)):=by
 obtain⟨h1,J,L⟩:=Loop_any (P:=Try.prog) (vals:=vals) (call:=call) (n:=n) (ks:=[2,3,5,13,14,15,20,21,22]) (K:=k93b0) (id:=2) l.length (fun i=>badFI m f (insAt l i)) (fun i=>[(2,.op 0 0),(3,.op 1 0),(5,ints (typesOf f)),(13,a),(14,b),(15,c),(20,inss l),(21,int l.length),(22,int i)]) [(4,bool false)] [(2,.op 0 0),(3,.op 1 0),(5,ints (typesOf f)),(13,a),(14,b),(15,c),(20,inss l),(21,int l.length),(22,int l.length),(23,bool false)] I
  (fun i h hi hI=>by
   have e1:decide ((i:Int)<l.length)=true:=by simp;omega
   have e2:0≤(i:Int)∧(i:Int)<l.length:=by omega
   have e3:=wrap_next (n:=l.length) (i:=i) (by omega) (by omega)
   have I1:=hp _ (.row 0 (encIns (insAt l i))) hI
   have hc1:=hc _ (insAt_mem e2)
   have g0:=hg _ I1
   have g1:=hg1 _ I1
   simp only[encIns] at I1 g0 g1
   refine⟨_,I1,?_⟩
   unfold badFI
   cases c1:fitB m f (typesOf f) (insAt l i)<;>simp +decide -implicitDefEqProofs only[k93b0,go_sem,e1,e2,e3,set_new,encIns,g0,g1,hc1,c1])
  (fun h hI=>by
   exact⟨h,hI,by simp +decide -implicitDefEqProofs only[k93b0,go_sem,Int.lt_irrefl,decide_false]⟩) l.length 0 mm h (by omega) hm hI
 simp only[show((0:Nat):Int)=0 from rfl] at L
 rw[any_inss] at L
 exact⟨h1,J,L⟩
theorem typed_l1 {vals:FuncId→Bool}{call:CallF}{n:Nat}(m:Tm.Module)(f:Tm.Func)(l:List Block)(hl2:l.length<2^50)(hb:∀b∈l,b.ins.length<n∧b.ins.length<2^50)(I:Heap→Prop)(hp:∀h x,I h→I (h++[x]))(hg:∀h,I h→h[0]?=some (.row 0 [externs m.externs,globals m.globals,tables m.tables,funcs m.funcs]))(hg1:∀h,I h→h[1]?=some (.row 0 [str f.name,bool f.out,ints f.params,int f.result,blocks f.blocks]))(hc:∀b∈l,∀x∈b.ins,∀h,call 114 [.agg [externs m.externs,globals m.globals,tables m.tables,funcs m.funcs],.agg [str f.name,bool f.out,ints f.params,int f.result,blocks f.blocks],ints (typesOf f),.agg [int x.op,int x.type,int x.to,int x.sym,int x.num,ints x.args,ints x.into]] h=some (bool (fitB m f (typesOf f) x),h))(mm:Nat)(hm:l.length<mm)(h:Heap)(hI:I h):∃h1,I h1∧Tm.Loop Try.prog vals call n [2,3,5,13,14,15] k93b1 mm ⟨[(2,.op 0 0),(3,.op 1 0),(5,ints (typesOf f)),(13,blocks l),(14,int l.length),(15,int 0)],h⟩=some (if l.any (badFB m f)=true then(.ret,⟨[(4,bool false)],h1⟩) else(.exit 0,⟨[(2,.op 0 0),(3,.op 1 0),(5,ints (typesOf f)),(13,blocks l),(14,int l.length),(15,int l.length),(16,bool false)],h1⟩)):=by
 obtain⟨h1,J,L⟩:=Loop_any (P:=Try.prog) (vals:=vals) (call:=call) (n:=n) (ks:=[2,3,5,13,14,15]) (K:=k93b1) (id:=0) l.length (fun i=>badFB m f (blkAt l i)) (fun i=>[(2,.op 0 0),(3,.op 1 0),(5,ints (typesOf f)),(13,blocks l),(14,int l.length),(15,int i)]) [(4,bool false)] [(2,.op 0 0),(3,.op 1 0),(5,ints (typesOf f)),(13,blocks l),(14,int l.length),(15,int l.length),(16,bool false)] I
  (fun i h hi hI=>by
   have e1:decide ((i:Int)<l.length)=true:=by simp;omega
   have e2:0≤(i:Int)∧(i:Int)<l.length:=by omega
   have e3:=wrap_next (n:=l.length) (i:=i) (by omega) (by omega)
   have hx:=blkAt_mem e2
   obtain⟨hb1,hb2⟩:=hb _ hx
   obtain⟨h1,J1,L1⟩:=typed_l0 (vals:=vals) (call:=call) (n:=n) (blocks l) (int l.length) (int i) m f (blkAt l i).ins hb2 I hp hg hg1 (hc _ hx) n hb1 _ (hp _ (.row 0 [inss (blkAt l i).ins]) hI)
   unfold badFB
   refine⟨h1,J1,?_⟩
   cases c1:(blkAt l i).ins.any (badFI m f) with
   |true=>
    rw[c1,if_pos rfl] at L1
    simp +decide -implicitDefEqProofs only[k93b1,go_sem,e1,e2,e3,set_new,L1]
   |false=>
    rw[c1,if_neg (by decide)] at L1
    simp +decide -implicitDefEqProofs only[k93b1,go_sem,e1,e2,e3,set_new,L1])
  (fun h hI=>by
   exact⟨h,hI,by simp +decide -implicitDefEqProofs only[k93b1,go_sem,Int.lt_irrefl,decide_false]⟩) l.length 0 mm h (by omega) hm hI
 simp only[show((0:Nat):Int)=0 from rfl] at L
 rw[any_blks] at L
 exact⟨h1,J,L⟩
theorem wtyped_runs (m:Tm.Module)(f:Tm.Func)(F:Fine f)(hpar:f.params.length≤20)(hsh:∀b∈f.blocks,∀x∈b.ins,ShapeOk x)(hsy:∀b∈f.blocks,∀x∈b.ins,SymOk m x)(hin:∀b∈f.blocks,∀x∈b.ins,∀v∈x.args,0≤v∧v<((typesOf f).length:Int)):Runs Try.prog tab 400 93 [.agg (encModule m),.agg (encFunc f)] (bool (typedB m f)):=by
 refine Runs.by (rs:=[.tmp 4]) (N:=34) rfl Try.func93 rfl rfl (by simp) fun k hk=>?_
 have b1:=F.blocks
 have hty:∀h,callAt Try.prog tab k 113 [.agg (encFunc f)] h=some (ints (typesOf f),h):=fun h=>wtypes_runs f F hpar k (by omega) _ h (by simp only[mapC_cons,mapC_nil,depth,view_func,Option.bind_some])
 have hfit:∀b∈f.blocks,∀x∈b.ins,∀h,callAt Try.prog tab k 114 [.agg [externs m.externs,globals m.globals,tables m.tables,funcs m.funcs],.agg [str f.name,bool f.out,ints f.params,int f.result,blocks f.blocks],ints (typesOf f),.agg [int x.op,int x.type,int x.to,int x.sym,int x.num,ints x.args,ints x.into]] h=some (bool (fitB m f (typesOf f) x),h):=fun b hb x hx h=>by
  have:=(F.into b hb x hx).1
  exact wfit_runs m f (typesOf f) x (hsh b hb x hx) (hsy b hb x hx) (by omega) (hin b hb x hx) k (by omega) _ h (by simp +decide -implicitDefEqProofs only[depth,go_sem])
 generalize hc':callAt Try.prog tab k=call at*
 generalize hv':valsOf tab=vals at*
 rw[enc_func,enc_module] at*
 have hp:∀(h:Heap) (x:Tm.Node),(h[0]?=some (.row 0 [externs m.externs,globals m.globals,tables m.tables,funcs m.funcs])∧h[1]?=some (.row 0 [str f.name,bool f.out,ints f.params,int f.result,blocks f.blocks]))→((h++[x])[0]?=some (.row 0 [externs m.externs,globals m.globals,tables m.tables,funcs m.funcs])∧(h++[x])[1]?=some (.row 0 [str f.name,bool f.out,ints f.params,int f.result,blocks f.blocks])):=fun h x H=>⟨by rw[List.getElem?_append_left (List.getElem?_eq_some_iff.1 H.1).1];exact H.1,by rw[List.getElem?_append_left (List.getElem?_eq_some_iff.1 H.2).1];exact H.2⟩
 obtain⟨h1,I1,L1⟩:=typed_l1 (vals:=vals) (call:=call) (n:=k) m f f.blocks (by omega) (fun b hb=>by have:=F.ins b hb;omega) (fun h=>h[0]?=some (.row 0 [externs m.externs,globals m.globals,tables m.tables,funcs m.funcs])∧h[1]?=some (.row 0 [str f.name,bool f.out,ints f.params,int f.result,blocks f.blocks])) hp (fun h H=>H.1) (fun h H=>H.2) hfit k (by omega) [.row 0 [externs m.externs,globals m.globals,tables m.tables,funcs m.funcs],.row 0 [str f.name,bool f.out,ints f.params,int f.result,blocks f.blocks]] ⟨rfl,rfl⟩
 unfold typedB
 cases x1:f.blocks.any (badFB m f) with
 |true=>
  rw[x1,if_pos rfl] at L1
  simp +decide -implicitDefEqProofs only[k93,go_sem,hty,L1];exact⟨_,_,rfl,rfl⟩
 |false=>
  rw[x1,if_neg (by decide)] at L1
  simp +decide -implicitDefEqProofs only[k93,go_sem,hty,L1];exact⟨_,_,rfl,rfl⟩
end Go.Proofs.Ytkcimaibaicdcaa.Tk
namespace Go.Tm
theorem GrowG.viewI {h:Heap}{c:C}{out:List Int}(H:GrowG int h c out){cl:Bool}{n:Nat}:view cl h (n+2) c=some (ints out):=by
 rcases H with ⟨rfl,rfl⟩|⟨l,rfl,hl⟩
 ·rfl
 ·exact view_os_ints hl
end Go.Tm
namespace Go.Proofs.Ytkcimaibaicdcaa.Tk
open Go.Tm Go.Tm.Tab
theorem rgot_loop {vals:FuncId→Bool}{call:CallF}{n:Nat}(ty:List Int)(x:Ins)(hxa:x.args.length<100)(hin:∀v∈x.args,0≤v∧v<(ty.length:Int))(x6 x7:C)(p:Nat)(h0:Heap)(hp:h0[p]?=some (.row 0 [int x.op,int x.type,int x.to,int x.sym,int x.num,ints x.args,ints x.into]))(m:Nat)(hm:x.args.length<m):
  ∃c h,Tm.Loop Try.prog vals call n [2,3,5,6,7,8,9,10] k85b0 m ⟨[(2,.op 0 0),(3,.op 1 0),(5,ints ty),(6,x6),(7,x7),(8,.op p 0),(9,.v (.slice none 0 0)),(10,int 0)],h0⟩=some (.exit 4,⟨[(2,.op 0 0),(3,.op 1 0),(5,ints ty),(6,x6),(7,x7),(8,.op p 0),(9,c),(10,int x.args.length),(44,bool false)],h⟩)∧GrowG int h c (gotOf ty x.args)∧(∀(l:Nat) (nd:Tm.Node),h0[l]?=some nd→h[l]?=some nd)∧∀l o k,c=.os l 0 o k→h0.length≤l:=by
 have hmr:(2:Nat)^22<maxRow:=by decide
 obtain⟨s,⟨c',h',rfl,g1,g2,g3⟩,L⟩:=Loop_run (P:=Try.prog) (vals:=vals) (call:=call) (n:=n) (ks:=[2,3,5,6,7,8,9,10]) (K:=k85b0) (id:=4) x.args.length
  (fun i s=>∃c h,s=⟨[(2,.op 0 0),(3,.op 1 0),(5,ints ty),(6,x6),(7,x7),(8,.op p 0),(9,c),(10,int i)],h⟩∧GrowG int h c (gotOf ty (x.args.take i))∧(∀(l:Nat) (nd:Tm.Node),h0[l]?=some nd→h[l]?=some nd)∧∀l o k,c=.os l 0 o k→h0.length≤l)
  (fun s=>∃c h,s=⟨[(2,.op 0 0),(3,.op 1 0),(5,ints ty),(6,x6),(7,x7),(8,.op p 0),(9,c),(10,int x.args.length),(44,bool false)],h⟩∧GrowG int h c (gotOf ty x.args)∧(∀(l:Nat) (nd:Tm.Node),h0[l]?=some nd→h[l]?=some nd)∧∀l o k,c=.os l 0 o k→h0.length≤l)
  (fun i e h hi ⟨c,h2,hs,g1,g2,g3⟩=>by
   cases hs
   have e1:decide ((i:Int)<x.args.length)=true:=by simp;omega
   have e2:0≤(i:Int)∧(i:Int)<x.args.length:=by omega
   have e3:=wrap_next (n:=x.args.length) (i:=i) (by omega) (by omega)
   have hr:=hin _ (mem_of_rd hi)
   have gp:=g2 p _ hp
   obtain⟨c',h',a1,a2,a3,a4⟩:=(g1.push (x:=.row 1 [int (rd ty (rd x.args i))])).append (rd ty (rd x.args i)) (by simp[gotOf];omega)
   refine⟨_,⟨c',h',rfl,?_,fun l nd hl=>?_,fun l o k hk=>?_⟩,by simp +decide -implicitDefEqProofs only[k85b0,go_sem,e1,e2,e3,gp,hr,a1]⟩
   ·unfold gotOf at a2⊢
    rw[List.take_add_one,List.getElem?_eq_getElem hi,List.map_append]
    simpa[rd,List.getD_eq_getElem?_getD,List.getElem?_eq_getElem hi] using a2
   ·have hl0:=(List.getElem?_eq_some_iff.1 hl).1
    refine a4 l nd (by rw[List.getElem?_append_left (List.getElem?_eq_some_iff.1 (g2 l nd hl)).1];exact g2 l nd hl) fun o k hk=>?_
    have:=g3 _ _ _ hk
    omega
   ·rw[a3] at hk
    injection hk with q1
    have hle:h0.length≤h.length:=by
     refine Classical.byContradiction fun hn=>?_
     have hq:h.length<h0.length:=by omega
     have:=(List.getElem?_eq_some_iff.1 (g2 h.length _ (List.getElem?_eq_getElem hq))).1
     omega
    simp at q1
    omega)
  (fun e h ⟨c,h2,hs,g1,g2,g3⟩=>by
   cases hs
   have gp:=g2 p _ hp
   refine⟨_,⟨c,h,rfl,?_,g2,g3⟩,by simp +decide -implicitDefEqProofs only[k85b0,go_sem,gp,Int.lt_irrefl,decide_false]⟩
   rw[List.take_length] at g1;exact g1)
  x.args.length 0 m _ h0 (by omega) hm ⟨.v (.slice none 0 0),h0,rfl,.inl ⟨by simp[gotOf],rfl⟩,fun l nd h=>h,fun l o k h=>by simp at h⟩
 exact⟨c',h',L,g1,g2,g3⟩
theorem rtyped_l1 {vals:FuncId→Bool}{call:CallF}{n:Nat}(m:Tm.Module)(f:Tm.Func)(q:Int)(hq:0≤q∧q<f.blocks.length)(hl:(blkAt f.blocks q).ins.length<2^50)(hxs:∀x∈(blkAt f.blocks q).ins,x.args.length<100∧x.args.length<n)(hin:∀x∈(blkAt f.blocks q).ins,∀v∈x.args,0≤v∧v<((typesOf f).length:Int))(I:Heap→Prop)(hmo:∀h h2,I h→(∀(l:Nat) (nd:Tm.Node),h[l]?=some nd→h2[l]?=some nd)→I h2)(hg:∀h,I h→h[0]?=some (.row 0 [externs m.externs,globals m.globals,tables m.tables,funcs m.funcs]))(hg1:∀h,I h→h[1]?=some (.row 0 [str f.name,bool f.out,ints f.params,int f.result,blocks f.blocks]))(hc:∀x∈(blkAt f.blocks q).ins,∀c h,GrowG int h c (gotOf (typesOf f) x.args)→call 106 [.agg [externs m.externs,globals m.globals,tables m.tables,funcs m.funcs],.agg [str f.name,bool f.out,ints f.params,int f.result,blocks f.blocks],.agg [int x.op,int x.type,int x.to,int x.sym,int x.num,ints x.args,ints x.into],c] h=some (bool (fitB m f (typesOf f) x),h))(mm:Nat)(hm:(blkAt f.blocks q).ins.length<mm)(h:Heap)(hI:I h):∃h1,I h1∧Tm.Loop Try.prog vals call n [2,3,5,6,7] k85b1 mm ⟨[(2,.op 0 0),(3,.op 1 0),(5,ints (typesOf f)),(6,int q),(7,int 0)],h⟩=some (if (blkAt f.blocks q).ins.any (badFI m f)=true then(.ret,⟨[(4,bool false)],h1⟩) else(.exit 2,⟨[(2,.op 0 0),(3,.op 1 0),(5,ints (typesOf f)),(6,int q),(7,int (blkAt f.blocks q).ins.length),(28,bool false)],h1⟩)):=by
 obtain⟨h1,J,L⟩:=Loop_any (P:=Try.prog) (vals:=vals) (call:=call) (n:=n) (ks:=[2,3,5,6,7]) (K:=k85b1) (id:=2) (blkAt f.blocks q).ins.length (fun i=>badFI m f (insAt (blkAt f.blocks q).ins i)) (fun i=>[(2,.op 0 0),(3,.op 1 0),(5,ints (typesOf f)),(6,int q),(7,int i)]) [(4,bool false)] [(2,.op 0 0),(3,.op 1 0),(5,ints (typesOf f)),(6,int q),(7,int (blkAt f.blocks q).ins.length),(28,bool false)] I
  (fun i h hi hI=>by
   have e1:decide ((i:Int)<(blkAt f.blocks q).ins.length)=true:=by simp;omega
   have e2:0≤(i:Int)∧(i:Int)<(blkAt f.blocks q).ins.length:=by omega
   have e3:=wrap_next (n:=(blkAt f.blocks q).ins.length) (i:=i) (by omega) (by omega)
   have hxm:=insAt_mem e2
   obtain⟨hx1,hx2⟩:=hxs _ hxm
   have I1:=hmo _ (h++[.row 0 (encIns (insAt (blkAt f.blocks q).ins i))]) hI fun l nd hl=>by rw[List.getElem?_append_left (List.getElem?_eq_some_iff.1 hl).1];exact hl
   have j0:=hg _ hI
   have j1:=hg1 _ hI
   obtain⟨c,h2,L0,G,fr,_⟩:=rgot_loop (vals:=vals) (call:=call) (n:=n) (typesOf f) (insAt (blkAt f.blocks q).ins i) hx1 (hin _ hxm) (int q) (int i) h.length (h++[.row 0 (encIns (insAt (blkAt f.blocks q).ins i))]) (by rw[get_new];rfl) n hx2
   have I2:=hmo _ h2 I1 fr
   have hc1:=hc _ hxm c h2 G
   have g0:=hg _ I2
   have g1:=hg1 _ I2
   have g2:=fr h.length _ (get_new h (.row 0 (encIns (insAt (blkAt f.blocks q).ins i))))
   simp only[encIns] at L0 g2
   refine⟨h2,I2,?_⟩
   unfold badFI
   cases c1:fitB m f (typesOf f) (insAt (blkAt f.blocks q).ins i)<;>(rw[c1] at hc1;simp +decide -implicitDefEqProofs only[k85b1,go_sem,e1,e2,e3,set_new,encIns,hq,j0,j1,g0,g1,g2,L0,hc1]))
  (fun h hI=>by
   have j1:=hg1 _ hI
   exact⟨h,hI,by simp +decide -implicitDefEqProofs only[k85b1,go_sem,Int.lt_irrefl,decide_false,j1,hq]⟩) (blkAt f.blocks q).ins.length 0 mm h (by omega) hm hI
 simp only[show((0:Nat):Int)=0 from rfl] at L
 rw[any_inss] at L
 exact⟨h1,J,L⟩
theorem rtyped_l2 {vals:FuncId→Bool}{call:CallF}{n:Nat}(m:Tm.Module)(f:Tm.Func)(hl2:f.blocks.length<2^50)(hb:∀b∈f.blocks,b.ins.length<n∧b.ins.length<2^50)(hxs:∀b∈f.blocks,∀x∈b.ins,x.args.length<100∧x.args.length<n)(hin:∀b∈f.blocks,∀x∈b.ins,∀v∈x.args,0≤v∧v<((typesOf f).length:Int))(I:Heap→Prop)(hmo:∀h h2,I h→(∀(l:Nat) (nd:Tm.Node),h[l]?=some nd→h2[l]?=some nd)→I h2)(hg:∀h,I h→h[0]?=some (.row 0 [externs m.externs,globals m.globals,tables m.tables,funcs m.funcs]))(hg1:∀h,I h→h[1]?=some (.row 0 [str f.name,bool f.out,ints f.params,int f.result,blocks f.blocks]))(hc:∀b∈f.blocks,∀x∈b.ins,∀c h,GrowG int h c (gotOf (typesOf f) x.args)→call 106 [.agg [externs m.externs,globals m.globals,tables m.tables,funcs m.funcs],.agg [str f.name,bool f.out,ints f.params,int f.result,blocks f.blocks],.agg [int x.op,int x.type,int x.to,int x.sym,int x.num,ints x.args,ints x.into],c] h=some (bool (fitB m f (typesOf f) x),h))(mm:Nat)(hm:f.blocks.length<mm)(h:Heap)(hI:I h):∃h1,I h1∧Tm.Loop Try.prog vals call n [2,3,5,6] k85b2 mm ⟨[(2,.op 0 0),(3,.op 1 0),(5,ints (typesOf f)),(6,int 0)],h⟩=some (if f.blocks.any (badFB m f)=true then(.ret,⟨[(4,bool false)],h1⟩) else(.exit 0,⟨[(2,.op 0 0),(3,.op 1 0),(5,ints (typesOf f)),(6,int f.blocks.length),(17,bool false)],h1⟩)):=by
 obtain⟨h1,J,L⟩:=Loop_any (P:=Try.prog) (vals:=vals) (call:=call) (n:=n) (ks:=[2,3,5,6]) (K:=k85b2) (id:=0) f.blocks.length (fun i=>badFB m f (blkAt f.blocks i)) (fun i=>[(2,.op 0 0),(3,.op 1 0),(5,ints (typesOf f)),(6,int i)]) [(4,bool false)] [(2,.op 0 0),(3,.op 1 0),(5,ints (typesOf f)),(6,int f.blocks.length),(17,bool false)] I
  (fun i h hi hI=>by
   have e1:decide ((i:Int)<f.blocks.length)=true:=by simp;omega
   have e2:0≤(i:Int)∧(i:Int)<f.blocks.length:=by omega
   have e3:=wrap_next (n:=f.blocks.length) (i:=i) (by omega) (by omega)
   have hx:=blkAt_mem e2
   obtain⟨hb1,hb2⟩:=hb _ hx
   have j1:=hg1 _ hI
   obtain⟨h1,J1,L1⟩:=rtyped_l1 (vals:=vals) (call:=call) (n:=n) m f i e2 hb2 (hxs _ hx) (hin _ hx) I hmo hg hg1 (hc _ hx) n hb1 _ hI
   unfold badFB
   refine⟨h1,J1,?_⟩
   cases c1:(blkAt f.blocks i).ins.any (badFI m f) with
   |true=>
    rw[c1,if_pos rfl] at L1
    simp +decide -implicitDefEqProofs only[k85b2,go_sem,e1,e2,e3,set_new,j1,L1]
   |false=>
    rw[c1,if_neg (by decide)] at L1
    simp +decide -implicitDefEqProofs only[k85b2,go_sem,e1,e2,e3,set_new,j1,L1])
  (fun h hI=>by
   have j1:=hg1 _ hI
   exact⟨h,hI,by simp +decide -implicitDefEqProofs only[k85b2,go_sem,Int.lt_irrefl,decide_false,j1]⟩) f.blocks.length 0 mm h (by omega) hm hI
 simp only[show((0:Nat):Int)=0 from rfl] at L
 rw[any_blks] at L
 exact⟨h1,J,L⟩
theorem rtyped_runs (m:Tm.Module)(f:Tm.Func)(F:Fine f)(hpar:f.params.length≤20)(hsh:∀b∈f.blocks,∀x∈b.ins,ShapeOk x)(hsy:∀b∈f.blocks,∀x∈b.ins,SymOk m x)(hin:∀b∈f.blocks,∀x∈b.ins,∀v∈x.args,0≤v∧v<((typesOf f).length:Int)):Runs Try.prog tab 400 85 [.agg (encModule m),.agg (encFunc f)] (bool (typedB m f)):=by
 refine Runs.by (rs:=[.tmp 4]) (N:=64) rfl Try.func85 rfl rfl (by simp) fun k hk=>?_
 have b1:=F.blocks
 have hty:∀h,callAt Try.prog tab k 94 [.agg (encFunc f)] h=some (ints (typesOf f),h):=fun h=>rtypes_runs f F hpar k (by omega) _ h (by simp only[mapC_cons,mapC_nil,depth,view_func,Option.bind_some])
 have hfit:∀b∈f.blocks,∀x∈b.ins,∀c h,GrowG int h c (gotOf (typesOf f) x.args)→callAt Try.prog tab k 106 [.agg [externs m.externs,globals m.globals,tables m.tables,funcs m.funcs],.agg [str f.name,bool f.out,ints f.params,int f.result,blocks f.blocks],.agg [int x.op,int x.type,int x.to,int x.sym,int x.num,ints x.args,ints x.into],c] h=some (bool (fitB m f (typesOf f) x),h):=fun b hb x hx c h G=>by
  have:=(F.into b hb x hx).1
  rw[fitB_is]
  have v1:view false h depth (.agg [externs m.externs,globals m.globals,tables m.tables,funcs m.funcs])=some (.agg [externs m.externs,globals m.globals,tables m.tables,funcs m.funcs]):=by simp +decide -implicitDefEqProofs only[depth,go_sem]
  have v2:view false h depth (.agg [str f.name,bool f.out,ints f.params,int f.result,blocks f.blocks])=some (.agg [str f.name,bool f.out,ints f.params,int f.result,blocks f.blocks]):=by simp +decide -implicitDefEqProofs only[depth,go_sem]
  have v3:view false h depth (.agg [int x.op,int x.type,int x.to,int x.sym,int x.num,ints x.args,ints x.into])=some (.agg [int x.op,int x.type,int x.to,int x.sym,int x.num,ints x.args,ints x.into]):=by simp +decide -implicitDefEqProofs only[depth,go_sem]
  have v4:view false h depth c=some (ints (gotOf (typesOf f) x.args)):=G.viewI
  exact rfit_runs m f (gotOf (typesOf f) x.args) x (hsh b hb x hx) (hsy b hb x hx) (by omega) (by simp[gotOf]) k (by omega) _ h (by simp only[mapC_cons,mapC_nil,v1,v2,v3,v4,Option.bind_some])
 generalize hc':callAt Try.prog tab k=call at*
 generalize hv':valsOf tab=vals at*
 rw[enc_func,enc_module] at*
 obtain⟨h1,I1,L1⟩:=rtyped_l2 (vals:=vals) (call:=call) (n:=k) m f (by omega) (fun b hb=>by have:=F.ins b hb;omega) (fun b hb x hx=>by have:=(F.into b hb x hx).1;omega) hin (fun(h:Heap)=>h[0]?=some (.row 0 [externs m.externs,globals m.globals,tables m.tables,funcs m.funcs])∧h[1]?=some (.row 0 [str f.name,bool f.out,ints f.params,int f.result,blocks f.blocks])) (fun h h2 H e=>⟨e 0 (.row 0 [externs m.externs,globals m.globals,tables m.tables,funcs m.funcs]) H.1,e 1 (.row 0 [str f.name,bool f.out,ints f.params,int f.result,blocks f.blocks]) H.2⟩) (fun h H=>H.1) (fun h H=>H.2) hfit k (by omega) [.row 0 [externs m.externs,globals m.globals,tables m.tables,funcs m.funcs],.row 0 [str f.name,bool f.out,ints f.params,int f.result,blocks f.blocks]] ⟨rfl,rfl⟩
 unfold typedB
 cases x1:f.blocks.any (badFB m f) with
 |true=>
  rw[x1,if_pos rfl] at L1
  simp +decide -implicitDefEqProofs only[k85,go_sem,hty,L1];exact⟨_,_,rfl,rfl⟩
 |false=>
  rw[x1,if_neg (by decide)] at L1
  simp +decide -implicitDefEqProofs only[k85,go_sem,hty,L1];exact⟨_,_,rfl,rfl⟩
noncomputable def checkN (m:Tm.Module):Int:=
 if limitsB m=false then 2 else if formedB m=false then 1 else if namedB m=false then 3 else if knownB m=false then 4
 else if (m.funcs.any fun f=>!flowsB f.blocks)=true then 5 else if (m.funcs.any fun f=>!usedB f)=true then 6 else if (m.funcs.any fun f=>!typedB m f)=true then 7 else 0
theorem limits_blocks {m:Tm.Module}(h:limitsB m=true):∀f∈m.funcs,0<f.blocks.length:=by
 intro f hf
 unfold limitsB at h
 rw[Bool.and_eq_true,Bool.and_eq_true,Bool.and_eq_true,Bool.and_eq_true] at h
 have h1:=h.2.2.2.2
 rw[Bool.not_eq_true',List.any_eq_false] at h1
 have h2:=h1 f hf
 unfold moreF at h2
 rw[Bool.not_eq_true,Bool.or_eq_false_iff,Bool.or_eq_false_iff,Bool.or_eq_false_iff] at h2
 have:=of_decide_eq_false h2.1.1.2
 omega
theorem formed_shape {m:Tm.Module}(h:formedB m=true):∀f∈m.funcs,∀b∈f.blocks,∀x∈b.ins,ShapeOk x:=by
 intro f hf b hb x hx
 unfold formedB at h
 rw[Bool.and_eq_true] at h
 have h1:=h.2
 rw[Bool.not_eq_true',List.any_eq_false] at h1
 have h2:=h1 f hf
 unfold badF at h2
 rw[Bool.not_eq_true,Bool.or_eq_false_iff,Bool.or_eq_false_iff,List.any_eq_false,List.any_eq_false] at h2
 have h3:=h2.2.2 b hb
 unfold badB2 at h3
 rw[Bool.not_eq_true,List.any_eq_false] at h3
 have h4:=h3 x hx
 unfold badI at h4
 exact shape_ok (by simpa using h4)
theorem known_sym {m:Tm.Module}(h:knownB m=true):∀f∈m.funcs,∀b∈f.blocks,∀x∈b.ins,SymOk m x:=by
 intro f hf b hb x hx
 unfold knownB at h
 rw[Bool.and_eq_true] at h
 have h1:=h.2
 rw[Bool.not_eq_true',List.any_eq_false] at h1
 have h2:=h1 f hf
 unfold badSF at h2
 rw[Bool.not_eq_true,List.any_eq_false] at h2
 have h3:=h2 b hb
 unfold badSB at h3
 rw[Bool.not_eq_true,List.any_eq_false] at h3
 have h4:=h3 x hx
 unfold badSI at h4
 rw[Bool.not_eq_true,Bool.or_eq_false_iff] at h4
 have a1:=of_decide_eq_false h4.1
 have a2:=of_decide_eq_false h4.2
 constructor
 ·intro e
  have:boundI m.externs.length m.globals.length m.tables.length m.funcs.length x=(m.funcs.length:Int):=by unfold boundI;rw[e];rfl
  rw[this] at a2
  omega
 ·intro e
  have:boundI m.externs.length m.globals.length m.tables.length m.funcs.length x=(m.externs.length:Int):=by unfold boundI;rw[e];rfl
  rw[this] at a2
  omega
theorem blk_of_mem {l:List Block}{b:Block}(h:b∈l):∃i:Nat,i<l.length∧blkAt l i=b:=by
 obtain⟨i,hi,e⟩:=List.getElem_of_mem h
 exact⟨i,hi,by simp[blkAt,List.getD_eq_getElem?_getD,List.getElem?_eq_getElem hi,e]⟩
theorem ins_of_mem {l:List Ins}{b:Ins}(h:b∈l):∃i:Nat,i<l.length∧insAt l i=b:=by
 obtain⟨i,hi,e⟩:=List.getElem_of_mem h
 exact⟨i,hi,by rw[insAt_get hi];exact e⟩
structure FlowOk (l:List Block):Prop where
 ins:∀b∈l,0<b.ins.length
 met:∀b:Nat,b<l.length→Rc (nextOf l) (fun _=>True) 0 b
 phi:∀b∈l,∀x∈b.ins,phiB x=true→∀t∈x.into,0≤t∧t<(l.length:Int)
theorem flow_ok {l:List Block}(h:flowsB l=true):FlowOk l:=by
 unfold flowsB at h
 rw[Bool.and_eq_true,Bool.and_eq_true,Bool.not_eq_true',Bool.not_eq_true',Bool.not_eq_true',any_no,any_no,reach_all] at h
 obtain⟨h1,h2,h3⟩:=h
 refine⟨fun b hb=>?_,fun b hb=>(reach_at (by omega) (by omega)).1 (h2 b hb),fun b hb x hx hp t ht=>?_⟩
 ·obtain⟨i,hi,rfl⟩:=blk_of_mem hb
  have:=h1 i hi
  unfold badBW badW at this
  rw[Bool.or_eq_false_iff] at this
  have:=of_decide_eq_false this.1
  omega
 ·obtain⟨i,hi,rfl⟩:=blk_of_mem hb
  have:=h3 i hi
  unfold badBP at this
  rw[List.any_eq_false] at this
  have:=this x hx
  unfold badPhi at this
  rw[hp,Bool.true_and] at this
  have e:x.into=rowOfL (prevOf l) i:=by simpa using this
  rw[e] at ht
  have:=(prev_mem (l:=l) (b:=(i:Int)) (by omega)).1 ht
  exact⟨this.1,this.2.1⟩
theorem used_args {f:Tm.Func}(h:usedB f=true):∀b∈f.blocks,∀x∈b.ins,∀v∈x.args,1≤v∧v≤((f.params.length+(posOf f.blocks).length:Nat):Int):=by
 intro b hb x hx v hv
 unfold usedB at h
 rw[Bool.and_eq_true,Bool.not_eq_true',Bool.not_eq_true',any_no,any_no] at h
 obtain⟨i,hi,rfl⟩:=blk_of_mem hb
 have h1:=h.2 i hi
 unfold badUB at h1
 rw[any_no] at h1
 obtain⟨k,hk,rfl⟩:=ins_of_mem hx
 have h2:=h1 k hk
 unfold badUX at h2
 rw[any_no] at h2
 obtain⟨j,hj,e⟩:=List.getElem_of_mem hv
 have h3:=h2 j hj
 unfold badA at h3
 rw[Bool.or_eq_false_iff,Bool.or_eq_false_iff] at h3
 have e2:rd (insAt (blkAt f.blocks i).ins k).args j=v:=by rw[rd,Int.toNat_natCast,List.getD_eq_getElem?_getD,List.getElem?_eq_getElem hj,Option.getD_some,e]
 rw[e2] at h3
 have a1:=of_decide_eq_false h3.1.1
 have a2:=of_decide_eq_false h3.1.2
 omega
theorem types_len (f:Tm.Func):(typesOf f).length=f.params.length+1+(posOf f.blocks).length:=by rw[posOf_len];simp[typesOf];omega
theorem wcheck_l0 {vals:FuncId→Bool}{call:CallF}{n:Nat}(m:Tm.Module)(hl:m.funcs.length<2^50)(I:Heap→Prop)(hp:∀h x,I h→I (h++[x]))(hg:∀h,I h→h[0]?=some (.row 0 [externs m.externs,globals m.globals,tables m.tables,funcs m.funcs]))(hc:∀f∈m.funcs,∀h,call 91 [.agg [str f.name,bool f.out,ints f.params,int f.result,blocks f.blocks]] h=some (bool (flowsB f.blocks),h))(mm:Nat)(hm:m.funcs.length<mm)(h:Heap)(hI:I h):∃h1,I h1∧Tm.Loop Try.prog vals call n [1,26,27,28] k53b0 mm ⟨[(1,.op 0 0),(26,funcs m.funcs),(27,int m.funcs.length),(28,int 0)],h⟩=some (if (m.funcs.any fun f=>!flowsB f.blocks)=true then(.ret,⟨[(2,int 5)],h1⟩) else(.exit 1,⟨[(1,.op 0 0),(26,funcs m.funcs),(27,int m.funcs.length),(28,int m.funcs.length),(29,bool false)],h1⟩)):=by
 obtain⟨h1,J,L⟩:=Loop_any (P:=Try.prog) (vals:=vals) (call:=call) (n:=n) (ks:=[1,26,27,28]) (K:=k53b0) (id:=1) m.funcs.length (fun i=>!flowsB (fnAt m.funcs i).blocks) (fun i=>[(1,.op 0 0),(26,funcs m.funcs),(27,int m.funcs.length),(28,int i)]) [(2,int 5)] [(1,.op 0 0),(26,funcs m.funcs),(27,int m.funcs.length),(28,int m.funcs.length),(29,bool false)] I
  (fun i h hi hI=>by
   have e1:decide ((i:Int)<m.funcs.length)=true:=by simp;omega
   have e2:0≤(i:Int)∧(i:Int)<m.funcs.length:=by omega
   have e3:=wrap_next (n:=m.funcs.length) (i:=i) (by omega) (by omega)
   have hx:fnAt m.funcs i∈m.funcs:=getD_mem hi
   have hc1:=hc _ hx
   have g0:=hg _ hI
   have I1:=hp _ (.row 0 (encFunc (fnAt m.funcs i))) hI
   have g1:=hg _ I1
   simp only[enc_func] at I1 g1
   refine⟨_,I1,?_⟩
   cases c1:flowsB (fnAt m.funcs i).blocks<;>simp +decide -implicitDefEqProofs only[k53b0,go_sem,e1,e2,e3,set_new,enc_func,g0,g1,hc1,c1])
  (fun h hI=>by
   exact⟨h,hI,by simp +decide -implicitDefEqProofs only[k53b0,go_sem,Int.lt_irrefl,decide_false]⟩) m.funcs.length 0 mm h (by omega) hm hI
 simp only[show((0:Nat):Int)=0 from rfl] at L
 rw[any_fns (fun f=>!flowsB f.blocks)] at L
 exact⟨h1,J,L⟩
theorem wcheck_l1 {vals:FuncId→Bool}{call:CallF}{n:Nat}(m:Tm.Module)(hl:m.funcs.length<2^50)(I:Heap→Prop)(hp:∀h x,I h→I (h++[x]))(hg:∀h,I h→h[0]?=some (.row 0 [externs m.externs,globals m.globals,tables m.tables,funcs m.funcs]))(hc:∀f∈m.funcs,∀h,call 92 [.agg [str f.name,bool f.out,ints f.params,int f.result,blocks f.blocks]] h=some (bool (usedB f),h))(mm:Nat)(hm:m.funcs.length<mm)(h:Heap)(hI:I h):∃h1,I h1∧Tm.Loop Try.prog vals call n [1,37,38,39] k53b1 mm ⟨[(1,.op 0 0),(37,funcs m.funcs),(38,int m.funcs.length),(39,int 0)],h⟩=some (if (m.funcs.any fun f=>!usedB f)=true then(.ret,⟨[(2,int 6)],h1⟩) else(.exit 3,⟨[(1,.op 0 0),(37,funcs m.funcs),(38,int m.funcs.length),(39,int m.funcs.length),(40,bool false)],h1⟩)):=by
 obtain⟨h1,J,L⟩:=Loop_any (P:=Try.prog) (vals:=vals) (call:=call) (n:=n) (ks:=[1,37,38,39]) (K:=k53b1) (id:=3) m.funcs.length (fun i=>!usedB (fnAt m.funcs i)) (fun i=>[(1,.op 0 0),(37,funcs m.funcs),(38,int m.funcs.length),(39,int i)]) [(2,int 6)] [(1,.op 0 0),(37,funcs m.funcs),(38,int m.funcs.length),(39,int m.funcs.length),(40,bool false)] I
  (fun i h hi hI=>by
   have e1:decide ((i:Int)<m.funcs.length)=true:=by simp;omega
   have e2:0≤(i:Int)∧(i:Int)<m.funcs.length:=by omega
   have e3:=wrap_next (n:=m.funcs.length) (i:=i) (by omega) (by omega)
   have hx:fnAt m.funcs i∈m.funcs:=getD_mem hi
   have hc1:=hc _ hx
   have g0:=hg _ hI
   have I1:=hp _ (.row 0 (encFunc (fnAt m.funcs i))) hI
   have g1:=hg _ I1
   simp only[enc_func] at I1 g1
   refine⟨_,I1,?_⟩
   cases c1:usedB (fnAt m.funcs i)<;>simp +decide -implicitDefEqProofs only[k53b1,go_sem,e1,e2,e3,set_new,enc_func,g0,g1,hc1,c1])
  (fun h hI=>by
   exact⟨h,hI,by simp +decide -implicitDefEqProofs only[k53b1,go_sem,Int.lt_irrefl,decide_false]⟩) m.funcs.length 0 mm h (by omega) hm hI
 simp only[show((0:Nat):Int)=0 from rfl] at L
 rw[any_fns (fun f=>!usedB f)] at L
 exact⟨h1,J,L⟩
theorem wcheck_l2 {vals:FuncId→Bool}{call:CallF}{n:Nat}(m:Tm.Module)(hl:m.funcs.length<2^50)(I:Heap→Prop)(hp:∀h x,I h→I (h++[x]))(hg:∀h,I h→h[0]?=some (.row 0 [externs m.externs,globals m.globals,tables m.tables,funcs m.funcs]))(hc:∀f∈m.funcs,∀h,call 93 [.agg [externs m.externs,globals m.globals,tables m.tables,funcs m.funcs],.agg [str f.name,bool f.out,ints f.params,int f.result,blocks f.blocks]] h=some (bool (typedB m f),h))(mm:Nat)(hm:m.funcs.length<mm)(h:Heap)(hI:I h):∃h1,I h1∧Tm.Loop Try.prog vals call n [1,48,49,50] k53b2 mm ⟨[(1,.op 0 0),(48,funcs m.funcs),(49,int m.funcs.length),(50,int 0)],h⟩=some (if (m.funcs.any fun f=>!typedB m f)=true then(.ret,⟨[(2,int 7)],h1⟩) else(.exit 5,⟨[(1,.op 0 0),(48,funcs m.funcs),(49,int m.funcs.length),(50,int m.funcs.length),(51,bool false)],h1⟩)):=by
 obtain⟨h1,J,L⟩:=Loop_any (P:=Try.prog) (vals:=vals) (call:=call) (n:=n) (ks:=[1,48,49,50]) (K:=k53b2) (id:=5) m.funcs.length (fun i=>!typedB m (fnAt m.funcs i)) (fun i=>[(1,.op 0 0),(48,funcs m.funcs),(49,int m.funcs.length),(50,int i)]) [(2,int 7)] [(1,.op 0 0),(48,funcs m.funcs),(49,int m.funcs.length),(50,int m.funcs.length),(51,bool false)] I
  (fun i h hi hI=>by
   have e1:decide ((i:Int)<m.funcs.length)=true:=by simp;omega
   have e2:0≤(i:Int)∧(i:Int)<m.funcs.length:=by omega
   have e3:=wrap_next (n:=m.funcs.length) (i:=i) (by omega) (by omega)
   have hx:fnAt m.funcs i∈m.funcs:=getD_mem hi
   have hc1:=hc _ hx
   have g0:=hg _ hI
   have I1:=hp _ (.row 0 (encFunc (fnAt m.funcs i))) hI
   have g1:=hg _ I1
   simp only[enc_func] at I1 g1
   refine⟨_,I1,?_⟩
   cases c1:typedB m (fnAt m.funcs i)<;>simp +decide -implicitDefEqProofs only[k53b2,go_sem,e1,e2,e3,set_new,enc_func,g0,g1,hc1,c1])
  (fun h hI=>by
   exact⟨h,hI,by simp +decide -implicitDefEqProofs only[k53b2,go_sem,Int.lt_irrefl,decide_false]⟩) m.funcs.length 0 mm h (by omega) hm hI
 simp only[show((0:Nat):Int)=0 from rfl] at L
 rw[any_fns (fun f=>!typedB m f)] at L
 exact⟨h1,J,L⟩
theorem rcheck_l0 {vals:FuncId→Bool}{call:CallF}{n:Nat}(m:Tm.Module)(hl:m.funcs.length<2^50)(I:Heap→Prop)(hp:∀h x,I h→I (h++[x]))(hg:∀h,I h→h[0]?=some (.row 0 [externs m.externs,globals m.globals,tables m.tables,funcs m.funcs]))(hc:∀f∈m.funcs,∀h,call 83 [.agg [str f.name,bool f.out,ints f.params,int f.result,blocks f.blocks]] h=some (bool (flowsB f.blocks),h))(mm:Nat)(hm:m.funcs.length<mm)(h:Heap)(hI:I h):∃h1,I h1∧Tm.Loop Try.prog vals call n [1,3] k48b0 mm ⟨[(1,.op 0 0),(3,int 0)],h⟩=some (if (m.funcs.any fun f=>!flowsB f.blocks)=true then(.ret,⟨[(2,int 5)],h1⟩) else(.exit 0,⟨[(1,.op 0 0),(3,int m.funcs.length),(22,bool false)],h1⟩)):=by
 obtain⟨h1,J,L⟩:=Loop_any (P:=Try.prog) (vals:=vals) (call:=call) (n:=n) (ks:=[1,3]) (K:=k48b0) (id:=0) m.funcs.length (fun i=>!flowsB (fnAt m.funcs i).blocks) (fun i=>[(1,.op 0 0),(3,int i)]) [(2,int 5)] [(1,.op 0 0),(3,int m.funcs.length),(22,bool false)] I
  (fun i h hi hI=>by
   have e1:decide ((i:Int)<m.funcs.length)=true:=by simp;omega
   have e2:0≤(i:Int)∧(i:Int)<m.funcs.length:=by omega
   have e3:=wrap_next (n:=m.funcs.length) (i:=i) (by omega) (by omega)
   have hx:fnAt m.funcs i∈m.funcs:=getD_mem hi
   have hc1:=hc _ hx
   have g0:=hg _ hI
   refine⟨_,hI,?_⟩
   cases c1:flowsB (fnAt m.funcs i).blocks<;>simp +decide -implicitDefEqProofs only[k48b0,go_sem,e1,e2,e3,set_new,g0,hc1,c1])
  (fun h hI=>by
   have g0:=hg h hI
   exact⟨h,hI,by simp +decide -implicitDefEqProofs only[k48b0,go_sem,Int.lt_irrefl,decide_false,g0]⟩) m.funcs.length 0 mm h (by omega) hm hI
 simp only[show((0:Nat):Int)=0 from rfl] at L
 rw[any_fns (fun f=>!flowsB f.blocks)] at L
 exact⟨h1,J,L⟩
theorem rcheck_l1 {vals:FuncId→Bool}{call:CallF}{n:Nat}(m:Tm.Module)(hl:m.funcs.length<2^50)(I:Heap→Prop)(hp:∀h x,I h→I (h++[x]))(hg:∀h,I h→h[0]?=some (.row 0 [externs m.externs,globals m.globals,tables m.tables,funcs m.funcs]))(hc:∀f∈m.funcs,∀h,call 84 [.agg [str f.name,bool f.out,ints f.params,int f.result,blocks f.blocks]] h=some (bool (usedB f),h))(mm:Nat)(hm:m.funcs.length<mm)(h:Heap)(hI:I h):∃h1,I h1∧Tm.Loop Try.prog vals call n [1,4] k48b1 mm ⟨[(1,.op 0 0),(4,int 0)],h⟩=some (if (m.funcs.any fun f=>!usedB f)=true then(.ret,⟨[(2,int 6)],h1⟩) else(.exit 2,⟨[(1,.op 0 0),(4,int m.funcs.length),(36,bool false)],h1⟩)):=by
 obtain⟨h1,J,L⟩:=Loop_any (P:=Try.prog) (vals:=vals) (call:=call) (n:=n) (ks:=[1,4]) (K:=k48b1) (id:=2) m.funcs.length (fun i=>!usedB (fnAt m.funcs i)) (fun i=>[(1,.op 0 0),(4,int i)]) [(2,int 6)] [(1,.op 0 0),(4,int m.funcs.length),(36,bool false)] I
  (fun i h hi hI=>by
   have e1:decide ((i:Int)<m.funcs.length)=true:=by simp;omega
   have e2:0≤(i:Int)∧(i:Int)<m.funcs.length:=by omega
   have e3:=wrap_next (n:=m.funcs.length) (i:=i) (by omega) (by omega)
   have hx:fnAt m.funcs i∈m.funcs:=getD_mem hi
   have hc1:=hc _ hx
   have g0:=hg _ hI
   refine⟨_,hI,?_⟩
   cases c1:usedB (fnAt m.funcs i)<;>simp +decide -implicitDefEqProofs only[k48b1,go_sem,e1,e2,e3,set_new,g0,hc1,c1])
  (fun h hI=>by
   have g0:=hg h hI
   exact⟨h,hI,by simp +decide -implicitDefEqProofs only[k48b1,go_sem,Int.lt_irrefl,decide_false,g0]⟩) m.funcs.length 0 mm h (by omega) hm hI
 simp only[show((0:Nat):Int)=0 from rfl] at L
 rw[any_fns (fun f=>!usedB f)] at L
 exact⟨h1,J,L⟩
theorem rcheck_l2 {vals:FuncId→Bool}{call:CallF}{n:Nat}(m:Tm.Module)(hl:m.funcs.length<2^50)(I:Heap→Prop)(hp:∀h x,I h→I (h++[x]))(hg:∀h,I h→h[0]?=some (.row 0 [externs m.externs,globals m.globals,tables m.tables,funcs m.funcs]))(hc:∀f∈m.funcs,∀h,call 85 [.agg [externs m.externs,globals m.globals,tables m.tables,funcs m.funcs],.agg [str f.name,bool f.out,ints f.params,int f.result,blocks f.blocks]] h=some (bool (typedB m f),h))(hv:vals 85=true)(mm:Nat)(hm:m.funcs.length<mm)(h:Heap)(hI:I h):∃h1,I h1∧Tm.Loop Try.prog vals call n [1,5] k48b2 mm ⟨[(1,.op 0 0),(5,int 0)],h⟩=some (if (m.funcs.any fun f=>!typedB m f)=true then(.ret,⟨[(2,int 7)],h1⟩) else(.exit 4,⟨[(1,.op 0 0),(5,int m.funcs.length),(50,bool false)],h1⟩)):=by
 obtain⟨h1,J,L⟩:=Loop_any (P:=Try.prog) (vals:=vals) (call:=call) (n:=n) (ks:=[1,5]) (K:=k48b2) (id:=4) m.funcs.length (fun i=>!typedB m (fnAt m.funcs i)) (fun i=>[(1,.op 0 0),(5,int i)]) [(2,int 7)] [(1,.op 0 0),(5,int m.funcs.length),(50,bool false)] I
  (fun i h hi hI=>by
   have e1:decide ((i:Int)<m.funcs.length)=true:=by simp;omega
   have e2:0≤(i:Int)∧(i:Int)<m.funcs.length:=by omega
   have e3:=wrap_next (n:=m.funcs.length) (i:=i) (by omega) (by omega)
   have hx:fnAt m.funcs i∈m.funcs:=getD_mem hi
   have hc1:=hc _ hx
   have g0:=hg _ hI
   refine⟨_,hI,?_⟩
   cases c1:typedB m (fnAt m.funcs i)<;>simp +decide -implicitDefEqProofs only[k48b2,go_sem,e1,e2,e3,set_new,g0,hc1,c1,hv])
  (fun h hI=>by
   have g0:=hg h hI
   exact⟨h,hI,by simp +decide -implicitDefEqProofs only[k48b2,go_sem,Int.lt_irrefl,decide_false,g0]⟩) m.funcs.length 0 mm h (by omega) hm hI
 simp only[show((0:Nat):Int)=0 from rfl] at L
 rw[any_fns (fun f=>!typedB m f)] at L
 exact⟨h1,J,L⟩
theorem any_not {α:Type}{p:α→Bool}{l:List α}(h:(l.any fun x=>!p x)=false):∀x∈l,p x=true:=by
 intro x hx
 rw[List.any_eq_false] at h
 have:=h x hx
 simpa using this
theorem wcheck_runs (m:Tm.Module)(F:FineM m):Runs Try.prog tab (2^36+200) 53 [.agg (encModule m)] (int (checkN m)):=by
 refine Runs.by (rs:=[.tmp 2]) (N:=59) rfl Try.func53 rfl rfl (by simp) fun k hk=>?_
 have b4:=F.funcs
 rw[enc_module]
 have h87:∀h,callAt Try.prog tab k 87 [.agg [externs m.externs,globals m.globals,tables m.tables,funcs m.funcs]] h=some (bool (limitsB m),h):=fun h=>wsmall_runs m F k (by omega) _ h (by rw[enc_module];simp +decide -implicitDefEqProofs only[depth,go_sem])
 have h88:∀h,callAt Try.prog tab k 88 [.agg [externs m.externs,globals m.globals,tables m.tables,funcs m.funcs]] h=some (bool (formedB m),h):=fun h=>wformed_runs m F k (by omega) _ h (by rw[enc_module];simp +decide -implicitDefEqProofs only[depth,go_sem])
 have h89:∀h,callAt Try.prog tab k 89 [.agg [externs m.externs,globals m.globals,tables m.tables,funcs m.funcs]] h=some (bool (namedB m),h):=fun h=>wnamed_runs m F k (by omega) _ h (by rw[enc_module];simp +decide -implicitDefEqProofs only[depth,go_sem])
 have hp:∀(h:Heap) (x:Tm.Node),h[0]?=some (.row 0 [externs m.externs,globals m.globals,tables m.tables,funcs m.funcs])→(h++[x])[0]?=some (.row 0 [externs m.externs,globals m.globals,tables m.tables,funcs m.funcs]):=fun h x H=>by rw[List.getElem?_append_left (List.getElem?_eq_some_iff.1 H).1];exact H
 unfold checkN
 cases c1:limitsB m with
 |false=>rw[if_pos rfl];rw[c1] at h87;(simp +decide -implicitDefEqProofs only[k53,go_sem,h87];exact⟨_,_,rfl,rfl⟩)
 |true=>
 rw[if_neg (by decide)]
 rw[c1] at h87
 cases c2:formedB m with
 |false=>rw[if_pos rfl];rw[c2] at h88;(simp +decide -implicitDefEqProofs only[k53,go_sem,h87,h88];exact⟨_,_,rfl,rfl⟩)
 |true=>
 rw[if_neg (by decide)]
 rw[c2] at h88
 cases c3:namedB m with
 |false=>rw[if_pos rfl];rw[c3] at h89;(simp +decide -implicitDefEqProofs only[k53,go_sem,h87,h88,h89];exact⟨_,_,rfl,rfl⟩)
 |true=>
 rw[if_neg (by decide)]
 rw[c3] at h89
 have hpos:=limits_blocks c1
 have hsh:=formed_shape c2
 have h90:∀h,callAt Try.prog tab k 90 [.agg [externs m.externs,globals m.globals,tables m.tables,funcs m.funcs]] h=some (bool (knownB m),h):=fun h=>wknown_runs m F (fun f hf b hb x hx=>(hsh f hf b hb x hx).noSym) k (by omega) _ h (by rw[enc_module];simp +decide -implicitDefEqProofs only[depth,go_sem])
 cases c4:knownB m with
 |false=>rw[if_pos rfl];rw[c4] at h90;(simp +decide -implicitDefEqProofs only[k53,go_sem,h87,h88,h89,h90];exact⟨_,_,rfl,rfl⟩)
 |true=>
 rw[if_neg (by decide)]
 rw[c4] at h90
 have hsy:=known_sym c4
 have q5:∀f∈m.funcs,∀h,callAt Try.prog tab k 91 [.agg [str f.name,bool f.out,ints f.params,int f.result,blocks f.blocks]] h=some (bool (flowsB f.blocks),h):=fun f hf h=>wflows_runs f (F.fn f hf).1 k (by omega) _ h (by rw[enc_func];simp +decide -implicitDefEqProofs only[depth,go_sem])
 obtain⟨g1,I1,L1⟩:=wcheck_l0 (vals:=valsOf tab) (call:=callAt Try.prog tab k) (n:=k) m (by omega) (fun(h:Heap)=>h[0]?=some (.row 0 [externs m.externs,globals m.globals,tables m.tables,funcs m.funcs])) hp (fun h H=>H) q5 k (by omega) [.row 0 [externs m.externs,globals m.globals,tables m.tables,funcs m.funcs]] rfl
 cases c5:(m.funcs.any fun f=>!flowsB f.blocks) with
 |true=>rw[if_pos rfl];rw[c5,if_pos rfl] at L1;(simp +decide -implicitDefEqProofs only[k53,go_sem,h87,h88,h89,h90,L1];exact⟨_,_,rfl,rfl⟩)
 |false=>
 rw[if_neg (by decide)]
 rw[c5,if_neg (by decide)] at L1
 have hfl:∀f∈m.funcs,FlowOk f.blocks:=fun f hf=>flow_ok (any_not c5 f hf)
 have hph:∀f∈m.funcs,∀b∈f.blocks,∀x∈b.ins,PhiOk f.blocks.length x:=fun f hf b hb x hx=>⟨fun hq=>((hsh f hf b hb x hx).phi (of_decide_eq_true hq)).1,fun hq=>(hfl f hf).phi b hb x hx hq⟩
 have q6:∀f∈m.funcs,∀h,callAt Try.prog tab k 92 [.agg [str f.name,bool f.out,ints f.params,int f.result,blocks f.blocks]] h=some (bool (usedB f),h):=fun f hf h=>wused_runs f (F.fn f hf).1 (by have:=(F.fn f hf).2.2;omega) (hpos f hf) (hfl f hf).ins (hph f hf) (hfl f hf).met k (by omega) _ h (by rw[enc_func];simp +decide -implicitDefEqProofs only[depth,go_sem])
 obtain⟨g2,I2,L2⟩:=wcheck_l1 (vals:=valsOf tab) (call:=callAt Try.prog tab k) (n:=k) m (by omega) (fun(h:Heap)=>h[0]?=some (.row 0 [externs m.externs,globals m.globals,tables m.tables,funcs m.funcs])) hp (fun h H=>H) q6 k (by omega) g1 I1
 cases c6:(m.funcs.any fun f=>!usedB f) with
 |true=>rw[if_pos rfl];rw[c6,if_pos rfl] at L2;(simp +decide -implicitDefEqProofs only[k53,go_sem,h87,h88,h89,h90,L1,I1,L2];exact⟨_,_,rfl,rfl⟩)
 |false=>
 rw[if_neg (by decide)]
 rw[c6,if_neg (by decide)] at L2
 have q7:∀f∈m.funcs,∀h,callAt Try.prog tab k 93 [.agg [externs m.externs,globals m.globals,tables m.tables,funcs m.funcs],.agg [str f.name,bool f.out,ints f.params,int f.result,blocks f.blocks]] h=some (bool (typedB m f),h):=fun f hf h=>wtyped_runs m f (F.fn f hf).1 (by have:=(F.fn f hf).2.2;omega) (hsh f hf) (hsy f hf) (fun b hb x hx v hv=>by have:=used_args (any_not c6 f hf) b hb x hx v hv;have:=types_len f;omega) k (by omega) _ h (by rw[enc_func,enc_module];simp +decide -implicitDefEqProofs only[depth,go_sem])
 obtain⟨g3,I3,L3⟩:=wcheck_l2 (vals:=valsOf tab) (call:=callAt Try.prog tab k) (n:=k) m (by omega) (fun(h:Heap)=>h[0]?=some (.row 0 [externs m.externs,globals m.globals,tables m.tables,funcs m.funcs])) hp (fun h H=>H) q7 k (by omega) g2 I2
 cases c7:(m.funcs.any fun f=>!typedB m f) with
 |true=>rw[if_pos rfl];rw[c7,if_pos rfl] at L3;(simp +decide -implicitDefEqProofs only[k53,go_sem,h87,h88,h89,h90,L1,I1,L2,I2,L3];exact⟨_,_,rfl,rfl⟩)
 |false=>rw[if_neg (by decide)];rw[c7,if_neg (by decide)] at L3;(simp +decide -implicitDefEqProofs only[k53,go_sem,h87,h88,h89,h90,L1,I1,L2,I2,L3];exact⟨_,_,rfl,rfl⟩)
theorem rcheck_runs (m:Tm.Module)(F:FineM m):Runs Try.prog tab (2^36+200) 48 [.agg (encModule m)] (int (checkN m)):=by
 refine Runs.by (rs:=[.tmp 2]) (N:=61) rfl Try.func48 rfl rfl (by simp) fun k hk=>?_
 have b4:=F.funcs
 rw[enc_module]
 have h79:∀h,callAt Try.prog tab k 79 [.agg [externs m.externs,globals m.globals,tables m.tables,funcs m.funcs]] h=some (bool (limitsB m),h):=fun h=>rlimits_runs m F k (by omega) _ h (by rw[enc_module];simp +decide -implicitDefEqProofs only[depth,go_sem])
 have h80:∀h,callAt Try.prog tab k 80 [.agg [externs m.externs,globals m.globals,tables m.tables,funcs m.funcs]] h=some (bool (formedB m),h):=fun h=>rforms_runs m F k (by omega) _ h (by rw[enc_module];simp +decide -implicitDefEqProofs only[depth,go_sem])
 have h81:∀h,callAt Try.prog tab k 81 [.agg [externs m.externs,globals m.globals,tables m.tables,funcs m.funcs]] h=some (bool (namedB m),h):=fun h=>rnames_runs m F k (by omega) _ h (by rw[enc_module];simp +decide -implicitDefEqProofs only[depth,go_sem])
 have hp:∀(h:Heap) (x:Tm.Node),h[0]?=some (.row 0 [externs m.externs,globals m.globals,tables m.tables,funcs m.funcs])→(h++[x])[0]?=some (.row 0 [externs m.externs,globals m.globals,tables m.tables,funcs m.funcs]):=fun h x H=>by rw[List.getElem?_append_left (List.getElem?_eq_some_iff.1 H).1];exact H
 unfold checkN
 cases c1:limitsB m with
 |false=>rw[if_pos rfl];rw[c1] at h79;(simp +decide -implicitDefEqProofs only[k48,go_sem,h79];exact⟨_,_,rfl,rfl⟩)
 |true=>
 rw[if_neg (by decide)]
 rw[c1] at h79
 cases c2:formedB m with
 |false=>rw[if_pos rfl];rw[c2] at h80;(simp +decide -implicitDefEqProofs only[k48,go_sem,h79,h80];exact⟨_,_,rfl,rfl⟩)
 |true=>
 rw[if_neg (by decide)]
 rw[c2] at h80
 cases c3:namedB m with
 |false=>rw[if_pos rfl];rw[c3] at h81;(simp +decide -implicitDefEqProofs only[k48,go_sem,h79,h80,h81];exact⟨_,_,rfl,rfl⟩)
 |true=>
 rw[if_neg (by decide)]
 rw[c3] at h81
 have hpos:=limits_blocks c1
 have hsh:=formed_shape c2
 have h82:∀h,callAt Try.prog tab k 82 [.agg [externs m.externs,globals m.globals,tables m.tables,funcs m.funcs]] h=some (bool (knownB m),h):=fun h=>rsyms_runs m F k (by omega) _ h (by rw[enc_module];simp +decide -implicitDefEqProofs only[depth,go_sem])
 cases c4:knownB m with
 |false=>rw[if_pos rfl];rw[c4] at h82;(simp +decide -implicitDefEqProofs only[k48,go_sem,h79,h80,h81,h82];exact⟨_,_,rfl,rfl⟩)
 |true=>
 rw[if_neg (by decide)]
 rw[c4] at h82
 have hsy:=known_sym c4
 have q5:∀f∈m.funcs,∀h,callAt Try.prog tab k 83 [.agg [str f.name,bool f.out,ints f.params,int f.result,blocks f.blocks]] h=some (bool (flowsB f.blocks),h):=fun f hf h=>rflows_runs f (F.fn f hf).1 (hpos f hf) (fun b hb x hx=>(hsh f hf b hb x hx).intoOk) k (by omega) _ h (by rw[enc_func];simp +decide -implicitDefEqProofs only[depth,go_sem])
 obtain⟨g1,I1,L1⟩:=rcheck_l0 (vals:=valsOf tab) (call:=callAt Try.prog tab k) (n:=k) m (by omega) (fun(h:Heap)=>h[0]?=some (.row 0 [externs m.externs,globals m.globals,tables m.tables,funcs m.funcs])) hp (fun h H=>H) q5 k (by omega) [.row 0 [externs m.externs,globals m.globals,tables m.tables,funcs m.funcs]] rfl
 cases c5:(m.funcs.any fun f=>!flowsB f.blocks) with
 |true=>rw[if_pos rfl];rw[c5,if_pos rfl] at L1;(simp +decide -implicitDefEqProofs only[k48,go_sem,h79,h80,h81,h82,L1];exact⟨_,_,rfl,rfl⟩)
 |false=>
 rw[if_neg (by decide)]
 rw[c5,if_neg (by decide)] at L1
 have hfl:∀f∈m.funcs,FlowOk f.blocks:=fun f hf=>flow_ok (any_not c5 f hf)
 have hph:∀f∈m.funcs,∀b∈f.blocks,∀x∈b.ins,PhiOk f.blocks.length x:=fun f hf b hb x hx=>⟨fun hq=>((hsh f hf b hb x hx).phi (of_decide_eq_true hq)).1,fun hq=>(hfl f hf).phi b hb x hx hq⟩
 have q6:∀f∈m.funcs,∀h,callAt Try.prog tab k 84 [.agg [str f.name,bool f.out,ints f.params,int f.result,blocks f.blocks]] h=some (bool (usedB f),h):=fun f hf h=>ruses_runs f (F.fn f hf).1 (by have:=(F.fn f hf).2.2;omega) (hpos f hf) (hph f hf) k (by omega) _ h (by rw[enc_func];simp +decide -implicitDefEqProofs only[depth,go_sem])
 obtain⟨g2,I2,L2⟩:=rcheck_l1 (vals:=valsOf tab) (call:=callAt Try.prog tab k) (n:=k) m (by omega) (fun(h:Heap)=>h[0]?=some (.row 0 [externs m.externs,globals m.globals,tables m.tables,funcs m.funcs])) hp (fun h H=>H) q6 k (by omega) g1 I1
 cases c6:(m.funcs.any fun f=>!usedB f) with
 |true=>rw[if_pos rfl];rw[c6,if_pos rfl] at L2;(simp +decide -implicitDefEqProofs only[k48,go_sem,h79,h80,h81,h82,L1,I1,L2];exact⟨_,_,rfl,rfl⟩)
 |false=>
 rw[if_neg (by decide)]
 rw[c6,if_neg (by decide)] at L2
 have q7:∀f∈m.funcs,∀h,callAt Try.prog tab k 85 [.agg [externs m.externs,globals m.globals,tables m.tables,funcs m.funcs],.agg [str f.name,bool f.out,ints f.params,int f.result,blocks f.blocks]] h=some (bool (typedB m f),h):=fun f hf h=>rtyped_runs m f (F.fn f hf).1 (by have:=(F.fn f hf).2.2;omega) (hsh f hf) (hsy f hf) (fun b hb x hx v hv=>by have:=used_args (any_not c6 f hf) b hb x hx v hv;have:=types_len f;omega) k (by omega) _ h (by rw[enc_func,enc_module];simp +decide -implicitDefEqProofs only[depth,go_sem])
 obtain⟨g3,I3,L3⟩:=rcheck_l2 (vals:=valsOf tab) (call:=callAt Try.prog tab k) (n:=k) m (by omega) (fun(h:Heap)=>h[0]?=some (.row 0 [externs m.externs,globals m.globals,tables m.tables,funcs m.funcs])) hp (fun h H=>H) q7 (by decide) k (by omega) g2 I2
 cases c7:(m.funcs.any fun f=>!typedB m f) with
 |true=>rw[if_pos rfl];rw[c7,if_pos rfl] at L3;(simp +decide -implicitDefEqProofs only[k48,go_sem,h79,h80,h81,h82,L1,I1,L2,I2,L3];exact⟨_,_,rfl,rfl⟩)
 |false=>rw[if_neg (by decide)];rw[c7,if_neg (by decide)] at L3;(simp +decide -implicitDefEqProofs only[k48,go_sem,h79,h80,h81,h82,L1,I1,L2,I2,L3];exact⟨_,_,rfl,rfl⟩)
def Tight (f:Tm.Func):Prop:=f.blocks.length<17∧sizeOfL f.blocks<91
theorem lightB_size:∀{l:List Block} {a:Int},a<91→lightB l a=true→a+(sizeOfL l:Int)<91
 |[],a,h0,_=>by simpa[sizeOfL] using h0
 |c::l,a,h0,h=>by
  simp only[lightB,Bool.and_eq_true,Bool.not_eq_true',decide_eq_false_iff_not] at h
  have:=lightB_size (l:=l) (a:=a+(c.ins.length:Int)) (by omega) h.2.2
  have e:sizeOfL (c::l)=c.ins.length+sizeOfL l:=by simp[sizeOfL]
  omega
theorem light2_runs (f:Tm.Func)(hl:∀b∈f.blocks,b.ins.length<2^45):∃t,Runs Try.prog tab (2^36+1) 17 [.agg (encFunc f)] (bool t)∧(t=true→(Fine f∧f.name.size≤40∧f.params.length≤8)∧Tight f):=by
 by_cases c1:(f.name.size:Int)>40
 ·refine⟨false,Runs.by (rs:=[.tmp 2]) (N:=77) rfl Try.func17 rfl rfl (by simp) fun k hk=>?_,fun h=>by cases h⟩
  rw[enc_func]
  simp +decide -implicitDefEqProofs only[bind_ite,andThen_ite,leaves_ite,k17,go_sem,decide_eq_true c1]
  exact⟨_,_,rfl,rfl⟩
 by_cases c2:(f.params.length:Int)>8
 ·refine⟨false,Runs.by (rs:=[.tmp 2]) (N:=77) rfl Try.func17 rfl rfl (by simp) fun k hk=>?_,fun h=>by cases h⟩
  rw[enc_func]
  simp +decide -implicitDefEqProofs only[bind_ite,andThen_ite,leaves_ite,k17,go_sem,decide_eq_false c1,decide_eq_true c2]
  exact⟨_,_,rfl,rfl⟩
 by_cases c3:(f.blocks.length:Int)>16
 ·refine⟨false,Runs.by (rs:=[.tmp 2]) (N:=77) rfl Try.func17 rfl rfl (by simp) fun k hk=>?_,fun h=>by cases h⟩
  rw[enc_func]
  simp +decide -implicitDefEqProofs only[bind_ite,andThen_ite,leaves_ite,k17,go_sem,decide_eq_false c1,decide_eq_false c2,decide_eq_true c3]
  exact⟨_,_,rfl,rfl⟩
 refine⟨lightB f.blocks 0,Runs.by (rs:=[.tmp 2]) (N:=77) rfl Try.func17 rfl rfl (by simp) fun k hk=>?_,fun ht=>⟨⟨⟨by omega,fun b hb=>Nat.le_succ_of_le (lightB_ins (Int.le_refl 0) ht b hb).1,fun b hb=>(lightB_ins (Int.le_refl 0) ht b hb).2⟩,by omega,by omega⟩,by omega,by have:=lightB_size (by decide) ht;omega⟩⟩
 obtain⟨e,h⟩:=light_out (vals:=valsOf tab) (call:=callAt Try.prog tab k) (n:=k) f (by omega) hl hk f.blocks.length 0 k 0 (by omega) (by omega) (by omega)
 rw[show((0:Nat):Int)=0 from rfl,List.drop_zero] at h
 rw[enc_func] at h⊢
 cases hb:lightB f.blocks 0 with
 |true=>
  rw[if_pos hb] at h
  simp +decide -implicitDefEqProofs only[bind_ite,andThen_ite,leaves_ite,k17,go_sem,decide_eq_false c1,decide_eq_false c2,decide_eq_false c3,h]
  exact⟨_,_,rfl,rfl⟩
 |false=>
  rw[if_neg (by rw[hb];decide)] at h
  simp +decide -implicitDefEqProofs only[bind_ite,andThen_ite,leaves_ite,k17,go_sem,decide_eq_false c1,decide_eq_false c2,decide_eq_false c3,h]
  exact⟨_,_,rfl,rfl⟩
open Classical in
noncomputable def lightT (f:Tm.Func):Bool:=if h:∃t,Runs Try.prog tab (2^36+1) 17 [.agg (encFunc f)] (bool t)∧(t=true→(Fine f∧f.name.size≤40∧f.params.length≤8)∧Tight f) then Classical.choose h else false
theorem light_is (f:Tm.Func)(hl:∀b∈f.blocks,b.ins.length<2^45):Runs Try.prog tab (2^36+1) 17 [.agg (encFunc f)] (bool (lightT f))∧(lightT f=true→(Fine f∧f.name.size≤40∧f.params.length≤8)∧Tight f):=by
 have h:=light2_runs f hl
 unfold lightT
 rw[dif_pos h]
 exact Classical.choose_spec h
def sumS (l:List Tm.Func):Nat:=(l.map fun f=>sizeOfL f.blocks).sum
theorem sumS_next {l:List Tm.Func}{i:Nat}(h:i<l.length):sumS (l.take (i+1))=sumS (l.take i)+sizeOfL (fnAt l i).blocks:=by
 unfold sumS
 rw[List.take_add_one,List.getElem?_eq_getElem h,List.map_append,List.sum_append]
 simp[fnAt,List.getD_eq_getElem?_getD,List.getElem?_eq_getElem h]
def bigX (x:Extern):Bool:=decide ((x.name.size:Int)>40)||decide ((x.params.length:Int)>10)
def bigG (x:Tm.Global):Bool:=decide ((x.name.size:Int)>40)||decide ((x.cells.length:Int)>20)
def bigT (x:Table):Bool:=decide ((x.name.size:Int)>40)||decide ((x.funcs.length:Int)>16)
theorem small_l0 {vals:FuncId→Bool}{call:CallF}{n:Nat}(m:Tm.Module)(hl:m.externs.length<2^50)(h:Heap)(h0:h[0]?=some (.row 0 [externs m.externs,globals m.globals,tables m.tables,funcs m.funcs]))(mm:Nat)(hm:m.externs.length<mm):Tm.Loop Try.prog vals call n [1,3] k50b0 mm ⟨[(1,.op 0 0),(3,int 0)],h⟩=some (if m.externs.any bigX=true then(.ret,⟨[(2,bool false)],h⟩) else(.exit 0,⟨[(1,.op 0 0),(3,int m.externs.length),(34,bool false)],h⟩)):=by
 obtain⟨h1,e,L⟩:=Loop_any (P:=Try.prog) (vals:=vals) (call:=call) (n:=n) (ks:=[1,3]) (K:=k50b0) (id:=0) m.externs.length (fun i=>bigX (extAt m.externs i)) (fun i=>[(1,.op 0 0),(3,int i)]) [(2,bool false)] [(1,.op 0 0),(3,int m.externs.length),(34,bool false)] (fun g=>g=h)
  (fun i g hi hg=>⟨h,rfl,by
   rw[hg]
   have e1:decide ((i:Int)<m.externs.length)=true:=by simp;omega
   have e2:0≤(i:Int)∧(i:Int)<m.externs.length:=by omega
   have e3:=wrap_next (n:=m.externs.length) (i:=i) (by omega) (by omega)
   unfold bigX
   cases c1:decide (((extAt m.externs i).name.size:Int)>40)<;>cases c2:decide (((extAt m.externs i).params.length:Int)>10)<;>simp +decide -implicitDefEqProofs only[k50b0,go_sem,e1,e2,e3,set_new,c1,c2,h0]⟩)
  (fun g hg=>⟨h,rfl,by rw[hg];simp +decide -implicitDefEqProofs only[k50b0,go_sem,Int.lt_irrefl,decide_false,h0]⟩) m.externs.length 0 mm h (by omega) hm rfl
 rw[e] at L
 simp only[show((0:Nat):Int)=0 from rfl] at L
 rw[any_exts] at L
 exact L
theorem small_l1 {vals:FuncId→Bool}{call:CallF}{n:Nat}(m:Tm.Module)(hl:m.globals.length<2^50)(h:Heap)(h0:h[0]?=some (.row 0 [externs m.externs,globals m.globals,tables m.tables,funcs m.funcs]))(mm:Nat)(hm:m.globals.length<mm):Tm.Loop Try.prog vals call n [1,4] k50b1 mm ⟨[(1,.op 0 0),(4,int 0)],h⟩=some (if m.globals.any bigG=true then(.ret,⟨[(2,bool false)],h⟩) else(.exit 2,⟨[(1,.op 0 0),(4,int m.globals.length),(59,bool false)],h⟩)):=by
 obtain⟨h1,e,L⟩:=Loop_any (P:=Try.prog) (vals:=vals) (call:=call) (n:=n) (ks:=[1,4]) (K:=k50b1) (id:=2) m.globals.length (fun i=>bigG (gloAt m.globals i)) (fun i=>[(1,.op 0 0),(4,int i)]) [(2,bool false)] [(1,.op 0 0),(4,int m.globals.length),(59,bool false)] (fun g=>g=h)
  (fun i g hi hg=>⟨h,rfl,by
   rw[hg]
   have e1:decide ((i:Int)<m.globals.length)=true:=by simp;omega
   have e2:0≤(i:Int)∧(i:Int)<m.globals.length:=by omega
   have e3:=wrap_next (n:=m.globals.length) (i:=i) (by omega) (by omega)
   unfold bigG
   cases c1:decide (((gloAt m.globals i).name.size:Int)>40)<;>cases c2:decide (((gloAt m.globals i).cells.length:Int)>20)<;>simp +decide -implicitDefEqProofs only[k50b1,go_sem,e1,e2,e3,set_new,c1,c2,h0]⟩)
  (fun g hg=>⟨h,rfl,by rw[hg];simp +decide -implicitDefEqProofs only[k50b1,go_sem,Int.lt_irrefl,decide_false,h0]⟩) m.globals.length 0 mm h (by omega) hm rfl
 rw[e] at L
 simp only[show((0:Nat):Int)=0 from rfl] at L
 rw[any_glos] at L
 exact L
theorem small_l2 {vals:FuncId→Bool}{call:CallF}{n:Nat}(m:Tm.Module)(hl:m.tables.length<2^50)(h:Heap)(h0:h[0]?=some (.row 0 [externs m.externs,globals m.globals,tables m.tables,funcs m.funcs]))(mm:Nat)(hm:m.tables.length<mm):Tm.Loop Try.prog vals call n [1,5] k50b2 mm ⟨[(1,.op 0 0),(5,int 0)],h⟩=some (if m.tables.any bigT=true then(.ret,⟨[(2,bool false)],h⟩) else(.exit 4,⟨[(1,.op 0 0),(5,int m.tables.length),(84,bool false)],h⟩)):=by
 obtain⟨h1,e,L⟩:=Loop_any (P:=Try.prog) (vals:=vals) (call:=call) (n:=n) (ks:=[1,5]) (K:=k50b2) (id:=4) m.tables.length (fun i=>bigT (tblAt m.tables i)) (fun i=>[(1,.op 0 0),(5,int i)]) [(2,bool false)] [(1,.op 0 0),(5,int m.tables.length),(84,bool false)] (fun g=>g=h)
  (fun i g hi hg=>⟨h,rfl,by
   rw[hg]
   have e1:decide ((i:Int)<m.tables.length)=true:=by simp;omega
   have e2:0≤(i:Int)∧(i:Int)<m.tables.length:=by omega
   have e3:=wrap_next (n:=m.tables.length) (i:=i) (by omega) (by omega)
   unfold bigT
   cases c1:decide (((tblAt m.tables i).name.size:Int)>40)<;>cases c2:decide (((tblAt m.tables i).funcs.length:Int)>16)<;>simp +decide -implicitDefEqProofs only[k50b2,go_sem,e1,e2,e3,set_new,c1,c2,h0]⟩)
  (fun g hg=>⟨h,rfl,by rw[hg];simp +decide -implicitDefEqProofs only[k50b2,go_sem,Int.lt_irrefl,decide_false,h0]⟩) m.tables.length 0 mm h (by omega) hm rfl
 rw[e] at L
 simp only[show((0:Nat):Int)=0 from rfl] at L
 rw[any_tbls] at L
 exact L
theorem small_l3 {vals:FuncId→Bool}{call:CallF}{n:Nat}(m:Tm.Module)(hl:m.funcs.length≤26)(h:Heap)(h0:h[0]?=some (.row 0 [externs m.externs,globals m.globals,tables m.tables,funcs m.funcs]))(hc:∀f∈m.funcs,∀h,call 17 [.agg [str f.name,bool f.out,ints f.params,int f.result,blocks f.blocks]] h=some (bool (lightT f),h))(hz:∀f∈m.funcs,Fine f→∀h,call 86 [.agg [str f.name,bool f.out,ints f.params,int f.result,blocks f.blocks]] h=some (int (sizeOfL f.blocks),h))(hf:∀f∈m.funcs,lightT f=true→Fine f)(hs:∀f,Fine f→sizeOfL f.blocks≤1600)(mm:Nat)(hm:m.funcs.length<mm):
  ((List.range' 0 m.funcs.length).any (fun i=>!lightT (fnAt m.funcs i))=true∧∃h',Tm.Loop Try.prog vals call n [1,6,7] k50b3 mm ⟨[(1,.op 0 0),(6,int 0),(7,int 0)],h⟩=some (.ret,⟨[(2,bool false)],h'⟩))∨((List.range' 0 m.funcs.length).any (fun i=>!lightT (fnAt m.funcs i))=false∧∃s,(s=⟨[(1,.op 0 0),(6,int (sumS m.funcs:Nat)),(7,int m.funcs.length),(109,bool false)],h⟩)∧Tm.Loop Try.prog vals call n [1,6,7] k50b3 mm ⟨[(1,.op 0 0),(6,int 0),(7,int 0)],h⟩=some (.exit 6,s)):=by
 refine Loop_anyS (P:=Try.prog) (vals:=vals) (call:=call) (n:=n) (ks:=[1,6,7]) (K:=k50b3) (id:=6) m.funcs.length (fun i=>!lightT (fnAt m.funcs i))
  (fun i s=>∃z:Nat,s=⟨[(1,.op 0 0),(6,int z),(7,int i)],h⟩∧z≤i*1600∧z=sumS (m.funcs.take i))
  (fun s=>s=⟨[(1,.op 0 0),(6,int (sumS m.funcs:Nat)),(7,int m.funcs.length),(109,bool false)],h⟩) [(2,bool false)]
  (fun i e g hi ⟨z,hq,hzz,hzs⟩ hbad=>by
   cases hq
   have e1:decide ((i:Int)<m.funcs.length)=true:=by simp;omega
   have e2:0≤(i:Int)∧(i:Int)<m.funcs.length:=by omega
   have hx:fnAt m.funcs i∈m.funcs:=getD_mem hi
   have hc1:=hc _ hx
   have hb:lightT (fnAt m.funcs i)=false:=by simpa using hbad
   rw[hb] at hc1
   refine⟨h,?_⟩
   simp +decide -implicitDefEqProofs only[k50b3,go_sem,e1,e2,h0,hc1])
  (fun i e g hi ⟨z,hq,hzz,hzs⟩ hbad=>by
   cases hq
   have e1:decide ((i:Int)<m.funcs.length)=true:=by simp;omega
   have e2:0≤(i:Int)∧(i:Int)<m.funcs.length:=by omega
   have e3:=wrap_next (n:=m.funcs.length) (i:=i) (by omega) (by omega)
   have hx:fnAt m.funcs i∈m.funcs:=getD_mem hi
   have hc1:=hc _ hx
   have hb:lightT (fnAt m.funcs i)=true:=by simpa using hbad
   rw[hb] at hc1
   have hF:=hf _ hx hb
   have hz1:=hz _ hx hF
   have hsz:=hs _ hF
   have hw:IntKind.i64.wrap ((z:Int)+(sizeOfL (fnAt m.funcs i).blocks:Int))=((z+sizeOfL (fnAt m.funcs i).blocks:Nat):Int):=by rw[wrap_in (by omega) (by omega)];omega
   refine⟨_,⟨z+sizeOfL (fnAt m.funcs i).blocks,rfl,by omega,by rw[sumS_next hi,hzs]⟩,?_⟩
   simp +decide -implicitDefEqProofs only[k50b3,go_sem,e1,e2,e3,h0,hc1,hz1,hw])
  (fun e g ⟨z,hq,hzz,hzs⟩=>by
   cases hq
   rw[List.take_length] at hzs
   refine⟨_,rfl,?_⟩
   rw[hzs]
   simp +decide -implicitDefEqProofs only[k50b3,go_sem,h0,Int.lt_irrefl,decide_false])
  m.funcs.length 0 mm _ h (by omega) hm ⟨0,rfl,by omega,rfl⟩
theorem size_le (f:Tm.Func)(F:Fine f):sizeOfL f.blocks≤1600:=by
 have h1:∀l:List Block,(∀b∈l,b.ins.length≤91)→sizeOfL l≤l.length*91:=by
  intro l
  induction l with
  |nil=>intro _;exact Nat.le_refl _
  |cons b l ih=>
   intro h
   have h2:=ih fun b hb=>h b (List.mem_cons_of_mem _ hb)
   have h3:=h b (List.mem_cons_self ..)
   simp only[sizeOfL,List.map_cons,List.sum_cons,List.length_cons,Nat.add_mul] at h2⊢
   omega
 have:=h1 f.blocks F.ins
 have:=F.blocks
 have:f.blocks.length*91≤17*91:=Nat.mul_le_mul_right _ F.blocks
 omega
theorem small_runs (m:Tm.Module)(hl:∀f∈m.funcs,∀b∈f.blocks,b.ins.length<2^45):∃t,Runs Try.prog tab (2^36+20) 50 [.agg (encModule m)] (bool t)∧(t=true→FineM m∧∀f∈m.funcs,Tight f):=by
 obtain⟨d1,q1⟩:∃d,decide ((m.externs.length:Int)>14)=d:=⟨_,rfl⟩
 obtain⟨d2,q2⟩:∃d,decide ((m.globals.length:Int)>14)=d:=⟨_,rfl⟩
 obtain⟨d3,q3⟩:∃d,decide ((m.tables.length:Int)>8)=d:=⟨_,rfl⟩
 obtain⟨d4,q4⟩:∃d,decide ((m.funcs.length:Int)>26)=d:=⟨_,rfl⟩
 have hRby:∀t,(∀k,2^36+19≤k→∃c h,fin Try.prog [.tmp 2] (exec Try.prog (valsOf tab) (callAt Try.prog tab k) k k50 ⟨enterE 0 [.agg (encModule m)],[]⟩)=some (c,h)∧view true h depth c=some (bool t))→Runs Try.prog tab (2^36+20) 50 [.agg (encModule m)] (bool t):=fun t H=>Runs.by (rs:=[.tmp 2]) (N:=129) rfl Try.func50 rfl rfl (by simp) H
 cases hd:((d1||d2)||d3)||d4 with
 |true=>
  refine⟨false,hRby _ fun k hk=>?_,fun h=>by cases h⟩
  rw[enc_module]
  cases d1<;>cases d2<;>cases d3<;>cases d4<;>first|(exact absurd hd (by decide))|(simp +decide -implicitDefEqProofs only[k50,go_sem,q1,q2,q3,q4];exact⟨_,_,rfl,rfl⟩)
 |false=>
  obtain⟨⟨⟨rfl,rfl⟩,rfl⟩,rfl⟩:((d1=false∧d2=false)∧d3=false)∧d4=false:=by simpa only[Bool.or_eq_false_iff] using hd
  have b1:=of_decide_eq_false q1
  have b2:=of_decide_eq_false q2
  have b3:=of_decide_eq_false q3
  have b4:=of_decide_eq_false q4
  have L0:=fun(k:Nat) (hk:2^36+19≤k)=>small_l0 (vals:=valsOf tab) (call:=callAt Try.prog tab k) (n:=k) m (by omega) [.row 0 [externs m.externs,globals m.globals,tables m.tables,funcs m.funcs]] rfl k (by omega)
  have L1:=fun(k:Nat) (hk:2^36+19≤k)=>small_l1 (vals:=valsOf tab) (call:=callAt Try.prog tab k) (n:=k) m (by omega) [.row 0 [externs m.externs,globals m.globals,tables m.tables,funcs m.funcs]] rfl k (by omega)
  have L2:=fun(k:Nat) (hk:2^36+19≤k)=>small_l2 (vals:=valsOf tab) (call:=callAt Try.prog tab k) (n:=k) m (by omega) [.row 0 [externs m.externs,globals m.globals,tables m.tables,funcs m.funcs]] rfl k (by omega)
  have L3:=fun(k:Nat) (hk:2^36+19≤k)=>small_l3 (vals:=valsOf tab) (call:=callAt Try.prog tab k) (n:=k) m (by omega) [.row 0 [externs m.externs,globals m.globals,tables m.tables,funcs m.funcs]] rfl
   (fun f hf h=>(light_is f (hl f hf)).1 k (by omega) _ h (by rw[enc_func];simp +decide -implicitDefEqProofs only[depth,go_sem]))
   (fun f hf F h=>rsize_runs f F k (by omega) _ h (by rw[enc_func];simp +decide -implicitDefEqProofs only[depth,go_sem]))
   (fun f hf h=>((light_is f (hl f hf)).2 h).1.1) size_le k (by omega)
  cases x1:m.externs.any bigX with
  |true=>
   refine⟨false,hRby _ fun k hk=>?_,fun h=>by cases h⟩
   have L0:=L0 k hk
   rw[x1,if_pos rfl] at L0
   rw[enc_module]
   simp +decide -implicitDefEqProofs only[k50,go_sem,q1,q2,q3,q4,L0];exact⟨_,_,rfl,rfl⟩
  |false=>
  cases x2:m.globals.any bigG with
  |true=>
   refine⟨false,hRby _ fun k hk=>?_,fun h=>by cases h⟩
   have L0:=L0 k hk
   have L1:=L1 k hk
   rw[x1,if_neg (by decide)] at L0
   rw[x2,if_pos rfl] at L1
   rw[enc_module]
   simp +decide -implicitDefEqProofs only[k50,go_sem,q1,q2,q3,q4,L0,L1];exact⟨_,_,rfl,rfl⟩
  |false=>
  cases x3:m.tables.any bigT with
  |true=>
   refine⟨false,hRby _ fun k hk=>?_,fun h=>by cases h⟩
   have L0:=L0 k hk
   have L1:=L1 k hk
   have L2:=L2 k hk
   rw[x1,if_neg (by decide)] at L0
   rw[x2,if_neg (by decide)] at L1
   rw[x3,if_pos rfl] at L2
   rw[enc_module]
   simp +decide -implicitDefEqProofs only[k50,go_sem,q1,q2,q3,q4,L0,L1,L2];exact⟨_,_,rfl,rfl⟩
  |false=>
  cases x4:(List.range' 0 m.funcs.length).any (fun i=>!lightT (fnAt m.funcs i)) with
  |true=>
   refine⟨false,hRby _ fun k hk=>?_,fun h=>by cases h⟩
   have L0:=L0 k hk
   have L1:=L1 k hk
   have L2:=L2 k hk
   rw[x1,if_neg (by decide)] at L0
   rw[x2,if_neg (by decide)] at L1
   rw[x3,if_neg (by decide)] at L2
   rw[enc_module]
   rcases L3 k hk with ⟨_,h',L3⟩|⟨L3,_⟩
   ·simp +decide -implicitDefEqProofs only[k50,go_sem,q1,q2,q3,q4,L0,L1,L2,L3];exact⟨_,_,rfl,rfl⟩
   ·rw[x4] at L3;exact absurd L3 (by decide)
  |false=>
   have fine:FineM m:=by
    refine⟨by omega,by omega,by omega,by omega,fun x hx=>?_,fun x hx=>?_,fun x hx=>?_,fun x hx=>?_⟩
    ·rw[List.any_eq_false] at x1
     have:=x1 x hx
     unfold bigX at this
     rw[Bool.not_eq_true,Bool.or_eq_false_iff] at this
     have a1:=of_decide_eq_false this.1
     have a2:=of_decide_eq_false this.2
     omega
    ·rw[List.any_eq_false] at x2
     have:=x2 x hx
     unfold bigG at this
     rw[Bool.not_eq_true,Bool.or_eq_false_iff] at this
     have a1:=of_decide_eq_false this.1
     have a2:=of_decide_eq_false this.2
     omega
    ·rw[List.any_eq_false] at x3
     have:=x3 x hx
     unfold bigT at this
     rw[Bool.not_eq_true,Bool.or_eq_false_iff] at this
     have a1:=of_decide_eq_false this.1
     have a2:=of_decide_eq_false this.2
     omega
    ·rw[any_fns (fun f=>!lightT f),List.any_eq_false] at x4
     have:=x4 x hx
     exact((light_is x (hl x hx)).2 (by simpa using this)).1
   refine⟨decide ((sumS m.funcs:Int)≤160),hRby _ fun k hk=>?_,fun _=>⟨fine,fun x hx=>by
    rw[any_fns (fun f=>!lightT f),List.any_eq_false] at x4
    have:=x4 x hx
    exact((light_is x (hl x hx)).2 (by simpa using this)).2⟩⟩
   have L0:=L0 k hk
   have L1:=L1 k hk
   have L2:=L2 k hk
   rw[x1,if_neg (by decide)] at L0
   rw[x2,if_neg (by decide)] at L1
   rw[x3,if_neg (by decide)] at L2
   rw[enc_module]
   rcases L3 k hk with ⟨L3,_⟩|⟨_,s,rfl,L3⟩
   ·rw[x4] at L3;exact absurd L3 (by decide)
   ·simp +decide -implicitDefEqProofs only[k50,go_sem,q1,q2,q3,q4,L0,L1,L2,L3]
    cases decide ((sumS m.funcs:Int)≤160)<;>exact⟨_,_,rfl,rfl⟩
theorem first6:Runs Try.prog tab 1000 49 [] (bool true):=Runs.known (K:=k49) rfl (by kernel_rfl)
theorem check_zero {m:Tm.Module}(h:checkN m=0):limitsB m=true∧formedB m=true∧namedB m=true∧knownB m=true∧(∀f∈m.funcs,flowsB f.blocks=true)∧(∀f∈m.funcs,usedB f=true)∧∀f∈m.funcs,typedB m f=true:=by
 unfold checkN at h
 split at h
 ·exact absurd h (by decide)
 split at h
 ·exact absurd h (by decide)
 split at h
 ·exact absurd h (by decide)
 split at h
 ·exact absurd h (by decide)
 split at h
 ·exact absurd h (by decide)
 split at h
 ·exact absurd h (by decide)
 split at h
 ·exact absurd h (by decide)
 rename_i h1 h2 h3 h4 h5 h6 h7
 rw[Bool.not_eq_true] at h5 h6 h7
 exact⟨by simpa using h1,by simpa using h2,by simpa using h3,by simpa using h4,any_not h5,any_not h6,any_not h7⟩
end Go.Proofs.Ytkcimaibaicdcaa.Tk
namespace Go.Tm
def Sees (h:Heap)(X:Nat→Prop)(d:Nat)(cs vs:List C):Prop:=∀h':Heap,(∀l,X l→h'[l]?=h[l]?)→∀n,mapC (view false h' (n+d)) cs=some vs
theorem Sees.mono {h h':Heap}{X:Nat→Prop}{d:Nat}{cs vs:List C}(H:Sees h X d cs vs)(hX:∀l,X l→h'[l]?=h[l]?):Sees h' X d cs vs:=
 fun g hg n=>H g (fun l hl=>by rw[hg l hl,hX l hl]) n
theorem Sees.wider {h:Heap}{X Y:Nat→Prop}{d:Nat}{cs vs:List C}(H:Sees h X d cs vs)(hX:∀l,X l→Y l):Sees h Y d cs vs:=
 fun g hg n=>H g (fun l hl=>hg l (hX l hl)) n
theorem Sees.deeper {h:Heap}{X:Nat→Prop}{d e:Nat}{cs vs:List C}(H:Sees h X d cs vs)(he:d≤e):Sees h X e cs vs:=
 fun g hg n=>by have:=H g hg (n+(e-d));rwa [show n+(e-d)+d=n+e by omega] at this
theorem mapC_append {f:C→Option C}:∀{cs vs cs' vs':List C},mapC f cs=some vs→mapC f cs'=some vs'→mapC f (cs++cs')=some (vs++vs')
 |[],vs,cs',vs',h1,h2=>by simp only[mapC_nil,Option.some.injEq] at h1;subst h1;simpa using h2
 |c::cs,vs,cs',vs',h1,h2=>by
  simp only[mapC_cons,Option.bind_eq_some_iff,Option.some.injEq] at h1
  obtain⟨d,hd,ds,hds,rfl⟩:=h1
  simp only[List.cons_append,mapC_cons,hd,Option.bind_some,mapC_append hds h2]
theorem Sees.nil {h:Heap}{X:Nat→Prop}{d:Nat}:Sees h X d [] []:=fun g hg n=>rfl
theorem Sees.append {h:Heap}{X:Nat→Prop}{d:Nat}{cs vs cs' vs':List C}(H:Sees h X d cs vs)(H':Sees h X d cs' vs'):Sees h X d (cs++cs') (vs++vs'):=
 fun g hg n=>mapC_append (H g hg n) (H' g hg n)
theorem Sees.cons {h:Heap}{X:Nat→Prop}{d:Nat}{c v:C}{cs vs:List C}(H:Sees h X d [c] [v])(H':Sees h X d cs vs):Sees h X d (c::cs) (v::vs):=H.append H'
theorem Sees.plain {h:Heap}{X:Nat→Prop}{d:Nat}{c:C}(hc:∀(g:Heap) n,view false g (n+1) c=some c)(hd:0<d):Sees h X d [c] [c]:=fun g hg n=>by
 obtain⟨e,rfl⟩:∃e,d=e+1:=⟨d-1,by omega⟩
 simp only[mapC_cons,mapC_nil,←Nat.add_assoc,hc,Option.bind_some]
theorem Sees.int {h:Heap}{X:Nat→Prop}{d:Nat}{x:Int}(hd:0<d):Sees h X d [int x] [int x]:=.plain (fun _ _=>rfl) hd
theorem Sees.str {h:Heap}{X:Nat→Prop}{d:Nat}{x:ByteArray}(hd:0<d):Sees h X d [str x] [str x]:=.plain (fun _ _=>rfl) hd
theorem Sees.bool {h:Heap}{X:Nat→Prop}{d:Nat}{x:Bool}(hd:0<d):Sees h X d [bool x] [bool x]:=.plain (fun _ _=>rfl) hd
theorem Sees.row {h:Heap}{X:Nat→Prop}{d s l k:Nat}{cells vs:List C}{cap:Option Nat}(hl:h[l]?=some (.row s cells))(hk:cells.length=k*s)(H:Sees h X d cells vs)(hx:X l):Sees h X (d+1) [.os l 0 k cap] [.fs vs k none]:=fun g hg n=>by
 have hn:=H g hg n
 have hg':=hg l hx
 rw[hl] at hg'
 by_cases h0:k=0
 ·subst h0
  rw[Nat.zero_mul,List.length_eq_zero_iff] at hk
  subst hk
  simp only[mapC_nil,Option.some.injEq] at hn
  subst hn
  rfl
 ·rw[mapC_cons,mapC_nil,←Nat.add_assoc,view_os_eq,if_neg h0,hg']
  simp only[viewRow,List.drop_zero,takeN]
  rw[if_pos (by omega),List.take_of_length_le (by omega)]
  simp only[Option.bind_some,hn]
theorem app_nil (h:Heap)(s:Nat)(ys:List C)(k:Nat)(hk:0<k)(hm:k≤maxRow):appendTo h none s k ys (.v (.slice none 0 0))=some (.os h.length 0 k none,h++[.row s ys]):=by
 simp only[appendTo]
 rw[if_neg (by omega),if_pos hm]
 simp only[newRow,new_none_1,new_none_2]
theorem app_os {h:Heap}{s l len:Nat}{cells:List C}(ys:List C)(k:Nat)(hl:h[l]?=some (.row s cells))(hs:0<s)(hc:cells.length=len*s)(hk:0<k)(hm:len+k≤maxRow):
  appendTo h none s k ys (.os l 0 len none)=some (.os h.length 0 (len+k) none,h.set l .dead++[.row s (cells++ys)]):=by
 simp only[appendTo,hl]
 have:0<k*s:=Nat.mul_pos hk hs
 rw[if_pos ⟨trivial,hm⟩,if_neg (by omega),if_neg (by rw[Nat.add_mul];omega),if_pos (by omega)]
 simp only[newRow,new_none_1,new_none_2,List.length_set,List.drop_zero]
def RowC (h:Heap)(c:C)(s:Nat)(cells:List C)(k:Nat):Prop:=cells.length=k*s∧((k=0∧c=.v (.slice none 0 0))∨∃l,c=.os l 0 k none∧h[l]?=some (.row s cells))
theorem RowC.nil {h:Heap}{s:Nat}:RowC h (.v (.slice none 0 0)) s [] 0:=⟨by simp,.inl ⟨rfl,rfl⟩⟩
theorem RowC.mono {h h':Heap}{c:C}{s k:Nat}{cells:List C}(H:RowC h c s cells k)(hX:∀l,locC c=some l→h'[l]?=h[l]?):RowC h' c s cells k:=by
 obtain⟨h0,H|⟨l,rfl,h1⟩⟩:=H
 ·exact⟨h0,.inl H⟩
 ·exact⟨h0,.inr ⟨l,rfl,by rw[hX l rfl];exact h1⟩⟩
theorem RowC.lt {h:Heap}{c:C}{s k:Nat}{cells:List C}(H:RowC h c s cells k){l:Nat}(hl:locC c=some l):l<h.length:=by
 obtain⟨h0,⟨_,rfl⟩|⟨l',rfl,h1⟩⟩:=H
 ·cases hl
 ·cases hl;exact(List.getElem?_eq_some_iff.1 h1).1
theorem RowC.cell {h:Heap}{c:C}{s k:Nat}{cells:List C}(H:RowC h c s cells k):c.isCell=true:=by
 obtain⟨h0,⟨_,rfl⟩|⟨l',rfl,h1⟩⟩:=H<;>rfl
theorem RowC.lenS {h:Heap}{c:C}{s k:Nat}{cells:List C}(H:RowC h c s cells k):lenS c=some (int k):=by
 obtain⟨h0,⟨rfl,rfl⟩|⟨l',rfl,h1⟩⟩:=H<;>rfl
theorem RowC.append {h:Heap}{c:C}{s k:Nat}{cells:List C}(H:RowC h c s cells k)(ys:List C)(j:Nat)(hs:0<s)(hj:0<j)(hy:ys.length=j*s)(hm:k+j≤maxRow):
  ∃h2,appendTo h none s j ys c=some (.os h.length 0 (k+j) none,h2)∧h2.length=h.length+1∧(∀x,x<h.length→locC c≠some x→h2[x]?=h[x]?)∧RowC h2 (.os h.length 0 (k+j) none) s (cells++ys) (k+j):=by
 obtain⟨h0,⟨rfl,rfl⟩|⟨l,rfl,h1⟩⟩:=H
 ·have e:cells=[]:=List.length_eq_zero_iff.1 (by rw[h0,Nat.zero_mul])
  subst e
  refine⟨h++[.row s ys],by rw[app_nil h s ys j hj (by omega),Nat.zero_add],by simp,fun x hx _=>List.getElem?_append_left hx,by simp[hy],.inr ⟨h.length,rfl,by simp⟩⟩
 ·have hlt:=(List.getElem?_eq_some_iff.1 h1).1
  refine⟨h.set l .dead++[.row s (cells++ys)],app_os ys j h1 hs h0 hj hm,by simp,fun x hx hne=>?_,by rw[List.length_append,h0,hy,Nat.add_mul],.inr ⟨h.length,rfl,?_⟩⟩
  ·rw[List.getElem?_append_left (by rw[List.length_set];exact hx),List.getElem?_set_ne fun e=>hne (by rw[e];rfl)]
  ·rw[List.getElem?_append_right (by simp),List.length_set,Nat.sub_self];rfl
theorem RowC.sees {h:Heap}{c:C}{s k d:Nat}{cells vs:List C}{X:Nat→Prop}(H:RowC h c s cells k)(S:Sees h X d cells vs):Sees h (fun x=>X x∨locC c=some x) (d+1) [c] [.fs vs k none]:=by
 obtain⟨h0,⟨rfl,rfl⟩|⟨l,rfl,h1⟩⟩:=H
 ·have e:cells=[]:=List.length_eq_zero_iff.1 (by rw[h0,Nat.zero_mul])
  subst e
  have:=S h (fun _ _=>rfl) 0
  simp only[mapC_nil,Option.some.injEq] at this
  subst this
  exact fun g hg n=>rfl
 ·exact Sees.row h1 h0 (S.wider fun x hx=>.inl hx) (.inr rfl)
def RowV (h:Heap)(X:Nat→Prop)(d s:Nat)(c:C)(k:Nat)(vs:List C):Prop:=∃cells,RowC h c s cells k∧(∀l,locC c=some l→¬X l)∧(∀x,X x→x<h.length)∧Sees h X d cells vs
theorem RowV.nil {h:Heap}{d s:Nat}:RowV h (fun _=>False) d s (.v (.slice none 0 0)) 0 []:=by
 refine⟨[],RowC.nil,fun l hl=>?_,fun x hx=>?_,Sees.nil⟩
 ·cases hl
 ·exact hx.elim
theorem RowV.mono {h h':Heap}{X:Nat→Prop}{d s k:Nat}{c:C}{vs:List C}(H:RowV h X d s c k vs)(hle:h.length≤h'.length)(hX:∀l,l<h.length→X l∨locC c=some l→h'[l]?=h[l]?):RowV h' X d s c k vs:=by
 obtain⟨cells,h1,h2,h3,h4⟩:=H
 exact⟨cells,h1.mono fun l hl=>hX l (h1.lt hl) (.inr hl),h2,fun x hx=>Nat.lt_of_lt_of_le (h3 x hx) hle,h4.mono fun l hl=>hX l (h3 l hl) (.inl hl)⟩
theorem RowV.sees {h:Heap}{X:Nat→Prop}{d s k:Nat}{c:C}{vs:List C}(H:RowV h X d s c k vs):Sees h (fun x=>X x∨locC c=some x) (d+1) [c] [.fs vs k none]:=by
 obtain⟨cells,h1,h2,h3,h4⟩:=H
 exact h1.sees h4
theorem RowV.lt {h:Heap}{X:Nat→Prop}{d s k:Nat}{c:C}{vs:List C}(H:RowV h X d s c k vs){l:Nat}(hl:locC c=some l):l<h.length:=by
 obtain⟨cells,h1,h2,h3,h4⟩:=H
 exact h1.lt hl
theorem RowV.cell {h:Heap}{X:Nat→Prop}{d s k:Nat}{c:C}{vs:List C}(H:RowV h X d s c k vs):c.isCell=true:=by
 obtain⟨cells,h1,h2,h3,h4⟩:=H
 exact h1.cell
theorem RowV.lenS {h:Heap}{X:Nat→Prop}{d s k:Nat}{c:C}{vs:List C}(H:RowV h X d s c k vs):lenS c=some (int k):=by
 obtain⟨cells,h1,h2,h3,h4⟩:=H
 exact h1.lenS
theorem RowV.append {h:Heap}{X X':Nat→Prop}{d s k:Nat}{c:C}{vs ys ws:List C}(H:RowV h X d s c k vs)(j:Nat)(H':Sees h X' d ys ws)(hX':∀x,X' x→x<h.length)
  (hc:∀l,locC c=some l→¬X' l)(hs:0<s)(hj:0<j)(hy:ys.length=j*s)(hm:k+j≤maxRow):
  ∃h2,appendTo h none s j ys c=some (.os h.length 0 (k+j) none,h2)∧h2.length=h.length+1∧(∀x,x<h.length→locC c≠some x→h2[x]?=h[x]?)∧RowV h2 (fun x=>X x∨X' x) d s (.os h.length 0 (k+j) none) (k+j) (vs++ws):=by
 obtain⟨cells,h1,h2,h3,h4⟩:=H
 obtain⟨g,a1,a2,a3,a4⟩:=h1.append ys j hs hj hy hm
 refine⟨g,a1,a2,a3,cells++ys,a4,fun l hl hq=>?_,fun x hx=>?_,((h4.wider fun x hx=>.inl hx).append (H'.wider fun x hx=>.inr hx)).mono fun x hx=>?_⟩
 ·cases hl
  rcases hq with hq|hq
  ·exact absurd (h3 _ hq) (Nat.lt_irrefl _)
  ·exact absurd (hX' _ hq) (Nat.lt_irrefl _)
 ·have:=hx.elim (h3 x) (hX' x);omega
 ·exact a3 x (hx.elim (h3 x) (hX' x)) fun e=>hx.elim (fun hx=>h2 x e hx) (fun hx=>hc x e hx)
theorem flat_len {α:Type}{enc:α→List C}{s:Nat}(hs:∀x,(enc x).length=s):∀(l:List α),(l.flatMap enc).length=l.length*s
 |[]=>by simp
 |x::l=>by rw[List.flatMap_cons,List.length_append,flat_len hs l,hs,List.length_cons,Nat.add_mul];omega
def GrowE {α:Type}(enc:α→List C)(s:Nat)(h:Heap)(c:C)(out:List α):Prop:=RowC h c s (out.flatMap enc) out.length
theorem GrowE.append {α:Type}{enc:α→List C}{s:Nat}{h:Heap}{c:C}{out:List α}(H:GrowE enc s h c out)(he:∀x,(enc x).length=s)(hs:0<s)(v:α)(hm:out.length<maxRow):
  ∃h2,appendTo h none s 1 (enc v) c=some (.os h.length 0 (out.length+1) none,h2)∧h2.length=h.length+1∧(∀x,x<h.length→locC c≠some x→h2[x]?=h[x]?)∧GrowE enc s h2 (.os h.length 0 (out.length+1) none) (out++[v]):=by
 obtain⟨h2,a1,a2,a3,a4⟩:=RowC.append H (enc v) 1 hs (by decide) (by rw[he,Nat.one_mul]) hm
 refine⟨h2,a1,a2,a3,?_⟩
 unfold GrowE
 rw[List.flatMap_append,List.length_append]
 simpa using a4
theorem GrowE.sees {α:Type}{enc:α→List C}{s:Nat}{h:Heap}{c:C}{out:List α}(H:GrowE enc s h c out){d:Nat}(hv:∀(g:Heap) (x:α) n,mapC (view false g (n+d)) (enc x)=some (enc x)):
  Sees h (fun x=>locC c=some x) (d+1) [c] [.fs (out.flatMap enc) out.length none]:=by
 refine(RowC.sees (X:=fun _=>False) H (vs:=out.flatMap enc) fun g hg n=>?_).wider fun x hx=>hx.resolve_left id
 clear H
 induction out with
 |nil=>rfl
 |cons x r ih=>rw[List.flatMap_cons];exact mapC_append (hv g x n) ih
theorem ints_flat (xs:List Int):ints xs=.fs (xs.flatMap fun x=>[int x]) xs.length none:=by
 unfold ints;congr 1
 induction xs with
 |nil=>rfl
 |cons x r ih=>simp[ih]
theorem flat_ints (xs:List Int):(xs.flatMap fun x=>[int x])=xs.map int:=by
 induction xs with
 |nil=>rfl
 |cons x r ih=>simp[ih]
theorem GrowE.ints {h:Heap}{c:C}{xs:List Int}(H:GrowE (fun x=>[int x]) 1 h c xs):Sees h (fun x=>locC c=some x) 2 [c] [ints xs]:=by
 rw[ints_flat]
 exact H.sees fun _ _ _=>rfl
def cpC (n:Nat)(xs:List Int):C:=if xs.length=0 then .v (.slice none 0 0) else .os n 0 xs.length none
def cpN (xs:List Int):List Node:=if xs.length=0 then[] else[.row 1 (xs.map int)]
theorem app_copy {h:Heap}{xs:List Int}(hm:xs.length≤maxRow):appendTo h none 1 xs.length (xs.map int) (.v (.slice none 0 0))=some (cpC h.length xs,h++cpN xs):=by
 cases xs with
 |nil=>simp[cpC,cpN,appendTo]
 |cons x r=>rw[app_nil h 1 _ _ (by simp) hm];simp[cpC,cpN]
theorem cpC_cells (n:Nat)(xs:List Int):(cpC n xs).cells=[cpC n xs]:=by unfold cpC;split<;>rfl
theorem cpC_cell (n:Nat)(xs:List Int):(cpC n xs).isCell=true:=by unfold cpC;split<;>rfl
theorem cpC_loc {n:Nat}{xs:List Int}{l:Nat}(h:locC (cpC n xs)=some l):l=n∧xs.length≠0:=by
 unfold cpC at h
 split at h
 ·cases h
 ·cases h;exact⟨rfl,by assumption⟩
theorem cpN_get {h:Heap}{xs:List Int}(ns:List Node)(hx:xs.length≠0):(h++cpN xs++ns)[h.length]?=some (.row 1 (xs.map int)):=by
 unfold cpN;rw[if_neg hx];simp
theorem cpC_view {cl:Bool}{h:Heap}{m n:Nat}{xs:List Int}(H:xs.length≠0→h[n]?=some (.row 1 (xs.map int))):view cl h (m+2) (cpC n xs)=some (ints xs):=by
 unfold cpC
 split
 ·rename_i h0;rw[List.length_eq_zero_iff] at h0;subst h0;rfl
 ·rename_i h0;exact view_os_ints (H h0)
theorem cpC_grow {h:Heap}{n:Nat}{xs:List Int}(H:xs.length≠0→h[n]?=some (.row 1 (xs.map int))):GrowE (fun x=>[int x]) 1 h (cpC n xs) xs:=by
 unfold GrowE
 rw[flat_ints]
 refine⟨by simp,?_⟩
 unfold cpC
 split
 ·rename_i h0;exact .inl ⟨h0,rfl⟩
 ·rename_i h0;exact .inr ⟨n,rfl,H h0⟩
end Go.Tm
namespace Go.Proofs.Ytkcimaibaicdcaa.Tk
open Go.Tm Go.Tm.Tab
theorem copyIns_runs (x:Ins)(h1:x.args.length<2^20)(h2:x.into.length<2^20):Runs Try.prog tab 20 72 [.agg (encIns x)] (.agg (encIns x)):=by
 refine Runs.by (rs:=[.cell 2 56]) (N:=12) rfl Try.func72 rfl rfl (by simp) fun k hk=>?_
 have hmr:(2:Nat)^22<maxRow:=by decide
 have a1:=fun h=>app_copy (h:=h) (xs:=x.args) (by omega)
 have a2:=fun h=>app_copy (h:=h) (xs:=x.into) (by omega)
 simp +decide -implicitDefEqProofs only[k72,go_sem,encIns,srcOf_ints,a1,a2,cpC_cells,cpC_cell]
 refine⟨_,_,rfl,?_⟩
 have g1:x.args.length≠0→∀(A B:Tm.Node) (ns:List Tm.Node),(A::B::(cpN x.args++ns))[2]?=some (.row 1 (x.args.map int)):=fun h0 A B ns=>by unfold cpN;rw[if_neg h0];rfl
 have g2:x.into.length≠0→∀(A B:Tm.Node),(A::B::(cpN x.args++cpN x.into))[(cpN x.args).length+1+1]?=some (.row 1 (x.into.map int)):=fun h0 A B=>by
  rw[List.getElem?_cons_succ,List.getElem?_cons_succ,List.getElem?_append_right (Nat.le_refl _),Nat.sub_self]
  unfold cpN;rw[if_neg h0];rfl
 simp only[depth,view_agg,mapC_cons,mapC_nil,view_int,cpC_view fun h0=>g1 h0 _ _ _,cpC_view fun h0=>g2 h0 _ _,Option.bind_some,Option.map_some]
end Go.Proofs.Ytkcimaibaicdcaa.Tk
namespace Go.Tm
structure BlksAt (h:Heap)(a b:Nat)(cells:List C)(bs:List Block):Prop where
 len:cells.length=bs.length
 each:∀(j:Nat) (c:C),cells[j]?=some c→GrowE encIns 7 h c (blkAt bs j).ins∧∀l,locC c=some l→a≤l∧l<b
 apart:∀(j k l:Nat),cells[j]?.bind locC=some l→cells[k]?.bind locC=some l→j=k
theorem view_encIns (x:Ins)(g:Heap)(n:Nat):mapC (view false g (n+1)) (encIns x)=some (encIns x):=by
 simp only[encIns,mapC_cons,mapC_nil,view_int,view_ints,Option.bind_some]
theorem BlksAt.mono {h h':Heap}{a b a' b':Nat}{cells:List C}{bs:List Block}(H:BlksAt h a b cells bs)(ha:a'≤a)(hb:b≤b')(hX:∀l,a≤l→l<b→(∃j:Nat,cells[j]?.bind locC=some l)→h'[l]?=h[l]?):BlksAt h' a' b' cells bs:=
 ⟨H.len,fun j c hc=>⟨RowC.mono (H.each j c hc).1 fun l hl=>hX l ((H.each j c hc).2 l hl).1 ((H.each j c hc).2 l hl).2 ⟨j,by rw[hc];exact hl⟩,fun l hl=>by have:=(H.each j c hc).2 l hl;omega⟩,H.apart⟩
theorem sees_map {α:Type}{h:Heap}{X:Nat→Prop}{d:Nat}{f:α→C}:∀{cells:List C} {l:List α},cells.length=l.length→(∀(j:Nat) (c:C) (x:α),cells[j]?=some c→l[j]?=some x→Sees h X d [c] [f x])→Sees h X d cells (l.map f)
 |[],[],_,_=>.nil
 |c::cs,x::l,hl,hs=>by
  rw[List.map_cons]
  exact(hs 0 c x rfl rfl).cons (sees_map (by simpa using hl) fun j c y h1 h2=>hs (j+1) c y (by simpa using h1) (by simpa using h2))
theorem blkAt_get {l:List Block}{j:Nat}{b:Block}(h:l[j]?=some b):blkAt l j=b:=by simp[blkAt,List.getD_eq_getElem?_getD,h]
theorem BlksAt.sees {h:Heap}{a b:Nat}{cells:List C}{bs:List Block}(H:BlksAt h a b cells bs):Sees h (fun x=>a≤x∧x<b) 2 cells (bs.map encBlock):=
 sees_map H.len fun j c x hc hx=>by
  have h1:=(H.each j c hc).1
  rw[blkAt_get hx] at h1
  exact(GrowE.sees h1 fun g x n=>view_encIns x g n).wider (H.each j c hc).2
theorem BlksAt.push {h:Heap}{a b:Nat}{cells:List C}{bs:List Block}(H:BlksAt h a b cells bs)(k:Nat)(hk:bs=(bs++([]:List Block))){c:C}{x:Block}(hc:GrowE encIns 7 h c x.ins)(hl:∀l,locC c=some l→b≤l∧l<k)(hb:a≤b)(hbk:b≤k):BlksAt h a k (cells++[c]) (bs++[x]):=by
 have far:∀(j l:Nat),cells[j]?.bind locC=some l→a≤l∧l<b:=fun j l hj=>by
  obtain⟨d,hd,hl⟩:=Option.bind_eq_some_iff.1 hj
  exact(H.each j d hd).2 l hl
 refine⟨by simp[H.len],fun j d hd=>?_,fun j k' l hj hk'=>?_⟩
 ·rcases Nat.lt_trichotomy j cells.length with h1|h1|h1
  ·rw[List.getElem?_append_left h1] at hd
   have e:blkAt (bs++[x]) j=blkAt bs j:=by simp only[blkAt,List.getD_eq_getElem?_getD,Int.toNat_natCast];rw[List.getElem?_append_left (by rw[←H.len];exact h1)]
   rw[e]
   refine⟨(H.each j d hd).1,fun l hl=>?_⟩
   have:=(H.each j d hd).2 l hl
   omega
  ·subst h1
   rw[List.getElem?_append_right (Nat.le_refl _),Nat.sub_self] at hd
   simp only[List.getElem?_cons_zero,Option.some.injEq] at hd
   subst hd
   have e:blkAt (bs++[x]) cells.length=x:=by simp only[blkAt,List.getD_eq_getElem?_getD,Int.toNat_natCast];rw[H.len,List.getElem?_append_right (Nat.le_refl _),Nat.sub_self];rfl
   rw[e]
   refine⟨hc,fun l hl'=>?_⟩
   have:=hl l hl'
   omega
  ·rw[List.getElem?_eq_none (by simp;omega)] at hd;cases hd
 ·have new:∀(j l:Nat),(cells++[c])[j]?.bind locC=some l→(j<cells.length∧cells[j]?.bind locC=some l)∨(j=cells.length∧locC c=some l):=fun j l hj=>by
   rcases Nat.lt_trichotomy j cells.length with h1|h1|h1
   ·rw[List.getElem?_append_left h1] at hj;exact .inl ⟨h1,hj⟩
   ·subst h1;rw[List.getElem?_append_right (Nat.le_refl _),Nat.sub_self] at hj;exact .inr ⟨rfl,hj⟩
   ·rw[List.getElem?_eq_none (by simp;omega)] at hj;cases hj
  rcases new j l hj with ⟨h1,h2⟩|⟨h1,h2⟩<;>rcases new k' l hk' with ⟨h3,h4⟩|⟨h3,h4⟩
  ·exact H.apart j k' l h2 h4
  ·have:=far _ _ h2;have:=hl _ h4;omega
  ·have:=far _ _ h4;have:=hl _ h2;omega
  ·omega
def FnAt (h:Heap)(a b:Nat)(cs:List C)(f:Func):Prop:=∃cp cb bc,cs=[str f.name,bool f.out,cp,int f.result,cb]∧GrowE (fun x=>[int x]) 1 h cp f.params∧RowC h cb 1 bc f.blocks.length∧BlksAt h a b bc f.blocks∧
 (∀l,locC cp=some l→a≤l∧l<b∧locC cb≠some l∧∀j:Nat,bc[j]?.bind locC≠some l)∧∀l,locC cb=some l→a≤l∧l<b∧∀j:Nat,bc[j]?.bind locC≠some l
theorem FnAt.mono {h h':Heap}{a b:Nat}{cs:List C}{f:Func}(H:FnAt h a b cs f)(hX:∀l,a≤l→l<b→h'[l]?=h[l]?):FnAt h' a b cs f:=by
 obtain⟨cp,cb,bc,rfl,h1,h2,h3,h4,h5⟩:=H
 exact⟨cp,cb,bc,rfl,RowC.mono h1 fun l hl=>hX l (h4 l hl).1 (h4 l hl).2.1,h2.mono fun l hl=>hX l (h5 l hl).1 (h5 l hl).2.1,h3.mono (Nat.le_refl _) (Nat.le_refl _) fun l ha hb _=>hX l ha hb,h4,h5⟩
theorem FnAt.sees {h:Heap}{a b:Nat}{cs:List C}{f:Func}(H:FnAt h a b cs f):Sees h (fun x=>a≤x∧x<b) 3 cs (encFunc f):=by
 obtain⟨cp,cb,bc,rfl,h1,h2,h3,h4,h5⟩:=H
 refine(Sees.str (by decide)).cons ((Sees.bool (by decide)).cons (((h1.ints.wider fun x hx=>⟨(h4 x hx).1,(h4 x hx).2.1⟩).deeper (by decide)).cons ((Sees.int (by decide)).cons ?_)))
 have:=h2.sees h3.sees
 refine this.wider fun x hx=>hx.elim id fun hx=>⟨(h5 x hx).1,(h5 x hx).2.1⟩
end Go.Tm
namespace Go.Proofs.Ytkcimaibaicdcaa.Tk
open Go.Tm Go.Tm.Tab
theorem cfun_l0 {k:Nat}(hk:20≤k)(f:Tm.Func)(F:Fine f)(b:Nat)(hb:b<f.blocks.length)(a x:Nat)(r s:C)(h0:Heap)(ha:h0[a]?=some (.row 0 [str f.name,bool f.out,ints f.params,int f.result,blocks f.blocks]))(hax:a≠x)
  (hx:h0[x]?=some (.row 0 [.v (.slice none 0 0)]))(m:Nat)(hm:(blkAt f.blocks b).ins.length<m):
  ∃c h',Tm.Loop Try.prog (valsOf tab) (callAt Try.prog tab k) k [1,2,3,4,5,6] k43b0 m ⟨[(1,.op a 0),(2,r),(3,s),(4,int b),(5,.op x 0),(6,int 0)],h0⟩=some (.exit 2,⟨[(1,.op a 0),(2,r),(3,s),(4,int b),(5,.op x 0),(6,int (blkAt f.blocks b).ins.length),(33,bool false)],h'⟩)∧
   h0.length≤h'.length∧(∀y,y<h0.length→y≠x→h'[y]?=h0[y]?)∧h'[x]?=some (.row 0 [c])∧GrowE encIns 7 h' c (blkAt f.blocks b).ins∧∀y,locC c=some y→h0.length≤y:=by
 have hal:=(List.getElem?_eq_some_iff.1 ha).1
 have hxl:=(List.getElem?_eq_some_iff.1 hx).1
 have hmr:(2:Nat)^22<maxRow:=by decide
 have hB:=F.blocks
 have hmem:blkAt f.blocks (b:Int)∈f.blocks:=blkAt_mem ⟨by omega,by omega⟩
 have hI:=F.ins _ hmem
 have e5:0≤(b:Int)∧(b:Int)<f.blocks.length:=by omega
 generalize hl:(blkAt f.blocks b).ins=l at hI hm
 have hargs:∀x∈l,x.args.length≤20∧x.into.length≤20:=fun x hx=>F.into _ hmem x (by rw[hl];exact hx)
 obtain⟨q,⟨c,h',rfl,g1,g2,g3,g4,g5⟩,L⟩:=Loop_run (P:=Try.prog) (vals:=valsOf tab) (call:=callAt Try.prog tab k) (n:=k) (ks:=[1,2,3,4,5,6]) (K:=k43b0) (id:=2) l.length
  (fun i q=>∃c h,q=⟨[(1,.op a 0),(2,r),(3,s),(4,int b),(5,.op x 0),(6,int i)],h⟩∧h0.length≤h.length∧(∀y,y<h0.length→y≠x→h[y]?=h0[y]?)∧h[x]?=some (.row 0 [c])∧GrowE encIns 7 h c (l.take i)∧∀y,locC c=some y→h0.length≤y)
  (fun q=>∃c h,q=⟨[(1,.op a 0),(2,r),(3,s),(4,int b),(5,.op x 0),(6,int l.length),(33,bool false)],h⟩∧h0.length≤h.length∧(∀y,y<h0.length→y≠x→h[y]?=h0[y]?)∧h[x]?=some (.row 0 [c])∧GrowE encIns 7 h c l∧∀y,locC c=some y→h0.length≤y)
  (fun i e h hi ⟨c,h2,hs,g1,g2,g3,g4,g5⟩=>by
   cases hs
   have e1:decide ((i:Int)<l.length)=true:=by simp;omega
   have e2:0≤(i:Int)∧(i:Int)<l.length:=by omega
   have e3:=wrap_next (n:=l.length) (i:=i) (by omega) (by omega)
   have e6:h[a]?=some (.row 0 [str f.name,bool f.out,ints f.params,int f.result,blocks f.blocks]):=by rw[g2 a hal hax];exact ha
   have hxm:insAt l i∈l:=insAt_mem ⟨by omega,by omega⟩
   have hc:∀h,callAt Try.prog tab k 72 [.agg (encIns (insAt l i))] h=some (.agg (encIns (insAt l i)),h):=fun h=>copyIns_runs (insAt l i) (by have:=hargs _ hxm;omega) (by have:=hargs _ hxm;omega) k hk _ h (by simp only[mapC_cons,mapC_nil,depth,view_agg,view_encIns,Option.map_some,Option.bind_some])
   obtain⟨h3,a1,a2,a3,a4⟩:=GrowE.append (RowC.mono (h':=h++[Tm.Node.row 7 (encIns (insAt l i))]) g4 fun l hl=>List.getElem?_append_left (RowC.lt g4 hl)) (fun _=>rfl) (by decide) (insAt l i) (by rw[List.length_take];omega)
   have hxh:x<h.length:=(List.getElem?_eq_some_iff.1 g3).1
   have hcx:locC c≠some x:=fun e=>by have:=g5 x e;omega
   have e7:h3[x]?=some (.row 0 [c]):=by rw[a3 x (by simp;omega) hcx,List.getElem?_append_left hxh];exact g3
   refine⟨_,⟨.os (h++[Tm.Node.row 7 (encIns (insAt l i))]).length 0 ((l.take i).length+1) none,h3.set x (Tm.Node.row 0 [.os (h++[Tm.Node.row 7 (encIns (insAt l i))]).length 0 ((l.take i).length+1) none]),rfl,?_,fun y hy hne=>?_,?_,?_,fun y hy=>?_⟩,by
    simp only[encIns] at a1 hc
    simp +decide -implicitDefEqProofs only[k43b0,go_sem,e1,e2,e3,e5,e6,g3,hl,set_new,encIns,hc,a1,e7]⟩
   ·rw[List.length_set,a2];simp;omega
   ·rw[List.getElem?_set_ne (Ne.symm hne),a3 y (by simp;omega) fun e=>by have:=g5 y e;omega]
    rw[List.getElem?_append_left (by omega)];exact g2 y hy hne
   ·rw[List.getElem?_set_self (by rw[a2];simp;omega)]
   ·rw[take_ins hi]
    refine RowC.mono a4 fun l hl=>?_
    cases hl
    rw[List.getElem?_set_ne (by simp;omega)]
   ·cases hy;simp;omega)
  (fun e h ⟨c,h2,hs,g1,g2,g3,g4,g5⟩=>by
   cases hs
   have e6:h[a]?=some (.row 0 [str f.name,bool f.out,ints f.params,int f.result,blocks f.blocks]):=by rw[g2 a hal hax];exact ha
   rw[List.take_length] at g4
   exact⟨_,⟨c,h,rfl,g1,g2,g3,g4,g5⟩,by simp +decide -implicitDefEqProofs only[k43b0,go_sem,Int.lt_irrefl,decide_false,e5,e6,hl]⟩) l.length 0 m _ h0 (by omega) hm ⟨.v (.slice none 0 0),h0,rfl,Nat.le_refl _,fun _ _ _=>rfl,hx,.nil,fun y hy=>by cases hy⟩
 exact⟨c,h',L,g1,g2,g3,g4,g5⟩
theorem cfun_l1 {k:Nat}(hk:100≤k)(f:Tm.Func)(F:Fine f)(a x:Nat)(r cn co cp cr:C)(h0:Heap)(ha:h0[a]?=some (.row 0 [str f.name,bool f.out,ints f.params,int f.result,blocks f.blocks]))(hax:a≠x)
  (hx:h0[x]?=some (.row 0 [cn,co,cp,cr,.v (.slice none 0 0)]))(m:Nat)(hm:f.blocks.length<m):
  ∃cb bc h',Tm.Loop Try.prog (valsOf tab) (callAt Try.prog tab k) k [1,2,3,4] k43b1 m ⟨[(1,.op a 0),(2,r),(3,.op x 0),(4,int 0)],h0⟩=some (.exit 0,⟨[(1,.op a 0),(2,r),(3,.op x 0),(4,int f.blocks.length),(21,bool false)],h'⟩)∧
   h0.length≤h'.length∧(∀y,y<h0.length→y≠x→h'[y]?=h0[y]?)∧h'[x]?=some (.row 0 [cn,co,cp,cr,cb])∧RowC h' cb 1 bc f.blocks.length∧BlksAt h' h0.length h'.length bc f.blocks∧∀y,locC cb=some y→h0.length≤y∧∀j:Nat,bc[j]?.bind locC≠some y:=by
 have hal:=(List.getElem?_eq_some_iff.1 ha).1
 have hxl:=(List.getElem?_eq_some_iff.1 hx).1
 have hmr:(2:Nat)^22<maxRow:=by decide
 have hB:=F.blocks
 obtain⟨q,⟨cb,bc,h',rfl,g1,g2,g3,g4,g5,g6⟩,L⟩:=Loop_run (P:=Try.prog) (vals:=valsOf tab) (call:=callAt Try.prog tab k) (n:=k) (ks:=[1,2,3,4]) (K:=k43b1) (id:=0) f.blocks.length
  (fun i q=>∃cb bc h,q=⟨[(1,.op a 0),(2,r),(3,.op x 0),(4,int i)],h⟩∧h0.length≤h.length∧(∀y,y<h0.length→y≠x→h[y]?=h0[y]?)∧h[x]?=some (.row 0 [cn,co,cp,cr,cb])∧RowC h cb 1 bc i∧BlksAt h h0.length h.length bc (f.blocks.take i)∧∀y,locC cb=some y→h0.length≤y∧∀j:Nat,bc[j]?.bind locC≠some y)
  (fun q=>∃cb bc h,q=⟨[(1,.op a 0),(2,r),(3,.op x 0),(4,int f.blocks.length),(21,bool false)],h⟩∧h0.length≤h.length∧(∀y,y<h0.length→y≠x→h[y]?=h0[y]?)∧h[x]?=some (.row 0 [cn,co,cp,cr,cb])∧RowC h cb 1 bc f.blocks.length∧BlksAt h h0.length h.length bc f.blocks∧∀y,locC cb=some y→h0.length≤y∧∀j:Nat,bc[j]?.bind locC≠some y)
  (fun i e h hi ⟨cb,bc,h2,hs,g1,g2,g3,g4,g5,g6⟩=>by
   cases hs
   have e1:decide ((i:Int)<f.blocks.length)=true:=by simp;omega
   have e2:0≤(i:Int)∧(i:Int)<f.blocks.length:=by omega
   have e3:=wrap_next (n:=f.blocks.length) (i:=i) (by omega) (by omega)
   have e6:h[a]?=some (.row 0 [str f.name,bool f.out,ints f.params,int f.result,blocks f.blocks]):=by rw[g2 a hal hax];exact ha
   have hxh:x<h.length:=(List.getElem?_eq_some_iff.1 g3).1
   have hah:a<h.length:=(List.getElem?_eq_some_iff.1 e6).1
   have hmem:blkAt f.blocks (i:Int)∈f.blocks:=blkAt_mem e2
   -- the block's own row
   obtain⟨c,h3,L0,p1,p2,p3,p4,p5⟩:=cfun_l0 (k:=k) (by omega) f F i hi a h.length r (.op x 0) (h++[Tm.Node.row 0 [.v (.slice none 0 0)]]) (by rw[List.getElem?_append_left hah];exact e6) (by omega) (by simp) k (by have:=F.ins _ hmem;omega)
   have len1:(h++[Tm.Node.row 0 [C.v (.slice none 0 0)]]).length=h.length+1:=by simp
   rw[len1] at p1 p2 p5
   have keep:∀y,y<h.length→h3[y]?=h[y]?:=fun y hy=>by rw[p2 y (by omega) (by omega),List.getElem?_append_left hy]
   have e7:h3[x]?=some (.row 0 [cn,co,cp,cr,cb]):=by rw[keep x hxh];exact g3
   -- one more block
   have gc:c.isCell=true:=RowC.cell p4
   have R3:RowC h3 cb 1 bc i:=g4.mono fun l hl=>keep l (g4.lt hl)
   have R4:RowC (h3++[Tm.Node.row 1 [c]]) cb 1 bc i:=R3.mono fun l hl=>List.getElem?_append_left (R3.lt hl)
   obtain⟨h5,a1,a2,a3,a4⟩:=R4.append [c] 1 (by decide) (by decide) rfl (by omega)
   have hcx:locC cb≠some x:=fun e=>by have:=(g6 x e).1;omega
   have len4:(h3++[Tm.Node.row 1 [c]]).length=h3.length+1:=by simp
   rw[len4] at a1 a2 a3 a4
   have e8:h5[x]?=some (.row 0 [cn,co,cp,cr,cb]):=by rw[a3 x (by omega) hcx,List.getElem?_append_left (by omega)];exact e7
   have keep5:∀y,y<h3.length→locC cb≠some y→y≠x→(h5.set x (Tm.Node.row 0 [cn,co,cp,cr,.os (h3.length+1) 0 (i+1) none]))[y]?=h3[y]?:=fun y hy hn hne=>by
    rw[List.getElem?_set_ne (Ne.symm hne),a3 y (by omega) hn,List.getElem?_append_left hy]
   have far:∀(j l:Nat),bc[j]?.bind locC=some l→h0.length≤l∧l<h.length:=fun j l hj=>by
    obtain⟨d,hd,hl⟩:=Option.bind_eq_some_iff.1 hj
    exact(g5.each j d hd).2 l hl
   refine⟨_,⟨.os (h3.length+1) 0 (i+1) none,bc++[c],h5.set x (Tm.Node.row 0 [cn,co,cp,cr,.os (h3.length+1) 0 (i+1) none]),rfl,?_,fun y hy hne=>?_,?_,?_,?_,fun y hy=>?_⟩,by
    simp +decide -implicitDefEqProofs only[k43b1,go_sem,e1,e2,e3,e6,set_new,L0,p3,e7,gc,len4,a1,e8]⟩
   ·rw[List.length_set,a2];omega
   ·rw[keep5 y (by omega) (fun e=>by have:=(g6 y e).1;omega) hne,keep y (by omega)];exact g2 y hy hne
   ·rw[List.getElem?_set_self (by omega)]
   ·refine a4.mono fun l hl=>?_
    cases hl
    rw[List.getElem?_set_ne (by omega)]
   ·rw[take_blk hi]
    rw[List.length_set,a2]
    have b0:BlksAt (h5.set x (Tm.Node.row 0 [cn,co,cp,cr,.os (h3.length+1) 0 (i+1) none])) h0.length h.length bc (f.blocks.take i):=g5.mono (Nat.le_refl _) (Nat.le_refl _) fun l hl hl2 ⟨j,hj⟩=>by
     rw[keep5 l (by omega) (fun e=>(g6 l e).2 j hj) (by omega)];exact keep l hl2
    refine b0.push _ (by simp) (RowC.mono p4 fun l hl=>?_) (fun l hl=>?_) (by omega) (by omega)
    ·have:=p5 l hl
     have hlt:=RowC.lt p4 hl
     rw[keep5 l hlt (fun e=>by have:=g4.lt e;omega) (by omega)]
    ·have:=p5 l hl
     have hlt:=RowC.lt p4 hl
     omega
   ·cases hy
    refine⟨by omega,fun j hj=>?_⟩
    have:∀(j l:Nat),(bc++[c])[j]?.bind locC=some l→l<h3.length:=fun j l hj=>by
     rcases Nat.lt_trichotomy j bc.length with h1|h1|h1
     ·rw[List.getElem?_append_left h1] at hj
      have:=far j l hj;omega
     ·subst h1
      rw[List.getElem?_append_right (Nat.le_refl _),Nat.sub_self] at hj
      exact RowC.lt p4 hj
     ·rw[List.getElem?_eq_none (by simp;omega)] at hj;cases hj
    have:=this j _ hj
    omega)
  (fun e h ⟨cb,bc,h2,hs,g1,g2,g3,g4,g5,g6⟩=>by
   cases hs
   have e6:h[a]?=some (.row 0 [str f.name,bool f.out,ints f.params,int f.result,blocks f.blocks]):=by rw[g2 a hal hax];exact ha
   rw[List.take_length] at g5
   exact⟨_,⟨cb,bc,h,rfl,g1,g2,g3,g4,g5,g6⟩,by simp +decide -implicitDefEqProofs only[k43b1,go_sem,Int.lt_irrefl,decide_false,e6]⟩) f.blocks.length 0 m _ h0 (by omega) hm
  ⟨.v (.slice none 0 0),[],h0,rfl,Nat.le_refl _,fun _ _ _=>rfl,hx,RowC.nil,⟨by simp,fun j c hc=>by simp at hc,fun j k l hj=>by simp at hj⟩,fun y hy=>by cases hy⟩
 exact⟨cb,bc,h',L,g1,g2,g3,g4,g5,g6⟩
theorem copyFunc_ref {k:Nat}(hk:100≤k)(f:Tm.Func)(F:Fine f)(hp:f.params.length≤8)(h0:Heap):
  ∃cs h',callAt Try.prog tab (k+1) 43 [.agg (encFunc f)] h0=some (.agg cs,h')∧h0.length≤h'.length∧(∀y,y<h0.length→h'[y]?=h0[y]?)∧FnAt h' h0.length h'.length cs f:=by
 have hmr:(2:Nat)^22<maxRow:=by decide
 have a1:=fun h=>app_copy (h:=h) (xs:=f.params) (by omega)
 rw[ref_call (rs:=[.cell 2 25]) (N:=58) rfl Try.func43 rfl rfl (by simp)]
 -- the heap ahead of the loop
 have len1:(h0++[Tm.Node.row 0 [str f.name,bool f.out,ints f.params,int f.result,blocks f.blocks]]).length=h0.length+1:=by simp
 generalize hA:h0++[Tm.Node.row 0 [str f.name,bool f.out,ints f.params,int f.result,blocks f.blocks]]++[Tm.Node.row 0 [str ⟨#[]⟩,bool false,.v (.slice none 0 0),int 0,.v (.slice none 0 0)]]=A
 have lenA:A.length=h0.length+2:=by rw[←hA];simp
 have getA:A[h0.length]?=some (.row 0 [str f.name,bool f.out,ints f.params,int f.result,blocks f.blocks]):=by rw[←hA];simp
 have getB:A[h0.length+1]?=some (.row 0 [str ⟨#[]⟩,bool false,.v (.slice none 0 0),int 0,.v (.slice none 0 0)]):=by rw[←hA];simp
 have keepA:∀y,y<h0.length→A[y]?=h0[y]?:=fun y hy=>by rw[←hA,List.getElem?_append_left (by simp;omega),List.getElem?_append_left hy]
 generalize hB:A++cpN f.params=B
 have lenB:A.length≤B.length:=by rw[←hB];simp
 have keepB:∀y,y<A.length→B[y]?=A[y]?:=fun y hy=>by rw[←hB,List.getElem?_append_left hy]
 obtain⟨cb,bc,h',L,g1,g2,g3,g4,g5,g6⟩:=cfun_l1 (k:=k) hk f F h0.length B.length (.op (h0.length+1) 0) (str f.name) (bool f.out) (cpC A.length f.params) (int f.result)
  (B++[Tm.Node.row 0 [str f.name,bool f.out,cpC A.length f.params,int f.result,.v (.slice none 0 0)]]) (by rw[List.getElem?_append_left (by omega),keepB _ (by omega)];exact getA) (by omega) (by simp) k (by have:=F.blocks;omega)
 have lenC:(B++[Tm.Node.row 0 [str f.name,bool f.out,cpC A.length f.params,int f.result,.v (.slice none 0 0)]]).length=B.length+1:=by simp
 rw[lenC] at g1 g2 g5 g6
 have gr:h'[h0.length+1]?=some (.row 0 [str ⟨#[]⟩,bool false,.v (.slice none 0 0),int 0,.v (.slice none 0 0)]):=by
  rw[g2 _ (by omega) (by omega),List.getElem?_append_left (by omega),keepB _ (by omega)];exact getB
 have hcell:cb.isCell=true:=g4.cell
 have gs:∀x:Tm.Node,(h'.set (h0.length+1) x)[h0.length+1]?=some x:=fun x=>List.getElem?_set_self (by omega)
 refine⟨[str f.name,bool f.out,cpC A.length f.params,int f.result,cb],h'.set (h0.length+1) (Tm.Node.row 0 [str f.name,bool f.out,cpC A.length f.params,int f.result,cb]),?_,?_,fun y hy=>?_,?_⟩
 ·rw[enc_func]
  simp +decide -implicitDefEqProofs only[k43,go_sem,hA,len1,getA,srcOf_ints,a1,hB,set_new,cpC_cells,cpC_cell,L,g3,gr,hcell,gs]
 ·rw[List.length_set];omega
 ·rw[List.getElem?_set_ne (by omega),g2 y (by omega) (by omega),List.getElem?_append_left (by omega),keepB y (by omega)];exact keepA y hy
 ·rw[List.length_set]
  have keep:∀(l:Nat) (nd:Tm.Node),l≠h0.length+1→(h'.set (h0.length+1) nd)[l]?=h'[l]?:=fun l nd hl=>List.getElem?_set_ne (Ne.symm hl)
  have locP:∀l,locC (cpC A.length f.params)=some l→l=A.length∧A.length<B.length:=fun l hl=>by
   obtain⟨e1,e2⟩:=cpC_loc hl
   refine⟨e1,?_⟩
   rw[←hB];unfold cpN;rw[if_neg e2];simp
  have rowP:f.params.length≠0→B[A.length]?=some (.row 1 (f.params.map int)):=fun h0=>by rw[←hB];unfold cpN;rw[if_neg h0];simp
  have far:∀(j l:Nat),bc[j]?.bind locC=some l→B.length+1≤l:=fun j l hj=>by
   obtain⟨d,hd,hl⟩:=Option.bind_eq_some_iff.1 hj
   exact((g5.each j d hd).2 l hl).1
  refine⟨_,cb,bc,rfl,cpC_grow fun hn=>?_,g4.mono fun l hl=>keep l _ (by have:=(g6 l hl).1;omega),g5.mono (by omega) (Nat.le_refl _) fun l ha hb _=>keep l _ (by omega),fun l hl=>?_,fun l hl=>?_⟩
  ·have hlt:A.length<B.length:=(List.getElem?_eq_some_iff.1 (rowP hn)).1
   rw[keep _ _ (by omega),g2 _ (by omega) (by omega),List.getElem?_append_left hlt];exact rowP hn
  ·obtain⟨rfl,hlt⟩:=locP l hl
   exact⟨by omega,by omega,fun e=>by have:=(g6 _ e).1;omega,fun j e=>by have:=far j _ e;omega⟩
  ·have:=g6 l hl
   exact⟨by omega,g4.lt hl,this.2⟩
end Go.Proofs.Ytkcimaibaicdcaa.Tk
namespace Go.Tm
theorem RowV.copied {h pre:Heap}{X:Nat→Prop}{c:C}{s k x n0:Nat}{vs:List C}(H:RowV h X 2 s c k vs)(hle:h.length≤pre.length)(hpre:∀y,y<h.length→pre[y]?=h[y]?)(xs:List Int)(elem ws:List C)(hs:0<s)(he:elem.length=s)(hm:k+1≤maxRow)
  (lo:∀y,X y→n0≤y)(lc:∀y,locC c=some y→n0≤y)(hn:n0≤h.length)(hx:x<n0)(hse:∀g:Heap,(xs.length≠0→g[pre.length]?=some (.row 1 (xs.map int)))→∀n,mapC (view false g (n+2)) elem=some ws):
  ∃h5,appendTo (pre++cpN xs++[.row s elem]) none s 1 elem c=some (.os (pre++cpN xs++[Node.row s elem]).length 0 (k+1) none,h5)∧(pre++cpN xs++[Node.row s elem]).length<h5.length∧(∀y,y<h.length→locC c≠some y→h5[y]?=h[y]?)∧h.length≤(pre++cpN xs++[Node.row s elem]).length∧
   ∀N,∃X2,RowV (h5.set x N) X2 2 s (.os (pre++cpN xs++[Node.row s elem]).length 0 (k+1) none) (k+1) (vs++ws)∧∀y,X2 y→n0≤y:=by
 have keep:∀y,y<h.length→(pre++cpN xs++[Node.row s elem])[y]?=h[y]?:=fun y hy=>by
  rw[List.getElem?_append_left (by simp;omega),List.getElem?_append_left (by omega)];exact hpre y hy
 have ll:h.length≤(pre++cpN xs++[Node.row s elem]).length:=by simp;omega
 have S:Sees (pre++cpN xs++[Node.row s elem]) (fun y=>y=pre.length∧xs.length≠0) 2 elem ws:=fun g hg n=>hse g (fun h0=>by rw[hg _ ⟨rfl,h0⟩];exact cpN_get _ h0) n
 have H2:RowV (pre++cpN xs++[Node.row s elem]) X 2 s c k vs:=H.mono ll fun l hl _=>keep l hl
 obtain⟨h5,a1,a2,a3,a4⟩:=H2.append 1 S (fun y hy=>by
  obtain⟨rfl,h0⟩:=hy
  exact(List.getElem?_eq_some_iff.1 (cpN_get (h:=pre) [Node.row s elem] h0)).1) (fun l hl hq=>by have:=H.lt hl;omega) hs (by decide) (by omega) hm
 refine⟨h5,a1,by omega,fun y hy hne=>by rw[a3 y (by omega) hne];exact keep y hy,ll,fun N=>⟨_,a4.mono (by rw[List.length_set];omega) fun l hl hq=>?_,fun y hy=>?_⟩⟩
 ·refine List.getElem?_set_ne fun e=>?_
  subst e
  rcases hq with (hq|hq)|hq
  ·have:=lo _ hq;omega
  ·have:=hq.1;omega
  ·cases hq;omega
 ·rcases hy with hy|hy
  ·exact lo y hy
  ·have:=hy.1;omega
theorem take_flat {α:Type}(enc:α→List C)(z:α){l:List α}{i:Nat}(h:i<l.length):(l.take (i+1)).flatMap enc=(l.take i).flatMap enc++enc (l.getD i z):=by
 rw[List.take_add_one,List.flatMap_append,List.getElem?_eq_getElem h,List.getD_eq_getElem?_getD,List.getElem?_eq_getElem h];simp
end Go.Tm
namespace Go.Proofs.Ytkcimaibaicdcaa.Tk
open Go.Tm Go.Tm.Tab
theorem copy_l0 {k:Nat}(hk:100≤k)(m:Tm.Module)(F:FineM m)(a x:Nat)(r c1 c2 c3:C)(h0:Heap)(ha:h0[a]?=some (.row 0 [externs m.externs,globals m.globals,tables m.tables,funcs m.funcs]))(hax:a≠x)
  (hx:h0[x]?=some (.row 0 [.v (.slice none 0 0),c1,c2,c3]))(q:Nat)(hq:m.externs.length<q):
  ∃c X h',Tm.Loop Try.prog (valsOf tab) (callAt Try.prog tab k) k [1,2,3,4] k47b0 q ⟨[(1,.op a 0),(2,r),(3,.op x 0),(4,int 0)],h0⟩=some (.exit 0,⟨[(1,.op a 0),(2,r),(3,.op x 0),(4,int m.externs.length),(13,bool false)],h'⟩)∧h0.length≤h'.length∧(∀y,y<h0.length→y≠x→h'[y]?=h0[y]?)∧h'[x]?=some (.row 0 [c,c1,c2,c3])∧RowV h' X 2 3 c m.externs.length (m.externs.flatMap encExtern)∧(∀y,X y→h0.length≤y)∧∀y,locC c=some y→h0.length≤y:=by
 have hal:=(List.getElem?_eq_some_iff.1 ha).1
 have hxl:=(List.getElem?_eq_some_iff.1 hx).1
 have hmr:(2:Nat)^22<maxRow:=by decide
 have hB:=F.externs
 obtain⟨p,⟨c,X,h',rfl,g1,g2,g3,g4,g5,g6⟩,L⟩:=Loop_run (P:=Try.prog) (vals:=valsOf tab) (call:=callAt Try.prog tab k) (n:=k) (ks:=[1,2,3,4]) (K:=k47b0) (id:=0) m.externs.length
  (fun i p=>∃c X h,p=⟨[(1,.op a 0),(2,r),(3,.op x 0),(4,int i)],h⟩∧h0.length≤h.length∧(∀y,y<h0.length→y≠x→h[y]?=h0[y]?)∧h[x]?=some (.row 0 [c,c1,c2,c3])∧RowV h X 2 3 c i ((m.externs.take i).flatMap encExtern)∧(∀y,X y→h0.length≤y)∧∀y,locC c=some y→h0.length≤y)
  (fun p=>∃c X h,p=⟨[(1,.op a 0),(2,r),(3,.op x 0),(4,int m.externs.length),(13,bool false)],h⟩∧h0.length≤h.length∧(∀y,y<h0.length→y≠x→h[y]?=h0[y]?)∧h[x]?=some (.row 0 [c,c1,c2,c3])∧RowV h X 2 3 c m.externs.length (m.externs.flatMap encExtern)∧(∀y,X y→h0.length≤y)∧∀y,locC c=some y→h0.length≤y)
  (fun i e h hi ⟨c,X,h2,hs,g1,g2,g3,g4,g5,g6⟩=>by
   cases hs
   have e1:decide ((i:Int)<m.externs.length)=true:=by simp;omega
   have e2:0≤(i:Int)∧(i:Int)<m.externs.length:=by omega
   have e3:=wrap_next (n:=m.externs.length) (i:=i) (by omega) (by omega)
   have e6:h[a]?=some (.row 0 [externs m.externs,globals m.globals,tables m.tables,funcs m.funcs]):=by rw[g2 a hal hax];exact ha
   have hxh:x<h.length:=(List.getElem?_eq_some_iff.1 g3).1
   have hah:a<h.length:=(List.getElem?_eq_some_iff.1 e6).1
   have hmem:(extAt m.externs i)∈m.externs:=getD_mem (by omega)
   have hlen:(extAt m.externs i).params.length≤20:=by have:=F.ext _ hmem;omega
   have ac:=fun h=>app_copy (h:=h) (xs:=(extAt m.externs i).params) (by omega)
   have e7:∀N:Tm.Node,(h++[N])[x]?=some (.row 0 [c,c1,c2,c3]):=fun N=>by rw[List.getElem?_append_left hxh];exact g3
   have e8:∀N:Tm.Node,(h++[N])[a]?=some (.row 0 [externs m.externs,globals m.globals,tables m.tables,funcs m.funcs]):=fun N=>by rw[List.getElem?_append_left hah];exact e6
   obtain⟨h5,a1,a2,a3,a4,a5⟩:=g4.copied (pre:=(h++[Tm.Node.row 0 [str (extAt m.externs i).name,ints (extAt m.externs i).params,int (extAt m.externs i).result]])) (x:=x) (n0:=h0.length) (by simp) (fun y hy=>by first|rfl|exact List.getElem?_append_left hy) (extAt m.externs i).params [str (extAt m.externs i).name,cpC ((h++[Tm.Node.row 0 [str (extAt m.externs i).name,ints (extAt m.externs i).params,int (extAt m.externs i).result]])).length (extAt m.externs i).params,int (extAt m.externs i).result] [str (extAt m.externs i).name,ints (extAt m.externs i).params,int (extAt m.externs i).result] (by decide) rfl (by omega) g5 g6 g1 hxl (fun g hg n=>by
    simp only[mapC_cons,mapC_nil,view_str,view_int,cpC_view hg,Option.bind_some])
   obtain⟨X2,v1,v2⟩:=a5 (.row 0 [(.os ((h++[Tm.Node.row 0 [str (extAt m.externs i).name,ints (extAt m.externs i).params,int (extAt m.externs i).result]])++cpN (extAt m.externs i).params++[Tm.Node.row 3 [str (extAt m.externs i).name,cpC ((h++[Tm.Node.row 0 [str (extAt m.externs i).name,ints (extAt m.externs i).params,int (extAt m.externs i).result]])).length (extAt m.externs i).params,int (extAt m.externs i).result]]).length 0 (i+1) none),c1,c2,c3])
   have hcx:locC c≠some x:=fun e=>by have:=g6 x e;omega
   have e9:h5[x]?=some (.row 0 [c,c1,c2,c3]):=by rw[a3 x hxh hcx];exact g3
   refine⟨_,⟨.os ((h++[Tm.Node.row 0 [str (extAt m.externs i).name,ints (extAt m.externs i).params,int (extAt m.externs i).result]])++cpN (extAt m.externs i).params++[Tm.Node.row 3 [str (extAt m.externs i).name,cpC ((h++[Tm.Node.row 0 [str (extAt m.externs i).name,ints (extAt m.externs i).params,int (extAt m.externs i).result]])).length (extAt m.externs i).params,int (extAt m.externs i).result]]).length 0 (i+1) none,X2,h5.set x (Tm.Node.row 0 [(.os ((h++[Tm.Node.row 0 [str (extAt m.externs i).name,ints (extAt m.externs i).params,int (extAt m.externs i).result]])++cpN (extAt m.externs i).params++[Tm.Node.row 3 [str (extAt m.externs i).name,cpC ((h++[Tm.Node.row 0 [str (extAt m.externs i).name,ints (extAt m.externs i).params,int (extAt m.externs i).result]])).length (extAt m.externs i).params,int (extAt m.externs i).result]]).length 0 (i+1) none),c1,c2,c3]),rfl,?_,fun y hy hne=>?_,?_,?_,v2,fun y hy=>?_⟩,by
    simp +decide -implicitDefEqProofs only[k47b0,go_sem,e1,e2,e3,e6,e7,e8,g3,set_new,encExtern,srcOf_ints,ac,cpC_cells,cpC_cell,a1,e9]⟩
   ·rw[List.length_set];omega
   ·rw[List.getElem?_set_ne (Ne.symm hne),a3 y (by omega) fun e=>by have:=g6 y e;omega];exact g2 y hy hne
   ·rw[List.getElem?_set_self (by omega)]
   ·rw[take_flat encExtern default hi];exact v1
   ·cases hy;omega)
  (fun e h ⟨c,X,h2,hs,g1,g2,g3,g4,g5,g6⟩=>by
   cases hs
   have e6:h[a]?=some (.row 0 [externs m.externs,globals m.globals,tables m.tables,funcs m.funcs]):=by rw[g2 a hal hax];exact ha
   rw[List.take_length] at g4
   exact⟨_,⟨c,X,h,rfl,g1,g2,g3,g4,g5,g6⟩,by simp +decide -implicitDefEqProofs only[k47b0,go_sem,Int.lt_irrefl,decide_false,e6]⟩) m.externs.length 0 q _ h0 (by omega) hq
  ⟨.v (.slice none 0 0),fun _=>False,h0,rfl,Nat.le_refl _,fun _ _ _=>rfl,hx,RowV.nil,fun y hy=>hy.elim,fun y hy=>by cases hy⟩
 exact⟨c,X,h',L,g1,g2,g3,g4,g5,g6⟩
theorem copy_l1 {k:Nat}(hk:100≤k)(m:Tm.Module)(F:FineM m)(a x:Nat)(r c0 c2 c3:C)(h0:Heap)(ha:h0[a]?=some (.row 0 [externs m.externs,globals m.globals,tables m.tables,funcs m.funcs]))(hax:a≠x)
  (hx:h0[x]?=some (.row 0 [c0,.v (.slice none 0 0),c2,c3]))(q:Nat)(hq:m.globals.length<q):
  ∃c X h',Tm.Loop Try.prog (valsOf tab) (callAt Try.prog tab k) k [1,2,3,6] k47b1 q ⟨[(1,.op a 0),(2,r),(3,.op x 0),(6,int 0)],h0⟩=some (.exit 2,⟨[(1,.op a 0),(2,r),(3,.op x 0),(6,int m.globals.length),(38,bool false)],h'⟩)∧h0.length≤h'.length∧(∀y,y<h0.length→y≠x→h'[y]?=h0[y]?)∧h'[x]?=some (.row 0 [c0,c,c2,c3])∧RowV h' X 2 2 c m.globals.length (m.globals.flatMap encGlobal)∧(∀y,X y→h0.length≤y)∧∀y,locC c=some y→h0.length≤y:=by
 have hal:=(List.getElem?_eq_some_iff.1 ha).1
 have hxl:=(List.getElem?_eq_some_iff.1 hx).1
 have hmr:(2:Nat)^22<maxRow:=by decide
 have hB:=F.globals
 obtain⟨p,⟨c,X,h',rfl,g1,g2,g3,g4,g5,g6⟩,L⟩:=Loop_run (P:=Try.prog) (vals:=valsOf tab) (call:=callAt Try.prog tab k) (n:=k) (ks:=[1,2,3,6]) (K:=k47b1) (id:=2) m.globals.length
  (fun i p=>∃c X h,p=⟨[(1,.op a 0),(2,r),(3,.op x 0),(6,int i)],h⟩∧h0.length≤h.length∧(∀y,y<h0.length→y≠x→h[y]?=h0[y]?)∧h[x]?=some (.row 0 [c0,c,c2,c3])∧RowV h X 2 2 c i ((m.globals.take i).flatMap encGlobal)∧(∀y,X y→h0.length≤y)∧∀y,locC c=some y→h0.length≤y)
  (fun p=>∃c X h,p=⟨[(1,.op a 0),(2,r),(3,.op x 0),(6,int m.globals.length),(38,bool false)],h⟩∧h0.length≤h.length∧(∀y,y<h0.length→y≠x→h[y]?=h0[y]?)∧h[x]?=some (.row 0 [c0,c,c2,c3])∧RowV h X 2 2 c m.globals.length (m.globals.flatMap encGlobal)∧(∀y,X y→h0.length≤y)∧∀y,locC c=some y→h0.length≤y)
  (fun i e h hi ⟨c,X,h2,hs,g1,g2,g3,g4,g5,g6⟩=>by
   cases hs
   have e1:decide ((i:Int)<m.globals.length)=true:=by simp;omega
   have e2:0≤(i:Int)∧(i:Int)<m.globals.length:=by omega
   have e3:=wrap_next (n:=m.globals.length) (i:=i) (by omega) (by omega)
   have e6:h[a]?=some (.row 0 [externs m.externs,globals m.globals,tables m.tables,funcs m.funcs]):=by rw[g2 a hal hax];exact ha
   have hxh:x<h.length:=(List.getElem?_eq_some_iff.1 g3).1
   have hah:a<h.length:=(List.getElem?_eq_some_iff.1 e6).1
   have hmem:(gloAt m.globals i)∈m.globals:=getD_mem (by omega)
   have hlen:(gloAt m.globals i).cells.length≤20:=by have:=F.glo _ hmem;omega
   have ac:=fun h=>app_copy (h:=h) (xs:=(gloAt m.globals i).cells) (by omega)
   have e7:∀N:Tm.Node,(h++[N])[x]?=some (.row 0 [c0,c,c2,c3]):=fun N=>by rw[List.getElem?_append_left hxh];exact g3
   have e8:∀N:Tm.Node,(h++[N])[a]?=some (.row 0 [externs m.externs,globals m.globals,tables m.tables,funcs m.funcs]):=fun N=>by rw[List.getElem?_append_left hah];exact e6
   obtain⟨h5,a1,a2,a3,a4,a5⟩:=g4.copied (pre:=h) (x:=x) (n0:=h0.length) (by simp) (fun y hy=>by first|rfl|exact List.getElem?_append_left hy) (gloAt m.globals i).cells [str (gloAt m.globals i).name,cpC (h).length (gloAt m.globals i).cells] [str (gloAt m.globals i).name,ints (gloAt m.globals i).cells] (by decide) rfl (by omega) g5 g6 g1 hxl (fun g hg n=>by
    simp only[mapC_cons,mapC_nil,view_str,view_int,cpC_view hg,Option.bind_some])
   obtain⟨X2,v1,v2⟩:=a5 (.row 0 [c0,(.os (h++cpN (gloAt m.globals i).cells++[Tm.Node.row 2 [str (gloAt m.globals i).name,cpC (h).length (gloAt m.globals i).cells]]).length 0 (i+1) none),c2,c3])
   have hcx:locC c≠some x:=fun e=>by have:=g6 x e;omega
   have e9:h5[x]?=some (.row 0 [c0,c,c2,c3]):=by rw[a3 x hxh hcx];exact g3
   refine⟨_,⟨.os (h++cpN (gloAt m.globals i).cells++[Tm.Node.row 2 [str (gloAt m.globals i).name,cpC (h).length (gloAt m.globals i).cells]]).length 0 (i+1) none,X2,h5.set x (Tm.Node.row 0 [c0,(.os (h++cpN (gloAt m.globals i).cells++[Tm.Node.row 2 [str (gloAt m.globals i).name,cpC (h).length (gloAt m.globals i).cells]]).length 0 (i+1) none),c2,c3]),rfl,?_,fun y hy hne=>?_,?_,?_,v2,fun y hy=>?_⟩,by
    simp +decide -implicitDefEqProofs only[k47b1,go_sem,e1,e2,e3,e6,e7,e8,g3,set_new,encGlobal,srcOf_ints,ac,cpC_cells,cpC_cell,a1,e9]⟩
   ·rw[List.length_set];omega
   ·rw[List.getElem?_set_ne (Ne.symm hne),a3 y (by omega) fun e=>by have:=g6 y e;omega];exact g2 y hy hne
   ·rw[List.getElem?_set_self (by omega)]
   ·rw[take_flat encGlobal default hi];exact v1
   ·cases hy;omega)
  (fun e h ⟨c,X,h2,hs,g1,g2,g3,g4,g5,g6⟩=>by
   cases hs
   have e6:h[a]?=some (.row 0 [externs m.externs,globals m.globals,tables m.tables,funcs m.funcs]):=by rw[g2 a hal hax];exact ha
   rw[List.take_length] at g4
   exact⟨_,⟨c,X,h,rfl,g1,g2,g3,g4,g5,g6⟩,by simp +decide -implicitDefEqProofs only[k47b1,go_sem,Int.lt_irrefl,decide_false,e6]⟩) m.globals.length 0 q _ h0 (by omega) hq
  ⟨.v (.slice none 0 0),fun _=>False,h0,rfl,Nat.le_refl _,fun _ _ _=>rfl,hx,RowV.nil,fun y hy=>hy.elim,fun y hy=>by cases hy⟩
 exact⟨c,X,h',L,g1,g2,g3,g4,g5,g6⟩
theorem copy_l2 {k:Nat}(hk:100≤k)(m:Tm.Module)(F:FineM m)(a x:Nat)(r c0 c1 c3:C)(h0:Heap)(ha:h0[a]?=some (.row 0 [externs m.externs,globals m.globals,tables m.tables,funcs m.funcs]))(hax:a≠x)
  (hx:h0[x]?=some (.row 0 [c0,c1,.v (.slice none 0 0),c3]))(q:Nat)(hq:m.tables.length<q):
  ∃c X h',Tm.Loop Try.prog (valsOf tab) (callAt Try.prog tab k) k [1,2,3,7] k47b2 q ⟨[(1,.op a 0),(2,r),(3,.op x 0),(7,int 0)],h0⟩=some (.exit 4,⟨[(1,.op a 0),(2,r),(3,.op x 0),(7,int m.tables.length),(64,bool false)],h'⟩)∧h0.length≤h'.length∧(∀y,y<h0.length→y≠x→h'[y]?=h0[y]?)∧h'[x]?=some (.row 0 [c0,c1,c,c3])∧RowV h' X 2 2 c m.tables.length (m.tables.flatMap encTable)∧(∀y,X y→h0.length≤y)∧∀y,locC c=some y→h0.length≤y:=by
 have hal:=(List.getElem?_eq_some_iff.1 ha).1
 have hxl:=(List.getElem?_eq_some_iff.1 hx).1
 have hmr:(2:Nat)^22<maxRow:=by decide
 have hB:=F.tables
 obtain⟨p,⟨c,X,h',rfl,g1,g2,g3,g4,g5,g6⟩,L⟩:=Loop_run (P:=Try.prog) (vals:=valsOf tab) (call:=callAt Try.prog tab k) (n:=k) (ks:=[1,2,3,7]) (K:=k47b2) (id:=4) m.tables.length
  (fun i p=>∃c X h,p=⟨[(1,.op a 0),(2,r),(3,.op x 0),(7,int i)],h⟩∧h0.length≤h.length∧(∀y,y<h0.length→y≠x→h[y]?=h0[y]?)∧h[x]?=some (.row 0 [c0,c1,c,c3])∧RowV h X 2 2 c i ((m.tables.take i).flatMap encTable)∧(∀y,X y→h0.length≤y)∧∀y,locC c=some y→h0.length≤y)
  (fun p=>∃c X h,p=⟨[(1,.op a 0),(2,r),(3,.op x 0),(7,int m.tables.length),(64,bool false)],h⟩∧h0.length≤h.length∧(∀y,y<h0.length→y≠x→h[y]?=h0[y]?)∧h[x]?=some (.row 0 [c0,c1,c,c3])∧RowV h X 2 2 c m.tables.length (m.tables.flatMap encTable)∧(∀y,X y→h0.length≤y)∧∀y,locC c=some y→h0.length≤y)
  (fun i e h hi ⟨c,X,h2,hs,g1,g2,g3,g4,g5,g6⟩=>by
   cases hs
   have e1:decide ((i:Int)<m.tables.length)=true:=by simp;omega
   have e2:0≤(i:Int)∧(i:Int)<m.tables.length:=by omega
   have e3:=wrap_next (n:=m.tables.length) (i:=i) (by omega) (by omega)
   have e6:h[a]?=some (.row 0 [externs m.externs,globals m.globals,tables m.tables,funcs m.funcs]):=by rw[g2 a hal hax];exact ha
   have hxh:x<h.length:=(List.getElem?_eq_some_iff.1 g3).1
   have hah:a<h.length:=(List.getElem?_eq_some_iff.1 e6).1
   have hmem:(tblAt m.tables i)∈m.tables:=getD_mem (by omega)
   have hlen:(tblAt m.tables i).funcs.length≤20:=by have:=F.tbl _ hmem;omega
   have ac:=fun h=>app_copy (h:=h) (xs:=(tblAt m.tables i).funcs) (by omega)
   have e7:∀N:Tm.Node,(h++[N])[x]?=some (.row 0 [c0,c1,c,c3]):=fun N=>by rw[List.getElem?_append_left hxh];exact g3
   have e8:∀N:Tm.Node,(h++[N])[a]?=some (.row 0 [externs m.externs,globals m.globals,tables m.tables,funcs m.funcs]):=fun N=>by rw[List.getElem?_append_left hah];exact e6
   obtain⟨h5,a1,a2,a3,a4,a5⟩:=g4.copied (pre:=h) (x:=x) (n0:=h0.length) (by simp) (fun y hy=>by first|rfl|exact List.getElem?_append_left hy) (tblAt m.tables i).funcs [str (tblAt m.tables i).name,cpC (h).length (tblAt m.tables i).funcs] [str (tblAt m.tables i).name,ints (tblAt m.tables i).funcs] (by decide) rfl (by omega) g5 g6 g1 hxl (fun g hg n=>by
    simp only[mapC_cons,mapC_nil,view_str,view_int,cpC_view hg,Option.bind_some])
   obtain⟨X2,v1,v2⟩:=a5 (.row 0 [c0,c1,(.os (h++cpN (tblAt m.tables i).funcs++[Tm.Node.row 2 [str (tblAt m.tables i).name,cpC (h).length (tblAt m.tables i).funcs]]).length 0 (i+1) none),c3])
   have hcx:locC c≠some x:=fun e=>by have:=g6 x e;omega
   have e9:h5[x]?=some (.row 0 [c0,c1,c,c3]):=by rw[a3 x hxh hcx];exact g3
   refine⟨_,⟨.os (h++cpN (tblAt m.tables i).funcs++[Tm.Node.row 2 [str (tblAt m.tables i).name,cpC (h).length (tblAt m.tables i).funcs]]).length 0 (i+1) none,X2,h5.set x (Tm.Node.row 0 [c0,c1,(.os (h++cpN (tblAt m.tables i).funcs++[Tm.Node.row 2 [str (tblAt m.tables i).name,cpC (h).length (tblAt m.tables i).funcs]]).length 0 (i+1) none),c3]),rfl,?_,fun y hy hne=>?_,?_,?_,v2,fun y hy=>?_⟩,by
    simp +decide -implicitDefEqProofs only[k47b2,go_sem,e1,e2,e3,e6,e7,e8,g3,set_new,encTable,srcOf_ints,ac,cpC_cells,cpC_cell,a1,e9]⟩
   ·rw[List.length_set];omega
   ·rw[List.getElem?_set_ne (Ne.symm hne),a3 y (by omega) fun e=>by have:=g6 y e;omega];exact g2 y hy hne
   ·rw[List.getElem?_set_self (by omega)]
   ·rw[take_flat encTable default hi];exact v1
   ·cases hy;omega)
  (fun e h ⟨c,X,h2,hs,g1,g2,g3,g4,g5,g6⟩=>by
   cases hs
   have e6:h[a]?=some (.row 0 [externs m.externs,globals m.globals,tables m.tables,funcs m.funcs]):=by rw[g2 a hal hax];exact ha
   rw[List.take_length] at g4
   exact⟨_,⟨c,X,h,rfl,g1,g2,g3,g4,g5,g6⟩,by simp +decide -implicitDefEqProofs only[k47b2,go_sem,Int.lt_irrefl,decide_false,e6]⟩) m.tables.length 0 q _ h0 (by omega) hq
  ⟨.v (.slice none 0 0),fun _=>False,h0,rfl,Nat.le_refl _,fun _ _ _=>rfl,hx,RowV.nil,fun y hy=>hy.elim,fun y hy=>by cases hy⟩
 exact⟨c,X,h',L,g1,g2,g3,g4,g5,g6⟩
end Go.Proofs.Ytkcimaibaicdcaa.Tk
namespace Go.Tm
theorem RowC.same {h:Heap}{c:C}{s k:Nat}{cells:List C}(H:RowC h c s cells k):ceq c c=true:=by
 obtain⟨h0,⟨rfl,rfl⟩|⟨l,rfl,h1⟩⟩:=H
 ·rfl
 ·unfold ceq oeq;simp
theorem RowV.same {h:Heap}{X:Nat→Prop}{d s k:Nat}{c:C}{vs:List C}(H:RowV h X d s c k vs):ceq c c=true:=by
 obtain⟨cells,h1,h2,h3,h4⟩:=H
 exact h1.same
structure FnsAt (h:Heap)(lo:Nat)(c:C)(fs:List Func)(css:List (List C))(A B:Nat→Nat):Prop where
 row:RowC h c 5 css.flatten fs.length
 len:css.length=fs.length
 each:∀(j:Nat) (cs:List C) (f:Func),css[j]?=some cs→fs[j]?=some f→FnAt h (A j) (B j) cs f
 mid:∀j:Nat,j<fs.length→lo≤A j∧A j≤B j∧B j≤h.length
 asc:∀i j:Nat,i<j→j<fs.length→B i≤A j
 far:∀l,locC c=some l→lo≤l∧∀j:Nat,j<fs.length→¬(A j≤l∧l<B j)
theorem FnsAt.nil {h:Heap}{lo:Nat}:FnsAt h lo (.v (.slice none 0 0)) [] [] (fun _=>0) (fun _=>0):=
 ⟨RowC.nil,rfl,fun j cs f h1=>by simp at h1,fun j hj=>by simp at hj,fun i j h1 h2=>by simp at h2,fun l hl=>by cases hl⟩
theorem FnsAt.mono {h h':Heap}{lo:Nat}{c:C}{fs:List Func}{css:List (List C)}{A B:Nat→Nat}(H:FnsAt h lo c fs css A B)(hle:h.length≤h'.length)(hX:∀l,lo≤l→l<h.length→h'[l]?=h[l]?):FnsAt h' lo c fs css A B:=
 ⟨H.row.mono fun l hl=>hX l (H.far l hl).1 (H.row.lt hl),H.len,fun j cs f h1 h2=>(H.each j cs f h1 h2).mono fun l hl hl2=>by
  have hj:j<fs.length:=(List.getElem?_eq_some_iff.1 h2).1
  have:=H.mid j hj
  exact hX l (by omega) (by omega),fun j hj=>by have:=H.mid j hj;omega,H.asc,H.far⟩
theorem sees_flat {α:Type}{h:Heap}{X:Nat→Prop}{d:Nat}{enc:α→List C}:∀{css:List (List C)} {l:List α},css.length=l.length→(∀(j:Nat) (cs:List C) (x:α),css[j]?=some cs→l[j]?=some x→Sees h X d cs (enc x))→Sees h X d css.flatten (l.flatMap enc)
 |[],[],_,_=>.nil
 |c::cs,x::l,hl,hs=>by
  rw[List.flatten_cons,List.flatMap_cons]
  exact(hs 0 c x rfl rfl).append (sees_flat (by simpa using hl) fun j c y h1 h2=>hs (j+1) c y (by simpa using h1) (by simpa using h2))
theorem FnsAt.rowV {h:Heap}{lo:Nat}{c:C}{fs:List Func}{css:List (List C)}{A B:Nat→Nat}(H:FnsAt h lo c fs css A B):RowV h (fun x=>∃j,j<fs.length∧A j≤x∧x<B j) 3 5 c fs.length (fs.flatMap encFunc):=
 ⟨css.flatten,H.row,fun l hl ⟨j,hj,h1⟩=>(H.far l hl).2 j hj h1,fun x ⟨j,hj,h1⟩=>by have:=H.mid j hj;omega,sees_flat H.len fun j cs f h1 h2=>(H.each j cs f h1 h2).sees.wider fun x hx=>⟨j,(List.getElem?_eq_some_iff.1 h2).1,hx⟩⟩
end Go.Tm
namespace Go.Proofs.Ytkcimaibaicdcaa.Tk
open Go.Tm Go.Tm.Tab
theorem copy_l3 {k:Nat}(hk:200≤k)(m:Tm.Module)(F:FineM m)(a x:Nat)(r c0 c1 c2:C)(h0:Heap)(ha:h0[a]?=some (.row 0 [externs m.externs,globals m.globals,tables m.tables,funcs m.funcs]))(hax:a≠x)
  (s0:ceq c0 c0=true)(s1:ceq c1 c1=true)(s2:ceq c2 c2=true)(hx:h0[x]?=some (.row 0 [c0,c1,c2,.v (.slice none 0 0)]))(q:Nat)(hq:m.funcs.length<q):
  ∃c css A B h',Tm.Loop Try.prog (valsOf tab) (callAt Try.prog tab k) k [1,2,3,8] k47b3 q ⟨[(1,.op a 0),(2,r),(3,.op x 0),(8,int 0)],h0⟩=some (.exit 6,⟨[(1,.op a 0),(2,r),(3,.op x 0),(8,int m.funcs.length),(90,bool false)],h'⟩)∧
   h0.length≤h'.length∧(∀y,y<h0.length→y≠x→h'[y]?=h0[y]?)∧h'[x]?=some (.row 0 [c0,c1,c2,c])∧FnsAt h' h0.length c m.funcs css A B:=by
 have hal:=(List.getElem?_eq_some_iff.1 ha).1
 have hxl:=(List.getElem?_eq_some_iff.1 hx).1
 have hmr:(2:Nat)^22<maxRow:=by decide
 have hB:=F.funcs
 obtain⟨k,rfl⟩:∃k',k=k'+1:=⟨k-1,by omega⟩
 obtain⟨p,⟨c,css,A,B,h',rfl,g1,g2,g3,g4⟩,L⟩:=Loop_run (P:=Try.prog) (vals:=valsOf tab) (call:=callAt Try.prog tab (k+1)) (n:=k+1) (ks:=[1,2,3,8]) (K:=k47b3) (id:=6) m.funcs.length
  (fun i p=>∃c css A B h,p=⟨[(1,.op a 0),(2,r),(3,.op x 0),(8,int i)],h⟩∧h0.length≤h.length∧(∀y,y<h0.length→y≠x→h[y]?=h0[y]?)∧h[x]?=some (.row 0 [c0,c1,c2,c])∧FnsAt h h0.length c (m.funcs.take i) css A B)
  (fun p=>∃c css A B h,p=⟨[(1,.op a 0),(2,r),(3,.op x 0),(8,int m.funcs.length),(90,bool false)],h⟩∧h0.length≤h.length∧(∀y,y<h0.length→y≠x→h[y]?=h0[y]?)∧h[x]?=some (.row 0 [c0,c1,c2,c])∧FnsAt h h0.length c m.funcs css A B)
  (fun i e h hi ⟨c,css,A,B,h2,hs,g1,g2,g3,g4⟩=>by
   cases hs
   have e1:decide ((i:Int)<m.funcs.length)=true:=by simp;omega
   have e2:0≤(i:Int)∧(i:Int)<m.funcs.length:=by omega
   have e3:=wrap_next (n:=m.funcs.length) (i:=i) (by omega) (by omega)
   have e6:h[a]?=some (.row 0 [externs m.externs,globals m.globals,tables m.tables,funcs m.funcs]):=by rw[g2 a hal hax];exact ha
   have hxh:x<h.length:=(List.getElem?_eq_some_iff.1 g3).1
   have hmem:fnAt m.funcs i∈m.funcs:=getD_mem (by omega)
   have hget:m.funcs[i]?=some (fnAt m.funcs i):=by simp[fnAt,List.getD_eq_getElem?_getD,List.getElem?_eq_getElem hi]
   obtain⟨F1,_,F2⟩:=F.fn _ hmem
   generalize hf:fnAt m.funcs i=f at hmem hget F1 F2
   have lt:(m.funcs.take i).length=i:=by rw[List.length_take];omega
   obtain⟨cs,h3,a0,p1,p2,p3⟩:=copyFunc_ref (k:=k) (by omega) f F1 F2 h
   have p3':=p3
   obtain⟨cp,cb,bc,rfl,q1,q2,q3,q4,q5⟩:=p3
   have row:=g4.row
   rw[lt] at row
   have R4:RowC (h3++[Tm.Node.row 5 [str f.name,bool f.out,cp,int f.result,cb]]) c 5 css.flatten i:=row.mono fun l hl=>by
    have:=row.lt hl
    rw[List.getElem?_append_left (by omega)];exact p2 l this
   obtain⟨h5,a1,a2,a3,a4⟩:=R4.append [str f.name,bool f.out,cp,int f.result,cb] 1 (by decide) (by decide) rfl (by omega)
   have len4:(h3++[Tm.Node.row 5 [str f.name,bool f.out,cp,int f.result,cb]]).length=h3.length+1:=by simp
   rw[len4] at a1 a2 a3 a4
   have hcx:locC c≠some x:=fun e=>by have:=(g4.far x e).1;omega
   have e7:h3[x]?=some (.row 0 [c0,c1,c2,c]):=by rw[p2 x hxh];exact g3
   have e8:h5[x]?=some (.row 0 [c0,c1,c2,c]):=by rw[a3 x (by omega) hcx,List.getElem?_append_left (by omega)];exact e7
   have keep5:∀(N:Tm.Node) (y:Nat),y<h3.length→locC c≠some y→y≠x→(h5.set x N)[y]?=h3[y]?:=fun N y hy hn hne=>by
    rw[List.getElem?_set_ne (Ne.symm hne),a3 y (by omega) hn,List.getElem?_append_left hy]
   have hcall:callAt Try.prog tab (k+1) 43 [.agg [str f.name,bool f.out,ints f.params,int f.result,blocks f.blocks]] h=some (.agg [str f.name,bool f.out,cp,int f.result,cb],h3):=a0
   have fn:∀e:Env,fine [3,6] e (.call ⟨.value (.func 43),#[.tmp 99],#[25]⟩) h h3 [(6,.frozen),(3,.row a),(1,.row x)]=true:=fun e=>by
    have hs:sameRow h h3 x=true:=by unfold sameRow;rw[e7,g3];simp only[nodeEq,ceqs,s0,s1,s2,row.same];rfl
    have hb:Nat.ble h.length h3.length=true:=by rw[Nat.ble_eq];exact p1
    unfold fine
    simp only[isCallV,if_true,lsOkC,hs,hb,Bool.or_true,Bool.and_true]
    rfl
   have gc:(cp.isCell&&cb.isCell)=true:=by rw[RowC.cell q1,RowC.cell q2];rfl
   have tk:m.funcs.take (i+1)=m.funcs.take i++[f]:=by rw[List.take_add_one,hget];rfl
   refine⟨_,⟨.os (h3.length+1) 0 (i+1) none,css++[[str f.name,bool f.out,cp,int f.result,cb]],fun j=>if j<i then A j else h.length,fun j=>if j<i then B j else h3.length,h5.set x (Tm.Node.row 0 [c0,c1,c2,.os (h3.length+1) 0 (i+1) none]),rfl,?_,fun y hy hne=>?_,?_,?_⟩,by
    simp +decide -implicitDefEqProofs only[k47b3,go_sem,e1,e2,e3,e6,g3,hf,hcall,fn,gc,len4,a1,e8]⟩
   ·rw[List.length_set];omega
   ·rw[keep5 _ y (by omega) (fun e=>by have:=(g4.far y e).1;omega) hne,p2 y (by omega)];exact g2 y hy hne
   ·rw[List.getElem?_set_self (by omega)]
   ·rw[tk]
    have len:css.length=i:=by rw[g4.len,lt]
    have mid:∀j:Nat,j<i→h0.length≤A j∧A j≤B j∧B j≤h.length:=fun j hj=>g4.mid j (by omega)
    refine⟨?_,by simp[len,lt],fun j cs f' h1 h2=>?_,fun j hj=>?_,fun i' j h1 h2=>?_,fun l hl=>?_⟩
    ·rw[List.length_append,lt,List.flatten_append]
     simp only[List.flatten_cons,List.flatten_nil,List.append_nil,List.length_cons,List.length_nil]
     exact a4.mono fun l hl=>by cases hl;rw[List.getElem?_set_ne (by omega)]
    ·rcases Nat.lt_trichotomy j i with hj|hj|hj
     ·rw[List.getElem?_append_left (by omega)] at h1 h2
      simp only[if_pos hj]
      refine(g4.each j cs f' h1 h2).mono fun l hl hl2=>?_
      have:=mid j hj
      rw[keep5 _ l (by omega) (fun e=>(g4.far l e).2 j (by omega) ⟨hl,hl2⟩) (by omega)]
      exact p2 l (by omega)
     ·subst hj
      rw[List.getElem?_append_right (by omega),len,Nat.sub_self] at h1
      rw[List.getElem?_append_right (by omega),lt,Nat.sub_self] at h2
      simp only[List.getElem?_cons_zero,Option.some.injEq] at h1 h2
      subst h1;subst h2
      simp only[if_neg (Nat.lt_irrefl _)]
      exact p3'.mono fun l hl hl2=>keep5 _ l hl2 (fun e=>by have:=row.lt e;omega) (by omega)
     ·rw[List.getElem?_eq_none (by simp[len];omega)] at h1;cases h1
    ·rw[List.length_append,lt,List.length_cons,List.length_nil] at hj
     by_cases hj':j<i
     ·simp only[if_pos hj',List.length_set];have:=mid j hj';omega
     ·simp only[if_neg hj',List.length_set];omega
    ·rw[List.length_append,lt,List.length_cons,List.length_nil] at h2
     by_cases hj':j<i
     ·simp only[if_pos hj',if_pos (show i'<i by omega)];exact g4.asc i' j h1 (by omega)
     ·simp only[if_neg hj',if_pos (show i'<i by omega)];have:=mid i' (by omega);omega
    ·cases hl
     refine⟨by omega,fun j hj=>?_⟩
     by_cases hj':j<i
     ·simp only[if_pos hj'];have:=mid j hj';omega
     ·simp only[if_neg hj'];omega)
  (fun e h ⟨c,css,A,B,h2,hs,g1,g2,g3,g4⟩=>by
   cases hs
   have e6:h[a]?=some (.row 0 [externs m.externs,globals m.globals,tables m.tables,funcs m.funcs]):=by rw[g2 a hal hax];exact ha
   rw[List.take_length] at g4
   exact⟨_,⟨c,css,A,B,h,rfl,g1,g2,g3,g4⟩,by simp +decide -implicitDefEqProofs only[k47b3,go_sem,Int.lt_irrefl,decide_false,e6]⟩) m.funcs.length 0 q _ h0 (by omega) hq
  ⟨.v (.slice none 0 0),[],_,_,h0,rfl,Nat.le_refl _,fun _ _ _=>rfl,hx,FnsAt.nil⟩
 exact⟨c,css,A,B,h',L,g1,g2,g3,g4⟩
end Go.Proofs.Ytkcimaibaicdcaa.Tk
namespace Go.Tm
def ModAt (h:Heap)(n0 n1 n2 n3:Nat)(ce cg ct cf:C)(css:List (List C))(A B:Nat→Nat)(m:Module):Prop:=
 (∃X,RowV h X 2 3 ce m.externs.length (m.externs.flatMap encExtern)∧∀y,X y∨locC ce=some y→n0≤y∧y<n1)∧
 (∃X,RowV h X 2 2 cg m.globals.length (m.globals.flatMap encGlobal)∧∀y,X y∨locC cg=some y→n1≤y∧y<n2)∧
 (∃X,RowV h X 2 2 ct m.tables.length (m.tables.flatMap encTable)∧∀y,X y∨locC ct=some y→n2≤y∧y<n3)∧
 FnsAt h n3 cf m.funcs css A B
end Go.Tm
namespace Go.Proofs.Ytkcimaibaicdcaa.Tk
open Go.Tm Go.Tm.Tab
theorem copy_ref {k:Nat}(hk:200≤k)(m:Tm.Module)(F:FineM m)(h0:Heap):
  ∃ce cg ct cf css A B n1 n2 n3 h',callAt Try.prog tab (k+1) 47 [.agg (encModule m)] h0=some (.agg [ce,cg,ct,cf],h')∧h0.length≤n1∧n1≤n2∧n2≤n3∧n3≤h'.length∧(∀y,y<h0.length→h'[y]?=h0[y]?)∧ModAt h' h0.length n1 n2 n3 ce cg ct cf css A B m:=by
 have b1:=F.externs
 have b2:=F.globals
 have b3:=F.tables
 have b4:=F.funcs
 rw[ref_call (rs:=[.cell 2 49]) (N:=105) rfl Try.func47 rfl rfl (by simp)]
 generalize hn:C.v (Value.slice none 0 0)=nil
 have len1:(h0++[Tm.Node.row 0 [externs m.externs,globals m.globals,tables m.tables,funcs m.funcs]]).length=h0.length+1:=by simp
 generalize hA:h0++[Tm.Node.row 0 [externs m.externs,globals m.globals,tables m.tables,funcs m.funcs]]++[Tm.Node.row 0 [nil,nil,nil,nil]]=A0
 have lenA:A0.length=h0.length+2:=by rw[←hA];simp
 generalize hB:A0++[Tm.Node.row 0 [nil,nil,nil,nil]]=B0
 have lenB:B0.length=h0.length+3:=by rw[←hB];simp[lenA]
 have getA:B0[h0.length]?=some (.row 0 [externs m.externs,globals m.globals,tables m.tables,funcs m.funcs]):=by rw[←hB,←hA];simp
 have getR:B0[h0.length+1]?=some (.row 0 [nil,nil,nil,nil]):=by rw[←hB,←hA];simp
 have getX:B0[h0.length+2]?=some (.row 0 [nil,nil,nil,nil]):=by rw[←hB,←lenA];simp
 have keepB:∀y,y<h0.length→B0[y]?=h0[y]?:=fun y hy=>by rw[←hB,List.getElem?_append_left (by omega),←hA,List.getElem?_append_left (by simp;omega),List.getElem?_append_left hy]
 obtain⟨ce,Xe,h1,L0,e1,e2,e3,e4,e5,e6⟩:=copy_l0 (k:=k) (by omega) m F h0.length (h0.length+2) (.op (h0.length+1) 0) nil nil nil B0 getA (by omega) (by rw[hn];exact getX) k (by omega)
 obtain⟨cg,Xg,h2,L1,f1,f2,f3,f4,f5,f6⟩:=copy_l1 (k:=k) (by omega) m F h0.length (h0.length+2) (.op (h0.length+1) 0) ce nil nil h1 (by rw[e2 _ (by omega) (by omega)];exact getA) (by omega) (by rw[hn];exact e3) k (by omega)
 obtain⟨ct,Xt,h3,L2,g1,g2,g3,g4,g5,g6⟩:=copy_l2 (k:=k) (by omega) m F h0.length (h0.length+2) (.op (h0.length+1) 0) ce cg nil h2 (by rw[f2 _ (by omega) (by omega),e2 _ (by omega) (by omega)];exact getA) (by omega) (by rw[hn];exact f3) k (by omega)
 obtain⟨cf,css,A,B,h4,L3,p1,p2,p3,p4⟩:=copy_l3 (k:=k) hk m F h0.length (h0.length+2) (.op (h0.length+1) 0) ce cg ct h3 (by rw[g2 _ (by omega) (by omega),f2 _ (by omega) (by omega),e2 _ (by omega) (by omega)];exact getA) (by omega) e4.same f4.same g4.same (by rw[hn];exact g3) k (by omega)
 have c1:=e4.cell
 have c2:=f4.cell
 have c3:=g4.cell
 have c4:=p4.row.cell
 have get4:h4[h0.length+1]?=some (.row 0 [nil,nil,nil,nil]):=by
  rw[p2 _ (by omega) (by omega),g2 _ (by omega) (by omega),f2 _ (by omega) (by omega),e2 _ (by omega) (by omega)];exact getR
 have gs:∀x:Tm.Node,(h4.set (h0.length+1) x)[h0.length+1]?=some x:=fun x=>List.getElem?_set_self (by omega)
 have keep:∀(N:Tm.Node) (y:Nat),y≠h0.length+1→(h4.set (h0.length+1) N)[y]?=h4[y]?:=fun N y hy=>List.getElem?_set_ne (Ne.symm hy)
 refine⟨ce,cg,ct,cf,css,A,B,h1.length,h2.length,h3.length,h4.set (h0.length+1) (Tm.Node.row 0 [ce,cg,ct,cf]),?_,by omega,by omega,by omega,by rw[List.length_set];omega,fun y hy=>?_,?_,?_,?_,?_⟩
 ·subst hn
  rw[enc_module]
  simp +decide -implicitDefEqProofs only[k47,go_sem,len1,hA,lenA,hB,L0,L1,L2,L3,p3,get4,c1,c2,c3,c4,gs]
 ·rw[keep _ y (by omega),p2 y (by omega) (by omega),g2 y (by omega) (by omega),f2 y (by omega) (by omega),e2 y (by omega) (by omega)];exact keepB y hy
 ·have lt:∀y,Xe y∨locC ce=some y→h0.length+3≤y∧y<h1.length:=fun y hy=>by
   obtain⟨cells,q1,q2,q3,q4⟩:=e4
   rcases hy with hy|hy
   ·have:=e5 y hy;have:=q3 y hy;omega
   ·have:=e6 y hy;have:=q1.lt hy;omega
  exact⟨Xe,e4.mono (by rw[List.length_set];omega) fun l _ hl=>by
   have:=lt l hl
   rw[keep _ l (by omega),p2 l (by omega) (by omega),g2 l (by omega) (by omega),f2 l (by omega) (by omega)],fun y hy=>by have:=lt y hy;omega⟩
 ·have lt:∀y,Xg y∨locC cg=some y→h1.length≤y∧y<h2.length:=fun y hy=>by
   obtain⟨cells,q1,q2,q3,q4⟩:=f4
   rcases hy with hy|hy
   ·have:=f5 y hy;have:=q3 y hy;omega
   ·have:=f6 y hy;have:=q1.lt hy;omega
  exact⟨Xg,f4.mono (by rw[List.length_set];omega) fun l _ hl=>by
   have:=lt l hl
   rw[keep _ l (by omega),p2 l (by omega) (by omega),g2 l (by omega) (by omega)],lt⟩
 ·have lt:∀y,Xt y∨locC ct=some y→h2.length≤y∧y<h3.length:=fun y hy=>by
   obtain⟨cells,q1,q2,q3,q4⟩:=g4
   rcases hy with hy|hy
   ·have:=g5 y hy;have:=q3 y hy;omega
   ·have:=g6 y hy;have:=q1.lt hy;omega
  exact⟨Xt,g4.mono (by rw[List.length_set];omega) fun l _ hl=>by
   have:=lt l hl
   rw[keep _ l (by omega),p2 l (by omega) (by omega)],lt⟩
 ·exact p4.mono (by rw[List.length_set];omega) fun l hl hl2=>keep _ l (by omega)
theorem bin_eqs {P:Program}{t:TypeId}{x y:Operand}(a b:ByteArray):binC P .eql t x y (str a) (str b)=some (bool (decide (a=b))):=by
 have e:(a.toList==b.toList)=decide (a=b):=by
  rw[ByteArray.toList_eq,ByteArray.toList_eq,Bool.eq_iff_iff,beq_iff_eq,decide_eq_true_iff]
  constructor
  ·intro h
   obtain⟨x⟩:=a
   obtain⟨y⟩:=b
   exact congrArg ByteArray.mk (Array.toList_inj.1 h)
  ·intro h;rw[h]
 rw[←e]
 rfl
theorem mem_names {m:Tm.Module}{s:ByteArray}:decide (s∈namesOf m)=(((m.externs.any (fun x=>decide (x.name=s))||m.globals.any (fun x=>decide (x.name=s)))||m.tables.any (fun x=>decide (x.name=s)))||m.funcs.any (fun x=>decide (x.name=s))):=by
 rw[Bool.eq_iff_iff,decide_eq_true_iff]
 simp only[namesOf,List.mem_append,List.mem_map,Bool.or_eq_true,List.any_eq_true,decide_eq_true_eq]
theorem named60_runs (m:Tm.Module)(F:FineM m)(s:ByteArray):Runs Try.prog tab 200 60 [.agg (encModule m),str s] (bool (decide (s∈namesOf m))):=by
 refine Runs.by (rs:=[.tmp 4]) (N:=69) rfl Try.func60 rfl rfl (by simp) fun k hk=>?_
 have b1:=F.externs
 have b2:=F.globals
 have b3:=F.tables
 have b4:=F.funcs
 rw[mem_names,enc_module]
 generalize hH:[Tm.Node.row 0 [externs m.externs,globals m.globals,tables m.tables,funcs m.funcs]]=H
 have e0:H[0]?=some (.row 0 [externs m.externs,globals m.globals,tables m.tables,funcs m.funcs]):=by rw[←hH];rfl
 obtain⟨g0,hg0,L0⟩:=Loop_any (P:=Try.prog) (vals:=valsOf tab) (call:=callAt Try.prog tab k) (n:=k) (ks:=[1,2,5]) (K:=k60b0) (id:=0) m.externs.length (fun i=>decide ((extAt m.externs i).name=s)) (fun i=>[(1,str s),(2,.op 0 0),(5,int i)]) [(4,bool true)] [(1,str s),(2,.op 0 0),(5,int m.externs.length),(13,bool false)] (fun g=>g=H)
  (fun i g hi hg=>⟨H,rfl,by
   rw[hg]
   have e1:decide ((i:Int)<m.externs.length)=true:=by simp;omega
   have e2:0≤(i:Int)∧(i:Int)<m.externs.length:=by omega
   have e3:=wrap_next (n:=m.externs.length) (i:=i) (by omega) (by omega)
   cases c1:decide ((extAt m.externs i).name=s)<;>simp +decide -implicitDefEqProofs only[k60b0,go_sem,e0,e1,e2,e3,set_new,bin_eqs,c1]⟩)
  (fun g hg=>⟨H,rfl,by rw[hg];simp -implicitDefEqProofs only[k60b0,go_sem,e0,Int.lt_irrefl,decide_false]⟩) m.externs.length 0 k H (by omega) (by omega) rfl
 rw[any_at default (fun x=>decide (x.name=s)) m.externs 0 _ fun i=>by rw[Nat.zero_add];rfl] at L0
 simp only[show((0:Nat):Int)=0 from rfl,hg0] at L0
 obtain⟨g1,hg1,L1⟩:=Loop_any (P:=Try.prog) (vals:=valsOf tab) (call:=callAt Try.prog tab k) (n:=k) (ks:=[1,2,6]) (K:=k60b1) (id:=2) m.globals.length (fun i=>decide ((gloAt m.globals i).name=s)) (fun i=>[(1,str s),(2,.op 0 0),(6,int i)]) [(4,bool true)] [(1,str s),(2,.op 0 0),(6,int m.globals.length),(28,bool false)] (fun g=>g=H)
  (fun i g hi hg=>⟨H,rfl,by
   rw[hg]
   have e1:decide ((i:Int)<m.globals.length)=true:=by simp;omega
   have e2:0≤(i:Int)∧(i:Int)<m.globals.length:=by omega
   have e3:=wrap_next (n:=m.globals.length) (i:=i) (by omega) (by omega)
   cases c1:decide ((gloAt m.globals i).name=s)<;>simp +decide -implicitDefEqProofs only[k60b1,go_sem,e0,e1,e2,e3,set_new,bin_eqs,c1]⟩)
  (fun g hg=>⟨H,rfl,by rw[hg];simp -implicitDefEqProofs only[k60b1,go_sem,e0,Int.lt_irrefl,decide_false]⟩) m.globals.length 0 k H (by omega) (by omega) rfl
 rw[any_at default (fun x=>decide (x.name=s)) m.globals 0 _ fun i=>by rw[Nat.zero_add];rfl] at L1
 simp only[show((0:Nat):Int)=0 from rfl,hg1] at L1
 obtain⟨g2,hg2,L2⟩:=Loop_any (P:=Try.prog) (vals:=valsOf tab) (call:=callAt Try.prog tab k) (n:=k) (ks:=[1,2,7]) (K:=k60b2) (id:=4) m.tables.length (fun i=>decide ((tblAt m.tables i).name=s)) (fun i=>[(1,str s),(2,.op 0 0),(7,int i)]) [(4,bool true)] [(1,str s),(2,.op 0 0),(7,int m.tables.length),(43,bool false)] (fun g=>g=H)
  (fun i g hi hg=>⟨H,rfl,by
   rw[hg]
   have e1:decide ((i:Int)<m.tables.length)=true:=by simp;omega
   have e2:0≤(i:Int)∧(i:Int)<m.tables.length:=by omega
   have e3:=wrap_next (n:=m.tables.length) (i:=i) (by omega) (by omega)
   cases c1:decide ((tblAt m.tables i).name=s)<;>simp +decide -implicitDefEqProofs only[k60b2,go_sem,e0,e1,e2,e3,set_new,bin_eqs,c1]⟩)
  (fun g hg=>⟨H,rfl,by rw[hg];simp -implicitDefEqProofs only[k60b2,go_sem,e0,Int.lt_irrefl,decide_false]⟩) m.tables.length 0 k H (by omega) (by omega) rfl
 rw[any_at default (fun x=>decide (x.name=s)) m.tables 0 _ fun i=>by rw[Nat.zero_add];rfl] at L2
 simp only[show((0:Nat):Int)=0 from rfl,hg2] at L2
 obtain⟨g3,hg3,L3⟩:=Loop_any (P:=Try.prog) (vals:=valsOf tab) (call:=callAt Try.prog tab k) (n:=k) (ks:=[1,2,8]) (K:=k60b3) (id:=6) m.funcs.length (fun i=>decide ((fnAt m.funcs i).name=s)) (fun i=>[(1,str s),(2,.op 0 0),(8,int i)]) [(4,bool true)] [(1,str s),(2,.op 0 0),(8,int m.funcs.length),(58,bool false)] (fun g=>g=H)
  (fun i g hi hg=>⟨H,rfl,by
   rw[hg]
   have e1:decide ((i:Int)<m.funcs.length)=true:=by simp;omega
   have e2:0≤(i:Int)∧(i:Int)<m.funcs.length:=by omega
   have e3:=wrap_next (n:=m.funcs.length) (i:=i) (by omega) (by omega)
   cases c1:decide ((fnAt m.funcs i).name=s)<;>simp +decide -implicitDefEqProofs only[k60b3,go_sem,e0,e1,e2,e3,set_new,bin_eqs,c1]⟩)
  (fun g hg=>⟨H,rfl,by rw[hg];simp -implicitDefEqProofs only[k60b3,go_sem,e0,Int.lt_irrefl,decide_false]⟩) m.funcs.length 0 k H (by omega) (by omega) rfl
 rw[any_at default (fun x=>decide (x.name=s)) m.funcs 0 _ fun i=>by rw[Nat.zero_add];rfl] at L3
 simp only[show((0:Nat):Int)=0 from rfl,hg3] at L3
 cases c0:m.externs.any fun x=>decide (x.name=s) with
 |true=>rw[c0,if_pos rfl] at L0;simp +decide -implicitDefEqProofs only[k60,go_sem,hH,L0];exact⟨_,_,rfl,rfl⟩
 |false=>
 rw[c0,if_neg (by decide)] at L0
 cases c1:m.globals.any fun x=>decide (x.name=s) with
 |true=>rw[c1,if_pos rfl] at L1;simp +decide -implicitDefEqProofs only[k60,go_sem,hH,L0,L1];exact⟨_,_,rfl,rfl⟩
 |false=>
 rw[c1,if_neg (by decide)] at L1
 cases c2:m.tables.any fun x=>decide (x.name=s) with
 |true=>rw[c2,if_pos rfl] at L2;simp +decide -implicitDefEqProofs only[k60,go_sem,hH,L0,L1,L2];exact⟨_,_,rfl,rfl⟩
 |false=>
 rw[c2,if_neg (by decide)] at L2
 cases c3:m.funcs.any fun x=>decide (x.name=s) with
 |true=>rw[c3,if_pos rfl] at L3;simp +decide -implicitDefEqProofs only[k60,go_sem,hH,L0,L1,L2,L3];exact⟨_,_,rfl,rfl⟩
 |false=>rw[c3,if_neg (by decide)] at L3;simp +decide -implicitDefEqProofs only[k60,go_sem,hH,L0,L1,L2,L3];exact⟨_,_,rfl,rfl⟩
theorem fit_runs (m:Tm.Module)(hl:∀f∈m.funcs,∀b∈f.blocks,b.ins.length<2^45):∃t,Runs Try.prog tab (2^36+250) 42 [.agg (encModule m)] (bool t)∧(t=true→FineM m∧checkN m=0∧∀f∈m.funcs,Tight f):=by
 obtain⟨t,hsm,hF⟩:=small_runs m hl
 cases t with
 |false=>
  refine⟨false,?_,fun h=>by cases h⟩
  refine Runs.by (rs:=[.tmp 2]) (N:=10) rfl Try.func42 rfl rfl (by simp) fun k hk=>?_
  have h50:∀h,callAt Try.prog tab k 50 [.agg [externs m.externs,globals m.globals,tables m.tables,funcs m.funcs]] h=some (bool false,h):=fun h=>hsm k (by omega) _ h (by rw[enc_module];simp +decide -implicitDefEqProofs only[depth,go_sem])
  rw[enc_module]
  simp +decide -implicitDefEqProofs only[k42,go_sem,h50]
  exact⟨_,_,rfl,rfl⟩
 |true=>
  refine⟨decide (checkN m=0),?_,fun h=>⟨(hF rfl).1,of_decide_eq_true h,(hF rfl).2⟩⟩
  refine Runs.by (rs:=[.tmp 2]) (N:=10) rfl Try.func42 rfl rfl (by simp) fun k hk=>?_
  have h50:∀h,callAt Try.prog tab k 50 [.agg [externs m.externs,globals m.globals,tables m.tables,funcs m.funcs]] h=some (bool true,h):=fun h=>hsm k (by omega) _ h (by rw[enc_module];simp +decide -implicitDefEqProofs only[depth,go_sem])
  have h48:∀h,callAt Try.prog tab k 48 [.agg [externs m.externs,globals m.globals,tables m.tables,funcs m.funcs]] h=some (int (checkN m),h):=fun h=>rcheck_runs m (hF rfl).1 k (by omega) _ h (by rw[enc_module];simp +decide -implicitDefEqProofs only[depth,go_sem])
  rw[enc_module]
  simp +decide -implicitDefEqProofs only[k42,go_sem,h50,h48]
  exact⟨_,_,rfl,rfl⟩
end Go.Proofs.Ytkcimaibaicdcaa.Tk
