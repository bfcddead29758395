/- The law returns true at every input. No condition. A part of its proof. -/
import Derived.Test.YtlcnmocicghilaaM14
set_option linter.unusedSimpArgs false
set_option linter.unusedVariables false
namespace Go.Proofs.Ytlcnmocicghilaa.Tk
open Go.Tm Go.Tm.Tab
set_option maxRecDepth 100000
theorem rows_own {k:Nat}(hk:200≤k)(ty a:List Int)(hx:a.length<100)(hin:∀v∈a,0≤v∧v<(ty.length:Int))(w:List Int)(l:Nat)(h:Heap)(hl:h[l]?=some (.row 1 (w.map int))):callAt Try.prog tab k 104 [ints ty,ints a,.os l 0 w.length (some w.length)] h=some (bool (decide (gotOf ty a=w)),h):=
 wrows_runs ty a w hx hin k hk _ h (by
  have h1:=view_os_ints (cl:=false) (n:=10) (cap:=some w.length) hl
  have h2:view false h depth (ints ty)=some (ints ty):=by simp +decide -implicitDefEqProofs only[depth,go_sem]
  have h3:view false h depth (ints a)=some (ints a):=by simp +decide -implicitDefEqProofs only[depth,go_sem]
  have h4:view false h depth (.os l 0 w.length (some w.length))=some (ints w):=h1
  simp only[mapC_cons,mapC_nil,h2,h3,h4,Option.bind_some])
structure SymOk (m:Tm.Module)(x:Ins):Prop where
 fn:x.op=22→0≤x.sym∧x.sym<m.funcs.length
 ext:x.op=23→0≤x.sym∧x.sym<m.externs.length
theorem fitB_is (m:Tm.Module)(f:Tm.Func)(ty:List Int)(x:Ins):fitB m f ty x=fitG m f x (gotOf ty x.args):=rfl
@[go_sem] theorem view_externs (h:Heap)(n:Nat)(l:List Extern):view false h (n+1) (externs l)=some (externs l):=view_fs _ l
@[go_sem] theorem view_globals (h:Heap)(n:Nat)(l:List Tm.Global):view false h (n+1) (globals l)=some (globals l):=view_fs _ l
@[go_sem] theorem view_tables (h:Heap)(n:Nat)(l:List Table):view false h (n+1) (tables l)=some (tables l):=view_fs _ l
@[go_sem] theorem view_funcs (h:Heap)(n:Nat)(l:List Tm.Func):view false h (n+1) (funcs l)=some (funcs l):=view_fs _ l
theorem wfit_runs (m:Tm.Module)(f:Tm.Func)(ty:List Int)(x:Ins)(H:ShapeOk x)(S:SymOk m x)(hx:x.args.length<100)(hin:∀v∈x.args,0≤v∧v<(ty.length:Int)):Runs Try.prog tab 300 84 [.agg [externs m.externs,globals m.globals,tables m.tables,funcs m.funcs],.agg [str f.name,bool f.out,ints f.params,int f.result,blocks f.blocks],ints ty,.agg [int x.op,int x.type,int x.to,int x.sym,int x.num,ints x.args,ints x.into]] (bool (fitB m f ty x)):=by
 refine Runs.by (rs:=[.tmp 8]) (N:=229) rfl Try.func84 rfl rfl (by simp) fun k hk=> ?_
 have hall:∀t h,callAt Try.prog tab k 103 [ints ty,ints x.args,int t] h=some (bool (allT t (gotOf ty x.args)),h):=fun t h=>wall_runs ty x.args t hx hin k (by omega) _ h (by simp +decide -implicitDefEqProofs only[depth,go_sem])
 have hfrz:∀(w:List Int) h,callAt Try.prog tab k 104 [ints ty,ints x.args,ints w] h=some (bool (decide (gotOf ty x.args=w)),h):=fun w h=>wrows_runs ty x.args w hx hin k (by omega) _ h (by simp +decide -implicitDefEqProofs only[depth,go_sem])
 have hrow:=fun(w:List Int) (l:Nat) (h:Heap) hl=>rows_own (k:=k) (by omega) ty x.args hx hin w l h hl
 rcases ops_of H.lo H.hi with hop|hop|hop|hop|hop|hop|hop|hop|hop|hop|hop|hop|hop|hop|hop|hop|hop|hop|hop|hop|hop|hop|hop|hop|hop|hop|hop|hop|hop|hop
 ·exact fit_1 m f ty x hop hall hrow hfrz
 ·exact fit_2 m f ty x hop hall hrow hfrz
 ·exact fit_3 m f ty x hop hall hrow hfrz
 ·exact fit_4 m f ty x hop hall hrow hfrz
 ·exact fit_5 m f ty x hop hall hrow hfrz
 ·exact fit_6 m f ty x hop hall hrow hfrz
 ·exact fit_7 m f ty x hop hall hrow hfrz
 ·exact fit_8 m f ty x hop hall hrow hfrz
 ·exact fit_9 m f ty x hop hall hrow hfrz
 ·exact fit_10 m f ty x hop hall hrow hfrz
 ·exact fit_11 m f ty x hop hall hrow hfrz
 ·exact fit_12 m f ty x hop hall hrow hfrz
 ·exact fit_13 m f ty x hop hall hrow hfrz
 ·exact fit_14 m f ty x hop hall hrow hfrz
 ·exact fit_15 m f ty x hop hall hrow hfrz
 ·exact fit_16 m f ty x hop hall hrow hfrz
 ·exact fit_17 m f ty x hop hall hrow hfrz
 ·exact fit_18 m f ty x hop hall hrow hfrz
 ·exact fit_19 m f ty x hop hall hrow hfrz
 ·exact fit_20 m f ty x hop hall hrow hfrz
 ·exact fit_21 m f ty x hop hall hrow hfrz
 ·exact fit_22 m f ty x hop hall hrow hfrz (S.fn hop)
 ·exact fit_23 m f ty x hop hall hrow hfrz (S.ext hop)
 ·exact fit_24 m f ty x hop hall hrow hfrz
 ·exact fit_25 m f ty x hop hall hrow hfrz (H.via hop) hin
 ·exact fit_26 m f ty x hop hall hrow hfrz
 ·exact fit_27 m f ty x hop hall hrow hfrz
 ·exact fit_28 m f ty x hop hall hrow hfrz
 ·exact fit_29 m f ty x hop hall hrow hfrz
 ·exact fit_30 m f ty x hop hall hrow hfrz
theorem rfit_runs (m:Tm.Module)(f:Tm.Func)(got:List Int)(x:Ins)(H:ShapeOk x)(S:SymOk m x)(hx:x.args.length<100)(hgl:got.length=x.args.length):Runs Try.prog tab 300 64 [.agg [externs m.externs,globals m.globals,tables m.tables,funcs m.funcs],.agg [str f.name,bool f.out,ints f.params,int f.result,blocks f.blocks],.agg [int x.op,int x.type,int x.to,int x.sym,int x.num,ints x.args,ints x.into],ints got] (bool (fitG m f x got)):=by
 refine Runs.by (rs:=[.tmp 8]) (N:=268) rfl Try.func64 rfl rfl (by simp) fun k hk=> ?_
 have hv:valsOf tab 14=true:=by decide
 have h18:∀(w:List Int) h,callAt Try.prog tab k 14 [ints got,ints w] h=some (bool (decide (got=w)),h):=fun w h=>requal_runs got w (by omega) k (by omega) _ h (by simp +decide -implicitDefEqProofs only[depth,go_sem])
 have hlen:∀n:Nat,x.op≠26→(markOf x.op).args=n→got.length=n:=fun n h1 h2=>by
  have:=H.args h1
  rw[h2] at this
  omega
 rcases ops_of H.lo H.hi with hop|hop|hop|hop|hop|hop|hop|hop|hop|hop|hop|hop|hop|hop|hop|hop|hop|hop|hop|hop|hop|hop|hop|hop|hop|hop|hop|hop|hop|hop
 ·exact rfit_1 m f got x hop
 ·exact rfit_2 m f got x hop
 ·exact rfit_3 m f got x hop
 ·exact rfit_4 m f got x hop (hlen 2 (by omega) (by rw[hop];rfl))
 ·exact rfit_5 m f got x hop (hlen 2 (by omega) (by rw[hop];rfl))
 ·exact rfit_6 m f got x hop (hlen 2 (by omega) (by rw[hop];rfl))
 ·exact rfit_7 m f got x hop (hlen 2 (by omega) (by rw[hop];rfl))
 ·exact rfit_8 m f got x hop (hlen 2 (by omega) (by rw[hop];rfl))
 ·exact rfit_9 m f got x hop (hlen 2 (by omega) (by rw[hop];rfl))
 ·exact rfit_10 m f got x hop (hlen 2 (by omega) (by rw[hop];rfl))
 ·exact rfit_11 m f got x hop (hlen 2 (by omega) (by rw[hop];rfl))
 ·exact rfit_12 m f got x hop (hlen 2 (by omega) (by rw[hop];rfl))
 ·exact rfit_13 m f got x hop (hlen 2 (by omega) (by rw[hop];rfl))
 ·exact rfit_14 m f got x hop (hlen 2 (by omega) (by rw[hop];rfl))
 ·exact rfit_15 m f got x hop (hlen 2 (by omega) (by rw[hop];rfl))
 ·exact rfit_16 m f got x hop (hlen 1 (by omega) (by rw[hop];rfl))
 ·exact rfit_17 m f got x hop (hlen 3 (by omega) (by rw[hop];rfl))
 ·exact rfit_18 m f got x hop
 ·exact rfit_19 m f got x hop (hlen 2 (by omega) (by rw[hop];rfl))
 ·exact rfit_20 m f got x hop (hlen 1 (by omega) (by rw[hop];rfl))
 ·exact rfit_21 m f got x hop (hlen 2 (by omega) (by rw[hop];rfl))
 ·exact rfit_22 m f got x hop (S.fn hop) hv h18
 ·exact rfit_23 m f got x hop (S.ext hop) hv h18
 ·exact rfit_24 m f got x hop (hlen 1 (by omega) (by rw[hop];rfl))
 ·exact rfit_25 m f got x hop (by have:=H.via hop;omega)
 ·exact rfit_26 m f got x hop (by omega) (by omega)
 ·exact rfit_27 m f got x hop
 ·exact rfit_28 m f got x hop (hlen 1 (by omega) (by rw[hop];rfl))
 ·exact rfit_29 m f got x hop
 ·exact rfit_30 m f got x hop
def badFI (m:Tm.Module)(f:Tm.Func)(x:Ins):Bool:= !fitB m f (typesOf f) x
def badFB (m:Tm.Module)(f:Tm.Func)(b:Block):Bool:=b.ins.any (badFI m f)
def typedB (m:Tm.Module)(f:Tm.Func):Bool:= !f.blocks.any (badFB m f)
set_option maxHeartbeats 2000000 in
theorem typed_l0 {vals:FuncId→Bool} {call:CallF} {n:Nat} (a b c:C) (m:Tm.Module) (f:Tm.Func) (l:List Ins) (hl:l.length<2^50) (I:Heap→Prop) (hp:∀h x,I h→I (h++[x])) (hg:∀h,I h→h[0]?=some (.row 0 [externs m.externs,globals m.globals,tables m.tables,funcs m.funcs])) (hg1:∀h,I h→h[1]?=some (.row 0 [str f.name,bool f.out,ints f.params,int f.result,blocks f.blocks])) (hc:∀x∈l,∀h,call 84 [.agg [externs m.externs,globals m.globals,tables m.tables,funcs m.funcs],.agg [str f.name,bool f.out,ints f.params,int f.result,blocks f.blocks],ints (typesOf f),.agg [int x.op,int x.type,int x.to,int x.sym,int x.num,ints x.args,ints x.into]] h=some (bool (fitB m f (typesOf f) x),h)) (mm:Nat) (hm:l.length<mm) (h:Heap) (hI:I h):∃h1,I h1∧Tm.Loop Try.prog vals call n [2,3,5,13,14,15,20,21,22] k54b0 mm ⟨[(2,.op 0 0),(3,.op 1 0),(5,ints (typesOf f)),(13,a),(14,b),(15,c),(20,inss l),(21,int l.length),(22,int 0)],h⟩=some (if l.any (badFI m f)=true then(.ret,⟨[(4,bool false)],h1⟩) else(.exit 2,⟨[(2,.op 0 0),(3,.op 1 0),(5,ints (typesOf f)),(13,a),(14,b),(15,c),(20,inss l),(21,int l.length),(22,int l.length),(23,bool false)],h1⟩)):=by
 obtain⟨h1,J,L⟩:=Loop_any (P:=Try.prog) (vals:=vals) (call:=call) (n:=n) (ks:=[2,3,5,13,14,15,20,21,22]) (K:=k54b0) (id:=2) l.length (fun i=>badFI m f (insAt l i)) (fun i=>[(2,.op 0 0),(3,.op 1 0),(5,ints (typesOf f)),(13,a),(14,b),(15,c),(20,inss l),(21,int l.length),(22,int i)]) [(4,bool false)] [(2,.op 0 0),(3,.op 1 0),(5,ints (typesOf f)),(13,a),(14,b),(15,c),(20,inss l),(21,int l.length),(22,int l.length),(23,bool false)] I
  (fun i h hi hI=>by
   have e1:decide ((i:Int)<l.length)=true:=by simp;omega
   have e2:0≤(i:Int)∧(i:Int)<l.length:=by omega
   have e3:=wrap_next (n:=l.length) (i:=i) (by omega) (by omega)
   have I1:=hp _ (.row 0 (encIns (insAt l i))) hI
   have hc1:=hc _ (insAt_mem e2)
   have g0:=hg _ I1
   have g1:=hg1 _ I1
   simp only[encIns] at I1 g0 g1
   refine⟨_,I1, ?_⟩
   unfold badFI
   cases c1:fitB m f (typesOf f) (insAt l i)<;>simp +decide -implicitDefEqProofs only[k54b0,go_sem,e1,e2,e3,set_new,encIns,g0,g1,hc1,c1])
  (fun h hI=>by
   exact⟨h,hI,by simp +decide -implicitDefEqProofs only[k54b0,go_sem,Int.lt_irrefl,decide_false]⟩) l.length 0 mm h (by omega) hm hI
 simp only[show((0:Nat):Int)=0 from rfl] at L
 rw[any_inss] at L
 exact⟨h1,J,L⟩
theorem typed_l1 {vals:FuncId→Bool}{call:CallF}{n:Nat}(m:Tm.Module)(f:Tm.Func)(l:List Block)(hl2:l.length<2^50)(hb:∀b∈l,b.ins.length<n∧b.ins.length<2^50)(I:Heap→Prop)(hp:∀h x,I h→I (h++[x]))(hg:∀h,I h→h[0]?=some (.row 0 [externs m.externs,globals m.globals,tables m.tables,funcs m.funcs]))(hg1:∀h,I h→h[1]?=some (.row 0 [str f.name,bool f.out,ints f.params,int f.result,blocks f.blocks]))(hc:∀b∈l,∀x∈b.ins,∀h,call 84 [.agg [externs m.externs,globals m.globals,tables m.tables,funcs m.funcs],.agg [str f.name,bool f.out,ints f.params,int f.result,blocks f.blocks],ints (typesOf f),.agg [int x.op,int x.type,int x.to,int x.sym,int x.num,ints x.args,ints x.into]] h=some (bool (fitB m f (typesOf f) x),h))(mm:Nat)(hm:l.length<mm)(h:Heap)(hI:I h):∃h1,I h1∧Tm.Loop Try.prog vals call n [2,3,5,13,14,15] k54b1 mm ⟨[(2,.op 0 0),(3,.op 1 0),(5,ints (typesOf f)),(13,blocks l),(14,int l.length),(15,int 0)],h⟩=some (if l.any (badFB m f)=true then(.ret,⟨[(4,bool false)],h1⟩) else(.exit 0,⟨[(2,.op 0 0),(3,.op 1 0),(5,ints (typesOf f)),(13,blocks l),(14,int l.length),(15,int l.length),(16,bool false)],h1⟩)):=by
 obtain⟨h1,J,L⟩:=Loop_any (P:=Try.prog) (vals:=vals) (call:=call) (n:=n) (ks:=[2,3,5,13,14,15]) (K:=k54b1) (id:=0) l.length (fun i=>badFB m f (blkAt l i)) (fun i=>[(2,.op 0 0),(3,.op 1 0),(5,ints (typesOf f)),(13,blocks l),(14,int l.length),(15,int i)]) [(4,bool false)] [(2,.op 0 0),(3,.op 1 0),(5,ints (typesOf f)),(13,blocks l),(14,int l.length),(15,int l.length),(16,bool false)] I
  (fun i h hi hI=>by
   have e1:decide ((i:Int)<l.length)=true:=by simp;omega
   have e2:0≤(i:Int)∧(i:Int)<l.length:=by omega
   have e3:=wrap_next (n:=l.length) (i:=i) (by omega) (by omega)
   have hx:=blkAt_mem e2
   obtain⟨hb1,hb2⟩:=hb _ hx
   obtain⟨h1,J1,L1⟩:=typed_l0 (vals:=vals) (call:=call) (n:=n) (blocks l) (int l.length) (int i) m f (blkAt l i).ins hb2 I hp hg hg1 (hc _ hx) n hb1 _ (hp _ (.row 0 [inss (blkAt l i).ins]) hI)
   unfold badFB
   refine⟨h1,J1, ?_⟩
   cases c1:(blkAt l i).ins.any (badFI m f) with
   |true=>
    rw[c1,if_pos rfl] at L1
    simp +decide -implicitDefEqProofs only[k54b1,go_sem,e1,e2,e3,set_new,L1]
   |false=>
    rw[c1,if_neg (by decide)] at L1
    simp +decide -implicitDefEqProofs only[k54b1,go_sem,e1,e2,e3,set_new,L1])
  (fun h hI=>by
   exact⟨h,hI,by simp +decide -implicitDefEqProofs only[k54b1,go_sem,Int.lt_irrefl,decide_false]⟩) l.length 0 mm h (by omega) hm hI
 simp only[show((0:Nat):Int)=0 from rfl] at L
 rw[any_blks] at L
 exact⟨h1,J,L⟩
set_option maxHeartbeats 2000000 in
theorem wtyped_runs (m:Tm.Module) (f:Tm.Func) (F:Fine f) (hpar:f.params.length≤20) (hsh:∀b∈f.blocks,∀x∈b.ins,ShapeOk x) (hsy:∀b∈f.blocks,∀x∈b.ins,SymOk m x) (hin:∀b∈f.blocks,∀x∈b.ins,∀v∈x.args,0≤v∧v<((typesOf f).length:Int)):Runs Try.prog tab 400 54 [.agg (encModule m),.agg (encFunc f)] (bool (typedB m f)):=by
 refine Runs.by (rs:=[.tmp 4]) (N:=34) rfl Try.func54 rfl rfl (by simp) fun k hk=> ?_
 have b1:=F.blocks
 have hty:∀h,callAt Try.prog tab k 83 [.agg (encFunc f)] h=some (ints (typesOf f),h):=fun h=>wtypes_runs f F hpar k (by omega) _ h (by simp only[mapC_cons,mapC_nil,depth,view_func,Option.bind_some])
 have hfit:∀b∈f.blocks,∀x∈b.ins,∀h,callAt Try.prog tab k 84 [.agg [externs m.externs,globals m.globals,tables m.tables,funcs m.funcs],.agg [str f.name,bool f.out,ints f.params,int f.result,blocks f.blocks],ints (typesOf f),.agg [int x.op,int x.type,int x.to,int x.sym,int x.num,ints x.args,ints x.into]] h=some (bool (fitB m f (typesOf f) x),h):=fun b hb x hx h=>by
  have:=(F.into b hb x hx).1
  exact wfit_runs m f (typesOf f) x (hsh b hb x hx) (hsy b hb x hx) (by omega) (hin b hb x hx) k (by omega) _ h (by simp +decide -implicitDefEqProofs only[depth,go_sem])
 generalize hc':callAt Try.prog tab k=call at*
 generalize hv':valsOf tab=vals at*
 rw[enc_func,enc_module] at*
 have hp:∀(h:Heap) (x:Tm.Node),(h[0]?=some (.row 0 [externs m.externs,globals m.globals,tables m.tables,funcs m.funcs])∧h[1]?=some (.row 0 [str f.name,bool f.out,ints f.params,int f.result,blocks f.blocks]))→((h++[x])[0]?=some (.row 0 [externs m.externs,globals m.globals,tables m.tables,funcs m.funcs])∧(h++[x])[1]?=some (.row 0 [str f.name,bool f.out,ints f.params,int f.result,blocks f.blocks])):=fun h x H=>⟨by rw[List.getElem?_append_left (List.getElem?_eq_some_iff.1 H.1).1];exact H.1,by rw[List.getElem?_append_left (List.getElem?_eq_some_iff.1 H.2).1];exact H.2⟩
 obtain⟨h1,I1,L1⟩:=typed_l1 (vals:=vals) (call:=call) (n:=k) m f f.blocks (by omega) (fun b hb=>by have:=F.ins b hb;omega) (fun h=>h[0]?=some (.row 0 [externs m.externs,globals m.globals,tables m.tables,funcs m.funcs])∧h[1]?=some (.row 0 [str f.name,bool f.out,ints f.params,int f.result,blocks f.blocks])) hp (fun h H=>H.1) (fun h H=>H.2) hfit k (by omega) [.row 0 [externs m.externs,globals m.globals,tables m.tables,funcs m.funcs],.row 0 [str f.name,bool f.out,ints f.params,int f.result,blocks f.blocks]] ⟨rfl,rfl⟩
 unfold typedB
 cases x1:f.blocks.any (badFB m f) with
 |true=>
  rw[x1,if_pos rfl] at L1
  simp +decide -implicitDefEqProofs only[k54,go_sem,hty,L1];exact⟨_,_,rfl,rfl⟩
 |false=>
  rw[x1,if_neg (by decide)] at L1
  simp +decide -implicitDefEqProofs only[k54,go_sem,hty,L1];exact⟨_,_,rfl,rfl⟩
end Go.Proofs.Ytlcnmocicghilaa.Tk
namespace Go.Tm
theorem GrowG.viewI {h:Heap}{c:C}{out:List Int}(H:GrowG int h c out){cl:Bool}{n:Nat}:view cl h (n+2) c=some (ints out):=by
 rcases H with ⟨rfl,rfl⟩|⟨l,rfl,hl⟩
 ·rfl
 ·exact view_os_ints hl
end Go.Tm
namespace Go.Proofs.Ytlcnmocicghilaa.Tk
open Go.Tm Go.Tm.Tab
set_option maxRecDepth 100000
theorem rgot_loop {vals:FuncId→Bool}{call:CallF}{n:Nat}(ty:List Int)(x:Ins)(hxa:x.args.length<100)(hin:∀v∈x.args,0≤v∧v<(ty.length:Int))(x6 x7:C)(p:Nat)(h0:Heap)(hp:h0[p]?=some (.row 0 [int x.op,int x.type,int x.to,int x.sym,int x.num,ints x.args,ints x.into]))(m:Nat)(hm:x.args.length<m):
  ∃c h,Tm.Loop Try.prog vals call n [2,3,5,6,7,8,9,10] k32b0 m ⟨[(2,.op 0 0),(3,.op 1 0),(5,ints ty),(6,x6),(7,x7),(8,.op p 0),(9,.v (.slice none 0 0)),(10,int 0)],h0⟩=some (.exit 4,⟨[(2,.op 0 0),(3,.op 1 0),(5,ints ty),(6,x6),(7,x7),(8,.op p 0),(9,c),(10,int x.args.length),(44,bool false)],h⟩)∧GrowG int h c (gotOf ty x.args)∧(∀(l:Nat) (nd:Tm.Node),h0[l]?=some nd→h[l]?=some nd)∧∀l o k,c=.os l 0 o k→h0.length≤l:=by
 have hmr:(2:Nat)^22<maxRow:=by decide
 obtain⟨s,⟨c',h',rfl,g1,g2,g3⟩,L⟩:=Loop_run (P:=Try.prog) (vals:=vals) (call:=call) (n:=n) (ks:=[2,3,5,6,7,8,9,10]) (K:=k32b0) (id:=4) x.args.length
  (fun i s=>∃c h,s=⟨[(2,.op 0 0),(3,.op 1 0),(5,ints ty),(6,x6),(7,x7),(8,.op p 0),(9,c),(10,int i)],h⟩∧GrowG int h c (gotOf ty (x.args.take i))∧(∀(l:Nat) (nd:Tm.Node),h0[l]?=some nd→h[l]?=some nd)∧∀l o k,c=.os l 0 o k→h0.length≤l)
  (fun s=>∃c h,s=⟨[(2,.op 0 0),(3,.op 1 0),(5,ints ty),(6,x6),(7,x7),(8,.op p 0),(9,c),(10,int x.args.length),(44,bool false)],h⟩∧GrowG int h c (gotOf ty x.args)∧(∀(l:Nat) (nd:Tm.Node),h0[l]?=some nd→h[l]?=some nd)∧∀l o k,c=.os l 0 o k→h0.length≤l)
  (fun i e h hi ⟨c,h2,hs,g1,g2,g3⟩=>by
   cases hs
   have e1:decide ((i:Int)<x.args.length)=true:=by simp;omega
   have e2:0≤(i:Int)∧(i:Int)<x.args.length:=by omega
   have e3:=wrap_next (n:=x.args.length) (i:=i) (by omega) (by omega)
   have hr:=hin _ (mem_of_rd hi)
   have gp:=g2 p _ hp
   obtain⟨c',h',a1,a2,a3,a4⟩:=(g1.push (x:=.row 1 [int (rd ty (rd x.args i))])).append (rd ty (rd x.args i)) (by simp[gotOf];omega)
   refine⟨_,⟨c',h',rfl, ?_,fun l nd hl=> ?_,fun l o k hk=> ?_⟩,by simp +decide -implicitDefEqProofs only[k32b0,go_sem,e1,e2,e3,gp,hr,a1]⟩
   ·unfold gotOf at a2⊢
    rw[List.take_add_one,List.getElem?_eq_getElem hi,List.map_append]
    simpa[rd,List.getD_eq_getElem?_getD,List.getElem?_eq_getElem hi] using a2
   ·have hl0:=(List.getElem?_eq_some_iff.1 hl).1
    refine a4 l nd (by rw[List.getElem?_append_left (List.getElem?_eq_some_iff.1 (g2 l nd hl)).1];exact g2 l nd hl) fun o k hk=> ?_
    have:=g3 _ _ _ hk
    omega
   ·rw[a3] at hk
    injection hk with q1
    have hle:h0.length≤h.length:=by
     refine Classical.byContradiction fun hn=> ?_
     have hq:h.length<h0.length:=by omega
     have:=(List.getElem?_eq_some_iff.1 (g2 h.length _ (List.getElem?_eq_getElem hq))).1
     omega
    simp at q1
    omega)
  (fun e h ⟨c,h2,hs,g1,g2,g3⟩=>by
   cases hs
   have gp:=g2 p _ hp
   refine⟨_,⟨c,h,rfl, ?_,g2,g3⟩,by simp +decide -implicitDefEqProofs only[k32b0,go_sem,gp,Int.lt_irrefl,decide_false]⟩
   rw[List.take_length] at g1;exact g1)
  x.args.length 0 m _ h0 (by omega) hm ⟨.v (.slice none 0 0),h0,rfl,.inl ⟨by simp[gotOf],rfl⟩,fun l nd h=>h,fun l o k h=>by simp at h⟩
 exact⟨c',h',L,g1,g2,g3⟩
set_option maxHeartbeats 2000000 in
theorem rtyped_l1 {vals:FuncId→Bool} {call:CallF} {n:Nat} (m:Tm.Module) (f:Tm.Func) (q:Int) (hq:0≤q∧q<f.blocks.length) (hl:(blkAt f.blocks q).ins.length<2^50) (hxs:∀x∈(blkAt f.blocks q).ins,x.args.length<100∧x.args.length<n) (hin:∀x∈(blkAt f.blocks q).ins,∀v∈x.args,0≤v∧v<((typesOf f).length:Int)) (I:Heap→Prop) (hmo:∀h h2,I h→(∀(l:Nat) (nd:Tm.Node),h[l]?=some nd→h2[l]?=some nd)→I h2) (hg:∀h,I h→h[0]?=some (.row 0 [externs m.externs,globals m.globals,tables m.tables,funcs m.funcs])) (hg1:∀h,I h→h[1]?=some (.row 0 [str f.name,bool f.out,ints f.params,int f.result,blocks f.blocks])) (hc:∀x∈(blkAt f.blocks q).ins,∀c h,GrowG int h c (gotOf (typesOf f) x.args)→call 64 [.agg [externs m.externs,globals m.globals,tables m.tables,funcs m.funcs],.agg [str f.name,bool f.out,ints f.params,int f.result,blocks f.blocks],.agg [int x.op,int x.type,int x.to,int x.sym,int x.num,ints x.args,ints x.into],c] h=some (bool (fitB m f (typesOf f) x),h)) (mm:Nat) (hm:(blkAt f.blocks q).ins.length<mm) (h:Heap) (hI:I h):∃h1,I h1∧Tm.Loop Try.prog vals call n [2,3,5,6,7] k32b1 mm ⟨[(2,.op 0 0),(3,.op 1 0),(5,ints (typesOf f)),(6,int q),(7,int 0)],h⟩=some (if (blkAt f.blocks q).ins.any (badFI m f)=true then(.ret,⟨[(4,bool false)],h1⟩) else(.exit 2,⟨[(2,.op 0 0),(3,.op 1 0),(5,ints (typesOf f)),(6,int q),(7,int (blkAt f.blocks q).ins.length),(28,bool false)],h1⟩)):=by
 obtain⟨h1,J,L⟩:=Loop_any (P:=Try.prog) (vals:=vals) (call:=call) (n:=n) (ks:=[2,3,5,6,7]) (K:=k32b1) (id:=2) (blkAt f.blocks q).ins.length (fun i=>badFI m f (insAt (blkAt f.blocks q).ins i)) (fun i=>[(2,.op 0 0),(3,.op 1 0),(5,ints (typesOf f)),(6,int q),(7,int i)]) [(4,bool false)] [(2,.op 0 0),(3,.op 1 0),(5,ints (typesOf f)),(6,int q),(7,int (blkAt f.blocks q).ins.length),(28,bool false)] I
  (fun i h hi hI=>by
   have e1:decide ((i:Int)<(blkAt f.blocks q).ins.length)=true:=by simp;omega
   have e2:0≤(i:Int)∧(i:Int)<(blkAt f.blocks q).ins.length:=by omega
   have e3:=wrap_next (n:=(blkAt f.blocks q).ins.length) (i:=i) (by omega) (by omega)
   have hxm:=insAt_mem e2
   obtain⟨hx1,hx2⟩:=hxs _ hxm
   have I1:=hmo _ (h++[.row 0 (encIns (insAt (blkAt f.blocks q).ins i))]) hI fun l nd hl=>by rw[List.getElem?_append_left (List.getElem?_eq_some_iff.1 hl).1];exact hl
   have j0:=hg _ hI
   have j1:=hg1 _ hI
   obtain⟨c,h2,L0,G,fr,_⟩:=rgot_loop (vals:=vals) (call:=call) (n:=n) (typesOf f) (insAt (blkAt f.blocks q).ins i) hx1 (hin _ hxm) (int q) (int i) h.length (h++[.row 0 (encIns (insAt (blkAt f.blocks q).ins i))]) (by rw[get_new];rfl) n hx2
   have I2:=hmo _ h2 I1 fr
   have hc1:=hc _ hxm c h2 G
   have g0:=hg _ I2
   have g1:=hg1 _ I2
   have g2:=fr h.length _ (get_new h (.row 0 (encIns (insAt (blkAt f.blocks q).ins i))))
   simp only[encIns] at L0 g2
   refine⟨h2,I2, ?_⟩
   unfold badFI
   cases c1:fitB m f (typesOf f) (insAt (blkAt f.blocks q).ins i)<;>(rw[c1] at hc1;simp +decide -implicitDefEqProofs only[k32b1,go_sem,e1,e2,e3,set_new,encIns,hq,j0,j1,g0,g1,g2,L0,hc1]))
  (fun h hI=>by
   have j1:=hg1 _ hI
   exact⟨h,hI,by simp +decide -implicitDefEqProofs only[k32b1,go_sem,Int.lt_irrefl,decide_false,j1,hq]⟩) (blkAt f.blocks q).ins.length 0 mm h (by omega) hm hI
 simp only[show((0:Nat):Int)=0 from rfl] at L
 rw[any_inss] at L
 exact⟨h1,J,L⟩
theorem rtyped_l2 {vals:FuncId→Bool}{call:CallF}{n:Nat}(m:Tm.Module)(f:Tm.Func)(hl2:f.blocks.length<2^50)(hb:∀b∈f.blocks,b.ins.length<n∧b.ins.length<2^50)(hxs:∀b∈f.blocks,∀x∈b.ins,x.args.length<100∧x.args.length<n)(hin:∀b∈f.blocks,∀x∈b.ins,∀v∈x.args,0≤v∧v<((typesOf f).length:Int))(I:Heap→Prop)(hmo:∀h h2,I h→(∀(l:Nat) (nd:Tm.Node),h[l]?=some nd→h2[l]?=some nd)→I h2)(hg:∀h,I h→h[0]?=some (.row 0 [externs m.externs,globals m.globals,tables m.tables,funcs m.funcs]))(hg1:∀h,I h→h[1]?=some (.row 0 [str f.name,bool f.out,ints f.params,int f.result,blocks f.blocks]))(hc:∀b∈f.blocks,∀x∈b.ins,∀c h,GrowG int h c (gotOf (typesOf f) x.args)→call 64 [.agg [externs m.externs,globals m.globals,tables m.tables,funcs m.funcs],.agg [str f.name,bool f.out,ints f.params,int f.result,blocks f.blocks],.agg [int x.op,int x.type,int x.to,int x.sym,int x.num,ints x.args,ints x.into],c] h=some (bool (fitB m f (typesOf f) x),h))(mm:Nat)(hm:f.blocks.length<mm)(h:Heap)(hI:I h):∃h1,I h1∧Tm.Loop Try.prog vals call n [2,3,5,6] k32b2 mm ⟨[(2,.op 0 0),(3,.op 1 0),(5,ints (typesOf f)),(6,int 0)],h⟩=some (if f.blocks.any (badFB m f)=true then(.ret,⟨[(4,bool false)],h1⟩) else(.exit 0,⟨[(2,.op 0 0),(3,.op 1 0),(5,ints (typesOf f)),(6,int f.blocks.length),(17,bool false)],h1⟩)):=by
 obtain⟨h1,J,L⟩:=Loop_any (P:=Try.prog) (vals:=vals) (call:=call) (n:=n) (ks:=[2,3,5,6]) (K:=k32b2) (id:=0) f.blocks.length (fun i=>badFB m f (blkAt f.blocks i)) (fun i=>[(2,.op 0 0),(3,.op 1 0),(5,ints (typesOf f)),(6,int i)]) [(4,bool false)] [(2,.op 0 0),(3,.op 1 0),(5,ints (typesOf f)),(6,int f.blocks.length),(17,bool false)] I
  (fun i h hi hI=>by
   have e1:decide ((i:Int)<f.blocks.length)=true:=by simp;omega
   have e2:0≤(i:Int)∧(i:Int)<f.blocks.length:=by omega
   have e3:=wrap_next (n:=f.blocks.length) (i:=i) (by omega) (by omega)
   have hx:=blkAt_mem e2
   obtain⟨hb1,hb2⟩:=hb _ hx
   have j1:=hg1 _ hI
   obtain⟨h1,J1,L1⟩:=rtyped_l1 (vals:=vals) (call:=call) (n:=n) m f i e2 hb2 (hxs _ hx) (hin _ hx) I hmo hg hg1 (hc _ hx) n hb1 _ hI
   unfold badFB
   refine⟨h1,J1, ?_⟩
   cases c1:(blkAt f.blocks i).ins.any (badFI m f) with
   |true=>
    rw[c1,if_pos rfl] at L1
    simp +decide -implicitDefEqProofs only[k32b2,go_sem,e1,e2,e3,set_new,j1,L1]
   |false=>
    rw[c1,if_neg (by decide)] at L1
    simp +decide -implicitDefEqProofs only[k32b2,go_sem,e1,e2,e3,set_new,j1,L1])
  (fun h hI=>by
   have j1:=hg1 _ hI
   exact⟨h,hI,by simp +decide -implicitDefEqProofs only[k32b2,go_sem,Int.lt_irrefl,decide_false,j1]⟩) f.blocks.length 0 mm h (by omega) hm hI
 simp only[show((0:Nat):Int)=0 from rfl] at L
 rw[any_blks] at L
 exact⟨h1,J,L⟩
set_option maxHeartbeats 2000000 in
theorem rtyped_runs (m:Tm.Module) (f:Tm.Func) (F:Fine f) (hpar:f.params.length≤20) (hsh:∀b∈f.blocks,∀x∈b.ins,ShapeOk x) (hsy:∀b∈f.blocks,∀x∈b.ins,SymOk m x) (hin:∀b∈f.blocks,∀x∈b.ins,∀v∈x.args,0≤v∧v<((typesOf f).length:Int)):Runs Try.prog tab 400 32 [.agg (encModule m),.agg (encFunc f)] (bool (typedB m f)):=by
 refine Runs.by (rs:=[.tmp 4]) (N:=64) rfl Try.func32 rfl rfl (by simp) fun k hk=> ?_
 have b1:=F.blocks
 have hty:∀h,callAt Try.prog tab k 63 [.agg (encFunc f)] h=some (ints (typesOf f),h):=fun h=>rtypes_runs f F hpar k (by omega) _ h (by simp only[mapC_cons,mapC_nil,depth,view_func,Option.bind_some])
 have hfit:∀b∈f.blocks,∀x∈b.ins,∀c h,GrowG int h c (gotOf (typesOf f) x.args)→callAt Try.prog tab k 64 [.agg [externs m.externs,globals m.globals,tables m.tables,funcs m.funcs],.agg [str f.name,bool f.out,ints f.params,int f.result,blocks f.blocks],.agg [int x.op,int x.type,int x.to,int x.sym,int x.num,ints x.args,ints x.into],c] h=some (bool (fitB m f (typesOf f) x),h):=fun b hb x hx c h G=>by
  have:=(F.into b hb x hx).1
  rw[fitB_is]
  have v1:view false h depth (.agg [externs m.externs,globals m.globals,tables m.tables,funcs m.funcs])=some (.agg [externs m.externs,globals m.globals,tables m.tables,funcs m.funcs]):=by simp +decide -implicitDefEqProofs only[depth,go_sem]
  have v2:view false h depth (.agg [str f.name,bool f.out,ints f.params,int f.result,blocks f.blocks])=some (.agg [str f.name,bool f.out,ints f.params,int f.result,blocks f.blocks]):=by simp +decide -implicitDefEqProofs only[depth,go_sem]
  have v3:view false h depth (.agg [int x.op,int x.type,int x.to,int x.sym,int x.num,ints x.args,ints x.into])=some (.agg [int x.op,int x.type,int x.to,int x.sym,int x.num,ints x.args,ints x.into]):=by simp +decide -implicitDefEqProofs only[depth,go_sem]
  have v4:view false h depth c=some (ints (gotOf (typesOf f) x.args)):=G.viewI
  exact rfit_runs m f (gotOf (typesOf f) x.args) x (hsh b hb x hx) (hsy b hb x hx) (by omega) (by simp[gotOf]) k (by omega) _ h (by simp only[mapC_cons,mapC_nil,v1,v2,v3,v4,Option.bind_some])
 generalize hc':callAt Try.prog tab k=call at*
 generalize hv':valsOf tab=vals at*
 rw[enc_func,enc_module] at*
 obtain⟨h1,I1,L1⟩:=rtyped_l2 (vals:=vals) (call:=call) (n:=k) m f (by omega) (fun b hb=>by have:=F.ins b hb;omega) (fun b hb x hx=>by have:=(F.into b hb x hx).1;omega) hin (fun(h:Heap)=>h[0]?=some (.row 0 [externs m.externs,globals m.globals,tables m.tables,funcs m.funcs])∧h[1]?=some (.row 0 [str f.name,bool f.out,ints f.params,int f.result,blocks f.blocks])) (fun h h2 H e=>⟨e 0 (.row 0 [externs m.externs,globals m.globals,tables m.tables,funcs m.funcs]) H.1,e 1 (.row 0 [str f.name,bool f.out,ints f.params,int f.result,blocks f.blocks]) H.2⟩) (fun h H=>H.1) (fun h H=>H.2) hfit k (by omega) [.row 0 [externs m.externs,globals m.globals,tables m.tables,funcs m.funcs],.row 0 [str f.name,bool f.out,ints f.params,int f.result,blocks f.blocks]] ⟨rfl,rfl⟩
 unfold typedB
 cases x1:f.blocks.any (badFB m f) with
 |true=>
  rw[x1,if_pos rfl] at L1
  simp +decide -implicitDefEqProofs only[k32,go_sem,hty,L1];exact⟨_,_,rfl,rfl⟩
 |false=>
  rw[x1,if_neg (by decide)] at L1
  simp +decide -implicitDefEqProofs only[k32,go_sem,hty,L1];exact⟨_,_,rfl,rfl⟩
end Go.Proofs.Ytlcnmocicghilaa.Tk
namespace Go.Proofs.Ytlcnmocicghilaa.Tk
open Go.Tm Go.Tm.Tab
set_option maxRecDepth 100000
noncomputable def checkN (m:Tm.Module):Int:=
 if limitsB m=false then 2 else if formedB m=false then 1 else if namedB m=false then 3 else if knownB m=false then 4
 else if (m.funcs.any fun f=> !flowsB f.blocks)=true then 5 else if (m.funcs.any fun f=> !usedB f)=true then 6 else if (m.funcs.any fun f=> !typedB m f)=true then 7 else 0
theorem limits_blocks {m:Tm.Module}(h:limitsB m=true):∀f∈m.funcs,0<f.blocks.length:=by
 intro f hf
 unfold limitsB at h
 rw[Bool.and_eq_true,Bool.and_eq_true,Bool.and_eq_true,Bool.and_eq_true] at h
 have h1:=h.2.2.2.2
 rw[Bool.not_eq_true',List.any_eq_false] at h1
 have h2:=h1 f hf
 unfold moreF at h2
 rw[Bool.not_eq_true,Bool.or_eq_false_iff,Bool.or_eq_false_iff,Bool.or_eq_false_iff] at h2
 have:=of_decide_eq_false h2.1.1.2
 omega
theorem formed_shape {m:Tm.Module}(h:formedB m=true):∀f∈m.funcs,∀b∈f.blocks,∀x∈b.ins,ShapeOk x:=by
 intro f hf b hb x hx
 unfold formedB at h
 rw[Bool.and_eq_true] at h
 have h1:=h.2
 rw[Bool.not_eq_true',List.any_eq_false] at h1
 have h2:=h1 f hf
 unfold badF at h2
 rw[Bool.not_eq_true,Bool.or_eq_false_iff,Bool.or_eq_false_iff,List.any_eq_false,List.any_eq_false] at h2
 have h3:=h2.2.2 b hb
 unfold badB2 at h3
 rw[Bool.not_eq_true,List.any_eq_false] at h3
 have h4:=h3 x hx
 unfold badI at h4
 exact shape_ok (by simpa using h4)
theorem known_sym {m:Tm.Module}(h:knownB m=true):∀f∈m.funcs,∀b∈f.blocks,∀x∈b.ins,SymOk m x:=by
 intro f hf b hb x hx
 unfold knownB at h
 rw[Bool.and_eq_true] at h
 have h1:=h.2
 rw[Bool.not_eq_true',List.any_eq_false] at h1
 have h2:=h1 f hf
 unfold badSF at h2
 rw[Bool.not_eq_true,List.any_eq_false] at h2
 have h3:=h2 b hb
 unfold badSB at h3
 rw[Bool.not_eq_true,List.any_eq_false] at h3
 have h4:=h3 x hx
 unfold badSI at h4
 rw[Bool.not_eq_true,Bool.or_eq_false_iff] at h4
 have a1:=of_decide_eq_false h4.1
 have a2:=of_decide_eq_false h4.2
 constructor
 ·intro e
  have:boundI m.externs.length m.globals.length m.tables.length m.funcs.length x=(m.funcs.length:Int):=by unfold boundI;rw[e];rfl
  rw[this] at a2
  omega
 ·intro e
  have:boundI m.externs.length m.globals.length m.tables.length m.funcs.length x=(m.externs.length:Int):=by unfold boundI;rw[e];rfl
  rw[this] at a2
  omega
theorem blk_of_mem {l:List Block}{b:Block}(h:b∈l):∃i:Nat,i<l.length∧blkAt l i=b:=by
 obtain⟨i,hi,e⟩:=List.getElem_of_mem h
 exact⟨i,hi,by simp[blkAt,List.getD_eq_getElem?_getD,List.getElem?_eq_getElem hi,e]⟩
theorem ins_of_mem {l:List Ins}{b:Ins}(h:b∈l):∃i:Nat,i<l.length∧insAt l i=b:=by
 obtain⟨i,hi,e⟩:=List.getElem_of_mem h
 exact⟨i,hi,by rw[insAt_get hi];exact e⟩
structure FlowOk (l:List Block):Prop where
 ins:∀b∈l,0<b.ins.length
 met:∀b:Nat,b<l.length→Rc (nextOf l) (fun _=>True) 0 b
 phi:∀b∈l,∀x∈b.ins,phiB x=true→∀t∈x.into,0≤t∧t<(l.length:Int)
theorem flow_ok {l:List Block}(h:flowsB l=true):FlowOk l:=by
 unfold flowsB at h
 rw[Bool.and_eq_true,Bool.and_eq_true,Bool.not_eq_true',Bool.not_eq_true',Bool.not_eq_true',any_no,any_no,reach_all] at h
 obtain⟨h1,h2,h3⟩:=h
 refine⟨fun b hb=> ?_,fun b hb=>(reach_at (by omega) (by omega)).1 (h2 b hb),fun b hb x hx hp t ht=> ?_⟩
 ·obtain⟨i,hi,rfl⟩:=blk_of_mem hb
  have:=h1 i hi
  unfold badBW badW at this
  rw[Bool.or_eq_false_iff] at this
  have:=of_decide_eq_false this.1
  omega
 ·obtain⟨i,hi,rfl⟩:=blk_of_mem hb
  have:=h3 i hi
  unfold badBP at this
  rw[List.any_eq_false] at this
  have:=this x hx
  unfold badPhi at this
  rw[hp,Bool.true_and] at this
  have e:x.into=rowOfL (prevOf l) i:=by simpa using this
  rw[e] at ht
  have:=(prev_mem (l:=l) (b:=(i:Int)) (by omega)).1 ht
  exact⟨this.1,this.2.1⟩
theorem used_args {f:Tm.Func}(h:usedB f=true):∀b∈f.blocks,∀x∈b.ins,∀v∈x.args,1≤v∧v≤((f.params.length+(posOf f.blocks).length:Nat):Int):=by
 intro b hb x hx v hv
 unfold usedB at h
 rw[Bool.and_eq_true,Bool.not_eq_true',Bool.not_eq_true',any_no,any_no] at h
 obtain⟨i,hi,rfl⟩:=blk_of_mem hb
 have h1:=h.2 i hi
 unfold badUB at h1
 rw[any_no] at h1
 obtain⟨k,hk,rfl⟩:=ins_of_mem hx
 have h2:=h1 k hk
 unfold badUX at h2
 rw[any_no] at h2
 obtain⟨j,hj,e⟩:=List.getElem_of_mem hv
 have h3:=h2 j hj
 unfold badA at h3
 rw[Bool.or_eq_false_iff,Bool.or_eq_false_iff] at h3
 have e2:rd (insAt (blkAt f.blocks i).ins k).args j=v:=by rw[rd,Int.toNat_natCast,List.getD_eq_getElem?_getD,List.getElem?_eq_getElem hj,Option.getD_some,e]
 rw[e2] at h3
 have a1:=of_decide_eq_false h3.1.1
 have a2:=of_decide_eq_false h3.1.2
 omega
theorem types_len (f:Tm.Func):(typesOf f).length=f.params.length+1+(posOf f.blocks).length:=by rw[posOf_len];simp[typesOf];omega
set_option maxHeartbeats 2000000 in
theorem wcheck_l0 {vals:FuncId→Bool} {call:CallF} {n:Nat} (m:Tm.Module) (hl:m.funcs.length<2^50) (I:Heap→Prop) (hp:∀h x,I h→I (h++[x])) (hg:∀h,I h→h[0]?=some (.row 0 [externs m.externs,globals m.globals,tables m.tables,funcs m.funcs])) (hc:∀f∈m.funcs,∀h,call 52 [.agg [str f.name,bool f.out,ints f.params,int f.result,blocks f.blocks]] h=some (bool (flowsB f.blocks),h)) (mm:Nat) (hm:m.funcs.length<mm) (h:Heap) (hI:I h):∃h1,I h1∧Tm.Loop Try.prog vals call n [1,26,27,28] k23b0 mm ⟨[(1,.op 0 0),(26,funcs m.funcs),(27,int m.funcs.length),(28,int 0)],h⟩=some (if (m.funcs.any fun f=> !flowsB f.blocks)=true then(.ret,⟨[(2,int 5)],h1⟩) else(.exit 1,⟨[(1,.op 0 0),(26,funcs m.funcs),(27,int m.funcs.length),(28,int m.funcs.length),(29,bool false)],h1⟩)):=by
 obtain⟨h1,J,L⟩:=Loop_any (P:=Try.prog) (vals:=vals) (call:=call) (n:=n) (ks:=[1,26,27,28]) (K:=k23b0) (id:=1) m.funcs.length (fun i=> !flowsB (fnAt m.funcs i).blocks) (fun i=>[(1,.op 0 0),(26,funcs m.funcs),(27,int m.funcs.length),(28,int i)]) [(2,int 5)] [(1,.op 0 0),(26,funcs m.funcs),(27,int m.funcs.length),(28,int m.funcs.length),(29,bool false)] I
  (fun i h hi hI=>by
   have e1:decide ((i:Int)<m.funcs.length)=true:=by simp;omega
   have e2:0≤(i:Int)∧(i:Int)<m.funcs.length:=by omega
   have e3:=wrap_next (n:=m.funcs.length) (i:=i) (by omega) (by omega)
   have hx:fnAt m.funcs i∈m.funcs:=getD_mem hi
   have hc1:=hc _ hx
   have g0:=hg _ hI
   have I1:=hp _ (.row 0 (encFunc (fnAt m.funcs i))) hI
   have g1:=hg _ I1
   simp only[enc_func] at I1 g1
   refine⟨_,I1, ?_⟩
   cases c1:flowsB (fnAt m.funcs i).blocks<;>simp +decide -implicitDefEqProofs only[k23b0,go_sem,e1,e2,e3,set_new,enc_func,g0,g1,hc1,c1])
  (fun h hI=>by
   exact⟨h,hI,by simp +decide -implicitDefEqProofs only[k23b0,go_sem,Int.lt_irrefl,decide_false]⟩) m.funcs.length 0 mm h (by omega) hm hI
 simp only[show((0:Nat):Int)=0 from rfl] at L
 rw[any_fns (fun f=> !flowsB f.blocks)] at L
 exact⟨h1,J,L⟩
set_option maxHeartbeats 2000000 in
theorem wcheck_l1 {vals:FuncId→Bool} {call:CallF} {n:Nat} (m:Tm.Module) (hl:m.funcs.length<2^50) (I:Heap→Prop) (hp:∀h x,I h→I (h++[x])) (hg:∀h,I h→h[0]?=some (.row 0 [externs m.externs,globals m.globals,tables m.tables,funcs m.funcs])) (hc:∀f∈m.funcs,∀h,call 53 [.agg [str f.name,bool f.out,ints f.params,int f.result,blocks f.blocks]] h=some (bool (usedB f),h)) (mm:Nat) (hm:m.funcs.length<mm) (h:Heap) (hI:I h):∃h1,I h1∧Tm.Loop Try.prog vals call n [1,37,38,39] k23b1 mm ⟨[(1,.op 0 0),(37,funcs m.funcs),(38,int m.funcs.length),(39,int 0)],h⟩=some (if (m.funcs.any fun f=> !usedB f)=true then(.ret,⟨[(2,int 6)],h1⟩) else(.exit 3,⟨[(1,.op 0 0),(37,funcs m.funcs),(38,int m.funcs.length),(39,int m.funcs.length),(40,bool false)],h1⟩)):=by
 obtain⟨h1,J,L⟩:=Loop_any (P:=Try.prog) (vals:=vals) (call:=call) (n:=n) (ks:=[1,37,38,39]) (K:=k23b1) (id:=3) m.funcs.length (fun i=> !usedB (fnAt m.funcs i)) (fun i=>[(1,.op 0 0),(37,funcs m.funcs),(38,int m.funcs.length),(39,int i)]) [(2,int 6)] [(1,.op 0 0),(37,funcs m.funcs),(38,int m.funcs.length),(39,int m.funcs.length),(40,bool false)] I
  (fun i h hi hI=>by
   have e1:decide ((i:Int)<m.funcs.length)=true:=by simp;omega
   have e2:0≤(i:Int)∧(i:Int)<m.funcs.length:=by omega
   have e3:=wrap_next (n:=m.funcs.length) (i:=i) (by omega) (by omega)
   have hx:fnAt m.funcs i∈m.funcs:=getD_mem hi
   have hc1:=hc _ hx
   have g0:=hg _ hI
   have I1:=hp _ (.row 0 (encFunc (fnAt m.funcs i))) hI
   have g1:=hg _ I1
   simp only[enc_func] at I1 g1
   refine⟨_,I1, ?_⟩
   cases c1:usedB (fnAt m.funcs i)<;>simp +decide -implicitDefEqProofs only[k23b1,go_sem,e1,e2,e3,set_new,enc_func,g0,g1,hc1,c1])
  (fun h hI=>by
   exact⟨h,hI,by simp +decide -implicitDefEqProofs only[k23b1,go_sem,Int.lt_irrefl,decide_false]⟩) m.funcs.length 0 mm h (by omega) hm hI
 simp only[show((0:Nat):Int)=0 from rfl] at L
 rw[any_fns (fun f=> !usedB f)] at L
 exact⟨h1,J,L⟩
set_option maxHeartbeats 2000000 in
theorem wcheck_l2 {vals:FuncId→Bool} {call:CallF} {n:Nat} (m:Tm.Module) (hl:m.funcs.length<2^50) (I:Heap→Prop) (hp:∀h x,I h→I (h++[x])) (hg:∀h,I h→h[0]?=some (.row 0 [externs m.externs,globals m.globals,tables m.tables,funcs m.funcs])) (hc:∀f∈m.funcs,∀h,call 54 [.agg [externs m.externs,globals m.globals,tables m.tables,funcs m.funcs],.agg [str f.name,bool f.out,ints f.params,int f.result,blocks f.blocks]] h=some (bool (typedB m f),h)) (mm:Nat) (hm:m.funcs.length<mm) (h:Heap) (hI:I h):∃h1,I h1∧Tm.Loop Try.prog vals call n [1,48,49,50] k23b2 mm ⟨[(1,.op 0 0),(48,funcs m.funcs),(49,int m.funcs.length),(50,int 0)],h⟩=some (if (m.funcs.any fun f=> !typedB m f)=true then(.ret,⟨[(2,int 7)],h1⟩) else(.exit 5,⟨[(1,.op 0 0),(48,funcs m.funcs),(49,int m.funcs.length),(50,int m.funcs.length),(51,bool false)],h1⟩)):=by
 obtain⟨h1,J,L⟩:=Loop_any (P:=Try.prog) (vals:=vals) (call:=call) (n:=n) (ks:=[1,48,49,50]) (K:=k23b2) (id:=5) m.funcs.length (fun i=> !typedB m (fnAt m.funcs i)) (fun i=>[(1,.op 0 0),(48,funcs m.funcs),(49,int m.funcs.length),(50,int i)]) [(2,int 7)] [(1,.op 0 0),(48,funcs m.funcs),(49,int m.funcs.length),(50,int m.funcs.length),(51,bool false)] I
  (fun i h hi hI=>by
   have e1:decide ((i:Int)<m.funcs.length)=true:=by simp;omega
   have e2:0≤(i:Int)∧(i:Int)<m.funcs.length:=by omega
   have e3:=wrap_next (n:=m.funcs.length) (i:=i) (by omega) (by omega)
   have hx:fnAt m.funcs i∈m.funcs:=getD_mem hi
   have hc1:=hc _ hx
   have g0:=hg _ hI
   have I1:=hp _ (.row 0 (encFunc (fnAt m.funcs i))) hI
   have g1:=hg _ I1
   simp only[enc_func] at I1 g1
   refine⟨_,I1, ?_⟩
   cases c1:typedB m (fnAt m.funcs i)<;>simp +decide -implicitDefEqProofs only[k23b2,go_sem,e1,e2,e3,set_new,enc_func,g0,g1,hc1,c1])
  (fun h hI=>by
   exact⟨h,hI,by simp +decide -implicitDefEqProofs only[k23b2,go_sem,Int.lt_irrefl,decide_false]⟩) m.funcs.length 0 mm h (by omega) hm hI
 simp only[show((0:Nat):Int)=0 from rfl] at L
 rw[any_fns (fun f=> !typedB m f)] at L
 exact⟨h1,J,L⟩
set_option maxHeartbeats 2000000 in
theorem rcheck_l0 {vals:FuncId→Bool} {call:CallF} {n:Nat} (m:Tm.Module) (hl:m.funcs.length<2^50) (I:Heap→Prop) (hp:∀h x,I h→I (h++[x])) (hg:∀h,I h→h[0]?=some (.row 0 [externs m.externs,globals m.globals,tables m.tables,funcs m.funcs])) (hc:∀f∈m.funcs,∀h,call 30 [.agg [str f.name,bool f.out,ints f.params,int f.result,blocks f.blocks]] h=some (bool (flowsB f.blocks),h)) (mm:Nat) (hm:m.funcs.length<mm) (h:Heap) (hI:I h):∃h1,I h1∧Tm.Loop Try.prog vals call n [1,3] k9b0 mm ⟨[(1,.op 0 0),(3,int 0)],h⟩=some (if (m.funcs.any fun f=> !flowsB f.blocks)=true then(.ret,⟨[(2,int 5)],h1⟩) else(.exit 0,⟨[(1,.op 0 0),(3,int m.funcs.length),(22,bool false)],h1⟩)):=by
 obtain⟨h1,J,L⟩:=Loop_any (P:=Try.prog) (vals:=vals) (call:=call) (n:=n) (ks:=[1,3]) (K:=k9b0) (id:=0) m.funcs.length (fun i=> !flowsB (fnAt m.funcs i).blocks) (fun i=>[(1,.op 0 0),(3,int i)]) [(2,int 5)] [(1,.op 0 0),(3,int m.funcs.length),(22,bool false)] I
  (fun i h hi hI=>by
   have e1:decide ((i:Int)<m.funcs.length)=true:=by simp;omega
   have e2:0≤(i:Int)∧(i:Int)<m.funcs.length:=by omega
   have e3:=wrap_next (n:=m.funcs.length) (i:=i) (by omega) (by omega)
   have hx:fnAt m.funcs i∈m.funcs:=getD_mem hi
   have hc1:=hc _ hx
   have g0:=hg _ hI
   refine⟨_,hI, ?_⟩
   cases c1:flowsB (fnAt m.funcs i).blocks<;>simp +decide -implicitDefEqProofs only[k9b0,go_sem,e1,e2,e3,set_new,g0,hc1,c1])
  (fun h hI=>by
   have g0:=hg h hI
   exact⟨h,hI,by simp +decide -implicitDefEqProofs only[k9b0,go_sem,Int.lt_irrefl,decide_false,g0]⟩) m.funcs.length 0 mm h (by omega) hm hI
 simp only[show((0:Nat):Int)=0 from rfl] at L
 rw[any_fns (fun f=> !flowsB f.blocks)] at L
 exact⟨h1,J,L⟩
set_option maxHeartbeats 2000000 in
theorem rcheck_l1 {vals:FuncId→Bool} {call:CallF} {n:Nat} (m:Tm.Module) (hl:m.funcs.length<2^50) (I:Heap→Prop) (hp:∀h x,I h→I (h++[x])) (hg:∀h,I h→h[0]?=some (.row 0 [externs m.externs,globals m.globals,tables m.tables,funcs m.funcs])) (hc:∀f∈m.funcs,∀h,call 31 [.agg [str f.name,bool f.out,ints f.params,int f.result,blocks f.blocks]] h=some (bool (usedB f),h)) (mm:Nat) (hm:m.funcs.length<mm) (h:Heap) (hI:I h):∃h1,I h1∧Tm.Loop Try.prog vals call n [1,4] k9b1 mm ⟨[(1,.op 0 0),(4,int 0)],h⟩=some (if (m.funcs.any fun f=> !usedB f)=true then(.ret,⟨[(2,int 6)],h1⟩) else(.exit 2,⟨[(1,.op 0 0),(4,int m.funcs.length),(36,bool false)],h1⟩)):=by
 obtain⟨h1,J,L⟩:=Loop_any (P:=Try.prog) (vals:=vals) (call:=call) (n:=n) (ks:=[1,4]) (K:=k9b1) (id:=2) m.funcs.length (fun i=> !usedB (fnAt m.funcs i)) (fun i=>[(1,.op 0 0),(4,int i)]) [(2,int 6)] [(1,.op 0 0),(4,int m.funcs.length),(36,bool false)] I
  (fun i h hi hI=>by
   have e1:decide ((i:Int)<m.funcs.length)=true:=by simp;omega
   have e2:0≤(i:Int)∧(i:Int)<m.funcs.length:=by omega
   have e3:=wrap_next (n:=m.funcs.length) (i:=i) (by omega) (by omega)
   have hx:fnAt m.funcs i∈m.funcs:=getD_mem hi
   have hc1:=hc _ hx
   have g0:=hg _ hI
   refine⟨_,hI, ?_⟩
   cases c1:usedB (fnAt m.funcs i)<;>simp +decide -implicitDefEqProofs only[k9b1,go_sem,e1,e2,e3,set_new,g0,hc1,c1])
  (fun h hI=>by
   have g0:=hg h hI
   exact⟨h,hI,by simp +decide -implicitDefEqProofs only[k9b1,go_sem,Int.lt_irrefl,decide_false,g0]⟩) m.funcs.length 0 mm h (by omega) hm hI
 simp only[show((0:Nat):Int)=0 from rfl] at L
 rw[any_fns (fun f=> !usedB f)] at L
 exact⟨h1,J,L⟩
set_option maxHeartbeats 2000000 in
theorem rcheck_l2 {vals:FuncId→Bool} {call:CallF} {n:Nat} (m:Tm.Module) (hl:m.funcs.length<2^50) (I:Heap→Prop) (hp:∀h x,I h→I (h++[x])) (hg:∀h,I h→h[0]?=some (.row 0 [externs m.externs,globals m.globals,tables m.tables,funcs m.funcs])) (hc:∀f∈m.funcs,∀h,call 32 [.agg [externs m.externs,globals m.globals,tables m.tables,funcs m.funcs],.agg [str f.name,bool f.out,ints f.params,int f.result,blocks f.blocks]] h=some (bool (typedB m f),h)) (hv:vals 32=true) (mm:Nat) (hm:m.funcs.length<mm) (h:Heap) (hI:I h):∃h1,I h1∧Tm.Loop Try.prog vals call n [1,5] k9b2 mm ⟨[(1,.op 0 0),(5,int 0)],h⟩=some (if (m.funcs.any fun f=> !typedB m f)=true then(.ret,⟨[(2,int 7)],h1⟩) else(.exit 4,⟨[(1,.op 0 0),(5,int m.funcs.length),(50,bool false)],h1⟩)):=by
 obtain⟨h1,J,L⟩:=Loop_any (P:=Try.prog) (vals:=vals) (call:=call) (n:=n) (ks:=[1,5]) (K:=k9b2) (id:=4) m.funcs.length (fun i=> !typedB m (fnAt m.funcs i)) (fun i=>[(1,.op 0 0),(5,int i)]) [(2,int 7)] [(1,.op 0 0),(5,int m.funcs.length),(50,bool false)] I
  (fun i h hi hI=>by
   have e1:decide ((i:Int)<m.funcs.length)=true:=by simp;omega
   have e2:0≤(i:Int)∧(i:Int)<m.funcs.length:=by omega
   have e3:=wrap_next (n:=m.funcs.length) (i:=i) (by omega) (by omega)
   have hx:fnAt m.funcs i∈m.funcs:=getD_mem hi
   have hc1:=hc _ hx
   have g0:=hg _ hI
   refine⟨_,hI, ?_⟩
   cases c1:typedB m (fnAt m.funcs i)<;>simp +decide -implicitDefEqProofs only[k9b2,go_sem,e1,e2,e3,set_new,g0,hc1,c1,hv])
  (fun h hI=>by
   have g0:=hg h hI
   exact⟨h,hI,by simp +decide -implicitDefEqProofs only[k9b2,go_sem,Int.lt_irrefl,decide_false,g0]⟩) m.funcs.length 0 mm h (by omega) hm hI
 simp only[show((0:Nat):Int)=0 from rfl] at L
 rw[any_fns (fun f=> !typedB m f)] at L
 exact⟨h1,J,L⟩
end Go.Proofs.Ytlcnmocicghilaa.Tk
namespace Go.Proofs.Ytlcnmocicghilaa.Tk
open Go.Tm Go.Tm.Tab
set_option maxRecDepth 100000
theorem any_not {α:Type}{p:α→Bool}{l:List α}(h:(l.any fun x=> !p x)=false):∀x∈l,p x=true:=by
 intro x hx
 rw[List.any_eq_false] at h
 have:=h x hx
 simpa using this
set_option maxHeartbeats 4000000 in
theorem wcheck_runs (m:Tm.Module) (F:FineM m):Runs Try.prog tab (2^36+200) 23 [.agg (encModule m)] (int (checkN m)):=by
 refine Runs.by (rs:=[.tmp 2]) (N:=59) rfl Try.func23 rfl rfl (by simp) fun k hk=> ?_
 have b4:=F.funcs
 rw[enc_module]
 have h87:∀h,callAt Try.prog tab k 48 [.agg [externs m.externs,globals m.globals,tables m.tables,funcs m.funcs]] h=some (bool (limitsB m),h):=fun h=>wsmall_runs m F k (by omega) _ h (by rw[enc_module];simp +decide -implicitDefEqProofs only[depth,go_sem])
 have h88:∀h,callAt Try.prog tab k 49 [.agg [externs m.externs,globals m.globals,tables m.tables,funcs m.funcs]] h=some (bool (formedB m),h):=fun h=>wformed_runs m F k (by omega) _ h (by rw[enc_module];simp +decide -implicitDefEqProofs only[depth,go_sem])
 have h89:∀h,callAt Try.prog tab k 50 [.agg [externs m.externs,globals m.globals,tables m.tables,funcs m.funcs]] h=some (bool (namedB m),h):=fun h=>wnamed_runs m F k (by omega) _ h (by rw[enc_module];simp +decide -implicitDefEqProofs only[depth,go_sem])
 have hp:∀(h:Heap) (x:Tm.Node),h[0]?=some (.row 0 [externs m.externs,globals m.globals,tables m.tables,funcs m.funcs])→(h++[x])[0]?=some (.row 0 [externs m.externs,globals m.globals,tables m.tables,funcs m.funcs]):=fun h x H=>by rw[List.getElem?_append_left (List.getElem?_eq_some_iff.1 H).1];exact H
 unfold checkN
 cases c1:limitsB m with
 |false=>rw[if_pos rfl];rw[c1] at h87;(simp +decide -implicitDefEqProofs only[k23,go_sem,h87];exact⟨_,_,rfl,rfl⟩)
 |true=>
 rw[if_neg (by decide)]
 rw[c1] at h87
 cases c2:formedB m with
 |false=>rw[if_pos rfl];rw[c2] at h88;(simp +decide -implicitDefEqProofs only[k23,go_sem,h87,h88];exact⟨_,_,rfl,rfl⟩)
 |true=>
 rw[if_neg (by decide)]
 rw[c2] at h88
 cases c3:namedB m with
 |false=>rw[if_pos rfl];rw[c3] at h89;(simp +decide -implicitDefEqProofs only[k23,go_sem,h87,h88,h89];exact⟨_,_,rfl,rfl⟩)
 |true=>
 rw[if_neg (by decide)]
 rw[c3] at h89
 have hpos:=limits_blocks c1
 have hsh:=formed_shape c2
 have h90:∀h,callAt Try.prog tab k 51 [.agg [externs m.externs,globals m.globals,tables m.tables,funcs m.funcs]] h=some (bool (knownB m),h):=fun h=>wknown_runs m F (fun f hf b hb x hx=>(hsh f hf b hb x hx).noSym) k (by omega) _ h (by rw[enc_module];simp +decide -implicitDefEqProofs only[depth,go_sem])
 cases c4:knownB m with
 |false=>rw[if_pos rfl];rw[c4] at h90;(simp +decide -implicitDefEqProofs only[k23,go_sem,h87,h88,h89,h90];exact⟨_,_,rfl,rfl⟩)
 |true=>
 rw[if_neg (by decide)]
 rw[c4] at h90
 have hsy:=known_sym c4
 have q5:∀f∈m.funcs,∀h,callAt Try.prog tab k 52 [.agg [str f.name,bool f.out,ints f.params,int f.result,blocks f.blocks]] h=some (bool (flowsB f.blocks),h):=fun f hf h=>wflows_runs f (F.fn f hf).1 k (by omega) _ h (by rw[enc_func];simp +decide -implicitDefEqProofs only[depth,go_sem])
 obtain⟨g1,I1,L1⟩:=wcheck_l0 (vals:=valsOf tab) (call:=callAt Try.prog tab k) (n:=k) m (by omega) (fun(h:Heap)=>h[0]?=some (.row 0 [externs m.externs,globals m.globals,tables m.tables,funcs m.funcs])) hp (fun h H=>H) q5 k (by omega) [.row 0 [externs m.externs,globals m.globals,tables m.tables,funcs m.funcs]] rfl
 cases c5:(m.funcs.any fun f=> !flowsB f.blocks) with
 |true=>rw[if_pos rfl];rw[c5,if_pos rfl] at L1;(simp +decide -implicitDefEqProofs only[k23,go_sem,h87,h88,h89,h90,L1];exact⟨_,_,rfl,rfl⟩)
 |false=>
 rw[if_neg (by decide)]
 rw[c5,if_neg (by decide)] at L1
 have hfl:∀f∈m.funcs,FlowOk f.blocks:=fun f hf=>flow_ok (any_not c5 f hf)
 have hph:∀f∈m.funcs,∀b∈f.blocks,∀x∈b.ins,PhiOk f.blocks.length x:=fun f hf b hb x hx=>⟨fun hq=>((hsh f hf b hb x hx).phi (of_decide_eq_true hq)).1,fun hq=>(hfl f hf).phi b hb x hx hq⟩
 have q6:∀f∈m.funcs,∀h,callAt Try.prog tab k 53 [.agg [str f.name,bool f.out,ints f.params,int f.result,blocks f.blocks]] h=some (bool (usedB f),h):=fun f hf h=>wused_runs f (F.fn f hf).1 (by have:=(F.fn f hf).2.2;omega) (hpos f hf) (hfl f hf).ins (hph f hf) (hfl f hf).met k (by omega) _ h (by rw[enc_func];simp +decide -implicitDefEqProofs only[depth,go_sem])
 obtain⟨g2,I2,L2⟩:=wcheck_l1 (vals:=valsOf tab) (call:=callAt Try.prog tab k) (n:=k) m (by omega) (fun(h:Heap)=>h[0]?=some (.row 0 [externs m.externs,globals m.globals,tables m.tables,funcs m.funcs])) hp (fun h H=>H) q6 k (by omega) g1 I1
 cases c6:(m.funcs.any fun f=> !usedB f) with
 |true=>rw[if_pos rfl];rw[c6,if_pos rfl] at L2;(simp +decide -implicitDefEqProofs only[k23,go_sem,h87,h88,h89,h90,L1,I1,L2];exact⟨_,_,rfl,rfl⟩)
 |false=>
 rw[if_neg (by decide)]
 rw[c6,if_neg (by decide)] at L2
 have q7:∀f∈m.funcs,∀h,callAt Try.prog tab k 54 [.agg [externs m.externs,globals m.globals,tables m.tables,funcs m.funcs],.agg [str f.name,bool f.out,ints f.params,int f.result,blocks f.blocks]] h=some (bool (typedB m f),h):=fun f hf h=>wtyped_runs m f (F.fn f hf).1 (by have:=(F.fn f hf).2.2;omega) (hsh f hf) (hsy f hf) (fun b hb x hx v hv=>by have:=used_args (any_not c6 f hf) b hb x hx v hv;have:=types_len f;omega) k (by omega) _ h (by rw[enc_func,enc_module];simp +decide -implicitDefEqProofs only[depth,go_sem])
 obtain⟨g3,I3,L3⟩:=wcheck_l2 (vals:=valsOf tab) (call:=callAt Try.prog tab k) (n:=k) m (by omega) (fun(h:Heap)=>h[0]?=some (.row 0 [externs m.externs,globals m.globals,tables m.tables,funcs m.funcs])) hp (fun h H=>H) q7 k (by omega) g2 I2
 cases c7:(m.funcs.any fun f=> !typedB m f) with
 |true=>rw[if_pos rfl];rw[c7,if_pos rfl] at L3;(simp +decide -implicitDefEqProofs only[k23,go_sem,h87,h88,h89,h90,L1,I1,L2,I2,L3];exact⟨_,_,rfl,rfl⟩)
 |false=>rw[if_neg (by decide)];rw[c7,if_neg (by decide)] at L3;(simp +decide -implicitDefEqProofs only[k23,go_sem,h87,h88,h89,h90,L1,I1,L2,I2,L3];exact⟨_,_,rfl,rfl⟩)
set_option maxHeartbeats 4000000 in
theorem rcheck_runs (m:Tm.Module) (F:FineM m):Runs Try.prog tab (2^36+200) 9 [.agg (encModule m)] (int (checkN m)):=by
 refine Runs.by (rs:=[.tmp 2]) (N:=61) rfl Try.func9 rfl rfl (by simp) fun k hk=> ?_
 have b4:=F.funcs
 rw[enc_module]
 have h79:∀h,callAt Try.prog tab k 26 [.agg [externs m.externs,globals m.globals,tables m.tables,funcs m.funcs]] h=some (bool (limitsB m),h):=fun h=>rlimits_runs m F k (by omega) _ h (by rw[enc_module];simp +decide -implicitDefEqProofs only[depth,go_sem])
 have h80:∀h,callAt Try.prog tab k 27 [.agg [externs m.externs,globals m.globals,tables m.tables,funcs m.funcs]] h=some (bool (formedB m),h):=fun h=>rforms_runs m F k (by omega) _ h (by rw[enc_module];simp +decide -implicitDefEqProofs only[depth,go_sem])
 have h81:∀h,callAt Try.prog tab k 28 [.agg [externs m.externs,globals m.globals,tables m.tables,funcs m.funcs]] h=some (bool (namedB m),h):=fun h=>rnames_runs m F k (by omega) _ h (by rw[enc_module];simp +decide -implicitDefEqProofs only[depth,go_sem])
 have hp:∀(h:Heap) (x:Tm.Node),h[0]?=some (.row 0 [externs m.externs,globals m.globals,tables m.tables,funcs m.funcs])→(h++[x])[0]?=some (.row 0 [externs m.externs,globals m.globals,tables m.tables,funcs m.funcs]):=fun h x H=>by rw[List.getElem?_append_left (List.getElem?_eq_some_iff.1 H).1];exact H
 unfold checkN
 cases c1:limitsB m with
 |false=>rw[if_pos rfl];rw[c1] at h79;(simp +decide -implicitDefEqProofs only[k9,go_sem,h79];exact⟨_,_,rfl,rfl⟩)
 |true=>
 rw[if_neg (by decide)]
 rw[c1] at h79
 cases c2:formedB m with
 |false=>rw[if_pos rfl];rw[c2] at h80;(simp +decide -implicitDefEqProofs only[k9,go_sem,h79,h80];exact⟨_,_,rfl,rfl⟩)
 |true=>
 rw[if_neg (by decide)]
 rw[c2] at h80
 cases c3:namedB m with
 |false=>rw[if_pos rfl];rw[c3] at h81;(simp +decide -implicitDefEqProofs only[k9,go_sem,h79,h80,h81];exact⟨_,_,rfl,rfl⟩)
 |true=>
 rw[if_neg (by decide)]
 rw[c3] at h81
 have hpos:=limits_blocks c1
 have hsh:=formed_shape c2
 have h82:∀h,callAt Try.prog tab k 29 [.agg [externs m.externs,globals m.globals,tables m.tables,funcs m.funcs]] h=some (bool (knownB m),h):=fun h=>rsyms_runs m F k (by omega) _ h (by rw[enc_module];simp +decide -implicitDefEqProofs only[depth,go_sem])
 cases c4:knownB m with
 |false=>rw[if_pos rfl];rw[c4] at h82;(simp +decide -implicitDefEqProofs only[k9,go_sem,h79,h80,h81,h82];exact⟨_,_,rfl,rfl⟩)
 |true=>
 rw[if_neg (by decide)]
 rw[c4] at h82
 have hsy:=known_sym c4
 have q5:∀f∈m.funcs,∀h,callAt Try.prog tab k 30 [.agg [str f.name,bool f.out,ints f.params,int f.result,blocks f.blocks]] h=some (bool (flowsB f.blocks),h):=fun f hf h=>rflows_runs f (F.fn f hf).1 (hpos f hf) (fun b hb x hx=>(hsh f hf b hb x hx).intoOk) k (by omega) _ h (by rw[enc_func];simp +decide -implicitDefEqProofs only[depth,go_sem])
 obtain⟨g1,I1,L1⟩:=rcheck_l0 (vals:=valsOf tab) (call:=callAt Try.prog tab k) (n:=k) m (by omega) (fun(h:Heap)=>h[0]?=some (.row 0 [externs m.externs,globals m.globals,tables m.tables,funcs m.funcs])) hp (fun h H=>H) q5 k (by omega) [.row 0 [externs m.externs,globals m.globals,tables m.tables,funcs m.funcs]] rfl
 cases c5:(m.funcs.any fun f=> !flowsB f.blocks) with
 |true=>rw[if_pos rfl];rw[c5,if_pos rfl] at L1;(simp +decide -implicitDefEqProofs only[k9,go_sem,h79,h80,h81,h82,L1];exact⟨_,_,rfl,rfl⟩)
 |false=>
 rw[if_neg (by decide)]
 rw[c5,if_neg (by decide)] at L1
 have hfl:∀f∈m.funcs,FlowOk f.blocks:=fun f hf=>flow_ok (any_not c5 f hf)
 have hph:∀f∈m.funcs,∀b∈f.blocks,∀x∈b.ins,PhiOk f.blocks.length x:=fun f hf b hb x hx=>⟨fun hq=>((hsh f hf b hb x hx).phi (of_decide_eq_true hq)).1,fun hq=>(hfl f hf).phi b hb x hx hq⟩
 have q6:∀f∈m.funcs,∀h,callAt Try.prog tab k 31 [.agg [str f.name,bool f.out,ints f.params,int f.result,blocks f.blocks]] h=some (bool (usedB f),h):=fun f hf h=>ruses_runs f (F.fn f hf).1 (by have:=(F.fn f hf).2.2;omega) (hpos f hf) (hph f hf) k (by omega) _ h (by rw[enc_func];simp +decide -implicitDefEqProofs only[depth,go_sem])
 obtain⟨g2,I2,L2⟩:=rcheck_l1 (vals:=valsOf tab) (call:=callAt Try.prog tab k) (n:=k) m (by omega) (fun(h:Heap)=>h[0]?=some (.row 0 [externs m.externs,globals m.globals,tables m.tables,funcs m.funcs])) hp (fun h H=>H) q6 k (by omega) g1 I1
 cases c6:(m.funcs.any fun f=> !usedB f) with
 |true=>rw[if_pos rfl];rw[c6,if_pos rfl] at L2;(simp +decide -implicitDefEqProofs only[k9,go_sem,h79,h80,h81,h82,L1,I1,L2];exact⟨_,_,rfl,rfl⟩)
 |false=>
 rw[if_neg (by decide)]
 rw[c6,if_neg (by decide)] at L2
 have q7:∀f∈m.funcs,∀h,callAt Try.prog tab k 32 [.agg [externs m.externs,globals m.globals,tables m.tables,funcs m.funcs],.agg [str f.name,bool f.out,ints f.params,int f.result,blocks f.blocks]] h=some (bool (typedB m f),h):=fun f hf h=>rtyped_runs m f (F.fn f hf).1 (by have:=(F.fn f hf).2.2;omega) (hsh f hf) (hsy f hf) (fun b hb x hx v hv=>by have:=used_args (any_not c6 f hf) b hb x hx v hv;have:=types_len f;omega) k (by omega) _ h (by rw[enc_func,enc_module];simp +decide -implicitDefEqProofs only[depth,go_sem])
 obtain⟨g3,I3,L3⟩:=rcheck_l2 (vals:=valsOf tab) (call:=callAt Try.prog tab k) (n:=k) m (by omega) (fun(h:Heap)=>h[0]?=some (.row 0 [externs m.externs,globals m.globals,tables m.tables,funcs m.funcs])) hp (fun h H=>H) q7 (by decide) k (by omega) g2 I2
 cases c7:(m.funcs.any fun f=> !typedB m f) with
 |true=>rw[if_pos rfl];rw[c7,if_pos rfl] at L3;(simp +decide -implicitDefEqProofs only[k9,go_sem,h79,h80,h81,h82,L1,I1,L2,I2,L3];exact⟨_,_,rfl,rfl⟩)
 |false=>rw[if_neg (by decide)];rw[c7,if_neg (by decide)] at L3;(simp +decide -implicitDefEqProofs only[k9,go_sem,h79,h80,h81,h82,L1,I1,L2,I2,L3];exact⟨_,_,rfl,rfl⟩)
end Go.Proofs.Ytlcnmocicghilaa.Tk
namespace Go.Proofs.Ytlcnmocicghilaa.Tk
open Go.Tm Go.Tm.Tab
set_option maxRecDepth 100000
def roomI (x:Ins):Bool:=decide (x.op=18)&&decide (x.num=1)
def markI (s:List Bool)(x:Ins):List Bool:=if roomI x=true then s.set x.to.toNat true else s
def m0 (l:List Ins)(s:List Bool):Nat→List Bool
 |0=>s
 |i+1=>markI (m0 l s i) (insAt l i)
def m1 (bl:List Block)(s:List Bool):Nat→List Bool
 |0=>s
 |i+1=>m0 (blkAt bl i).ins (m1 bl s i) (blkAt bl i).ins.length
def lostB (x:Ins)(n:Nat):Bool:=decide ((n:Int)>0)||(!decide (x.op=20)&& !decide (x.op=21))
def u0 (x:Ins)(s:List Bool):Nat→List Bool
 |0=>s
 |i+1=>if lostB x i=true then(u0 x s i).set (rd x.args i).toNat false else u0 x s i
def u1 (l:List Ins)(s:List Bool):Nat→List Bool
 |0=>s
 |i+1=>u0 (insAt l i) (u1 l s i) (insAt l i).args.length
def u2 (bl:List Block)(s:List Bool):Nat→List Bool
 |0=>s
 |i+1=>u1 (blkAt bl i).ins (u2 bl s i) (blkAt bl i).ins.length
theorem markI_len (s:List Bool)(x:Ins):(markI s x).length=s.length:=by unfold markI;split<;>simp
theorem m0_len (l:List Ins)(s:List Bool):∀i,(m0 l s i).length=s.length
 |0=>rfl
 |i+1=>by rw[m0,markI_len,m0_len l s i]
theorem m1_len (bl:List Block)(s:List Bool):∀i,(m1 bl s i).length=s.length
 |0=>rfl
 |i+1=>by rw[m1,m0_len,m1_len bl s i]
theorem u0_len (x:Ins)(s:List Bool):∀i,(u0 x s i).length=s.length
 |0=>rfl
 |i+1=>by rw[u0];split<;>simp[u0_len x s i]
theorem u1_len (l:List Ins)(s:List Bool):∀i,(u1 l s i).length=s.length
 |0=>rfl
 |i+1=>by rw[u1,u0_len,u1_len l s i]
theorem u2_len (bl:List Block)(s:List Bool):∀i,(u2 bl s i).length=s.length
 |0=>rfl
 |i+1=>by rw[u2,u1_len,u2_len bl s i]
structure InT (N:Nat)(x:Ins):Prop where
 to:roomI x=true→0≤x.to∧x.to<(N:Int)
 args:∀v∈x.args,0≤v∧v<(N:Int)
def trueAt (s:List Bool)(v:Nat):Bool:=s.getD v false
def truesOf (s:List Bool)(a n:Nat):List Int:=((List.range' a n).filter (trueAt s)).map fun(v:Nat)=>(v:Int)
theorem trues_next (s:List Bool)(a i:Nat):truesOf s a (i+1)=truesOf s a i++if trueAt s (a+i)=true then[((a+i:Nat):Int)] else[]:=by
 unfold truesOf
 rw[List.range'_concat,List.filter_append,List.map_append,Nat.one_mul]
 cases hq:trueAt s (a+i)<;>simp[List.filter,hq]
theorem trues_len (s:List Bool)(a n:Nat):(truesOf s a n).length≤n:=by
 unfold truesOf
 rw[List.length_map]
 exact Nat.le_trans (List.length_filter_le _ _) (by simp)
def mayOf (bl:List Block)(N:Nat):List Bool:=u2 bl (m1 bl (List.replicate N false) bl.length) bl.length
theorem trues_both (bl:List Block)(N:Nat)(hN:0<N)(H:∀b∈bl,∀x∈b.ins,(roomI x=true→1≤x.to)):truesOf (mayOf bl N) 0 N=truesOf (mayOf bl N) 1 (N-1):=by
 have hm0:∀(l:List Ins),(∀x∈l,(roomI x=true→1≤x.to))→∀(s:List Bool),s.getD 0 false=false→∀i,i≤l.length→(m0 l s i).getD 0 false=false:=fun l hl s hs i=>by
  induction i with
  |zero=>intro _;exact hs
  |succ i ih=>
   intro hi
   rw[m0]
   unfold markI
   split
   ·rename_i hr
    have:=hl _ (insAt_mem (l:=l) (b:=(i:Int)) ⟨by omega,by omega⟩) hr
    rw[List.getD_eq_getElem?_getD,List.getElem?_set_ne (by omega), ←List.getD_eq_getElem?_getD]
    exact ih (by omega)
   ·exact ih (by omega)
 have hm1:∀i,i≤bl.length→(m1 bl (List.replicate N false) i).getD 0 false=false:=fun i=>by
  induction i with
  |zero=>intro _;rw[m1,List.getD_eq_getElem?_getD,List.getElem?_replicate];split<;>rfl
  |succ i ih=>
   intro hi
   rw[m1]
   exact hm0 _ (H _ (blkAt_mem (l:=bl) (b:=(i:Int)) ⟨by omega,by omega⟩)) _ (ih (by omega)) _ (Nat.le_refl _)
 have hset:∀(s:List Bool) (k:Nat),s.getD 0 false=false→(s.set k false).getD 0 false=false:=fun s k h=>by
  rw[List.getD_eq_getElem?_getD,List.getElem?_set]
  split
  ·split<;>rfl
  ·rw[←List.getD_eq_getElem?_getD];exact h
 have hu0:∀(x:Ins) (s:List Bool),s.getD 0 false=false→∀i,(u0 x s i).getD 0 false=false:=fun x s hs i=>by
  induction i with
  |zero=>exact hs
  |succ i ih=>
   rw[u0]
   split
   ·exact hset _ _ ih
   ·exact ih
 have hu1:∀(l:List Ins) (s:List Bool),s.getD 0 false=false→∀i,(u1 l s i).getD 0 false=false:=fun l s hs i=>by
  induction i with
  |zero=>exact hs
  |succ i ih=>rw[u1];exact hu0 _ _ ih _
 have hu2:∀(s:List Bool),s.getD 0 false=false→∀i,(u2 bl s i).getD 0 false=false:=fun s hs i=>by
  induction i with
  |zero=>exact hs
  |succ i ih=>rw[u2];exact hu1 _ _ ih _
 have h0:trueAt (mayOf bl N) 0=false:=hu2 _ (hm1 _ (Nat.le_refl _)) _
 obtain⟨n,rfl⟩:∃n,N=n+1:=⟨N-1,by omega⟩
 unfold truesOf
 rw[List.range'_succ,List.filter_cons_of_neg (by rw[h0];decide)]
 rfl
theorem store_b {h:Heap}{q k:Nat}{s:List Bool}(hk:k<s.length)(v:Bool):storeR h q k 1 (some (.row 1 (s.map bool))) [bool v]=some (h.set q (.row 1 ((s.set k v).map bool))):=by
 rw[storeR_row,if_pos ⟨rfl,by simp;omega,rfl⟩,put_map (f:=bool) hk]
theorem set_at {h:Heap}{q:Nat}{M x:Tm.Node}(hq:h[q]?=some M):(h.set q x)[q]?=some x:=List.getElem?_set_self (List.getElem?_eq_some_iff.1 hq).1
theorem push_at' {h:Heap}{q:Nat}{M x:Tm.Node}(h0:h[q]?=some M):(h++[x])[q]?=some M:=by
 rw[List.getElem?_append_left (List.getElem?_eq_some_iff.1 h0).1];exact h0
section
variable {vals:FuncId→Bool} {call:CallF} {n:Nat}
set_option maxHeartbeats 4000000 in
theorem may_l0 (a b c:C) (N:Nat) (hN:N<2^40) (l:List Ins) (hl:l.length<2^50) (H:∀x∈l,InT N x) (s:List Bool) (hs:s.length=N) (m:Nat) (hm:l.length<m) (h:Heap) (h1:h[1]?=some (.row 1 (s.map bool))):
  ∃h',Tm.Loop Try.prog vals call n [1,3,22,23,24,29,30,31] k40b0 m ⟨[(1,.op 0 0),(3,.os 1 0 N (some N)),(22,a),(23,b),(24,c),(29,inss l),(30,int l.length),(31,int 0)],h⟩=some (.exit 2,⟨[(1,.op 0 0),(3,.os 1 0 N (some N)),(22,a),(23,b),(24,c),(29,inss l),(30,int l.length),(31,int l.length),(32,bool false)],h'⟩)∧h'[1]?=some (.row 1 ((m0 l s l.length).map bool))∧h'[0]?=h[0]?:=by
 obtain⟨s',⟨h',rfl,g1,g2⟩,L⟩:=Loop_run (P:=Try.prog) (vals:=vals) (call:=call) (n:=n) (ks:=[1,3,22,23,24,29,30,31]) (K:=k40b0) (id:=2) l.length
  (fun i t=>∃g,t=⟨[(1,.op 0 0),(3,.os 1 0 N (some N)),(22,a),(23,b),(24,c),(29,inss l),(30,int l.length),(31,int i)],g⟩∧g[1]?=some (.row 1 ((m0 l s i).map bool))∧g[0]?=h[0]?)
  (fun t=>∃g,t=⟨[(1,.op 0 0),(3,.os 1 0 N (some N)),(22,a),(23,b),(24,c),(29,inss l),(30,int l.length),(31,int l.length),(32,bool false)],g⟩∧g[1]?=some (.row 1 ((m0 l s l.length).map bool))∧g[0]?=h[0]?)
  (fun i e g hi ⟨g',hs',g1,g2⟩=>by
   cases hs'
   have e1:decide ((i:Int)<l.length)=true:=by simp;omega
   have e2:0≤(i:Int)∧(i:Int)<l.length:=by omega
   have e3:=wrap_next (n:=l.length) (i:=i) (by omega) (by omega)
   have hx:=H _ (insAt_mem e2)
   have hlen:=m0_len l s i
   rw[hs] at hlen
   rw[m0]
   generalize m0 l s i=t at g1 hlen
   generalize hxi:insAt l i=x at hx
   have p1:=push_at' (x:=.row 0 (encIns x)) g1
   have p0:(g++[Tm.Node.row 0 (encIns x)])[0]?=h[0]?:=by rw[←g2,List.getElem?_append_left (by have:=(List.getElem?_eq_some_iff.1 g1).1;omega)]
   have hx1:markI t x=if (decide (x.op=18)&&decide (x.num=1))=true then t.set x.to.toNat true else t:=rfl
   rw[hx1]
   simp only[encIns] at p1 p0
   cases c1:decide (x.op=18) with
   |false=>exact⟨_,⟨_,rfl,p1,p0⟩,by simp +decide -implicitDefEqProofs only[k40b0,go_sem,e1,e2,e3,set_new,get_new,hxi,encIns,c1]⟩
   |true=>
    cases c2:decide (x.num=1) with
    |false=>exact⟨_,⟨_,rfl,p1,p0⟩,by simp +decide -implicitDefEqProofs only[k40b0,go_sem,e1,e2,e3,set_new,get_new,hxi,encIns,c1,c2]⟩
    |true=>
     have ht:=hx.to (by unfold roomI;rw[c1,c2];rfl)
     have st:=store_b (h:=g++[.row 0 [int x.op,int x.type,int x.to,int x.sym,int x.num,ints x.args,ints x.into]]) (q:=1) (k:=x.to.toNat) (s:=t) (by omega) true
     refine⟨_,⟨_,rfl,set_at p1, ?_⟩,by simp +decide -implicitDefEqProofs only[k40b0,go_sem,e1,e2,e3,set_new,get_new,hxi,encIns,c1,c2,ht,p1,st]⟩
     rw[List.getElem?_set_ne (by decide)];exact p0)
  (fun e g ⟨g',hs',g1,g2⟩=>by
   cases hs'
   exact⟨_,⟨_,rfl,g1,g2⟩,by simp +decide -implicitDefEqProofs only[k40b0,go_sem,Int.lt_irrefl,decide_false]⟩)
  l.length 0 m _ h (by omega) hm ⟨_,rfl,h1,rfl⟩
 exact⟨h',L,g1,g2⟩
set_option maxHeartbeats 4000000 in
theorem may_l1 (N:Nat) (hN:N<2^40) (bl:List Block) (hl:bl.length<2^50) (H:∀b∈bl,(b.ins.length<n∧b.ins.length<2^50)∧∀x∈b.ins,InT N x) (s:List Bool) (hs:s.length=N) (m:Nat) (hm:bl.length<m) (h:Heap) (h1:h[1]?=some (.row 1 (s.map bool))):
  ∃h',Tm.Loop Try.prog vals call n [1,3,22,23,24] k40b1 m ⟨[(1,.op 0 0),(3,.os 1 0 N (some N)),(22,blocks bl),(23,int bl.length),(24,int 0)],h⟩=some (.exit 0,⟨[(1,.op 0 0),(3,.os 1 0 N (some N)),(22,blocks bl),(23,int bl.length),(24,int bl.length),(25,bool false)],h'⟩)∧h'[1]?=some (.row 1 ((m1 bl s bl.length).map bool))∧h'[0]?=h[0]?:=by
 obtain⟨s',⟨h',rfl,g1,g2⟩,L⟩:=Loop_run (P:=Try.prog) (vals:=vals) (call:=call) (n:=n) (ks:=[1,3,22,23,24]) (K:=k40b1) (id:=0) bl.length
  (fun i t=>∃g,t=⟨[(1,.op 0 0),(3,.os 1 0 N (some N)),(22,blocks bl),(23,int bl.length),(24,int i)],g⟩∧g[1]?=some (.row 1 ((m1 bl s i).map bool))∧g[0]?=h[0]?)
  (fun t=>∃g,t=⟨[(1,.op 0 0),(3,.os 1 0 N (some N)),(22,blocks bl),(23,int bl.length),(24,int bl.length),(25,bool false)],g⟩∧g[1]?=some (.row 1 ((m1 bl s bl.length).map bool))∧g[0]?=h[0]?)
  (fun i e g hi ⟨g',hs',g1,g2⟩=>by
   cases hs'
   have e1:decide ((i:Int)<bl.length)=true:=by simp;omega
   have e2:0≤(i:Int)∧(i:Int)<bl.length:=by omega
   have e3:=wrap_next (n:=bl.length) (i:=i) (by omega) (by omega)
   obtain⟨⟨hn,hx⟩,hI⟩:=H _ (blkAt_mem e2)
   have hlen:=m1_len bl s i
   rw[hs] at hlen
   rw[m1]
   generalize m1 bl s i=t at g1 hlen
   generalize hbi:(blkAt bl i).ins=ins at hn hx hI
   have p1:=push_at' (x:=.row 0 [inss ins]) g1
   have p0:(g++[Tm.Node.row 0 [inss ins]])[0]?=h[0]?:=by rw[←g2,List.getElem?_append_left (by have:=(List.getElem?_eq_some_iff.1 g1).1;omega)]
   obtain⟨h2,L0,q1,q2⟩:=may_l0 (vals:=vals) (call:=call) (n:=n) (blocks bl) (int bl.length) (int i) N hN ins hx hI t hlen n hn _ p1
   refine⟨_,⟨h2,rfl,q1,q2.trans p0⟩,by simp +decide -implicitDefEqProofs only[k40b1,go_sem,e1,e2,e3,set_new,get_new,hbi,L0]⟩)
  (fun e g ⟨g',hs',g1,g2⟩=>by
   cases hs'
   exact⟨_,⟨_,rfl,g1,g2⟩,by simp +decide -implicitDefEqProofs only[k40b1,go_sem,Int.lt_irrefl,decide_false]⟩)
  bl.length 0 m _ h (by omega) hm ⟨_,rfl,h1,rfl⟩
 exact⟨h',L,g1,g2⟩
set_option maxHeartbeats 4000000 in
theorem may_l2 (a b c d e1' e2' p:C) (N:Nat) (hN:N<2^40) (x:Ins) (hl:x.args.length<2^50) (H:InT N x) (q:Nat) (hq:q≠1) (s:List Bool) (hs:s.length=N) (m:Nat) (hm:x.args.length<m) (h:Heap) (hx:h[q]?=some (.row 0 (encIns x))) (h1:h[1]?=some (.row 1 (s.map bool))):
  ∃h',Tm.Loop Try.prog vals call n [3,11,50,51,52,57,58,59,64,65,66] k40b2 m ⟨[(3,.os 1 0 N (some N)),(11,.op q 0),(50,a),(51,b),(52,c),(57,d),(58,e1'),(59,e2'),(64,ints x.args),(65,int x.args.length),(66,int 0)],h⟩=some (.exit 8,⟨[(3,.os 1 0 N (some N)),(11,.op q 0),(50,a),(51,b),(52,c),(57,d),(58,e1'),(59,e2'),(64,ints x.args),(65,int x.args.length),(66,int x.args.length),(67,bool false)],h'⟩)∧h'[1]?=some (.row 1 ((u0 x s x.args.length).map bool)):=by
 obtain⟨s',⟨h',rfl,g1,g2⟩,L⟩:=Loop_run (P:=Try.prog) (vals:=vals) (call:=call) (n:=n) (ks:=[3,11,50,51,52,57,58,59,64,65,66]) (K:=k40b2) (id:=8) x.args.length
  (fun i t=>∃g,t=⟨[(3,.os 1 0 N (some N)),(11,.op q 0),(50,a),(51,b),(52,c),(57,d),(58,e1'),(59,e2'),(64,ints x.args),(65,int x.args.length),(66,int i)],g⟩∧g[1]?=some (.row 1 ((u0 x s i).map bool))∧g[q]?=some (.row 0 (encIns x)))
  (fun t=>∃g,t=⟨[(3,.os 1 0 N (some N)),(11,.op q 0),(50,a),(51,b),(52,c),(57,d),(58,e1'),(59,e2'),(64,ints x.args),(65,int x.args.length),(66,int x.args.length),(67,bool false)],g⟩∧g[1]?=some (.row 1 ((u0 x s x.args.length).map bool))∧g[q]?=some (.row 0 (encIns x)))
  (fun i e g hi ⟨g',hs',g1,g2⟩=>by
   cases hs'
   have e1:decide ((i:Int)<x.args.length)=true:=by simp;omega
   have e2:0≤(i:Int)∧(i:Int)<x.args.length:=by omega
   have e3:=wrap_next (n:=x.args.length) (i:=i) (by omega) (by omega)
   have hv:=H.args _ (rd_mem e2.1 e2.2)
   have hlen:=u0_len x s i
   rw[hs] at hlen
   rw[u0]
   generalize u0 x s i=t at g1 hlen
   have g2':=g2
   simp only[encIns] at g2'
   have st:=store_b (h:=g) (q:=1) (k:=(rd x.args i).toNat) (s:=t) (by omega) false
   have hlb:lostB x i=(decide ((i:Int)>0)||(!decide (x.op=20)&& !decide (x.op=21))):=rfl
   have gq:(g.set 1 (.row 1 ((t.set (rd x.args i).toNat false).map bool)))[q]?=some (.row 0 (encIns x)):=by rw[List.getElem?_set_ne (Ne.symm hq)];exact g2
   cases c1:decide ((i:Int)>0) with
   |true=>
    rw[hlb,c1,if_pos (by rfl)]
    exact⟨_,⟨_,rfl,set_at g1,gq⟩,by simp +decide -implicitDefEqProofs only[k40b2,go_sem,e1,e2,e3,g2',g1,hv,st,c1]⟩
   |false=>
    cases c2:decide (x.op=20) with
    |true=>
     rw[hlb,c1,c2,if_neg (by simp)]
     exact⟨_,⟨_,rfl,g1,g2⟩,by simp +decide -implicitDefEqProofs only[k40b2,go_sem,e1,e2,e3,g2',g1,hv,c1,c2]⟩
    |false=>
     cases c3:decide (x.op=21) with
     |true=>
      rw[hlb,c1,c2,c3,if_neg (by simp)]
      exact⟨_,⟨_,rfl,g1,g2⟩,by simp +decide -implicitDefEqProofs only[k40b2,go_sem,e1,e2,e3,g2',g1,hv,c1,c2,c3]⟩
     |false=>
      rw[hlb,c1,c2,c3,if_pos (by rfl)]
      exact⟨_,⟨_,rfl,set_at g1,gq⟩,by simp +decide -implicitDefEqProofs only[k40b2,go_sem,e1,e2,e3,g2',g1,hv,st,c1,c2,c3]⟩)
  (fun e g ⟨g',hs',g1,g2⟩=>by
   cases hs'
   exact⟨_,⟨_,rfl,g1,g2⟩,by simp +decide -implicitDefEqProofs only[k40b2,go_sem,Int.lt_irrefl,decide_false]⟩)
  x.args.length 0 m _ h (by omega) hm ⟨_,rfl,h1,hx⟩
 exact⟨h',L,g1⟩
set_option maxHeartbeats 4000000 in
theorem may_l3 (a b c:C) (N:Nat) (hN:N<2^40) (l:List Ins) (hl:l.length<2^50) (H:∀x∈l,(x.args.length<n∧x.args.length<2^50)∧InT N x) (s:List Bool) (hs:s.length=N) (m:Nat) (hm:l.length<m) (h:Heap) (h1:h[1]?=some (.row 1 (s.map bool))):
  ∃h',Tm.Loop Try.prog vals call n [3,50,51,52,57,58,59] k40b3 m ⟨[(3,.os 1 0 N (some N)),(50,a),(51,b),(52,c),(57,inss l),(58,int l.length),(59,int 0)],h⟩=some (.exit 6,⟨[(3,.os 1 0 N (some N)),(50,a),(51,b),(52,c),(57,inss l),(58,int l.length),(59,int l.length),(60,bool false)],h'⟩)∧h'[1]?=some (.row 1 ((u1 l s l.length).map bool)):=by
 obtain⟨s',⟨h',rfl,g1⟩,L⟩:=Loop_run (P:=Try.prog) (vals:=vals) (call:=call) (n:=n) (ks:=[3,50,51,52,57,58,59]) (K:=k40b3) (id:=6) l.length
  (fun i t=>∃g,t=⟨[(3,.os 1 0 N (some N)),(50,a),(51,b),(52,c),(57,inss l),(58,int l.length),(59,int i)],g⟩∧g[1]?=some (.row 1 ((u1 l s i).map bool)))
  (fun t=>∃g,t=⟨[(3,.os 1 0 N (some N)),(50,a),(51,b),(52,c),(57,inss l),(58,int l.length),(59,int l.length),(60,bool false)],g⟩∧g[1]?=some (.row 1 ((u1 l s l.length).map bool)))
  (fun i e g hi ⟨g',hs',g1⟩=>by
   cases hs'
   have e1:decide ((i:Int)<l.length)=true:=by simp;omega
   have e2:0≤(i:Int)∧(i:Int)<l.length:=by omega
   have e3:=wrap_next (n:=l.length) (i:=i) (by omega) (by omega)
   obtain⟨⟨hn,hx⟩,hI⟩:=H _ (insAt_mem e2)
   have hlen:=u1_len l s i
   rw[hs] at hlen
   rw[u1]
   generalize u1 l s i=t at g1 hlen
   generalize hxi:insAt l i=x at hn hx hI
   have p1:=push_at' (x:=.row 0 (encIns x)) g1
   have hq:g.length≠1:=by have:=(List.getElem?_eq_some_iff.1 g1).1;omega
   obtain⟨h2,L0,q1⟩:=may_l2 (vals:=vals) (call:=call) (n:=n) a b c (inss l) (int l.length) (int i) a N hN x hx hI g.length hq t hlen n hn _ (by rw[get_new]) p1
   simp only[encIns] at L0
   exact⟨_,⟨h2,rfl,q1⟩,by simp +decide -implicitDefEqProofs only[k40b3,go_sem,e1,e2,e3,set_new,get_new,hxi,encIns,L0]⟩)
  (fun e g ⟨g',hs',g1⟩=>by
   cases hs'
   exact⟨_,⟨_,rfl,g1⟩,by simp +decide -implicitDefEqProofs only[k40b3,go_sem,Int.lt_irrefl,decide_false]⟩)
  l.length 0 m _ h (by omega) hm ⟨_,rfl,h1⟩
 exact⟨h',L,g1⟩
set_option maxHeartbeats 4000000 in
theorem may_l4 (N:Nat) (hN:N<2^40) (bl:List Block) (hl:bl.length<2^50) (H:∀b∈bl,(b.ins.length<n∧b.ins.length<2^50)∧∀x∈b.ins,(x.args.length<n∧x.args.length<2^50)∧InT N x) (s:List Bool) (hs:s.length=N) (m:Nat) (hm:bl.length<m) (h:Heap) (h1:h[1]?=some (.row 1 (s.map bool))):
  ∃h',Tm.Loop Try.prog vals call n [3,50,51,52] k40b4 m ⟨[(3,.os 1 0 N (some N)),(50,blocks bl),(51,int bl.length),(52,int 0)],h⟩=some (.exit 4,⟨[(3,.os 1 0 N (some N)),(50,blocks bl),(51,int bl.length),(52,int bl.length),(53,bool false)],h'⟩)∧h'[1]?=some (.row 1 ((u2 bl s bl.length).map bool)):=by
 obtain⟨s',⟨h',rfl,g1⟩,L⟩:=Loop_run (P:=Try.prog) (vals:=vals) (call:=call) (n:=n) (ks:=[3,50,51,52]) (K:=k40b4) (id:=4) bl.length
  (fun i t=>∃g,t=⟨[(3,.os 1 0 N (some N)),(50,blocks bl),(51,int bl.length),(52,int i)],g⟩∧g[1]?=some (.row 1 ((u2 bl s i).map bool)))
  (fun t=>∃g,t=⟨[(3,.os 1 0 N (some N)),(50,blocks bl),(51,int bl.length),(52,int bl.length),(53,bool false)],g⟩∧g[1]?=some (.row 1 ((u2 bl s bl.length).map bool)))
  (fun i e g hi ⟨g',hs',g1⟩=>by
   cases hs'
   have e1:decide ((i:Int)<bl.length)=true:=by simp;omega
   have e2:0≤(i:Int)∧(i:Int)<bl.length:=by omega
   have e3:=wrap_next (n:=bl.length) (i:=i) (by omega) (by omega)
   obtain⟨⟨hn,hx⟩,hI⟩:=H _ (blkAt_mem e2)
   have hlen:=u2_len bl s i
   rw[hs] at hlen
   rw[u2]
   generalize u2 bl s i=t at g1 hlen
   generalize hbi:(blkAt bl i).ins=ins at hn hx hI
   have p1:=push_at' (x:=.row 0 [inss ins]) g1
   obtain⟨h2,L0,q1⟩:=may_l3 (vals:=vals) (call:=call) (n:=n) (blocks bl) (int bl.length) (int i) N hN ins hx hI t hlen n hn _ p1
   exact⟨_,⟨h2,rfl,q1⟩,by simp +decide -implicitDefEqProofs only[k40b4,go_sem,e1,e2,e3,set_new,get_new,hbi,L0]⟩)
  (fun e g ⟨g',hs',g1⟩=>by
   cases hs'
   exact⟨_,⟨_,rfl,g1⟩,by simp +decide -implicitDefEqProofs only[k40b4,go_sem,Int.lt_irrefl,decide_false]⟩)
  bl.length 0 m _ h (by omega) hm ⟨_,rfl,h1⟩
 exact⟨h',L,g1⟩
set_option maxHeartbeats 4000000 in
theorem may_l5 (N:Nat) (hN:N<2^20) (s:List Bool) (hs:s.length=N) (m:Nat) (hm:N<m) (h:Heap) (h1:h[1]?=some (.row 1 (s.map bool))):
  ∃c h',Tm.Loop Try.prog vals call n [14,89,90,91] k40b5 m ⟨[(14,.v (.slice none 0 0)),(89,.os 1 0 N (some N)),(90,int N),(91,int 0)],h⟩=some (.exit 10,⟨[(14,c),(89,.os 1 0 N (some N)),(90,int N),(91,int N),(92,bool false)],h'⟩)∧GrowG int h' c (truesOf s 0 N):=by
 have hmr:(2:Nat)^22<maxRow:=by decide
 obtain⟨s',⟨c,h',rfl,g1⟩,L⟩:=Loop_run (P:=Try.prog) (vals:=vals) (call:=call) (n:=n) (ks:=[14,89,90,91]) (K:=k40b5) (id:=10) N
  (fun i t=>∃c g,t=⟨[(14,c),(89,.os 1 0 N (some N)),(90,int N),(91,int i)],g⟩∧GrowG int g c (truesOf s 0 i)∧g[1]?=some (.row 1 (s.map bool))∧∀o q,c≠ .os 1 0 o q)
  (fun t=>∃c g,t=⟨[(14,c),(89,.os 1 0 N (some N)),(90,int N),(91,int N),(92,bool false)],g⟩∧GrowG int g c (truesOf s 0 N))
  (fun i e g hi ⟨c,g',hs',g1,g2,g3⟩=>by
   cases hs'
   have e1:decide ((i:Int)<(N:Int))=true:=by simp;omega
   have e2:0≤(i:Int)∧(i:Int)<(N:Int):=by omega
   have e3:=wrap_next (n:=N) (i:=i) (by omega) (by omega)
   have hb:((s.map bool).drop i).head?=some (bool (trueAt s i)):=by
    rw[List.head?_drop,List.getElem?_map,List.getElem?_eq_getElem (by omega)]
    unfold trueAt
    rw[List.getD_eq_getElem?_getD,List.getElem?_eq_getElem (by omega)];rfl
   have hlen:=trues_len s 0 i
   rw[trues_next,Nat.zero_add]
   generalize truesOf s 0 i=out at g1 hlen
   cases c1:trueAt s i with
   |false=>
    rw[c1] at hb
    rw[if_neg (by decide),List.append_nil]
    exact⟨_,⟨c,_,rfl,g1,g2,g3⟩,by simp +decide -implicitDefEqProofs only[k40b5,go_sem,e1,e2,e3,g2,Int.toNat_natCast,hb]⟩
   |true=>
    rw[c1] at hb
    rw[if_pos rfl]
    obtain⟨c',h',a1,a2,a3,a4⟩:=(g1.push (x:=.row 1 [int i])).append (i:Int) (by omega)
    refine⟨_,⟨c',h',rfl,a2,a4 1 _ (push_at' g2) g3,fun o q hq=> ?_⟩,by simp +decide -implicitDefEqProofs only[k40b5,go_sem,e1,e2,e3,g2,Int.toNat_natCast,hb,a1]⟩
    rw[a3] at hq
    have:=(List.getElem?_eq_some_iff.1 g2).1
    injection hq with q1 _ _ _;simp only[List.length_append,List.length_cons,List.length_nil] at q1;omega)
  (fun e g ⟨c,g',hs',g1,g2,g3⟩=>by
   cases hs'
   exact⟨_,⟨c,_,rfl,g1⟩,by simp +decide -implicitDefEqProofs only[k40b5,go_sem,Int.lt_irrefl,decide_false]⟩)
  N 0 m _ h (by omega) hm ⟨_,_,rfl,.inl ⟨rfl,rfl⟩,h1,by simp⟩
 exact⟨c,h',L,g1⟩
end
end Go.Proofs.Ytlcnmocicghilaa.Tk
namespace Go.Proofs.Ytlcnmocicghilaa.Tk
open Go.Tm Go.Tm.Tab
set_option maxRecDepth 100000
section
variable {vals:FuncId→Bool} {call:CallF} {n:Nat}
set_option maxHeartbeats 4000000 in
theorem rmay_l0 (u v w z:C) (bl:List Block) (q:Nat) (hq:q<bl.length) (N:Nat) (hN:N<2^40) (hl:(blkAt bl q).ins.length<2^50) (H:∀x∈(blkAt bl q).ins,InT N x) (s:List Bool) (hs:s.length=N) (m:Nat) (hm:(blkAt bl q).ins.length<m) (h:Heap) (h0:h[0]?=some (.row 0 [u,v,w,z,blocks bl])) (h1:h[1]?=some (.row 1 (s.map bool))):
  ∃h',Tm.Loop Try.prog vals call n [1,3,4,5] k18b0 m ⟨[(1,.op 0 0),(3,.os 1 0 N (some N)),(4,int q),(5,int 0)],h⟩=some (.exit 2,⟨[(1,.op 0 0),(3,.os 1 0 N (some N)),(4,int q),(5,int (blkAt bl q).ins.length),(32,bool false)],h'⟩)∧h'[1]?=some (.row 1 ((m0 (blkAt bl q).ins s (blkAt bl q).ins.length).map bool))∧h'[0]?=some (.row 0 [u,v,w,z,blocks bl]):=by
 have b0:0≤(q:Int)∧(q:Int)<bl.length:=by omega
 generalize hbi:(blkAt bl q).ins=l at hl H hm
 obtain⟨s',⟨h',rfl,g1,g2⟩,L⟩:=Loop_run (P:=Try.prog) (vals:=vals) (call:=call) (n:=n) (ks:=[1,3,4,5]) (K:=k18b0) (id:=2) l.length
  (fun i t=>∃g,t=⟨[(1,.op 0 0),(3,.os 1 0 N (some N)),(4,int q),(5,int i)],g⟩∧g[1]?=some (.row 1 ((m0 l s i).map bool))∧g[0]?=some (.row 0 [u,v,w,z,blocks bl]))
  (fun t=>∃g,t=⟨[(1,.op 0 0),(3,.os 1 0 N (some N)),(4,int q),(5,int l.length),(32,bool false)],g⟩∧g[1]?=some (.row 1 ((m0 l s l.length).map bool))∧g[0]?=some (.row 0 [u,v,w,z,blocks bl]))
  (fun i e g hi ⟨g',hs',g1,g2⟩=>by
   cases hs'
   have e1:decide ((i:Int)<l.length)=true:=by simp;omega
   have e2:0≤(i:Int)∧(i:Int)<l.length:=by omega
   have e3:=wrap_next (n:=l.length) (i:=i) (by omega) (by omega)
   have hx:=H _ (insAt_mem e2)
   have hlen:=m0_len l s i
   rw[hs] at hlen
   rw[m0]
   generalize m0 l s i=t at g1 hlen
   generalize hxi:insAt l i=x at hx
   have p1:=push_at' (x:=.row 0 (encIns x)) g1
   have p0:=push_at' (x:=.row 0 (encIns x)) g2
   have hx1:markI t x=if (decide (x.op=18)&&decide (x.num=1))=true then t.set x.to.toNat true else t:=rfl
   rw[hx1]
   simp only[encIns] at p1 p0
   cases c1:decide (x.op=18) with
   |false=>exact⟨_,⟨_,rfl,p1,p0⟩,by simp +decide -implicitDefEqProofs only[k18b0,go_sem,g2,b0,hbi,e1,e2,e3,set_new,get_new,hxi,encIns,c1]⟩
   |true=>
    cases c2:decide (x.num=1) with
    |false=>exact⟨_,⟨_,rfl,p1,p0⟩,by simp +decide -implicitDefEqProofs only[k18b0,go_sem,g2,b0,hbi,e1,e2,e3,set_new,get_new,hxi,encIns,c1,c2]⟩
    |true=>
     have ht:=hx.to (by unfold roomI;rw[c1,c2];rfl)
     have st:=store_b (h:=g++[.row 0 [int x.op,int x.type,int x.to,int x.sym,int x.num,ints x.args,ints x.into]]) (q:=1) (k:=x.to.toNat) (s:=t) (by omega) true
     refine⟨_,⟨_,rfl,set_at p1, ?_⟩,by simp +decide -implicitDefEqProofs only[k18b0,go_sem,g2,b0,hbi,e1,e2,e3,set_new,get_new,hxi,encIns,c1,c2,ht,p1,st]⟩
     rw[List.getElem?_set_ne (by decide)];exact p0)
  (fun e g ⟨g',hs',g1,g2⟩=>by
   cases hs'
   exact⟨_,⟨_,rfl,g1,g2⟩,by simp +decide -implicitDefEqProofs only[k18b0,go_sem,g2,b0,hbi,Int.lt_irrefl,decide_false]⟩)
  l.length 0 m _ h (by omega) hm ⟨_,rfl,h1,h0⟩
 exact⟨h',L,g1,g2⟩
set_option maxHeartbeats 4000000 in
theorem rmay_l1 (u v w z:C) (N:Nat) (hN:N<2^40) (bl:List Block) (hl:bl.length<2^50) (H:∀b∈bl,(b.ins.length<n∧b.ins.length<2^50)∧∀x∈b.ins,InT N x) (s:List Bool) (hs:s.length=N) (m:Nat) (hm:bl.length<m) (h:Heap) (h0:h[0]?=some (.row 0 [u,v,w,z,blocks bl])) (h1:h[1]?=some (.row 1 (s.map bool))):
  ∃h',Tm.Loop Try.prog vals call n [1,3,4] k18b1 m ⟨[(1,.op 0 0),(3,.os 1 0 N (some N)),(4,int 0)],h⟩=some (.exit 0,⟨[(1,.op 0 0),(3,.os 1 0 N (some N)),(4,int bl.length),(21,bool false)],h'⟩)∧h'[1]?=some (.row 1 ((m1 bl s bl.length).map bool))∧h'[0]?=some (.row 0 [u,v,w,z,blocks bl]):=by
 obtain⟨s',⟨h',rfl,g1,g2⟩,L⟩:=Loop_run (P:=Try.prog) (vals:=vals) (call:=call) (n:=n) (ks:=[1,3,4]) (K:=k18b1) (id:=0) bl.length
  (fun i t=>∃g,t=⟨[(1,.op 0 0),(3,.os 1 0 N (some N)),(4,int i)],g⟩∧g[1]?=some (.row 1 ((m1 bl s i).map bool))∧g[0]?=some (.row 0 [u,v,w,z,blocks bl]))
  (fun t=>∃g,t=⟨[(1,.op 0 0),(3,.os 1 0 N (some N)),(4,int bl.length),(21,bool false)],g⟩∧g[1]?=some (.row 1 ((m1 bl s bl.length).map bool))∧g[0]?=some (.row 0 [u,v,w,z,blocks bl]))
  (fun i e g hi ⟨g',hs',g1,g2⟩=>by
   cases hs'
   have e1:decide ((i:Int)<bl.length)=true:=by simp;omega
   have e2:0≤(i:Int)∧(i:Int)<bl.length:=by omega
   have e3:=wrap_next (n:=bl.length) (i:=i) (by omega) (by omega)
   obtain⟨⟨hn,hx⟩,hI⟩:=H _ (blkAt_mem e2)
   have hlen:=m1_len bl s i
   rw[hs] at hlen
   rw[m1]
   generalize m1 bl s i=t at g1 hlen
   obtain⟨h2,L0,q1,q2⟩:=rmay_l0 (vals:=vals) (call:=call) (n:=n) u v w z bl i hi N hN hx hI t hlen n hn _ g2 g1
   refine⟨_,⟨h2,rfl,q1,q2⟩,by simp +decide -implicitDefEqProofs only[k18b1,go_sem,g2,e1,e2,e3,L0]⟩)
  (fun e g ⟨g',hs',g1,g2⟩=>by
   cases hs'
   exact⟨_,⟨_,rfl,g1,g2⟩,by simp +decide -implicitDefEqProofs only[k18b1,go_sem,g2,Int.lt_irrefl,decide_false]⟩)
  bl.length 0 m _ h (by omega) hm ⟨_,rfl,h1,h0⟩
 exact⟨h',L,g1,g2⟩
set_option maxHeartbeats 4000000 in
theorem rmay_l2 (b c:C) (M:Tm.Node) (N:Nat) (hN:N<2^40) (x:Ins) (hl:x.args.length<2^50) (H:InT N x) (q:Nat) (hq:q≠1) (s:List Bool) (hs:s.length=N) (m:Nat) (hm:x.args.length<m) (h:Heap) (hx:h[q]?=some (.row 0 (encIns x))) (h0:h[0]?=some M) (h1:h[1]?=some (.row 1 (s.map bool))):
  ∃h',Tm.Loop Try.prog vals call n [1,3,7,8,9,10] k18b2 m ⟨[(1,.op 0 0),(3,.os 1 0 N (some N)),(7,b),(8,c),(9,.op q 0),(10,int 0)],h⟩=some (.exit 8,⟨[(1,.op 0 0),(3,.os 1 0 N (some N)),(7,b),(8,c),(9,.op q 0),(10,int x.args.length),(87,bool false)],h'⟩)∧h'[1]?=some (.row 1 ((u0 x s x.args.length).map bool))∧h'[0]?=some M:=by
 obtain⟨s',⟨h',rfl,g1,g2,g3⟩,L⟩:=Loop_run (P:=Try.prog) (vals:=vals) (call:=call) (n:=n) (ks:=[1,3,7,8,9,10]) (K:=k18b2) (id:=8) x.args.length
  (fun i t=>∃g,t=⟨[(1,.op 0 0),(3,.os 1 0 N (some N)),(7,b),(8,c),(9,.op q 0),(10,int i)],g⟩∧g[1]?=some (.row 1 ((u0 x s i).map bool))∧g[q]?=some (.row 0 (encIns x))∧g[0]?=some M)
  (fun t=>∃g,t=⟨[(1,.op 0 0),(3,.os 1 0 N (some N)),(7,b),(8,c),(9,.op q 0),(10,int x.args.length),(87,bool false)],g⟩∧g[1]?=some (.row 1 ((u0 x s x.args.length).map bool))∧g[q]?=some (.row 0 (encIns x))∧g[0]?=some M)
  (fun i e g hi ⟨g',hs',g1,g2,g3⟩=>by
   cases hs'
   have e1:decide ((i:Int)<x.args.length)=true:=by simp;omega
   have e2:0≤(i:Int)∧(i:Int)<x.args.length:=by omega
   have e3:=wrap_next (n:=x.args.length) (i:=i) (by omega) (by omega)
   have hv:=H.args _ (rd_mem e2.1 e2.2)
   have hlen:=u0_len x s i
   rw[hs] at hlen
   rw[u0]
   generalize u0 x s i=t at g1 hlen
   have g2':=g2
   simp only[encIns] at g2'
   have st:=store_b (h:=g) (q:=1) (k:=(rd x.args i).toNat) (s:=t) (by omega) false
   have hlb:lostB x i=(decide ((i:Int)>0)||(!decide (x.op=20)&& !decide (x.op=21))):=rfl
   have gq:(g.set 1 (.row 1 ((t.set (rd x.args i).toNat false).map bool)))[q]?=some (.row 0 (encIns x)):=by rw[List.getElem?_set_ne (Ne.symm hq)];exact g2
   have gz:(g.set 1 (.row 1 ((t.set (rd x.args i).toNat false).map bool)))[0]?=some M:=by rw[List.getElem?_set_ne (by decide)];exact g3
   cases c1:decide ((i:Int)>0) with
   |true=>
    rw[hlb,c1,if_pos (by rfl)]
    exact⟨_,⟨_,rfl,set_at g1,gq,gz⟩,by simp +decide -implicitDefEqProofs only[k18b2,go_sem,e1,e2,e3,g2',g1,hv,st,c1]⟩
   |false=>
    cases c2:decide (x.op=20) with
    |true=>
     rw[hlb,c1,c2,if_neg (by simp)]
     exact⟨_,⟨_,rfl,g1,g2,g3⟩,by simp +decide -implicitDefEqProofs only[k18b2,go_sem,e1,e2,e3,g2',g1,hv,c1,c2]⟩
    |false=>
     cases c3:decide (x.op=21) with
     |true=>
      rw[hlb,c1,c2,c3,if_neg (by simp)]
      exact⟨_,⟨_,rfl,g1,g2,g3⟩,by simp +decide -implicitDefEqProofs only[k18b2,go_sem,e1,e2,e3,g2',g1,hv,c1,c2,c3]⟩
     |false=>
      rw[hlb,c1,c2,c3,if_pos (by rfl)]
      exact⟨_,⟨_,rfl,set_at g1,gq,gz⟩,by simp +decide -implicitDefEqProofs only[k18b2,go_sem,e1,e2,e3,g2',g1,hv,st,c1,c2,c3]⟩)
  (fun e g ⟨g',hs',g1,g2,g3⟩=>by
   cases hs'
   have g2':=g2
   simp only[encIns] at g2'
   exact⟨_,⟨_,rfl,g1,g2,g3⟩,by simp +decide -implicitDefEqProofs only[k18b2,go_sem,g2',Int.lt_irrefl,decide_false]⟩)
  x.args.length 0 m _ h (by omega) hm ⟨_,rfl,h1,hx,h0⟩
 exact⟨h',L,g1,g3⟩
set_option maxHeartbeats 4000000 in
theorem rmay_l3 (u v w z:C) (bl:List Block) (q:Nat) (hq:q<bl.length) (N:Nat) (hN:N<2^40) (hl:(blkAt bl q).ins.length<2^50) (H:∀x∈(blkAt bl q).ins,(x.args.length<n∧x.args.length<2^50)∧InT N x) (s:List Bool) (hs:s.length=N) (m:Nat) (hm:(blkAt bl q).ins.length<m) (h:Heap) (h0:h[0]?=some (.row 0 [u,v,w,z,blocks bl])) (h1:h[1]?=some (.row 1 (s.map bool))):
  ∃h',Tm.Loop Try.prog vals call n [1,3,7,8] k18b3 m ⟨[(1,.op 0 0),(3,.os 1 0 N (some N)),(7,int q),(8,int 0)],h⟩=some (.exit 6,⟨[(1,.op 0 0),(3,.os 1 0 N (some N)),(7,int q),(8,int (blkAt bl q).ins.length),(71,bool false)],h'⟩)∧h'[1]?=some (.row 1 ((u1 (blkAt bl q).ins s (blkAt bl q).ins.length).map bool))∧h'[0]?=some (.row 0 [u,v,w,z,blocks bl]):=by
 have b0:0≤(q:Int)∧(q:Int)<bl.length:=by omega
 generalize hbi:(blkAt bl q).ins=l at hl H hm
 obtain⟨s',⟨h',rfl,g1,g2⟩,L⟩:=Loop_run (P:=Try.prog) (vals:=vals) (call:=call) (n:=n) (ks:=[1,3,7,8]) (K:=k18b3) (id:=6) l.length
  (fun i t=>∃g,t=⟨[(1,.op 0 0),(3,.os 1 0 N (some N)),(7,int q),(8,int i)],g⟩∧g[1]?=some (.row 1 ((u1 l s i).map bool))∧g[0]?=some (.row 0 [u,v,w,z,blocks bl]))
  (fun t=>∃g,t=⟨[(1,.op 0 0),(3,.os 1 0 N (some N)),(7,int q),(8,int l.length),(71,bool false)],g⟩∧g[1]?=some (.row 1 ((u1 l s l.length).map bool))∧g[0]?=some (.row 0 [u,v,w,z,blocks bl]))
  (fun i e g hi ⟨g',hs',g1,g2⟩=>by
   cases hs'
   have e1:decide ((i:Int)<l.length)=true:=by simp;omega
   have e2:0≤(i:Int)∧(i:Int)<l.length:=by omega
   have e3:=wrap_next (n:=l.length) (i:=i) (by omega) (by omega)
   obtain⟨⟨hn,hx⟩,hI⟩:=H _ (insAt_mem e2)
   have hlen:=u1_len l s i
   rw[hs] at hlen
   rw[u1]
   generalize u1 l s i=t at g1 hlen
   generalize hxi:insAt l i=x at hn hx hI
   have p1:=push_at' (x:=.row 0 (encIns x)) g1
   have p0:=push_at' (x:=.row 0 (encIns x)) g2
   have hq:g.length≠1:=by have:=(List.getElem?_eq_some_iff.1 g1).1;omega
   obtain⟨h2,L0,q1,q2⟩:=rmay_l2 (vals:=vals) (call:=call) (n:=n) (int q) (int i) _ N hN x hx hI g.length hq t hlen n hn _ (by rw[get_new]) p0 p1
   simp only[encIns] at L0
   exact⟨_,⟨h2,rfl,q1,q2⟩,by simp +decide -implicitDefEqProofs only[k18b3,go_sem,g2,b0,hbi,e1,e2,e3,set_new,get_new,hxi,encIns,L0]⟩)
  (fun e g ⟨g',hs',g1,g2⟩=>by
   cases hs'
   exact⟨_,⟨_,rfl,g1,g2⟩,by simp +decide -implicitDefEqProofs only[k18b3,go_sem,g2,b0,hbi,Int.lt_irrefl,decide_false]⟩)
  l.length 0 m _ h (by omega) hm ⟨_,rfl,h1,h0⟩
 exact⟨h',L,g1,g2⟩
set_option maxHeartbeats 4000000 in
theorem rmay_l4 (u v w z:C) (N:Nat) (hN:N<2^40) (bl:List Block) (hl:bl.length<2^50) (H:∀b∈bl,(b.ins.length<n∧b.ins.length<2^50)∧∀x∈b.ins,(x.args.length<n∧x.args.length<2^50)∧InT N x) (s:List Bool) (hs:s.length=N) (m:Nat) (hm:bl.length<m) (h:Heap) (h0:h[0]?=some (.row 0 [u,v,w,z,blocks bl])) (h1:h[1]?=some (.row 1 (s.map bool))):
  ∃h',Tm.Loop Try.prog vals call n [1,3,7] k18b4 m ⟨[(1,.op 0 0),(3,.os 1 0 N (some N)),(7,int 0)],h⟩=some (.exit 4,⟨[(1,.op 0 0),(3,.os 1 0 N (some N)),(7,int bl.length),(60,bool false)],h'⟩)∧h'[1]?=some (.row 1 ((u2 bl s bl.length).map bool)):=by
 obtain⟨s',⟨h',rfl,g1,g2⟩,L⟩:=Loop_run (P:=Try.prog) (vals:=vals) (call:=call) (n:=n) (ks:=[1,3,7]) (K:=k18b4) (id:=4) bl.length
  (fun i t=>∃g,t=⟨[(1,.op 0 0),(3,.os 1 0 N (some N)),(7,int i)],g⟩∧g[1]?=some (.row 1 ((u2 bl s i).map bool))∧g[0]?=some (.row 0 [u,v,w,z,blocks bl]))
  (fun t=>∃g,t=⟨[(1,.op 0 0),(3,.os 1 0 N (some N)),(7,int bl.length),(60,bool false)],g⟩∧g[1]?=some (.row 1 ((u2 bl s bl.length).map bool))∧g[0]?=some (.row 0 [u,v,w,z,blocks bl]))
  (fun i e g hi ⟨g',hs',g1,g2⟩=>by
   cases hs'
   have e1:decide ((i:Int)<bl.length)=true:=by simp;omega
   have e2:0≤(i:Int)∧(i:Int)<bl.length:=by omega
   have e3:=wrap_next (n:=bl.length) (i:=i) (by omega) (by omega)
   obtain⟨⟨hn,hx⟩,hI⟩:=H _ (blkAt_mem e2)
   have hlen:=u2_len bl s i
   rw[hs] at hlen
   rw[u2]
   generalize u2 bl s i=t at g1 hlen
   obtain⟨h2,L0,q1,q2⟩:=rmay_l3 (vals:=vals) (call:=call) (n:=n) u v w z bl i hi N hN hx hI t hlen n hn _ g2 g1
   exact⟨_,⟨h2,rfl,q1,q2⟩,by simp +decide -implicitDefEqProofs only[k18b4,go_sem,g2,e1,e2,e3,L0]⟩)
  (fun e g ⟨g',hs',g1,g2⟩=>by
   cases hs'
   exact⟨_,⟨_,rfl,g1,g2⟩,by simp +decide -implicitDefEqProofs only[k18b4,go_sem,g2,Int.lt_irrefl,decide_false]⟩)
  bl.length 0 m _ h (by omega) hm ⟨_,rfl,h1,h0⟩
 exact⟨h',L,g1⟩
set_option maxHeartbeats 4000000 in
theorem rmay_l5 (N:Nat) (hN:N+1<2^20) (s:List Bool) (hs:s.length=N+1) (m:Nat) (hm:N<m) (h:Heap) (h1:h[1]?=some (.row 1 (s.map bool))):
  ∃c h',Tm.Loop Try.prog vals call n [3,11,12] k18b5 m ⟨[(3,.os 1 0 (N+1) (some (N+1))),(11,.v (.slice none 0 0)),(12,int 1)],h⟩=some (.exit 10,⟨[(3,.os 1 0 (N+1) (some (N+1))),(11,c),(12,int (N+1:Nat)),(112,bool false)],h'⟩)∧GrowG int h' c (truesOf s 1 N):=by
 have hmr:(2:Nat)^22<maxRow:=by decide
 obtain⟨s',⟨c,h',rfl,g1⟩,L⟩:=Loop_run (P:=Try.prog) (vals:=vals) (call:=call) (n:=n) (ks:=[3,11,12]) (K:=k18b5) (id:=10) N
  (fun i t=>∃c g,t=⟨[(3,.os 1 0 (N+1) (some (N+1))),(11,c),(12,int (i+1:Nat))],g⟩∧GrowG int g c (truesOf s 1 i)∧g[1]?=some (.row 1 (s.map bool))∧∀o q,c≠ .os 1 0 o q)
  (fun t=>∃c g,t=⟨[(3,.os 1 0 (N+1) (some (N+1))),(11,c),(12,int (N+1:Nat)),(112,bool false)],g⟩∧GrowG int g c (truesOf s 1 N))
  (fun i e g hi ⟨c,g',hs',g1,g2,g3⟩=>by
   cases hs'
   have e1:decide (((i+1:Nat):Int)<((N+1:Nat):Int))=true:=by simp;omega
   have e2:0≤((i+1:Nat):Int)∧((i+1:Nat):Int)<((N+1:Nat):Int):=by omega
   have e3:=wrap_next (n:=N+1) (i:=i+1) (by omega) (by omega)
   have hb:((s.map bool).drop (i+1)).head?=some (bool (trueAt s (1+i))):=by
    rw[List.head?_drop,List.getElem?_map,List.getElem?_eq_getElem (by omega)]
    unfold trueAt
    rw[Nat.add_comm 1 i,List.getD_eq_getElem?_getD,List.getElem?_eq_getElem (by omega)];rfl
   have hlen:=trues_len s 1 i
   rw[trues_next]
   generalize truesOf s 1 i=out at g1 hlen
   have e5:1+i=i+1:=by omega
   cases c1:trueAt s (1+i) with
   |false=>
    rw[c1] at hb
    rw[if_neg (by decide),List.append_nil]
    exact⟨_,⟨c,_,rfl,g1,g2,g3⟩,by simp +decide -implicitDefEqProofs only[k18b5,go_sem,e1,e2,e3,g2,Int.toNat_natCast,hb]⟩
   |true=>
    rw[c1] at hb
    rw[if_pos rfl,e5]
    obtain⟨c',h',a1,a2,a3,a4⟩:=(g1.push (x:=.row 1 [int (i+1:Nat)])).append ((i+1:Nat):Int) (by omega)
    refine⟨_,⟨c',h',rfl,a2,a4 1 _ (push_at' g2) g3,fun o q hq=> ?_⟩,by simp +decide -implicitDefEqProofs only[k18b5,go_sem,e1,e2,e3,g2,Int.toNat_natCast,hb,a1]⟩
    rw[a3] at hq
    have:=(List.getElem?_eq_some_iff.1 g2).1
    injection hq with q1 _ _ _;simp only[List.length_append,List.length_cons,List.length_nil] at q1;omega)
  (fun e g ⟨c,g',hs',g1,g2,g3⟩=>by
   cases hs'
   exact⟨_,⟨c,_,rfl,g1⟩,by simp +decide -implicitDefEqProofs only[k18b5,go_sem,Int.lt_irrefl,decide_false]⟩)
  N 0 m _ h (by omega) hm ⟨_,_,rfl,.inl ⟨rfl,rfl⟩,h1,by simp⟩
 exact⟨c,h',L,g1⟩
end
end Go.Proofs.Ytlcnmocicghilaa.Tk
namespace Go.Proofs.Ytlcnmocicghilaa.Tk
open Go.Tm Go.Tm.Tab
set_option maxRecDepth 100000
end Go.Proofs.Ytlcnmocicghilaa.Tk
namespace Go.Proofs.Ytlcnmocicghilaa.Tk
open Go.Tm Go.Tm.Tab
set_option maxRecDepth 100000
end Go.Proofs.Ytlcnmocicghilaa.Tk
namespace Go.Proofs.Ytlcnmocicghilaa.Tk
open Go.Tm Go.Tm.Tab
set_option maxRecDepth 100000
theorem fnAt_mem {l:List Tm.Func}{k:Int}(h:0≤k∧k<l.length):fnAt l k∈l:=by
 unfold fnAt;rw[List.getD_eq_getElem?_getD,List.getElem?_eq_getElem (by omega)];exact List.getElem_mem _
def hasF (m:Tm.Module)(k:Int):Bool:= !(decide (k<0)||decide (k≥(m.funcs.length:Int)))
theorem has_in {m:Tm.Module}{k:Int}(h:hasF m k=true):0≤k∧k<m.funcs.length:=by
 unfold hasF at h
 rw[Bool.not_eq_true',Bool.or_eq_false_iff] at h
 have h1:=of_decide_eq_false h.1
 have h2:=of_decide_eq_false h.2
 omega
end Go.Proofs.Ytlcnmocicghilaa.Tk
namespace Go.Proofs.Ytlcnmocicghilaa.Tk
open Go.Tm Go.Tm.Tab
set_option maxRecDepth 100000
theorem rep_boolN (n:Nat)(c:C):rep n [c]=List.replicate n c:=by
 induction n with
 |zero=>rfl
 |succ n ih=>rw[rep_succ,ih];rfl
theorem types_small (f:Tm.Func)(F:Fine f)(hp:f.params.length≤20):(typesOf f).length<2^19∧0<(typesOf f).length:=by
 have b1:=F.blocks
 have hle:=tsB_le 90 f.blocks fun b hb=>F.ins b hb
 have hle2:f.blocks.length*90≤16*90:=Nat.mul_le_mul_right _ b1
 constructor
 ·simp[typesOf];omega
 ·simp[typesOf]
theorem values69_runs (f:Tm.Func)(F:Fine f)(hp:f.params.length≤20):Runs Try.prog tab 201 69 [.agg (encFunc f)] (int ((typesOf f).length-1:Int)):=by
 refine Runs.by (rs:=[.tmp 2]) (N:=7) rfl Try.func69 rfl rfl (by simp) fun k hk=> ?_
 have hlen:=types_small f F hp
 have ht:∀h,callAt Try.prog tab k 83 [.agg (encFunc f)] h=some (ints (typesOf f),h):=fun h=>wtypes_runs f F hp k (by omega) _ h (by simp only[mapC_cons,mapC_nil,depth,view_func,Option.bind_some])
 have hw:=wrap_last (n:=(typesOf f).length) (by omega)
 rw[enc_func] at*
 simp +decide -implicitDefEqProofs only[k69,go_sem,ht,hw]
 exact⟨_,_,rfl,rfl⟩
set_option maxHeartbeats 4000000 in
theorem may_runs (f:Tm.Func) (F:Fine f) (hp:f.params.length≤20) (H:∀b∈f.blocks,∀x∈b.ins,InT (typesOf f).length x):Runs Try.prog tab (2^21) 40 [.agg (encFunc f)] (ints (truesOf (mayOf f.blocks (typesOf f).length) 0 (typesOf f).length)):=by
 refine Runs.by (rs:=[.tmp 2]) (N:=103) rfl Try.func40 rfl rfl (by simp) fun k hk=> ?_
 have hlen:=types_small f F hp
 have b1:=F.blocks
 have hv:∀h,callAt Try.prog tab k 69 [.agg (encFunc f)] h=some (int ((typesOf f).length-1:Int),h):=fun h=>values69_runs f F hp k (by omega) _ h (by simp only[mapC_cons,mapC_nil,depth,view_func,Option.bind_some])
 generalize hN:(typesOf f).length=N at hlen H hv⊢
 have hw:IntKind.i64.wrap ((N:Int)-1+1)=(N:Int):=by rw[wrap_in (by omega) (by omega)];omega
 have eM:0≤(N:Int)∧(N:Int)≤(N:Int)∧(N:Int)≤(maxRow:Nat):=⟨by omega,by omega,by unfold maxRow;omega⟩
 have hB1:∀b∈f.blocks,(b.ins.length<k∧b.ins.length<2^50)∧∀x∈b.ins,InT N x:=fun b hb=>⟨by have:=F.ins b hb;omega,H b hb⟩
 have hB2:∀b∈f.blocks,(b.ins.length<k∧b.ins.length<2^50)∧∀x∈b.ins,(x.args.length<k∧x.args.length<2^50)∧InT N x:=fun b hb=>⟨by have:=F.ins b hb;omega,fun x hx=>⟨by have:=(F.into b hb x hx).1;omega,H b hb x hx⟩⟩
 have r1:[Tm.Node.row 0 [str f.name,bool f.out,ints f.params,int f.result,blocks f.blocks],.row 1 (List.replicate N (.v (.bool false)))][1]?=some (.row 1 ((List.replicate N false).map bool)):=by rw[List.map_replicate];rfl
 obtain⟨h1,L1,q1,q2⟩:=may_l1 (vals:=valsOf tab) (call:=callAt Try.prog tab k) (n:=k) N (by omega) f.blocks (by omega) hB1 (List.replicate N false) (by simp) k (by omega) _ r1
 have q2':h1[0]?=some (.row 0 [str f.name,bool f.out,ints f.params,int f.result,blocks f.blocks]):=q2
 obtain⟨h2,L2,q3⟩:=may_l4 (vals:=valsOf tab) (call:=callAt Try.prog tab k) (n:=k) N (by omega) f.blocks (by omega) hB2 _ (by rw[m1_len];simp) k (by omega) h1 q1
 obtain⟨c,h3,L3,g⟩:=may_l5 (vals:=valsOf tab) (call:=callAt Try.prog tab k) (n:=k) N (by omega) _ (by rw[u2_len,m1_len];simp) k (by omega) h2 q3
 rw[enc_func] at*
 simp +decide -implicitDefEqProofs only[k40,go_sem,hv,hw,eM,Int.toNat_natCast,rep_boolN,L1,q2',L2,L3]
 exact⟨_,_,rfl,g.viewI⟩
set_option maxHeartbeats 4000000 in
theorem rmay_runs (f:Tm.Func) (F:Fine f) (hp:f.params.length≤20) (H:∀b∈f.blocks,∀x∈b.ins,InT (typesOf f).length x):Runs Try.prog tab (2^21) 18 [.agg (encFunc f)] (ints (truesOf (mayOf f.blocks (typesOf f).length) 1 ((typesOf f).length-1))):=by
 refine Runs.by (rs:=[.tmp 2]) (N:=124) rfl Try.func18 rfl rfl (by simp) fun k hk=> ?_
 have hlen:=types_small f F hp
 have b1:=F.blocks
 have hv:∀h,callAt Try.prog tab k 41 [.agg (encFunc f)] h=some (int ((typesOf f).length-1:Int),h):=fun h=>values_runs f F hp k (by omega) _ h (by simp only[mapC_cons,mapC_nil,depth,view_func,Option.bind_some])
 generalize hN:(typesOf f).length=N at hlen H hv⊢
 have hw:IntKind.i64.wrap ((N:Int)-1+1)=(N:Int):=by rw[wrap_in (by omega) (by omega)];omega
 have eM:0≤(N:Int)∧(N:Int)≤(N:Int)∧(N:Int)≤(maxRow:Nat):=⟨by omega,by omega,by unfold maxRow;omega⟩
 have hB1:∀b∈f.blocks,(b.ins.length<k∧b.ins.length<2^50)∧∀x∈b.ins,InT N x:=fun b hb=>⟨by have:=F.ins b hb;omega,H b hb⟩
 have hB2:∀b∈f.blocks,(b.ins.length<k∧b.ins.length<2^50)∧∀x∈b.ins,(x.args.length<k∧x.args.length<2^50)∧InT N x:=fun b hb=>⟨by have:=F.ins b hb;omega,fun x hx=>⟨by have:=(F.into b hb x hx).1;omega,H b hb x hx⟩⟩
 have r1:[Tm.Node.row 0 [str f.name,bool f.out,ints f.params,int f.result,blocks f.blocks],.row 1 (List.replicate N (.v (.bool false)))][1]?=some (.row 1 ((List.replicate N false).map bool)):=by rw[List.map_replicate];rfl
 obtain⟨h1,L1,q1,q2⟩:=rmay_l1 (vals:=valsOf tab) (call:=callAt Try.prog tab k) (n:=k) (str f.name) (bool f.out) (ints f.params) (int f.result) N (by omega) f.blocks (by omega) hB1 (List.replicate N false) (by simp) k (by omega) _ rfl r1
 obtain⟨h2,L2,q3⟩:=rmay_l4 (vals:=valsOf tab) (call:=callAt Try.prog tab k) (n:=k) _ _ _ _ N (by omega) f.blocks (by omega) hB2 _ (by rw[m1_len];simp) k (by omega) h1 q2 q1
 have hs3:(u2 f.blocks (m1 f.blocks (List.replicate N false) f.blocks.length) f.blocks.length).length=N-1+1:=by rw[u2_len,m1_len];simp;omega
 obtain⟨c,h3,L3,g⟩:=rmay_l5 (vals:=valsOf tab) (call:=callAt Try.prog tab k) (n:=k) (N-1) (by omega) _ hs3 k (by omega) h2 q3
 rw[show N-1+1=N by omega] at L3
 rw[enc_func] at*
 simp +decide -implicitDefEqProofs only[k18,go_sem,hv,hw,eM,Int.toNat_natCast,rep_boolN,L1,L2,L3]
 exact⟨_,_,rfl,g.viewI⟩
theorem right_in (m:Tm.Module)(h:checkN m=0)(f:Tm.Func)(hf:f∈m.funcs):∀b∈f.blocks,∀x∈b.ins,(roomI x=true→1≤x.to)∧InT (typesOf f).length x:=by
 have hu:usedB f=true∧typedB m f=true:=by
  unfold checkN at h
  repeat (split at h; · cases h)
  rename_i h6 h7
  rw[Bool.not_eq_true,List.any_eq_false] at h6 h7
  exact⟨by simpa using h6 f hf,by simpa using h7 f hf⟩
 intro b hb x hx
 have ha:=used_args hu.1 b hb x hx
 rw[types_len]
 have ht:roomI x=true→1≤x.to∧x.to<((f.params.length+1+(posOf f.blocks).length:Nat):Int):=fun hr=>by
  have hty:=hu.2
  unfold typedB at hty
  rw[Bool.not_eq_true',List.any_eq_false] at hty
  have h1:=hty b hb
  unfold badFB at h1
  rw[Bool.not_eq_true,List.any_eq_false] at h1
  have h2:=h1 x hx
  unfold badFI at h2
  rw[Bool.not_eq_true,Bool.not_eq_false'] at h2
  unfold roomI at hr
  rw[Bool.and_eq_true] at hr
  have hop:=of_decide_eq_true hr.1
  have tx:x.type=3:=by
   unfold fitB at h2
   rw[hop] at h2
   simp(decide:=true) only[fitS] at h2
   simpa using h2
  have hn:=hu.1
  unfold usedB at hn
  rw[Bool.and_eq_true,Bool.not_eq_true',Bool.not_eq_true',any_no,any_no] at hn
  obtain⟨i,hi,rfl⟩:=blk_of_mem hb
  have h3:=hn.1 i hi
  unfold badNB at h3
  rw[any_no] at h3
  obtain⟨k,hk,rfl⟩:=ins_of_mem hx
  have h4:=h3 k hk
  unfold badNm at h4
  have hty1:tyI (insAt (blkAt f.blocks i).ins k)=true:=by unfold tyI;rw[tx];rfl
  rw[hty1,Bool.true_and,Bool.not_eq_false'] at h4
  have h5:=of_decide_eq_true h4
  have h6:=posU_le (bl:=f.blocks) hi (k:=k+1) hk
  rw[posU_next,if_pos hty1,List.length_append,List.length_singleton] at h6
  omega
 exact⟨fun hr=>(ht hr).1,fun hr=>by have:=ht hr;omega,fun v hv=>by have:=ha v hv;omega⟩
set_option maxHeartbeats 4000000 in
theorem pmay_runs (m:Tm.Module) (F:FineM m) (k:Int):RunsF Try.prog tab (2^36+300) 17 [.agg (encModule m),int k] (ints (if (decide (checkN m=0)&&hasF m k)=true then truesOf (mayOf (fnAt m.funcs k).blocks (typesOf (fnAt m.funcs k)).length) 0 (typesOf (fnAt m.funcs k)).length else[])):=by
 refine RunsF.by (rs:=[.tmp 4]) (N:=25) rfl Try.func17 rfl rfl (by simp) (by rw[enc_module];simp +decide -implicitDefEqProofs only[depth,go_sem]) fun n hn=> ?_
 rw[enc_module]
 have hc:∀h,callAt Try.prog tab n 23 [.agg [externs m.externs,globals m.globals,tables m.tables,funcs m.funcs]] h=some (int (checkN m),h):=fun h=>wcheck_runs m F n (by omega) _ h (by rw[enc_module];simp +decide -implicitDefEqProofs only[depth,go_sem])
 have hv:valsOf tab 23=true:=by decide
 have hu:hasF m k= !(decide (k<0)||decide (k≥(m.funcs.length:Int))):=rfl
 have hck:decide (checkN m=0)=true→checkN m=0:=of_decide_eq_true
 generalize hg:checkN m=ck at hc hck
 cases c0:decide (ck=0) with
 |false=>
  simp +decide -implicitDefEqProofs only[k17,go_sem,hc,hv,c0]
  exact⟨_,_,rfl,rfl⟩
 |true=>
  cases c1:decide (k<0) with
  |true=>
   rw[hu,c1]
   simp +decide -implicitDefEqProofs only[k17,go_sem,hc,hv,c0,c1]
   exact⟨_,_,rfl,rfl⟩
  |false=>
   cases c2:decide (k≥(m.funcs.length:Int)) with
   |true=>
    rw[hu,c1,c2]
    simp +decide -implicitDefEqProofs only[k17,go_sem,hc,hv,c0,c1,c2]
    exact⟨_,_,rfl,rfl⟩
   |false=>
    have hh:hasF m k=true:=by rw[hu,c1,c2];rfl
    have hk:=has_in hh
    have hf:=fnAt_mem hk
    have Ff:=F.fn _ hf
    rw[hh,Bool.and_true,if_pos rfl]
    have hI:=right_in m (hg.trans (hck c0)) _ hf
    generalize hfa:fnAt m.funcs k=f at hf Ff hI
    have hs:∀h,callAt Try.prog tab n 40 [.agg [str f.name,bool f.out,ints f.params,int f.result,blocks f.blocks]] h=some (ints (truesOf (mayOf f.blocks (typesOf f).length) 0 (typesOf f).length),h):=fun h=>may_runs f Ff.1 (by omega) (fun b hb x hx=>(hI b hb x hx).2) n (by omega) _ h (by rw[enc_func];simp +decide -implicitDefEqProofs only[depth,go_sem])
    simp +decide -implicitDefEqProofs only[k17,go_sem,hc,hv,c0,c1,c2,hk,hfa,enc_func,hs]
    exact⟨_,_,rfl,view_ints _⟩
end Go.Proofs.Ytlcnmocicghilaa.Tk
namespace Go.Proofs.Ytlcnmocicghilaa.Tk
open Go.Tm Go.Tm.Tab
set_option maxRecDepth 100000
theorem light2_runs (f:Tm.Func)(hl:∀b∈f.blocks,b.ins.length<2^45):∃t,Runs Try.prog tab (2^36+1) 21 [.agg (encFunc f)] (bool t)∧(t=true→Fine f∧f.name.size≤40∧f.params.length≤8):=by
 by_cases c1:(f.name.size:Int)>40
 ·refine⟨false,Runs.by (rs:=[.tmp 2]) (N:=77) rfl Try.func21 rfl rfl (by simp) fun k hk=> ?_,fun h=>by cases h⟩
  rw[enc_func]
  simp +decide -implicitDefEqProofs only[bind_ite,andThen_ite,leaves_ite,k21,go_sem,decide_eq_true c1]
  exact⟨_,_,rfl,rfl⟩
 by_cases c2:(f.params.length:Int)>8
 ·refine⟨false,Runs.by (rs:=[.tmp 2]) (N:=77) rfl Try.func21 rfl rfl (by simp) fun k hk=> ?_,fun h=>by cases h⟩
  rw[enc_func]
  simp +decide -implicitDefEqProofs only[bind_ite,andThen_ite,leaves_ite,k21,go_sem,decide_eq_false c1,decide_eq_true c2]
  exact⟨_,_,rfl,rfl⟩
 by_cases c3:(f.blocks.length:Int)>16
 ·refine⟨false,Runs.by (rs:=[.tmp 2]) (N:=77) rfl Try.func21 rfl rfl (by simp) fun k hk=> ?_,fun h=>by cases h⟩
  rw[enc_func]
  simp +decide -implicitDefEqProofs only[bind_ite,andThen_ite,leaves_ite,k21,go_sem,decide_eq_false c1,decide_eq_false c2,decide_eq_true c3]
  exact⟨_,_,rfl,rfl⟩
 refine⟨lightB f.blocks 0,Runs.by (rs:=[.tmp 2]) (N:=77) rfl Try.func21 rfl rfl (by simp) fun k hk=> ?_,fun ht=>⟨⟨by omega,fun b hb=>(lightB_ins (Int.le_refl 0) ht b hb).1,fun b hb=>(lightB_ins (Int.le_refl 0) ht b hb).2⟩,by omega,by omega⟩⟩
 obtain⟨e,h⟩:=light_out (vals:=valsOf tab) (call:=callAt Try.prog tab k) (n:=k) f (by omega) hl hk f.blocks.length 0 k 0 (by omega) (by omega) (by omega)
 rw[show((0:Nat):Int)=0 from rfl,List.drop_zero] at h
 rw[enc_func] at h⊢
 cases hb:lightB f.blocks 0 with
 |true=>
  rw[if_pos hb] at h
  simp +decide -implicitDefEqProofs only[bind_ite,andThen_ite,leaves_ite,k21,go_sem,decide_eq_false c1,decide_eq_false c2,decide_eq_false c3,h]
  exact⟨_,_,rfl,rfl⟩
 |false=>
  rw[if_neg (by rw[hb];decide)] at h
  simp +decide -implicitDefEqProofs only[bind_ite,andThen_ite,leaves_ite,k21,go_sem,decide_eq_false c1,decide_eq_false c2,decide_eq_false c3,h]
  exact⟨_,_,rfl,rfl⟩
open Classical in
noncomputable def lightT (f:Tm.Func):Bool:=if h:∃t,Runs Try.prog tab (2^36+1) 21 [.agg (encFunc f)] (bool t)∧(t=true→Fine f∧f.name.size≤40∧f.params.length≤8) then Classical.choose h else false
theorem light_is (f:Tm.Func)(hl:∀b∈f.blocks,b.ins.length<2^45):Runs Try.prog tab (2^36+1) 21 [.agg (encFunc f)] (bool (lightT f))∧(lightT f=true→Fine f∧f.name.size≤40∧f.params.length≤8):=by
 have h:=light2_runs f hl
 unfold lightT
 rw[dif_pos h]
 exact Classical.choose_spec h
def sumS (l:List Tm.Func):Nat:=(l.map fun f=>sizeOfL f.blocks).sum
theorem sumS_next {l:List Tm.Func}{i:Nat}(h:i<l.length):sumS (l.take (i+1))=sumS (l.take i)+sizeOfL (fnAt l i).blocks:=by
 unfold sumS
 rw[List.take_add_one,List.getElem?_eq_getElem h,List.map_append,List.sum_append]
 simp[fnAt,List.getD_eq_getElem?_getD,List.getElem?_eq_getElem h]
def bigX (x:Extern):Bool:=decide ((x.name.size:Int)>40)||decide ((x.params.length:Int)>10)
def bigG (x:Tm.Global):Bool:=decide ((x.name.size:Int)>40)||decide ((x.cells.length:Int)>20)
def bigT (x:Table):Bool:=decide ((x.name.size:Int)>40)||decide ((x.funcs.length:Int)>16)
theorem small_l0 {vals:FuncId→Bool}{call:CallF}{n:Nat}(m:Tm.Module)(hl:m.externs.length<2^50)(h:Heap)(h0:h[0]?=some (.row 0 [externs m.externs,globals m.globals,tables m.tables,funcs m.funcs]))(mm:Nat)(hm:m.externs.length<mm):Tm.Loop Try.prog vals call n [1,3] k7b0 mm ⟨[(1,.op 0 0),(3,int 0)],h⟩=some (if m.externs.any bigX=true then(.ret,⟨[(2,bool false)],h⟩) else(.exit 0,⟨[(1,.op 0 0),(3,int m.externs.length),(34,bool false)],h⟩)):=by
 obtain⟨h1,e,L⟩:=Loop_any (P:=Try.prog) (vals:=vals) (call:=call) (n:=n) (ks:=[1,3]) (K:=k7b0) (id:=0) m.externs.length (fun i=>bigX (extAt m.externs i)) (fun i=>[(1,.op 0 0),(3,int i)]) [(2,bool false)] [(1,.op 0 0),(3,int m.externs.length),(34,bool false)] (fun g=>g=h)
  (fun i g hi hg=>⟨h,rfl,by
   rw[hg]
   have e1:decide ((i:Int)<m.externs.length)=true:=by simp;omega
   have e2:0≤(i:Int)∧(i:Int)<m.externs.length:=by omega
   have e3:=wrap_next (n:=m.externs.length) (i:=i) (by omega) (by omega)
   unfold bigX
   cases c1:decide (((extAt m.externs i).name.size:Int)>40)<;>cases c2:decide (((extAt m.externs i).params.length:Int)>10)<;>simp +decide -implicitDefEqProofs only[k7b0,go_sem,e1,e2,e3,set_new,c1,c2,h0]⟩)
  (fun g hg=>⟨h,rfl,by rw[hg];simp +decide -implicitDefEqProofs only[k7b0,go_sem,Int.lt_irrefl,decide_false,h0]⟩) m.externs.length 0 mm h (by omega) hm rfl
 rw[e] at L
 simp only[show((0:Nat):Int)=0 from rfl] at L
 rw[any_exts] at L
 exact L
theorem small_l1 {vals:FuncId→Bool}{call:CallF}{n:Nat}(m:Tm.Module)(hl:m.globals.length<2^50)(h:Heap)(h0:h[0]?=some (.row 0 [externs m.externs,globals m.globals,tables m.tables,funcs m.funcs]))(mm:Nat)(hm:m.globals.length<mm):Tm.Loop Try.prog vals call n [1,4] k7b1 mm ⟨[(1,.op 0 0),(4,int 0)],h⟩=some (if m.globals.any bigG=true then(.ret,⟨[(2,bool false)],h⟩) else(.exit 2,⟨[(1,.op 0 0),(4,int m.globals.length),(59,bool false)],h⟩)):=by
 obtain⟨h1,e,L⟩:=Loop_any (P:=Try.prog) (vals:=vals) (call:=call) (n:=n) (ks:=[1,4]) (K:=k7b1) (id:=2) m.globals.length (fun i=>bigG (gloAt m.globals i)) (fun i=>[(1,.op 0 0),(4,int i)]) [(2,bool false)] [(1,.op 0 0),(4,int m.globals.length),(59,bool false)] (fun g=>g=h)
  (fun i g hi hg=>⟨h,rfl,by
   rw[hg]
   have e1:decide ((i:Int)<m.globals.length)=true:=by simp;omega
   have e2:0≤(i:Int)∧(i:Int)<m.globals.length:=by omega
   have e3:=wrap_next (n:=m.globals.length) (i:=i) (by omega) (by omega)
   unfold bigG
   cases c1:decide (((gloAt m.globals i).name.size:Int)>40)<;>cases c2:decide (((gloAt m.globals i).cells.length:Int)>20)<;>simp +decide -implicitDefEqProofs only[k7b1,go_sem,e1,e2,e3,set_new,c1,c2,h0]⟩)
  (fun g hg=>⟨h,rfl,by rw[hg];simp +decide -implicitDefEqProofs only[k7b1,go_sem,Int.lt_irrefl,decide_false,h0]⟩) m.globals.length 0 mm h (by omega) hm rfl
 rw[e] at L
 simp only[show((0:Nat):Int)=0 from rfl] at L
 rw[any_glos] at L
 exact L
theorem small_l2 {vals:FuncId→Bool}{call:CallF}{n:Nat}(m:Tm.Module)(hl:m.tables.length<2^50)(h:Heap)(h0:h[0]?=some (.row 0 [externs m.externs,globals m.globals,tables m.tables,funcs m.funcs]))(mm:Nat)(hm:m.tables.length<mm):Tm.Loop Try.prog vals call n [1,5] k7b2 mm ⟨[(1,.op 0 0),(5,int 0)],h⟩=some (if m.tables.any bigT=true then(.ret,⟨[(2,bool false)],h⟩) else(.exit 4,⟨[(1,.op 0 0),(5,int m.tables.length),(84,bool false)],h⟩)):=by
 obtain⟨h1,e,L⟩:=Loop_any (P:=Try.prog) (vals:=vals) (call:=call) (n:=n) (ks:=[1,5]) (K:=k7b2) (id:=4) m.tables.length (fun i=>bigT (tblAt m.tables i)) (fun i=>[(1,.op 0 0),(5,int i)]) [(2,bool false)] [(1,.op 0 0),(5,int m.tables.length),(84,bool false)] (fun g=>g=h)
  (fun i g hi hg=>⟨h,rfl,by
   rw[hg]
   have e1:decide ((i:Int)<m.tables.length)=true:=by simp;omega
   have e2:0≤(i:Int)∧(i:Int)<m.tables.length:=by omega
   have e3:=wrap_next (n:=m.tables.length) (i:=i) (by omega) (by omega)
   unfold bigT
   cases c1:decide (((tblAt m.tables i).name.size:Int)>40)<;>cases c2:decide (((tblAt m.tables i).funcs.length:Int)>16)<;>simp +decide -implicitDefEqProofs only[k7b2,go_sem,e1,e2,e3,set_new,c1,c2,h0]⟩)
  (fun g hg=>⟨h,rfl,by rw[hg];simp +decide -implicitDefEqProofs only[k7b2,go_sem,Int.lt_irrefl,decide_false,h0]⟩) m.tables.length 0 mm h (by omega) hm rfl
 rw[e] at L
 simp only[show((0:Nat):Int)=0 from rfl] at L
 rw[any_tbls] at L
 exact L
theorem small_l3 {vals:FuncId→Bool}{call:CallF}{n:Nat}(m:Tm.Module)(hl:m.funcs.length≤26)(h:Heap)(h0:h[0]?=some (.row 0 [externs m.externs,globals m.globals,tables m.tables,funcs m.funcs]))(hc:∀f∈m.funcs,∀h,call 21 [.agg [str f.name,bool f.out,ints f.params,int f.result,blocks f.blocks]] h=some (bool (lightT f),h))(hz:∀f∈m.funcs,Fine f→∀h,call 22 [.agg [str f.name,bool f.out,ints f.params,int f.result,blocks f.blocks]] h=some (int (sizeOfL f.blocks),h))(hf:∀f∈m.funcs,lightT f=true→Fine f)(hs:∀f,Fine f→sizeOfL f.blocks≤1440)(mm:Nat)(hm:m.funcs.length<mm):
  ((List.range' 0 m.funcs.length).any (fun i=> !lightT (fnAt m.funcs i))=true∧∃h',Tm.Loop Try.prog vals call n [1,6,7] k7b3 mm ⟨[(1,.op 0 0),(6,int 0),(7,int 0)],h⟩=some (.ret,⟨[(2,bool false)],h'⟩))∨((List.range' 0 m.funcs.length).any (fun i=> !lightT (fnAt m.funcs i))=false∧∃s,(s=⟨[(1,.op 0 0),(6,int (sumS m.funcs:Nat)),(7,int m.funcs.length),(109,bool false)],h⟩)∧Tm.Loop Try.prog vals call n [1,6,7] k7b3 mm ⟨[(1,.op 0 0),(6,int 0),(7,int 0)],h⟩=some (.exit 6,s)):=by
 refine Loop_anyS (P:=Try.prog) (vals:=vals) (call:=call) (n:=n) (ks:=[1,6,7]) (K:=k7b3) (id:=6) m.funcs.length (fun i=> !lightT (fnAt m.funcs i))
  (fun i s=>∃z:Nat,s=⟨[(1,.op 0 0),(6,int z),(7,int i)],h⟩∧z≤i*1440∧z=sumS (m.funcs.take i))
  (fun s=>s=⟨[(1,.op 0 0),(6,int (sumS m.funcs:Nat)),(7,int m.funcs.length),(109,bool false)],h⟩) [(2,bool false)]
  (fun i e g hi ⟨z,hq,hzz,hzs⟩ hbad=>by
   cases hq
   have e1:decide ((i:Int)<m.funcs.length)=true:=by simp;omega
   have e2:0≤(i:Int)∧(i:Int)<m.funcs.length:=by omega
   have hx:fnAt m.funcs i∈m.funcs:=getD_mem hi
   have hc1:=hc _ hx
   have hb:lightT (fnAt m.funcs i)=false:=by simpa using hbad
   rw[hb] at hc1
   refine⟨h, ?_⟩
   simp +decide -implicitDefEqProofs only[k7b3,go_sem,e1,e2,h0,hc1])
  (fun i e g hi ⟨z,hq,hzz,hzs⟩ hbad=>by
   cases hq
   have e1:decide ((i:Int)<m.funcs.length)=true:=by simp;omega
   have e2:0≤(i:Int)∧(i:Int)<m.funcs.length:=by omega
   have e3:=wrap_next (n:=m.funcs.length) (i:=i) (by omega) (by omega)
   have hx:fnAt m.funcs i∈m.funcs:=getD_mem hi
   have hc1:=hc _ hx
   have hb:lightT (fnAt m.funcs i)=true:=by simpa using hbad
   rw[hb] at hc1
   have hF:=hf _ hx hb
   have hz1:=hz _ hx hF
   have hsz:=hs _ hF
   have hw:IntKind.i64.wrap ((z:Int)+(sizeOfL (fnAt m.funcs i).blocks:Int))=((z+sizeOfL (fnAt m.funcs i).blocks:Nat):Int):=by rw[wrap_in (by omega) (by omega)];omega
   refine⟨_,⟨z+sizeOfL (fnAt m.funcs i).blocks,rfl,by omega,by rw[sumS_next hi,hzs]⟩, ?_⟩
   simp +decide -implicitDefEqProofs only[k7b3,go_sem,e1,e2,e3,h0,hc1,hz1,hw])
  (fun e g ⟨z,hq,hzz,hzs⟩=>by
   cases hq
   rw[List.take_length] at hzs
   refine⟨_,rfl, ?_⟩
   rw[hzs]
   simp +decide -implicitDefEqProofs only[k7b3,go_sem,h0,Int.lt_irrefl,decide_false])
  m.funcs.length 0 mm _ h (by omega) hm ⟨0,rfl,by omega,rfl⟩
theorem size_le (f:Tm.Func)(F:Fine f):sizeOfL f.blocks≤1440:=by
 have h1:∀l:List Block,(∀b∈l,b.ins.length≤90)→sizeOfL l≤l.length*90:=by
  intro l
  induction l with
  |nil=>intro _;exact Nat.le_refl _
  |cons b l ih=>
   intro h
   have h2:=ih fun b hb=>h b (List.mem_cons_of_mem _ hb)
   have h3:=h b (List.mem_cons_self ..)
   simp only[sizeOfL,List.map_cons,List.sum_cons,List.length_cons,Nat.add_mul] at h2⊢
   omega
 have:=h1 f.blocks F.ins
 have:=F.blocks
 have:f.blocks.length*90≤16*90:=Nat.mul_le_mul_right _ F.blocks
 omega
set_option maxHeartbeats 4000000 in
theorem small_runs (m:Tm.Module) (hl:∀f∈m.funcs,∀b∈f.blocks,b.ins.length<2^45):∃t,Runs Try.prog tab (2^36+20) 7 [.agg (encModule m)] (bool t)∧(t=true→FineM m):=by
 obtain⟨d1,q1⟩:∃d,decide ((m.externs.length:Int)>14)=d:=⟨_,rfl⟩
 obtain⟨d2,q2⟩:∃d,decide ((m.globals.length:Int)>14)=d:=⟨_,rfl⟩
 obtain⟨d3,q3⟩:∃d,decide ((m.tables.length:Int)>8)=d:=⟨_,rfl⟩
 obtain⟨d4,q4⟩:∃d,decide ((m.funcs.length:Int)>26)=d:=⟨_,rfl⟩
 have hRby:∀t,(∀k,2^36+19≤k→∃c h,fin Try.prog [.tmp 2] (exec Try.prog (valsOf tab) (callAt Try.prog tab k) k k7 ⟨enterE 0 [.agg (encModule m)],[]⟩)=some (c,h)∧view true h depth c=some (bool t))→Runs Try.prog tab (2^36+20) 7 [.agg (encModule m)] (bool t):=fun t H=>Runs.by (rs:=[.tmp 2]) (N:=129) rfl Try.func7 rfl rfl (by simp) H
 cases hd:((d1||d2)||d3)||d4 with
 |true=>
  refine⟨false,hRby _ fun k hk=> ?_,fun h=>by cases h⟩
  rw[enc_module]
  cases d1<;>cases d2<;>cases d3<;>cases d4<;>first|(exact absurd hd (by decide))|(simp +decide -implicitDefEqProofs only[k7,go_sem,q1,q2,q3,q4];exact⟨_,_,rfl,rfl⟩)
 |false=>
  obtain⟨⟨⟨rfl,rfl⟩,rfl⟩,rfl⟩:((d1=false∧d2=false)∧d3=false)∧d4=false:=by simpa only[Bool.or_eq_false_iff] using hd
  have b1:=of_decide_eq_false q1
  have b2:=of_decide_eq_false q2
  have b3:=of_decide_eq_false q3
  have b4:=of_decide_eq_false q4
  have L0:=fun(k:Nat) (hk:2^36+19≤k)=>small_l0 (vals:=valsOf tab) (call:=callAt Try.prog tab k) (n:=k) m (by omega) [.row 0 [externs m.externs,globals m.globals,tables m.tables,funcs m.funcs]] rfl k (by omega)
  have L1:=fun(k:Nat) (hk:2^36+19≤k)=>small_l1 (vals:=valsOf tab) (call:=callAt Try.prog tab k) (n:=k) m (by omega) [.row 0 [externs m.externs,globals m.globals,tables m.tables,funcs m.funcs]] rfl k (by omega)
  have L2:=fun(k:Nat) (hk:2^36+19≤k)=>small_l2 (vals:=valsOf tab) (call:=callAt Try.prog tab k) (n:=k) m (by omega) [.row 0 [externs m.externs,globals m.globals,tables m.tables,funcs m.funcs]] rfl k (by omega)
  have L3:=fun(k:Nat) (hk:2^36+19≤k)=>small_l3 (vals:=valsOf tab) (call:=callAt Try.prog tab k) (n:=k) m (by omega) [.row 0 [externs m.externs,globals m.globals,tables m.tables,funcs m.funcs]] rfl
   (fun f hf h=>(light_is f (hl f hf)).1 k (by omega) _ h (by rw[enc_func];simp +decide -implicitDefEqProofs only[depth,go_sem]))
   (fun f hf F h=>rsize_runs f F k (by omega) _ h (by rw[enc_func];simp +decide -implicitDefEqProofs only[depth,go_sem]))
   (fun f hf h=>((light_is f (hl f hf)).2 h).1) size_le k (by omega)
  cases x1:m.externs.any bigX with
  |true=>
   refine⟨false,hRby _ fun k hk=> ?_,fun h=>by cases h⟩
   have L0:=L0 k hk
   rw[x1,if_pos rfl] at L0
   rw[enc_module]
   simp +decide -implicitDefEqProofs only[k7,go_sem,q1,q2,q3,q4,L0];exact⟨_,_,rfl,rfl⟩
  |false=>
  cases x2:m.globals.any bigG with
  |true=>
   refine⟨false,hRby _ fun k hk=> ?_,fun h=>by cases h⟩
   have L0:=L0 k hk
   have L1:=L1 k hk
   rw[x1,if_neg (by decide)] at L0
   rw[x2,if_pos rfl] at L1
   rw[enc_module]
   simp +decide -implicitDefEqProofs only[k7,go_sem,q1,q2,q3,q4,L0,L1];exact⟨_,_,rfl,rfl⟩
  |false=>
  cases x3:m.tables.any bigT with
  |true=>
   refine⟨false,hRby _ fun k hk=> ?_,fun h=>by cases h⟩
   have L0:=L0 k hk
   have L1:=L1 k hk
   have L2:=L2 k hk
   rw[x1,if_neg (by decide)] at L0
   rw[x2,if_neg (by decide)] at L1
   rw[x3,if_pos rfl] at L2
   rw[enc_module]
   simp +decide -implicitDefEqProofs only[k7,go_sem,q1,q2,q3,q4,L0,L1,L2];exact⟨_,_,rfl,rfl⟩
  |false=>
  cases x4:(List.range' 0 m.funcs.length).any (fun i=> !lightT (fnAt m.funcs i)) with
  |true=>
   refine⟨false,hRby _ fun k hk=> ?_,fun h=>by cases h⟩
   have L0:=L0 k hk
   have L1:=L1 k hk
   have L2:=L2 k hk
   rw[x1,if_neg (by decide)] at L0
   rw[x2,if_neg (by decide)] at L1
   rw[x3,if_neg (by decide)] at L2
   rw[enc_module]
   rcases L3 k hk with ⟨_,h',L3⟩|⟨L3,_⟩
   ·simp +decide -implicitDefEqProofs only[k7,go_sem,q1,q2,q3,q4,L0,L1,L2,L3];exact⟨_,_,rfl,rfl⟩
   ·rw[x4] at L3;exact absurd L3 (by decide)
  |false=>
   have fine:FineM m:=by
    refine⟨by omega,by omega,by omega,by omega,fun x hx=> ?_,fun x hx=> ?_,fun x hx=> ?_,fun x hx=> ?_⟩
    ·rw[List.any_eq_false] at x1
     have:=x1 x hx
     unfold bigX at this
     rw[Bool.not_eq_true,Bool.or_eq_false_iff] at this
     have a1:=of_decide_eq_false this.1
     have a2:=of_decide_eq_false this.2
     omega
    ·rw[List.any_eq_false] at x2
     have:=x2 x hx
     unfold bigG at this
     rw[Bool.not_eq_true,Bool.or_eq_false_iff] at this
     have a1:=of_decide_eq_false this.1
     have a2:=of_decide_eq_false this.2
     omega
    ·rw[List.any_eq_false] at x3
     have:=x3 x hx
     unfold bigT at this
     rw[Bool.not_eq_true,Bool.or_eq_false_iff] at this
     have a1:=of_decide_eq_false this.1
     have a2:=of_decide_eq_false this.2
     omega
    ·rw[any_fns (fun f=> !lightT f),List.any_eq_false] at x4
     have:=x4 x hx
     exact(light_is x (hl x hx)).2 (by simpa using this)
   refine⟨decide ((sumS m.funcs:Int)≤160),hRby _ fun k hk=> ?_,fun _=>fine⟩
   have L0:=L0 k hk
   have L1:=L1 k hk
   have L2:=L2 k hk
   rw[x1,if_neg (by decide)] at L0
   rw[x2,if_neg (by decide)] at L1
   rw[x3,if_neg (by decide)] at L2
   rw[enc_module]
   rcases L3 k hk with ⟨L3,_⟩|⟨_,s,rfl,L3⟩
   ·rw[x4] at L3;exact absurd L3 (by decide)
   ·simp +decide -implicitDefEqProofs only[k7,go_sem,q1,q2,q3,q4,L0,L1,L2,L3]
    cases decide ((sumS m.funcs:Int)≤160)<;>exact⟨_,_,rfl,rfl⟩
end Go.Proofs.Ytlcnmocicghilaa.Tk
namespace Go.Proofs.Ytlcnmocicghilaa.Tk
open Go.Tm Go.Tm.Tab
set_option maxRecDepth 100000
theorem first24:Runs Try.prog tab 1000 16 [] (bool true):=Runs.known (K:=k16) rfl (by kernel_rfl)
set_option maxHeartbeats 4000000 in
theorem promoMay (m:Tm.Module) (hl:∀f∈m.funcs,∀b∈f.blocks,b.ins.length<2^45) (j:Int):Runs Try.prog tab (2^36+400) 5 [.agg (encModule m),int j] (bool true):=by
 refine Runs.by (rs:=[.tmp 4]) (N:=40) rfl Try.func5 rfl rfl (by simp) fun k hk=> ?_
 have h16:∀h,callAt Try.prog tab k 16 [] h=some (bool true,h):=fun h=>first24 k (by omega) [] h rfl
 obtain⟨t,hsm,hF⟩:=small_runs m hl
 have h7:∀h,callAt Try.prog tab k 7 [.agg [externs m.externs,globals m.globals,tables m.tables,funcs m.funcs]] h=some (bool t,h):=fun h=>hsm k (by omega) _ h (by rw[enc_module];simp +decide -implicitDefEqProofs only[depth,go_sem])
 have v1:valsOf tab 9=true:=by decide
 have v2:valsOf tab 17=true:=by decide
 have v3:valsOf tab 18=true:=by decide
 have v4:valsOf tab 14=true:=by decide
 have hu:hasF m j= !(decide (j<0)||decide (j≥(m.funcs.length:Int))):=rfl
 rw[enc_module]
 cases t with
 |false=>simp +decide -implicitDefEqProofs only[k5,go_sem,h16,h7];exact⟨_,_,rfl,rfl⟩
 |true=>
  have F:=hF rfl
  have h9:∀h,callAt Try.prog tab k 9 [.agg [externs m.externs,globals m.globals,tables m.tables,funcs m.funcs]] h=some (int (checkN m),h):=fun h=>rcheck_runs m F k (by omega) _ h (by rw[enc_module];simp +decide -implicitDefEqProofs only[depth,go_sem])
  have h17:∀h,callAt Try.prog tab k 17 [.agg [externs m.externs,globals m.globals,tables m.tables,funcs m.funcs],int j] h=some (ints (if (decide (checkN m=0)&&hasF m j)=true then truesOf (mayOf (fnAt m.funcs j).blocks (typesOf (fnAt m.funcs j)).length) 0 (typesOf (fnAt m.funcs j)).length else[]),h):=pmay_runs m F j k (by omega)
  cases c:decide (checkN m=0) with
  |false=>
   rw[c] at h17
   generalize checkN m=ck at h9 c
   simp +decide -implicitDefEqProofs only[k5,go_sem,h16,h7,h9,h17,c,v1,v2,v3,v4];exact⟨_,_,rfl,rfl⟩
  |true=>
   cases c1:decide (j<0) with
   |true=>
    rw[c,hu,c1] at h17
    generalize checkN m=ck at h9 c
    simp +decide -implicitDefEqProofs only[k5,go_sem,h16,h7,h9,h17,c,c1,v1,v2,v3,v4];exact⟨_,_,rfl,rfl⟩
   |false=>
    cases c2:decide (j≥(m.funcs.length:Int)) with
    |true=>
     rw[c,hu,c1,c2] at h17
     generalize checkN m=ck at h9 c
     simp +decide -implicitDefEqProofs only[k5,go_sem,h16,h7,h9,h17,c,c1,c2,v1,v2,v3,v4];exact⟨_,_,rfl,rfl⟩
    |false=>
     have hh:hasF m j=true:=by rw[hu,c1,c2];rfl
     have hj:=has_in hh
     have hf:=fnAt_mem hj
     have Ff:=F.fn _ hf
     have hI:=right_in m (of_decide_eq_true c) _ hf
     rw[hh,c,Bool.and_true,if_pos rfl] at h17
     generalize hfa:fnAt m.funcs j=f at hf Ff hI h17
     have hlen:=types_small f Ff.1 (by omega)
     have h18:∀h,callAt Try.prog tab k 18 [.agg [str f.name,bool f.out,ints f.params,int f.result,blocks f.blocks]] h=some (ints (truesOf (mayOf f.blocks (typesOf f).length) 1 ((typesOf f).length-1)),h):=fun h=>rmay_runs f Ff.1 (by omega) (fun b hb x hx=>(hI b hb x hx).2) k (by omega) _ h (by rw[enc_func];simp +decide -implicitDefEqProofs only[depth,go_sem])
     rw[trues_both f.blocks _ hlen.2 (fun b hb x hx=>(hI b hb x hx).1)] at h17
     have hl2:=trues_len (mayOf f.blocks (typesOf f).length) 1 ((typesOf f).length-1)
     generalize truesOf (mayOf f.blocks (typesOf f).length) 1 ((typesOf f).length-1)=r at h17 h18 hl2
     have h14:∀h,callAt Try.prog tab k 14 [ints r,ints r] h=some (bool true,h):=fun h=>by
      have:=requal_runs r r (by omega) k (by omega) [ints r,ints r] h (by simp +decide -implicitDefEqProofs only[depth,go_sem])
      rwa [decide_eq_true rfl] at this
     generalize checkN m=ck at h9 c
     simp +decide -implicitDefEqProofs only[k5,go_sem,h16,h7,h9,h17,h18,h14,c,c1,c2,hj,hfa,enc_func,v1,v2,v3,v4];exact⟨_,_,rfl,rfl⟩
end Go.Proofs.Ytlcnmocicghilaa.Tk
