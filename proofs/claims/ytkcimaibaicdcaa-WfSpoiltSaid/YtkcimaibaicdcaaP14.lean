/- The law returns true at every input. No condition. A part of its proof. -/
import Derived.Test.YtkcimaibaicdcaaP13
set_option linter.unusedSimpArgs false
set_option linter.unusedVariables false
set_option maxHeartbeats 16000000
set_option maxRecDepth 100000
namespace Go.Proofs.Ytkcimaibaicdcaa.Tk
open Go.Tm Go.Tm.Tab
theorem badNm_no {np:Nat}{l:List Block}{b k:Nat}(h:badNm np l b k=false)(ht:tyI (insAt (blkAt l b).ins k)=true):(insAt (blkAt l b).ins k).to=((np+(posU l b k).length+1:Nat):Int):=by
 unfold badNm at h
 rw[ht,Bool.true_and,Bool.not_eq_false'] at h
 exact of_decide_eq_true h
theorem wuse_l1 {vals:FuncId→Bool}{call:CallF}{n:Nat}(u v w:C)(ps:List Int)(np:Nat)(hps:(ps.length:Int)=(np:Int))(l:List Block)(hl:l.length≤17)(hT:(posOf l).length<2^20)(hnp:np≤20)(lh:Nat)(cap:Option Nat)(R:Nat)(cells:List C)(b:Nat)(hb:b<l.length)(hil:(blkAt l b).ins.length≤91)(hxs:∀x∈(blkAt l b).ins,PhiOk l.length x∧x.args.length<2^50∧x.args.length<n)(hnm:∀k,k<(blkAt l b).ins.length→badNm np l b k=false)(x90 x91 x92:C)(I:Heap→Prop)(hp:∀h x,I h→I (h++[x]))(hg:∀h,I h→h[0]?=some (.row 0 [u,v,ints ps,w,blocks l]))(hh:∀h,I h→h[lh]?=some (.row 1 ((homeU np (posOf l)).map int)))(ho:∀h,I h→OT l h R cells l.length)(m:Nat)(hm:(blkAt l b).ins.length<m)(h:Heap)(hI:I h):∃h1,I h1∧Tm.Loop Try.prog vals call n [1,3,4,9,13,15,90,91,92,108,109,110] k92b5 m ⟨[(1,.op 0 0),(3,int (np+(posOf l).length:Nat)),(4,.os lh 0 (homeU np (posOf l)).length cap),(9,.os R 0 l.length (some l.length)),(13,int b),(15,int (np+(posU l b 0).length:Nat)),(90,x90),(91,x91),(92,x92),(108,inss (blkAt l b).ins),(109,int (blkAt l b).ins.length),(110,int 0)],h⟩=some (if (List.range' 0 (blkAt l b).ins.length).any (badUX np l b)=true then(.ret,⟨[(2,bool false)],h1⟩) else(.exit 10,⟨[(1,.op 0 0),(3,int (np+(posOf l).length:Nat)),(4,.os lh 0 (homeU np (posOf l)).length cap),(9,.os R 0 l.length (some l.length)),(13,int b),(15,int (np+(posU l b (blkAt l b).ins.length).length:Nat)),(90,x90),(91,x91),(92,x92),(108,inss (blkAt l b).ins),(109,int (blkAt l b).ins.length),(110,int (blkAt l b).ins.length),(111,bool false)],h1⟩)):=by
 obtain⟨h1,J,L⟩:=Loop_any (P:=Try.prog) (vals:=vals) (call:=call) (n:=n) (ks:=[1,3,4,9,13,15,90,91,92,108,109,110]) (K:=k92b5) (id:=10) (blkAt l b).ins.length (fun i=>badUX np l b i) (fun i=>[(1,.op 0 0),(3,int (np+(posOf l).length:Nat)),(4,.os lh 0 (homeU np (posOf l)).length cap),(9,.os R 0 l.length (some l.length)),(13,int b),(15,int (np+(posU l b i).length:Nat)),(90,x90),(91,x91),(92,x92),(108,inss (blkAt l b).ins),(109,int (blkAt l b).ins.length),(110,int i)]) [(2,bool false)] [(1,.op 0 0),(3,int (np+(posOf l).length:Nat)),(4,.os lh 0 (homeU np (posOf l)).length cap),(9,.os R 0 l.length (some l.length)),(13,int b),(15,int (np+(posU l b (blkAt l b).ins.length).length:Nat)),(90,x90),(91,x91),(92,x92),(108,inss (blkAt l b).ins),(109,int (blkAt l b).ins.length),(110,int (blkAt l b).ins.length),(111,bool false)] I
  (fun i h hi hI=>by
   have e1:decide ((i:Int)<(blkAt l b).ins.length)=true:=by simp;omega
   have e2:0≤(i:Int)∧(i:Int)<(blkAt l b).ins.length:=by omega
   have e3:=wrap_next (n:=(blkAt l b).ins.length) (i:=i) (by omega) (by omega)
   obtain⟨hx1,hx2,hx3⟩:=hxs _ (insAt_mem e2)
   have hnmi:=badNm_no (hnm i hi)
   have hn:=posU_next l b i
   have I1:=hp _ (.row 0 (encIns (insAt (blkAt l b).ins i))) hI
   have L0:=wuse_l0 (vals:=vals) (call:=call) (n:=n) u v w ps np hps l hl hT hnp b i hb (insAt (blkAt l b).ins i) hx1 hx2 lh cap R cells h.length x90 x91 x92 (inss (blkAt l b).ins) (int (blkAt l b).ins.length) (int i) n hx3 _ (hg _ I1) (by rw[get_new];rfl) (hh _ I1) (ho _ I1)
   simp only[encIns] at L0
   refine⟨_,I1,?_⟩
   unfold badUX
   cases c0:(List.range' 0 (insAt (blkAt l b).ins i).args.length).any (badA np l b i (insAt (blkAt l b).ins i)) with
   |true=>
    rw[c0,if_pos rfl] at L0
    simp +decide -implicitDefEqProofs only[k92b5,go_sem,e1,e2,e3,set_new,encIns,L0]
   |false=>
    rw[c0,if_neg (by decide)] at L0
    unfold tyI at hn hnmi
    cases c1:decide ((insAt (blkAt l b).ins i).type=0) with
    |true=>
     rw[c1] at hn
     simp only[Bool.not_true,Bool.false_eq_true,if_false,List.append_nil] at hn
     rw[hn]
     simp +decide -implicitDefEqProofs only[k92b5,go_sem,e1,e2,e3,set_new,encIns,L0,c1]
    |false=>
     rw[c1] at hn hnmi
     simp only[Bool.not_false,if_true] at hn
     have hto:=hnmi rfl
     rw[hto] at L0
     rw[hn,List.length_append,List.length_singleton,←Nat.add_assoc]
     simp +decide -implicitDefEqProofs only[k92b5,go_sem,e1,e2,e3,set_new,encIns,L0,c1,hto])
  (fun h hI=>by
   exact⟨h,hI,by simp +decide -implicitDefEqProofs only[k92b5,go_sem,Int.lt_irrefl,decide_false]⟩) (blkAt l b).ins.length 0 m h (by omega) hm hI
 simp only[show((0:Nat):Int)=0 from rfl] at L
 rw[any_eta] at L
 exact⟨h1,J,L⟩
theorem wuse_l2 {vals:FuncId→Bool}{call:CallF}{n:Nat}(f:Tm.Func)(np:Nat)(hps:(f.params.length:Int)=(np:Int))(l:List Block)(hfl:f.blocks=l)(hl:l.length≤17)(hT:(posOf l).length<2^20)(hnp:np≤20)(lh:Nat)(cap:Option Nat)(R:Nat)(cells:List C)(hil:∀b∈l,(0<b.ins.length∧b.ins.length≤91)∧b.ins.length<n)(hxs:∀b∈l,∀x∈b.ins,PhiOk l.length x∧x.args.length<2^50∧x.args.length<n)(hnm:∀(b:Nat),b<l.length→∀k,k<(blkAt l b).ins.length→badNm np l b k=false)(I:Heap→Prop)(hp:∀h x,I h→I (h++[x]))(hg:∀h,I h→h[0]?=some (.row 0 [str f.name,bool f.out,ints f.params,int f.result,blocks l]))(hh:∀h,I h→h[lh]?=some (.row 1 ((homeU np (posOf l)).map int)))(ho:∀h,I h→OT l h R cells l.length)(hah:∀(b:Nat),b<l.length→∀h,call 112 [.agg [str f.name,bool f.out,ints f.params,int f.result,blocks l],int b] h=some (int (np+(posB l b).length:Nat),h))(m:Nat)(hm:l.length<m)(h:Heap)(hI:I h):∃h1,I h1∧Tm.Loop Try.prog vals call n [1,3,4,9,90,91,92] k92b6 m ⟨[(1,.op 0 0),(3,int (np+(posOf l).length:Nat)),(4,.os lh 0 (homeU np (posOf l)).length cap),(9,.os R 0 l.length (some l.length)),(90,blocks l),(91,int l.length),(92,int 0)],h⟩=some (if (List.range' 0 l.length).any (badUB np l)=true then(.ret,⟨[(2,bool false)],h1⟩) else(.exit 8,⟨[(1,.op 0 0),(3,int (np+(posOf l).length:Nat)),(4,.os lh 0 (homeU np (posOf l)).length cap),(9,.os R 0 l.length (some l.length)),(90,blocks l),(91,int l.length),(92,int l.length),(93,bool false)],h1⟩)):=by
 obtain⟨h1,J,L⟩:=Loop_any (P:=Try.prog) (vals:=vals) (call:=call) (n:=n) (ks:=[1,3,4,9,90,91,92]) (K:=k92b6) (id:=8) l.length (fun i=>badUB np l i) (fun i=>[(1,.op 0 0),(3,int (np+(posOf l).length:Nat)),(4,.os lh 0 (homeU np (posOf l)).length cap),(9,.os R 0 l.length (some l.length)),(90,blocks l),(91,int l.length),(92,int i)]) [(2,bool false)] [(1,.op 0 0),(3,int (np+(posOf l).length:Nat)),(4,.os lh 0 (homeU np (posOf l)).length cap),(9,.os R 0 l.length (some l.length)),(90,blocks l),(91,int l.length),(92,int l.length),(93,bool false)] I
  (fun i h hi hI=>by
   have e1:decide ((i:Int)<l.length)=true:=by simp;omega
   have e2:0≤(i:Int)∧(i:Int)<l.length:=by omega
   have e3:=wrap_next (n:=l.length) (i:=i) (by omega) (by omega)
   have hxm:=blkAt_mem e2
   obtain⟨⟨hi0,hi1⟩,hi2⟩:=hil _ hxm
   have I1:=hp _ (.row 0 [inss (blkAt l i).ins]) hI
   have g1:=hg _ I1
   have ha:=hah i hi
   obtain⟨h1,J1,L1⟩:=wuse_l1 (vals:=vals) (call:=call) (n:=n) (str f.name) (bool f.out) (int f.result) f.params np hps l hl hT hnp lh cap R cells i hi hi1 (hxs _ hxm) (hnm i hi) (blocks l) (int l.length) (int i) I hp hg hh ho n hi2 _ I1
   rw[posU_zero] at L1
   have d0:decide (((blkAt l i).ins.length:Int)>0)=true:=by simp;omega
   refine⟨h1,J1,?_⟩
   unfold badUB
   cases c0:(List.range' 0 (blkAt l i).ins.length).any (badUX np l i) with
   |true=>
    rw[c0,if_pos rfl] at L1
    simp +decide -implicitDefEqProofs only[k92b6,go_sem,e1,e2,e3,set_new,g1,d0,ha,L1]
   |false=>
    rw[c0,if_neg (by decide)] at L1
    simp +decide -implicitDefEqProofs only[k92b6,go_sem,e1,e2,e3,set_new,g1,d0,ha,L1])
  (fun h hI=>by
   exact⟨h,hI,by simp +decide -implicitDefEqProofs only[k92b6,go_sem,Int.lt_irrefl,decide_false]⟩) l.length 0 m h (by omega) hm hI
 simp only[show((0:Nat):Int)=0 from rfl] at L
 rw[any_eta] at L
 exact⟨h1,J,L⟩
theorem wused_runs (f:Tm.Func)(F:Fine f)(hpar:f.params.length≤20)(hpos:0<f.blocks.length)(hne:∀b∈f.blocks,0<b.ins.length)(hphi:∀b∈f.blocks,∀x∈b.ins,PhiOk f.blocks.length x)(hre:∀b:Nat,b<f.blocks.length→Rc (nextOf f.blocks) (fun _=>True) 0 b):Runs Try.prog tab (2^36+100) 92 [.agg (encFunc f)] (bool (usedB f)):=by
 refine Runs.by (rs:=[.tmp 2]) (N:=192) rfl Try.func92 rfl rfl (by simp) fun k hk=>?_
 have b1:=F.blocks
 have hle:=tsB_le 91 f.blocks fun b hb=>F.ins b hb
 have hle2:f.blocks.length*91≤17*91:=Nat.mul_le_mul_right _ b1
 have hpl:=posOf_len f.blocks
 have hah:∀(b:Nat),b<f.blocks.length→∀h,callAt Try.prog tab k 112 [.agg (encFunc f),int b] h=some (int (f.params.length+(posB f.blocks b).length:Nat),h):=fun b hb h=>ahead_runs f F hpar b (by omega) k (by omega) _ h (by simp only[mapC_cons,mapC_nil,depth,view_func,view_int,Option.bind_some])
 have hov:∀h,callAt Try.prog tab k 37 [.agg (encFunc f)] h=some (ints (overI f.blocks),h):=fun h=>overRun f F hpos k (by omega) _ h (by simp only[mapC_cons,mapC_nil,depth,view_func,Option.bind_some])
 generalize hc:callAt Try.prog tab k=call at*
 generalize hv:valsOf tab=vals at*
 rw[enc_func] at*
 have hw1:=wrap1 (k:=f.params.length) (by omega)
 have hmr:(2:Nat)^22<maxRow:=by decide
 have eM:0≤((f.params.length+1:Nat):Int)∧((f.params.length+1:Nat):Int)≤((f.params.length+1:Nat):Int)∧((f.params.length+1:Nat):Int)≤(maxRow:Nat):=⟨by omega,by omega,by omega⟩
 have eN:0≤(f.blocks.length:Int)∧(f.blocks.length:Int)≤(f.blocks.length:Int)∧(f.blocks.length:Int)≤(maxRow:Nat):=⟨by omega,by omega,by omega⟩
 have r1:=rep_map (f:=int) (f.params.length+1) 0
 have G0:GrowC [.row 0 [str f.name,bool f.out,ints f.params,int f.result,blocks f.blocks],.row 1 ((List.replicate (f.params.length+1) (0:Int)).map int)] (.os 1 0 (f.params.length+1) (some (f.params.length+1))) (homeU f.params.length (posB f.blocks 0)):=⟨1,some (f.params.length+1),by simp[homeU,posB_zero],.inr (by simp[homeU,posB_zero]),by simp[homeU,posB_zero]⟩
 have L1:=wnum_l1 (vals:=vals) (call:=call) (n:=k) (.row 0 [str f.name,bool f.out,ints f.params,int f.result,blocks f.blocks]) f.params.length hpar f.blocks (by omega) b1 (fun b hb=>⟨F.ins b hb,by have:=F.ins b hb;omega⟩) k (by omega) _ _ G0 rfl (fun o cp e=>by simp at e)
 rw[posB_zero] at L1
 simp only[List.length_nil,Nat.add_zero] at L1
 unfold usedB
 rcases L1 with ⟨hb,h1,L1⟩|⟨hb,s,⟨c,h1,rfl,g1,g2,g3⟩,L1⟩
 ·rw[hb]
  simp +decide -implicitDefEqProofs only[k92,go_sem,hw1,eM,Int.toNat_natCast,r1,L1]
  exact⟨_,_,rfl,rfl⟩
 ·rw[hb]
  obtain⟨lh,cap,rfl,hcap,hlh⟩:=g1
  have hlh0:lh≠0:=fun e=>g3 _ _ (by rw[e])
  have hlt:=(List.getElem?_eq_some_iff.1 hlh).1
  have hlt0:=(List.getElem?_eq_some_iff.1 g2).1
  have n2:(h1++[.row 1 (rep f.blocks.length [.v (.slice none 0 0)])])[0]?=some (.row 0 [str f.name,bool f.out,ints f.params,int f.result,blocks f.blocks]):=by rw[List.getElem?_append_left hlt0];exact g2
  have n3:(h1++[.row 1 (rep f.blocks.length [.v (.slice none 0 0)])])[lh]?=some (.row 1 ((homeU f.params.length (posOf f.blocks)).map int)):=by rw[List.getElem?_append_left hlt];exact hlh
  obtain⟨h2,cells,L2,O2,fr⟩:=over_build (vals:=vals) (call:=call) (n:=k) (by omega) f.blocks b1 hre (str f.name) (bool f.out) (ints f.params) (int f.result) h1.length (by omega) (int (f.params.length+(posOf f.blocks).length:Nat)) (.os lh 0 (homeU f.params.length (posOf f.blocks)).length cap) (h1++[.row 1 (rep f.blocks.length [.v (.slice none 0 0)])]) (rep f.blocks.length [.v (.slice none 0 0)]) (by simp[rep]) (by rw[get_new]) n2 k (by omega)
  have m2:=fr 0 _ (by omega) n2
  have m3:=fr lh _ (by omega) n3
  obtain⟨h3,_,L3⟩:=wuse_l2 (vals:=vals) (call:=call) (n:=k) f f.params.length rfl f.blocks rfl b1 (by omega) hpar lh cap h1.length cells (fun b hb=>⟨⟨hne b hb,F.ins b hb⟩,by have:=F.ins b hb;omega⟩) (fun b hb x hx=>⟨hphi b hb x hx,by have:=(F.into b hb x hx).1;omega⟩) (fun b hb' kk hk'=>by
    have h3:=any_no.1 hb b hb'
    unfold badNB at h3
    exact any_no.1 h3 kk hk')
   (fun h=>h[0]?=some (.row 0 [str f.name,bool f.out,ints f.params,int f.result,blocks f.blocks])∧h[lh]?=some (.row 1 ((homeU f.params.length (posOf f.blocks)).map int))∧OT f.blocks h h1.length cells f.blocks.length)
   (fun h x H=>⟨by rw[List.getElem?_append_left (List.getElem?_eq_some_iff.1 H.1).1];exact H.1,by rw[List.getElem?_append_left (List.getElem?_eq_some_iff.1 H.2.1).1];exact H.2.1,H.2.2.push x⟩)
   (fun h H=>H.1) (fun h H=>H.2.1) (fun h H=>H.2.2) hah k (by omega) h2 ⟨m2,m3,O2⟩
  cases x3:(List.range' 0 f.blocks.length).any (badUB f.params.length f.blocks) with
  |true=>
   rw[x3,if_pos rfl] at L3
   simp +decide -implicitDefEqProofs only[k92,go_sem,hw1,eM,eN,Int.toNat_natCast,r1,L1,g2,n2,hov,L2,m2,L3]
   exact⟨_,_,rfl,rfl⟩
  |false=>
   rw[x3,if_neg (by decide)] at L3
   simp +decide -implicitDefEqProofs only[k92,go_sem,hw1,eM,eN,Int.toNat_natCast,r1,L1,g2,n2,hov,L2,m2,L3]
   exact⟨_,_,rfl,rfl⟩
theorem und116:Try.prog.underlying 116=some (.array 2 3):=by kernel_rfl
theorem sz3:sz Try.prog 3=some 1:=by kernel_rfl
theorem ixa116 (l off:Nat)(k:IntKind)(n:Int):indexAddrC Try.prog 116 (.op l off) (.v (.int k n))=if 0≤n∧n<2 then some (.op l (off+n.toNat*1)) else none:=by
 unfold indexAddrC
 simp only[intOf,und116,sz3,Option.bind_eq_bind,Option.bind_some]
 rfl
theorem toNat0:Int.toNat 0=0:=rfl
theorem toNat1:Int.toNat 1=1:=rfl
theorem wh_param {f:Tm.Func}{v:Nat}(h:v≤f.params.length):(whOf f).getD v (0,0)=(-1, -1):=by
 unfold whOf
 rw[List.getD_eq_getElem?_getD,List.getElem?_append_left (by simp;omega),List.getElem?_replicate,if_pos (by omega)]
 rfl
theorem wh_at {f:Tm.Func}{v:Nat}{q:Nat×Nat}(h1:f.params.length<v)(h2:(posOf f.blocks)[v-f.params.length-1]?=some q):(whOf f).getD v (0,0)=((q.1:Int),(q.2:Int)):=by
 unfold whOf
 rw[List.getD_eq_getElem?_getD,List.getElem?_append_right (by simp;omega),List.length_replicate,show v-(f.params.length+1)=v-f.params.length-1 by omega,List.getElem?_map,h2]
 rfl
theorem wh_len (f:Tm.Func):(whOf f).length=f.params.length+1+(posOf f.blocks).length:=by simp[whOf]
theorem ruse_l0 {vals:FuncId→Bool}{call:CallF}{n:Nat}(f:Tm.Func)(hl:f.blocks.length≤17)(hT:(posOf f.blocks).length<2^20)(hnp:f.params.length≤20)(b k:Nat)(hb:b<f.blocks.length)(hk:k≤(blkAt f.blocks b).ins.length)(x:Ins)(hx:PhiOk f.blocks.length x)(hxa:x.args.length<2^50)(p:Nat)(I:Heap→Prop)(hp:∀h x,I h→I (h++[x]))(hbx:∀h,I h→h[p]?=some (.row 0 [int x.op,int x.type,int x.to,int x.sym,int x.num,ints x.args,ints x.into]))(m:Nat)(hm:x.args.length<m)(h:Heap)(hI:I h):∃h1,I h1∧Tm.Loop Try.prog vals call n [1,3,7,8,9,10,11,12] k84b2 m ⟨[(1,.op 0 0),(3,int (f.params.length+(posOf f.blocks).length:Nat)),(7,pairs (whOf f)),(8,rowsB (overOf f.blocks)),(9,int b),(10,int k),(11,.op p 0),(12,int 0)],h⟩=some (if (List.range' 0 x.args.length).any (badA f.params.length f.blocks b k x)=true then(.ret,⟨[(2,bool false)],h1⟩) else(.exit 8,⟨[(1,.op 0 0),(3,int (f.params.length+(posOf f.blocks).length:Nat)),(7,pairs (whOf f)),(8,rowsB (overOf f.blocks)),(9,int b),(10,int k),(11,.op p 0),(12,int x.args.length),(89,bool false)],h1⟩)):=by
 obtain⟨h1,J,L⟩:=Loop_any (P:=Try.prog) (vals:=vals) (call:=call) (n:=n) (ks:=[1,3,7,8,9,10,11,12]) (K:=k84b2) (id:=8) x.args.length (fun i=>badA f.params.length f.blocks b k x i) (fun i=>[(1,.op 0 0),(3,int (f.params.length+(posOf f.blocks).length:Nat)),(7,pairs (whOf f)),(8,rowsB (overOf f.blocks)),(9,int b),(10,int k),(11,.op p 0),(12,int i)]) [(2,bool false)] [(1,.op 0 0),(3,int (f.params.length+(posOf f.blocks).length:Nat)),(7,pairs (whOf f)),(8,rowsB (overOf f.blocks)),(9,int b),(10,int k),(11,.op p 0),(12,int x.args.length),(89,bool false)] I
  (fun i h hi hI=>by
   have e1:decide ((i:Int)<x.args.length)=true:=by simp;omega
   have e2:0≤(i:Int)∧(i:Int)<x.args.length:=by omega
   have e3:=wrap_next (n:=x.args.length) (i:=i) (by omega) (by omega)
   have g1:=hbx _ hI
   cases c1:decide (rd x.args i<1) with
   |true=>
    rw[show badA f.params.length f.blocks b k x i=true by unfold badA;rw[c1];rfl]
    exact⟨h,hI,by simp +decide -implicitDefEqProofs only[k84b2,go_sem,e1,e2,e3,set_new,g1,c1]⟩
   |false=>
    cases c2:decide (rd x.args i>((f.params.length+(posOf f.blocks).length:Nat):Int)) with
    |true=>
     rw[show badA f.params.length f.blocks b k x i=true by unfold badA;rw[c1,c2];rfl]
     exact⟨h,hI,by simp +decide -implicitDefEqProofs only[k84b2,go_sem,e1,e2,e3,set_new,g1,c1,c2]⟩
    |false=>
     have v1:=of_decide_eq_false c1
     have v2:=of_decide_eq_false c2
     obtain⟨vn,hv⟩:∃vn:Nat,rd x.args i=(vn:Int):=⟨(rd x.args i).toNat,by omega⟩
     have hwl:=wh_len f
     obtain⟨r,hix⟩:=idx_pairs (l:=whOf f) (i:=(vn:Int)) (by omega)
     rw[Int.toNat_natCast] at hix
     cases c3:decide ((vn:Int)≤(f.params.length:Int)) with
     |true=>
      have v3:=of_decide_eq_true c3
      rw[wh_param (f:=f) (v:=vn) (by omega)] at hix
      have I1:=hp _ (.row 0 [int (-1),int (-1)]) hI
      rw[show badA f.params.length f.blocks b k x i=false by unfold badA;rw[c1,c2,hv,c3];rfl]
      rw[hv] at c1 c2
      exact⟨_,I1,by simp +decide -implicitDefEqProofs only[k84b2,go_sem,e1,e2,e3,set_new,g1,hv,c1,c2,hix,ixa116,toNat0,List.drop_zero,List.head?_cons]⟩
     |false=>
      have v3:=of_decide_eq_false c3
      obtain⟨q,hq,hhq⟩:=home_at (np:=f.params.length) (l:=f.blocks) (v:=vn) (by omega) (by omega)
      have hqb:=posOf_in (List.mem_of_getElem? hq)
      have hah:=pos_ahead (bl:=f.blocks) (b:=b) (k:=k) hb hk hq
      rw[wh_at (f:=f) (v:=vn) (by omega) hq] at hix
      have I1:=hp _ (.row 0 [int (q.1:Int),int (q.2:Int)]) hI
      have g2:=hbx _ I1
      have hbad:badA f.params.length f.blocks b k x i= !thereB f.params.length f.blocks b k (phiB x) vn (rd x.into i):=by unfold badA;rw[c1,c2,hv,c3];rfl
      have hth:thereB f.params.length f.blocks b k (phiB x) vn (rd x.into i)=if phiB x=true then ovB f.blocks q.1 (rd x.into i) else if decide ((q.1:Int)=(b:Int))=true then decide ((vn:Int)≤((f.params.length+(posU f.blocks b k).length:Nat):Int)) else ovB f.blocks q.1 b:=by
       unfold thereB homeAt
       rw[Int.toNat_natCast,hhq]
      rw[hbad,hth]
      rw[hv] at c1 c2
      have d0:decide ((q.1:Int)<0)=false:=by simp
      have eq:0≤(q.1:Int)∧(q.1:Int)<(overOf f.blocks).length:=by rw[over_len];omega
      have hrow:=over_at (l:=f.blocks) (a:=(q.1:Int)) (by omega) (by omega)
      have hrl:=rowOv_len f.blocks (q.1:Int)
      have eb:0≤(b:Int)∧(b:Int)<(rowOv f.blocks (q.1:Int)).length:=by rw[hrl];omega
      refine⟨_,I1,?_⟩
      cases q4:decide (x.op=26) with
      |false=>
       unfold phiB
       rw[q4]
       obtain⟨o2,q2⟩:∃z,ovB f.blocks q.1 b=z:=⟨_,rfl⟩
       rw[q2]
       unfold ovB at q2
       cases q1:decide ((q.1:Int)=(b:Int)) with
       |true=>
        have e:=of_decide_eq_true q1
        cases q3:decide ((q.2:Int)≥(k:Int)) with
        |true=>
         have:=of_decide_eq_true q3
         have hno:¬(vn-f.params.length-1<(posU f.blocks b k).length):=fun hh=>by have:=hah.1 hh;unfold Tm.ahead at this;omega
         rw[show decide ((vn:Int)≤((f.params.length+(posU f.blocks b k).length:Nat):Int))=false from decide_eq_false (by omega)]
         simp +decide -implicitDefEqProofs only[k84b2,go_sem,e1,e2,e3,set_new,g1,g2,hv,c1,c2,hix,ixa116,toNat0,toNat1,List.drop_zero,List.head?_cons,List.drop_succ_cons,d0,q1,q2,q3,q4,eq,hrow,eb,Bool.false_eq_true,if_false]
        |false=>
         have:=of_decide_eq_false q3
         have hyes:vn-f.params.length-1<(posU f.blocks b k).length:=hah.2 (by unfold Tm.ahead;omega)
         rw[show decide ((vn:Int)≤((f.params.length+(posU f.blocks b k).length:Nat):Int))=true from decide_eq_true (by omega)]
         simp +decide -implicitDefEqProofs only[k84b2,go_sem,e1,e2,e3,set_new,g1,g2,hv,c1,c2,hix,ixa116,toNat0,toNat1,List.drop_zero,List.head?_cons,List.drop_succ_cons,d0,q1,q2,q3,q4,eq,hrow,eb,Bool.false_eq_true,if_false]
       |false=>
        cases o2<;>simp +decide -implicitDefEqProofs only[k84b2,go_sem,e1,e2,e3,set_new,g1,g2,hv,c1,c2,hix,ixa116,toNat0,toNat1,List.drop_zero,List.head?_cons,List.drop_succ_cons,d0,q1,q2,q4,eq,hrow,eb,Bool.false_eq_true,if_false]
      |true=>
       have hil:i<x.into.length:=by rw[hx.len q4];exact hi
       have hto:=hx.to q4 (rd x.into i) (mem_of_rd hil)
       have ei:0≤(i:Int)∧(i:Int)<x.into.length:=by omega
       have et:0≤rd x.into i∧rd x.into i<(rowOv f.blocks (q.1:Int)).length:=by rw[hrl];omega
       obtain⟨o2,q2⟩:∃z,ovB f.blocks q.1 (rd x.into i)=z:=⟨_,rfl⟩
       unfold phiB
       rw[q4,q2]
       unfold ovB at q2
       cases o2<;>simp +decide -implicitDefEqProofs only[k84b2,go_sem,e1,e2,e3,set_new,g1,g2,hv,c1,c2,hix,ixa116,toNat0,toNat1,List.drop_zero,List.head?_cons,List.drop_succ_cons,d0,q2,q4,eq,hrow,ei,et,if_true])
  (fun h hI=>by
   have g1:=hbx h hI
   exact⟨h,hI,by simp +decide -implicitDefEqProofs only[k84b2,go_sem,Int.lt_irrefl,decide_false,g1]⟩) x.args.length 0 m h (by omega) hm hI
 simp only[show((0:Nat):Int)=0 from rfl] at L
 rw[any_eta] at L
 exact⟨h1,J,L⟩
theorem ruse_l1 {vals:FuncId→Bool}{call:CallF}{n:Nat}(f:Tm.Func)(hl:f.blocks.length≤17)(hT:(posOf f.blocks).length<2^20)(hnp:f.params.length≤20)(b:Nat)(hb:b<f.blocks.length)(hil:(blkAt f.blocks b).ins.length≤91)(hxs:∀x∈(blkAt f.blocks b).ins,PhiOk f.blocks.length x∧x.args.length<2^50∧x.args.length<n)(I:Heap→Prop)(hp:∀h x,I h→I (h++[x]))(hg:∀h,I h→h[0]?=some (.row 0 [str f.name,bool f.out,ints f.params,int f.result,blocks f.blocks]))(m:Nat)(hm:(blkAt f.blocks b).ins.length<m)(h:Heap)(hI:I h):∃h1,I h1∧Tm.Loop Try.prog vals call n [1,3,7,8,9,10] k84b3 m ⟨[(1,.op 0 0),(3,int (f.params.length+(posOf f.blocks).length:Nat)),(7,pairs (whOf f)),(8,rowsB (overOf f.blocks)),(9,int b),(10,int 0)],h⟩=some (if (List.range' 0 (blkAt f.blocks b).ins.length).any (badUX f.params.length f.blocks b)=true then(.ret,⟨[(2,bool false)],h1⟩) else(.exit 6,⟨[(1,.op 0 0),(3,int (f.params.length+(posOf f.blocks).length:Nat)),(7,pairs (whOf f)),(8,rowsB (overOf f.blocks)),(9,int b),(10,int (blkAt f.blocks b).ins.length),(73,bool false)],h1⟩)):=by
 obtain⟨h1,J,L⟩:=Loop_any (P:=Try.prog) (vals:=vals) (call:=call) (n:=n) (ks:=[1,3,7,8,9,10]) (K:=k84b3) (id:=6) (blkAt f.blocks b).ins.length (fun i=>badUX f.params.length f.blocks b i) (fun i=>[(1,.op 0 0),(3,int (f.params.length+(posOf f.blocks).length:Nat)),(7,pairs (whOf f)),(8,rowsB (overOf f.blocks)),(9,int b),(10,int i)]) [(2,bool false)] [(1,.op 0 0),(3,int (f.params.length+(posOf f.blocks).length:Nat)),(7,pairs (whOf f)),(8,rowsB (overOf f.blocks)),(9,int b),(10,int (blkAt f.blocks b).ins.length),(73,bool false)] I
  (fun i h hi hI=>by
   have e1:decide ((i:Int)<(blkAt f.blocks b).ins.length)=true:=by simp;omega
   have e2:0≤(i:Int)∧(i:Int)<(blkAt f.blocks b).ins.length:=by omega
   have e3:=wrap_next (n:=(blkAt f.blocks b).ins.length) (i:=i) (by omega) (by omega)
   obtain⟨hx1,hx2,hx3⟩:=hxs _ (insAt_mem e2)
   have g0:=hg _ hI
   have eb:0≤(b:Int)∧(b:Int)<f.blocks.length:=by omega
   have I1:=hp _ (.row 0 (encIns (insAt (blkAt f.blocks b).ins i))) hI
   obtain⟨h1,⟨J1,J2⟩,L0⟩:=ruse_l0 (vals:=vals) (call:=call) (n:=n) f hl hT hnp b i hb (by omega) (insAt (blkAt f.blocks b).ins i) hx1 hx2 h.length (fun g=>I g∧g[h.length]?=some (.row 0 (encIns (insAt (blkAt f.blocks b).ins i)))) (fun g y hg=>⟨hp g y hg.1,by rw[List.getElem?_append_left (List.getElem?_eq_some_iff.1 hg.2).1];exact hg.2⟩) (fun g hg=>hg.2) n hx3 _ ⟨I1,by rw[get_new]⟩
   simp only[encIns] at L0
   refine⟨h1,J1,?_⟩
   unfold badUX
   cases c0:(List.range' 0 (insAt (blkAt f.blocks b).ins i).args.length).any (badA f.params.length f.blocks b i (insAt (blkAt f.blocks b).ins i)) with
   |true=>
    rw[c0,if_pos rfl] at L0
    simp +decide -implicitDefEqProofs only[k84b3,go_sem,e1,e2,e3,set_new,g0,eb,encIns,L0]
   |false=>
    rw[c0,if_neg (by decide)] at L0
    simp +decide -implicitDefEqProofs only[k84b3,go_sem,e1,e2,e3,set_new,g0,eb,encIns,L0])
  (fun h hI=>by
   have g0:=hg h hI
   have eb:0≤(b:Int)∧(b:Int)<f.blocks.length:=by omega
   exact⟨h,hI,by simp +decide -implicitDefEqProofs only[k84b3,go_sem,Int.lt_irrefl,decide_false,g0,eb]⟩) (blkAt f.blocks b).ins.length 0 m h (by omega) hm hI
 simp only[show((0:Nat):Int)=0 from rfl] at L
 rw[any_eta] at L
 exact⟨h1,J,L⟩
theorem ruse_l2 {vals:FuncId→Bool}{call:CallF}{n:Nat}(f:Tm.Func)(hl:f.blocks.length≤17)(hT:(posOf f.blocks).length<2^20)(hnp:f.params.length≤20)(hil:∀b∈f.blocks,b.ins.length≤91∧b.ins.length<n)(hxs:∀b∈f.blocks,∀x∈b.ins,PhiOk f.blocks.length x∧x.args.length<2^50∧x.args.length<n)(I:Heap→Prop)(hp:∀h x,I h→I (h++[x]))(hg:∀h,I h→h[0]?=some (.row 0 [str f.name,bool f.out,ints f.params,int f.result,blocks f.blocks]))(m:Nat)(hm:f.blocks.length<m)(h:Heap)(hI:I h):∃h1,I h1∧Tm.Loop Try.prog vals call n [1,3,7,8,9] k84b4 m ⟨[(1,.op 0 0),(3,int (f.params.length+(posOf f.blocks).length:Nat)),(7,pairs (whOf f)),(8,rowsB (overOf f.blocks)),(9,int 0)],h⟩=some (if (List.range' 0 f.blocks.length).any (badUB f.params.length f.blocks)=true then(.ret,⟨[(2,bool false)],h1⟩) else(.exit 4,⟨[(1,.op 0 0),(3,int (f.params.length+(posOf f.blocks).length:Nat)),(7,pairs (whOf f)),(8,rowsB (overOf f.blocks)),(9,int f.blocks.length),(62,bool false)],h1⟩)):=by
 obtain⟨h1,J,L⟩:=Loop_any (P:=Try.prog) (vals:=vals) (call:=call) (n:=n) (ks:=[1,3,7,8,9]) (K:=k84b4) (id:=4) f.blocks.length (fun i=>badUB f.params.length f.blocks i) (fun i=>[(1,.op 0 0),(3,int (f.params.length+(posOf f.blocks).length:Nat)),(7,pairs (whOf f)),(8,rowsB (overOf f.blocks)),(9,int i)]) [(2,bool false)] [(1,.op 0 0),(3,int (f.params.length+(posOf f.blocks).length:Nat)),(7,pairs (whOf f)),(8,rowsB (overOf f.blocks)),(9,int f.blocks.length),(62,bool false)] I
  (fun i h hi hI=>by
   have e1:decide ((i:Int)<f.blocks.length)=true:=by simp;omega
   have e2:0≤(i:Int)∧(i:Int)<f.blocks.length:=by omega
   have e3:=wrap_next (n:=f.blocks.length) (i:=i) (by omega) (by omega)
   have hxm:=blkAt_mem e2
   obtain⟨hi1,hi2⟩:=hil _ hxm
   have g0:=hg _ hI
   obtain⟨h1,J1,L1⟩:=ruse_l1 (vals:=vals) (call:=call) (n:=n) f hl hT hnp i hi hi1 (hxs _ hxm) I hp hg n hi2 _ hI
   refine⟨h1,J1,?_⟩
   unfold badUB
   cases c0:(List.range' 0 (blkAt f.blocks i).ins.length).any (badUX f.params.length f.blocks i) with
   |true=>
    rw[c0,if_pos rfl] at L1
    simp +decide -implicitDefEqProofs only[k84b4,go_sem,e1,e2,e3,set_new,g0,L1]
   |false=>
    rw[c0,if_neg (by decide)] at L1
    simp +decide -implicitDefEqProofs only[k84b4,go_sem,e1,e2,e3,set_new,g0,L1])
  (fun h hI=>by
   have g0:=hg h hI
   exact⟨h,hI,by simp +decide -implicitDefEqProofs only[k84b4,go_sem,Int.lt_irrefl,decide_false,g0]⟩) f.blocks.length 0 m h (by omega) hm hI
 simp only[show((0:Nat):Int)=0 from rfl] at L
 rw[any_eta] at L
 exact⟨h1,J,L⟩
theorem ruses_runs (f:Tm.Func)(F:Fine f)(hpar:f.params.length≤20)(hpos:0<f.blocks.length)(hphi:∀b∈f.blocks,∀x∈b.ins,PhiOk f.blocks.length x):Runs Try.prog tab (2^36+100) 84 [.agg (encFunc f)] (bool (usedB f)):=by
 refine Runs.by (rs:=[.tmp 2]) (N:=154) rfl Try.func84 rfl rfl (by simp) fun k hk=>?_
 have b1:=F.blocks
 have hle:=tsB_le 91 f.blocks fun b hb=>F.ins b hb
 have hle2:f.blocks.length*91≤17*91:=Nat.mul_le_mul_right _ b1
 have hpl:=posOf_len f.blocks
 have hwh:∀h,callAt Try.prog tab k 105 [.agg (encFunc f)] h=some (pairs (whOf f),h):=fun h=>where_runs f F hpar k (by omega) _ h (by simp only[mapC_cons,mapC_nil,depth,view_func,Option.bind_some])
 have hdm:∀h,callAt Try.prog tab k 35 [.agg (encFunc f)] h=some (rowsB (overOf f.blocks),h):=fun h=>doms_runs f F hpos k (by omega) _ h (by simp only[mapC_cons,mapC_nil,depth,view_func,Option.bind_some])
 generalize hc:callAt Try.prog tab k=call at*
 generalize hv:valsOf tab=vals at*
 rw[enc_func] at*
 generalize hI:Has 0 (.row 0 [str f.name,bool f.out,ints f.params,int f.result,blocks f.blocks])=I
 have hp:∀h x,I h→I (h++[x]):=by rw[←hI];exact fun h x H=>H.push
 have hg:∀h,I h→h[0]?=some (.row 0 [str f.name,bool f.out,ints f.params,int f.result,blocks f.blocks]):=by rw[←hI];exact fun h H=>H
 have i0:I [.row 0 [str f.name,bool f.out,ints f.params,int f.result,blocks f.blocks]]:=by rw[←hI];rfl
 obtain⟨h1,I1,L1⟩:=unum_l1 (vals:=vals) (call:=call) (n:=k) _ _ _ _ f.params.length hpar f.blocks (by omega) (by omega) (fun b hb=>by have:=F.ins b hb;omega) I hp hg k (by omega) _ i0
 obtain⟨h2,I2,L2⟩:=ruse_l2 (vals:=vals) (call:=call) (n:=k) f b1 (by omega) hpar (fun b hb=>by have:=F.ins b hb;omega) (fun b hb x hx=>⟨hphi b hb x hx,by have:=(F.into b hb x hx).1;omega⟩) I hp hg k (by omega) _ I1
 have g1:=hg h1 I1
 rw[posB_zero] at L1
 simp only[List.length_nil,Nat.add_zero] at L1
 rw[show posB f.blocks f.blocks.length=posOf f.blocks from rfl] at L1
 unfold usedB
 cases x1:(List.range' 0 f.blocks.length).any (badNB f.params.length f.blocks) with
 |true=>
  rw[x1,if_pos rfl] at L1
  simp +decide -implicitDefEqProofs only[k84,go_sem,L1];exact⟨_,_,rfl,rfl⟩
 |false=>
  rw[x1,if_neg (by decide)] at L1
  cases x3:(List.range' 0 f.blocks.length).any (badUB f.params.length f.blocks) with
  |true=>
   rw[x3,if_pos rfl] at L2
   simp +decide -implicitDefEqProofs only[k84,go_sem,L1,g1,hwh,hdm,L2];exact⟨_,_,rfl,rfl⟩
  |false=>
   rw[x3,if_neg (by decide)] at L2
   simp +decide -implicitDefEqProofs only[k84,go_sem,L1,g1,hwh,hdm,L2];exact⟨_,_,rfl,rfl⟩
def badY (n:Nat)(t:Int):Bool:=decide (t< -1)||decide (t≥(n:Int))
def badTb (n:Nat)(x:Table):Bool:=x.funcs.any (badY n)
def boundI (nx ng nt nf:Nat)(x:Ins):Int:=if (decide (x.op=2)||decide (x.op=22))=true then nf else if decide (x.op=3)=true then ng else if decide (x.op=23)=true then nx else if decide (x.op=24)=true then nt else 1
def badSI (nx ng nt nf:Nat)(x:Ins):Bool:=decide (x.sym<0)||decide (x.sym≥boundI nx ng nt nf x)
def badSB (nx ng nt nf:Nat)(x:Block):Bool:=x.ins.any (badSI nx ng nt nf)
def badSF (nx ng nt nf:Nat)(x:Tm.Func):Bool:=x.blocks.any (badSB nx ng nt nf)
def knownB (m:Tm.Module):Bool:= !m.tables.any (badTb m.funcs.length)&&!m.funcs.any (badSF m.externs.length m.globals.length m.tables.length m.funcs.length)
def NoSym (x:Ins):Prop:=x.op≠2→x.op≠22→x.op≠3→x.op≠23→x.op≠24→x.sym=0
theorem known_l0 {vals:FuncId→Bool}{call:CallF}{n:Nat}(a b c:C)(u v w:C)(fs:List Tm.Func)(l:List Int)(hl:l.length<2^50)(h:Heap)(h0:h[0]?=some (.row 0 [u,v,w,funcs fs]))(m:Nat)(hm:l.length<m):Tm.Loop Try.prog vals call n [1,15,16,17,22,23,24] k90b0 m ⟨[(1,.op 0 0),(15,a),(16,b),(17,c),(22,ints l),(23,int l.length),(24,int 0)],h⟩=some (if l.any (badY fs.length)=true then(.ret,⟨[(2,bool false)],h⟩) else(.exit 2,⟨[(1,.op 0 0),(15,a),(16,b),(17,c),(22,ints l),(23,int l.length),(24,int l.length),(25,bool false)],h⟩)):=by
 obtain⟨h1,e,L⟩:=Loop_any (P:=Try.prog) (vals:=vals) (call:=call) (n:=n) (ks:=[1,15,16,17,22,23,24]) (K:=k90b0) (id:=2) l.length (fun i=>badY fs.length (rd l i)) (fun i=>[(1,.op 0 0),(15,a),(16,b),(17,c),(22,ints l),(23,int l.length),(24,int i)]) [(2,bool false)] [(1,.op 0 0),(15,a),(16,b),(17,c),(22,ints l),(23,int l.length),(24,int l.length),(25,bool false)] (fun g=>g=h)
  (fun i g hi hg=>⟨h,rfl,by
   rw[hg]
   have e1:decide ((i:Int)<l.length)=true:=by simp;omega
   have e2:0≤(i:Int)∧(i:Int)<l.length:=by omega
   have e3:=wrap_next (n:=l.length) (i:=i) (by omega) (by omega)
   unfold badY
   cases c1:decide (rd l i< -1)<;>cases c2:decide (rd l i≥(fs.length:Int))<;>simp +decide -implicitDefEqProofs only[k90b0,go_sem,e1,e2,e3,set_new,c1,c2,h0]⟩)
  (fun g hg=>⟨h,rfl,by rw[hg];simp +decide -implicitDefEqProofs only[k90b0,go_sem,Int.lt_irrefl,decide_false]⟩) l.length 0 m h (by omega) hm rfl
 rw[e] at L
 simp only[show((0:Nat):Int)=0 from rfl] at L
 rw[any_ints] at L
 exact L
theorem known_l1 {vals:FuncId→Bool}{call:CallF}{n:Nat}(u v w:C)(fs:List Tm.Func)(l:List Table)(hl2:l.length<2^50)(hb:∀f∈l,f.funcs.length<n∧f.funcs.length<2^50)(I:Heap→Prop)(hp:∀h x,I h→I (h++[x]))(hg:∀h,I h→h[0]?=some (.row 0 [u,v,w,funcs fs]))(m:Nat)(hm:l.length<m)(h:Heap)(hI:I h):∃h1,I h1∧Tm.Loop Try.prog vals call n [1,15,16,17] k90b1 m ⟨[(1,.op 0 0),(15,tables l),(16,int l.length),(17,int 0)],h⟩=some (if l.any (badTb fs.length)=true then(.ret,⟨[(2,bool false)],h1⟩) else(.exit 0,⟨[(1,.op 0 0),(15,tables l),(16,int l.length),(17,int l.length),(18,bool false)],h1⟩)):=by
 obtain⟨h1,J,L⟩:=Loop_any (P:=Try.prog) (vals:=vals) (call:=call) (n:=n) (ks:=[1,15,16,17]) (K:=k90b1) (id:=0) l.length (fun i=>badTb fs.length (tblAt l i)) (fun i=>[(1,.op 0 0),(15,tables l),(16,int l.length),(17,int i)]) [(2,bool false)] [(1,.op 0 0),(15,tables l),(16,int l.length),(17,int l.length),(18,bool false)] I
  (fun i h hi hI=>by
   have e1:decide ((i:Int)<l.length)=true:=by simp;omega
   have e2:0≤(i:Int)∧(i:Int)<l.length:=by omega
   have e3:=wrap_next (n:=l.length) (i:=i) (by omega) (by omega)
   have hx:tblAt l i∈l:=getD_mem hi
   have hb1:=hb _ hx
   have I1:=hp _ (.row 0 (encTable (tblAt l i))) hI
   have g1:=hg _ I1
   have L1:=known_l0 (vals:=vals) (call:=call) (n:=n) (tables l) (int l.length) (int i) u v w fs (tblAt l i).funcs hb1.2 _ g1 n hb1.1
   simp only[encTable] at L1
   unfold badTb
   refine⟨_,I1,?_⟩
   cases c1:(tblAt l i).funcs.any (badY fs.length) with
   |true=>
    rw[c1,if_pos rfl] at L1
    simp +decide -implicitDefEqProofs only[k90b1,go_sem,e1,e2,e3,set_new,encTable,L1]
   |false=>
    rw[c1,if_neg (by decide)] at L1
    simp +decide -implicitDefEqProofs only[k90b1,go_sem,e1,e2,e3,set_new,encTable,L1])
  (fun h hI=>by
   exact⟨h,hI,by simp +decide -implicitDefEqProofs only[k90b1,go_sem,Int.lt_irrefl,decide_false]⟩) l.length 0 m h (by omega) hm hI
 simp only[show((0:Nat):Int)=0 from rfl] at L
 rw[any_tbls] at L
 exact⟨h1,J,L⟩
theorem known_l2 {vals:FuncId→Bool}{call:CallF}{n:Nat}(a b c d e f:C)(xs:List Extern)(gs:List Tm.Global)(ts:List Table)(fs:List Tm.Func)(l:List Ins)(hl:l.length<2^50)(hns:∀x∈l,NoSym x)(I:Heap→Prop)(hp:∀h x,I h→I (h++[x]))(hg:∀h,I h→h[0]?=some (.row 0 [externs xs,globals gs,tables ts,funcs fs]))(m:Nat)(hm:l.length<m)(h:Heap)(hI:I h):∃h1,I h1∧Tm.Loop Try.prog vals call n [1,40,41,42,47,48,49,54,55,56] k90b2 m ⟨[(1,.op 0 0),(40,a),(41,b),(42,c),(47,d),(48,e),(49,f),(54,inss l),(55,int l.length),(56,int 0)],h⟩=some (if l.any (badSI xs.length gs.length ts.length fs.length)=true then(.ret,⟨[(2,bool false)],h1⟩) else(.exit 8,⟨[(1,.op 0 0),(40,a),(41,b),(42,c),(47,d),(48,e),(49,f),(54,inss l),(55,int l.length),(56,int l.length),(57,bool false)],h1⟩)):=by
 obtain⟨h1,J,L⟩:=Loop_any (P:=Try.prog) (vals:=vals) (call:=call) (n:=n) (ks:=[1,40,41,42,47,48,49,54,55,56]) (K:=k90b2) (id:=8) l.length (fun i=>badSI xs.length gs.length ts.length fs.length (insAt l i)) (fun i=>[(1,.op 0 0),(40,a),(41,b),(42,c),(47,d),(48,e),(49,f),(54,inss l),(55,int l.length),(56,int i)]) [(2,bool false)] [(1,.op 0 0),(40,a),(41,b),(42,c),(47,d),(48,e),(49,f),(54,inss l),(55,int l.length),(56,int l.length),(57,bool false)] I
  (fun i h hi hI=>by
   have e1:decide ((i:Int)<l.length)=true:=by simp;omega
   have e2:0≤(i:Int)∧(i:Int)<l.length:=by omega
   have e3:=wrap_next (n:=l.length) (i:=i) (by omega) (by omega)
   have I1:=hp _ (.row 0 (encIns (insAt l i))) hI
   have g0:=hg _ hI
   have g1:=hg _ I1
   simp only[encIns] at g1 I1
   generalize hx:insAt l i=x at g1⊢
   obtain⟨o1,q1⟩:∃q,decide (x.op=2)=q:=⟨_,rfl⟩
   obtain⟨o2,q2⟩:∃q,decide (x.op=22)=q:=⟨_,rfl⟩
   obtain⟨o3,q3⟩:∃q,decide (x.op=3)=q:=⟨_,rfl⟩
   obtain⟨o4,q4⟩:∃q,decide (x.op=23)=q:=⟨_,rfl⟩
   obtain⟨o5,q5⟩:∃q,decide (x.op=24)=q:=⟨_,rfl⟩
   unfold badSI
   refine⟨_,I1,?_⟩
   obtain⟨bd,hbd⟩:∃z,boundI xs.length gs.length ts.length fs.length x=z:=⟨_,rfl⟩
   rw[hbd]
   unfold boundI at hbd
   rw[q1,q2,q3,q4,q5] at hbd
   cases o1 with
   |true=>simp only[Bool.true_or,if_true] at hbd;subst hbd;(cases c1:decide (x.sym<0)<;>cases c2:decide (x.sym≥((fs.length:Nat):Int))<;>simp +decide -implicitDefEqProofs only[k90b2,go_sem,e1,e2,e3,set_new,encIns,g0,g1,hx,q1,q2,q3,q4,q5,c1,c2])
   |false=>
    cases o2 with
    |true=>simp only[Bool.false_or,if_true] at hbd;subst hbd;(cases c1:decide (x.sym<0)<;>cases c2:decide (x.sym≥((fs.length:Nat):Int))<;>simp +decide -implicitDefEqProofs only[k90b2,go_sem,e1,e2,e3,set_new,encIns,g0,g1,hx,q1,q2,q3,q4,q5,c1,c2])
    |false=>
     simp only[Bool.or_self,Bool.false_eq_true,if_false] at hbd
     cases o3 with
     |true=>simp only[if_true] at hbd;subst hbd;(cases c1:decide (x.sym<0)<;>cases c2:decide (x.sym≥((gs.length:Nat):Int))<;>simp +decide -implicitDefEqProofs only[k90b2,go_sem,e1,e2,e3,set_new,encIns,g0,g1,hx,q1,q2,q3,q4,q5,c1,c2])
     |false=>
      simp only[Bool.false_eq_true,if_false] at hbd
      cases o4 with
      |true=>simp only[if_true] at hbd;subst hbd;(cases c1:decide (x.sym<0)<;>cases c2:decide (x.sym≥((xs.length:Nat):Int))<;>simp +decide -implicitDefEqProofs only[k90b2,go_sem,e1,e2,e3,set_new,encIns,g0,g1,hx,q1,q2,q3,q4,q5,c1,c2])
      |false=>
       simp only[Bool.false_eq_true,if_false] at hbd
       cases o5 with
       |true=>simp only[if_true] at hbd;subst hbd;(cases c1:decide (x.sym<0)<;>cases c2:decide (x.sym≥((ts.length:Nat):Int))<;>simp +decide -implicitDefEqProofs only[k90b2,go_sem,e1,e2,e3,set_new,encIns,g0,g1,hx,q1,q2,q3,q4,q5,c1,c2])
       |false=>
        simp only[Bool.false_eq_true,if_false] at hbd
        subst hbd
        have s0:x.sym=0:=by
         exact hns x (by rw[←hx];exact insAt_mem e2) (by simpa using q1) (by simpa using q2) (by simpa using q3) (by simpa using q4) (by simpa using q5)
        have w1:IntKind.i64.wrap (0+1)=1:=by decide
        simp +decide -implicitDefEqProofs only[k90b2,go_sem,e1,e2,e3,set_new,encIns,g0,g1,hx,q1,q2,q3,q4,q5,s0,w1])
  (fun h hI=>by
   exact⟨h,hI,by simp +decide -implicitDefEqProofs only[k90b2,go_sem,Int.lt_irrefl,decide_false]⟩) l.length 0 m h (by omega) hm hI
 simp only[show((0:Nat):Int)=0 from rfl] at L
 rw[any_inss] at L
 exact⟨h1,J,L⟩
theorem known_l3 {vals:FuncId→Bool}{call:CallF}{n:Nat}(a b c:C)(xs:List Extern)(gs:List Tm.Global)(ts:List Table)(fs:List Tm.Func)(l:List Block)(hl2:l.length<2^50)(hb:∀x∈l,x.ins.length<n∧x.ins.length<2^50)(hns:∀b∈l,∀x∈b.ins,NoSym x)(I:Heap→Prop)(hp:∀h x,I h→I (h++[x]))(hg:∀h,I h→h[0]?=some (.row 0 [externs xs,globals gs,tables ts,funcs fs]))(m:Nat)(hm:l.length<m)(h:Heap)(hI:I h):∃h1,I h1∧Tm.Loop Try.prog vals call n [1,40,41,42,47,48,49] k90b3 m ⟨[(1,.op 0 0),(40,a),(41,b),(42,c),(47,blocks l),(48,int l.length),(49,int 0)],h⟩=some (if l.any (badSB xs.length gs.length ts.length fs.length)=true then(.ret,⟨[(2,bool false)],h1⟩) else(.exit 6,⟨[(1,.op 0 0),(40,a),(41,b),(42,c),(47,blocks l),(48,int l.length),(49,int l.length),(50,bool false)],h1⟩)):=by
 obtain⟨h1,J,L⟩:=Loop_any (P:=Try.prog) (vals:=vals) (call:=call) (n:=n) (ks:=[1,40,41,42,47,48,49]) (K:=k90b3) (id:=6) l.length (fun i=>badSB xs.length gs.length ts.length fs.length (blkAt l i)) (fun i=>[(1,.op 0 0),(40,a),(41,b),(42,c),(47,blocks l),(48,int l.length),(49,int i)]) [(2,bool false)] [(1,.op 0 0),(40,a),(41,b),(42,c),(47,blocks l),(48,int l.length),(49,int l.length),(50,bool false)] I
  (fun i h hi hI=>by
   have e1:decide ((i:Int)<l.length)=true:=by simp;omega
   have e2:0≤(i:Int)∧(i:Int)<l.length:=by omega
   have e3:=wrap_next (n:=l.length) (i:=i) (by omega) (by omega)
   have hx:=blkAt_mem e2
   have hbl:=hb _ hx
   obtain⟨h1,J1,L1⟩:=known_l2 (vals:=vals) (call:=call) (n:=n) a b c (blocks l) (int l.length) (int i) xs gs ts fs (blkAt l i).ins hbl.2 (hns _ hx) I hp hg n hbl.1 _ (hp _ (.row 0 [inss (blkAt l i).ins]) hI)
   unfold badSB
   refine⟨h1,J1,?_⟩
   cases c1:(blkAt l i).ins.any (badSI xs.length gs.length ts.length fs.length) with
   |true=>
    rw[c1,if_pos rfl] at L1
    simp +decide -implicitDefEqProofs only[k90b3,go_sem,e1,e2,e3,set_new,L1]
   |false=>
    rw[c1,if_neg (by decide)] at L1
    simp +decide -implicitDefEqProofs only[k90b3,go_sem,e1,e2,e3,set_new,L1])
  (fun h hI=>by
   exact⟨h,hI,by simp +decide -implicitDefEqProofs only[k90b3,go_sem,Int.lt_irrefl,decide_false]⟩) l.length 0 m h (by omega) hm hI
 simp only[show((0:Nat):Int)=0 from rfl] at L
 rw[any_blks] at L
 exact⟨h1,J,L⟩
theorem known_l4 {vals:FuncId→Bool}{call:CallF}{n:Nat}(xs:List Extern)(gs:List Tm.Global)(ts:List Table)(fs:List Tm.Func)(l:List Tm.Func)(hl2:l.length<2^50)(hb:∀f∈l,(f.blocks.length<n∧f.blocks.length<2^50)∧∀x∈f.blocks,x.ins.length<n∧x.ins.length<2^50)(hns:∀f∈l,∀b∈f.blocks,∀x∈b.ins,NoSym x)(I:Heap→Prop)(hp:∀h x,I h→I (h++[x]))(hg:∀h,I h→h[0]?=some (.row 0 [externs xs,globals gs,tables ts,funcs fs]))(m:Nat)(hm:l.length<m)(h:Heap)(hI:I h):∃h1,I h1∧Tm.Loop Try.prog vals call n [1,40,41,42] k90b4 m ⟨[(1,.op 0 0),(40,funcs l),(41,int l.length),(42,int 0)],h⟩=some (if l.any (badSF xs.length gs.length ts.length fs.length)=true then(.ret,⟨[(2,bool false)],h1⟩) else(.exit 4,⟨[(1,.op 0 0),(40,funcs l),(41,int l.length),(42,int l.length),(43,bool false)],h1⟩)):=by
 obtain⟨h1,J,L⟩:=Loop_any (P:=Try.prog) (vals:=vals) (call:=call) (n:=n) (ks:=[1,40,41,42]) (K:=k90b4) (id:=4) l.length (fun i=>badSF xs.length gs.length ts.length fs.length (fnAt l i)) (fun i=>[(1,.op 0 0),(40,funcs l),(41,int l.length),(42,int i)]) [(2,bool false)] [(1,.op 0 0),(40,funcs l),(41,int l.length),(42,int l.length),(43,bool false)] I
  (fun i h hi hI=>by
   have e1:decide ((i:Int)<l.length)=true:=by simp;omega
   have e2:0≤(i:Int)∧(i:Int)<l.length:=by omega
   have e3:=wrap_next (n:=l.length) (i:=i) (by omega) (by omega)
   have hx:fnAt l i∈l:=getD_mem hi
   obtain⟨hb2,hb3⟩:=hb _ hx
   have hn:=hns _ hx
   generalize hf:fnAt l i=f at hx hb2 hb3 hn⊢
   obtain⟨h1,J1,L1⟩:=known_l3 (vals:=vals) (call:=call) (n:=n) (funcs l) (int l.length) (int i) xs gs ts fs f.blocks hb2.2 hb3 hn I hp hg n hb2.1 _ (hp _ (.row 0 (encFunc f)) hI)
   simp only[enc_func] at L1
   unfold badSF
   refine⟨h1,J1,?_⟩
   cases c1:f.blocks.any (badSB xs.length gs.length ts.length fs.length) with
   |true=>
    rw[c1,if_pos rfl] at L1
    simp +decide -implicitDefEqProofs only[k90b4,go_sem,e1,e2,e3,set_new,enc_func,hf,L1]
   |false=>
    rw[c1,if_neg (by decide)] at L1
    simp +decide -implicitDefEqProofs only[k90b4,go_sem,e1,e2,e3,set_new,enc_func,hf,L1])
  (fun h hI=>by
   exact⟨h,hI,by simp +decide -implicitDefEqProofs only[k90b4,go_sem,Int.lt_irrefl,decide_false]⟩) l.length 0 m h (by omega) hm hI
 simp only[show((0:Nat):Int)=0 from rfl] at L
 rw[any_fns] at L
 exact⟨h1,J,L⟩
theorem syms_l0 {vals:FuncId→Bool}{call:CallF}{n:Nat}(u v:C)(fs:List Tm.Func)(l:List Table)(q:Int)(hq:0≤q∧q<l.length)(hl:(tblAt l q).funcs.length<2^50)(h:Heap)(h0:h[0]?=some (.row 0 [u,v,tables l,funcs fs]))(m:Nat)(hm:(tblAt l q).funcs.length<m):Tm.Loop Try.prog vals call n [1,3,4] k82b0 m ⟨[(1,.op 0 0),(3,int q),(4,int 0)],h⟩=some (if (tblAt l q).funcs.any (badY fs.length)=true then(.ret,⟨[(2,bool false)],h⟩) else(.exit 2,⟨[(1,.op 0 0),(3,int q),(4,int (tblAt l q).funcs.length),(26,bool false)],h⟩)):=by
 obtain⟨h1,e,L⟩:=Loop_any (P:=Try.prog) (vals:=vals) (call:=call) (n:=n) (ks:=[1,3,4]) (K:=k82b0) (id:=2) (tblAt l q).funcs.length (fun i=>badY fs.length (rd (tblAt l q).funcs i)) (fun i=>[(1,.op 0 0),(3,int q),(4,int i)]) [(2,bool false)] [(1,.op 0 0),(3,int q),(4,int (tblAt l q).funcs.length),(26,bool false)] (fun g=>g=h)
  (fun i g hi hg=>⟨h,rfl,by
   rw[hg]
   have e1:decide ((i:Int)<(tblAt l q).funcs.length)=true:=by simp;omega
   have e2:0≤(i:Int)∧(i:Int)<(tblAt l q).funcs.length:=by omega
   have e3:=wrap_next (n:=(tblAt l q).funcs.length) (i:=i) (by omega) (by omega)
   unfold badY
   cases c1:decide (rd (tblAt l q).funcs i< -1)<;>cases c2:decide (rd (tblAt l q).funcs i≥(fs.length:Int))<;>simp +decide -implicitDefEqProofs only[k82b0,go_sem,e1,e2,e3,set_new,c1,c2,h0,hq]⟩)
  (fun g hg=>⟨h,rfl,by rw[hg];simp +decide -implicitDefEqProofs only[k82b0,go_sem,Int.lt_irrefl,decide_false,h0,hq]⟩) (tblAt l q).funcs.length 0 m h (by omega) hm rfl
 rw[e] at L
 simp only[show((0:Nat):Int)=0 from rfl] at L
 rw[any_ints] at L
 exact L
theorem syms_l1 {vals:FuncId→Bool}{call:CallF}{n:Nat}(u v:C)(fs:List Tm.Func)(l:List Table)(hl2:l.length<2^50)(hb:∀f∈l,f.funcs.length<n∧f.funcs.length<2^50)(I:Heap→Prop)(hg:∀h,I h→h[0]?=some (.row 0 [u,v,tables l,funcs fs]))(m:Nat)(hm:l.length<m)(h:Heap)(hI:I h):∃h1,I h1∧Tm.Loop Try.prog vals call n [1,3] k82b1 m ⟨[(1,.op 0 0),(3,int 0)],h⟩=some (if l.any (badTb fs.length)=true then(.ret,⟨[(2,bool false)],h1⟩) else(.exit 0,⟨[(1,.op 0 0),(3,int l.length),(15,bool false)],h1⟩)):=by
 obtain⟨h1,J,L⟩:=Loop_any (P:=Try.prog) (vals:=vals) (call:=call) (n:=n) (ks:=[1,3]) (K:=k82b1) (id:=0) l.length (fun i=>badTb fs.length (tblAt l i)) (fun i=>[(1,.op 0 0),(3,int i)]) [(2,bool false)] [(1,.op 0 0),(3,int l.length),(15,bool false)] I
  (fun i h hi hI=>by
   have e1:decide ((i:Int)<l.length)=true:=by simp;omega
   have e2:0≤(i:Int)∧(i:Int)<l.length:=by omega
   have e3:=wrap_next (n:=l.length) (i:=i) (by omega) (by omega)
   have hx:tblAt l i∈l:=getD_mem hi
   have hb1:=hb _ hx
   have g0:=hg _ hI
   have L1:=syms_l0 (vals:=vals) (call:=call) (n:=n) u v fs l i e2 hb1.2 _ g0 n hb1.1
   unfold badTb
   refine⟨_,hI,?_⟩
   cases c1:(tblAt l i).funcs.any (badY fs.length) with
   |true=>
    rw[c1,if_pos rfl] at L1
    simp +decide -implicitDefEqProofs only[k82b1,go_sem,e1,e2,e3,set_new,g0,L1]
   |false=>
    rw[c1,if_neg (by decide)] at L1
    simp +decide -implicitDefEqProofs only[k82b1,go_sem,e1,e2,e3,set_new,g0,L1])
  (fun h hI=>by
   have g0:=hg h hI
   exact⟨h,hI,by simp +decide -implicitDefEqProofs only[k82b1,go_sem,Int.lt_irrefl,decide_false,g0]⟩) l.length 0 m h (by omega) hm hI
 simp only[show((0:Nat):Int)=0 from rfl] at L
 rw[any_tbls] at L
 exact⟨h1,J,L⟩
theorem syms_l2 {vals:FuncId→Bool}{call:CallF}{n:Nat}(xs:List Extern)(gs:List Tm.Global)(ts:List Table)(fs:List Tm.Func)(q:Int)(hq:0≤q∧q<fs.length)(r:Int)(hr:0≤r∧r<(fnAt fs q).blocks.length)(hl:(blkAt (fnAt fs q).blocks r).ins.length<2^50)(I:Heap→Prop)(hp:∀h x,I h→I (h++[x]))(hg:∀h,I h→h[0]?=some (.row 0 [externs xs,globals gs,tables ts,funcs fs]))(m:Nat)(hm:(blkAt (fnAt fs q).blocks r).ins.length<m)(h:Heap)(hI:I h):∃h1,I h1∧Tm.Loop Try.prog vals call n [1,6,7,8] k82b2 m ⟨[(1,.op 0 0),(6,int q),(7,int r),(8,int 0)],h⟩=some (if (blkAt (fnAt fs q).blocks r).ins.any (badSI xs.length gs.length ts.length fs.length)=true then(.ret,⟨[(2,bool false)],h1⟩) else(.exit 8,⟨[(1,.op 0 0),(6,int q),(7,int r),(8,int (blkAt (fnAt fs q).blocks r).ins.length),(77,bool false)],h1⟩)):=by
 obtain⟨h1,J,L⟩:=Loop_any (P:=Try.prog) (vals:=vals) (call:=call) (n:=n) (ks:=[1,6,7,8]) (K:=k82b2) (id:=8) (blkAt (fnAt fs q).blocks r).ins.length (fun i=>badSI xs.length gs.length ts.length fs.length (insAt (blkAt (fnAt fs q).blocks r).ins i)) (fun i=>[(1,.op 0 0),(6,int q),(7,int r),(8,int i)]) [(2,bool false)] [(1,.op 0 0),(6,int q),(7,int r),(8,int (blkAt (fnAt fs q).blocks r).ins.length),(77,bool false)] I
  (fun i h hi hI=>by
   have e1:decide ((i:Int)<(blkAt (fnAt fs q).blocks r).ins.length)=true:=by simp;omega
   have e2:0≤(i:Int)∧(i:Int)<(blkAt (fnAt fs q).blocks r).ins.length:=by omega
   have e3:=wrap_next (n:=(blkAt (fnAt fs q).blocks r).ins.length) (i:=i) (by omega) (by omega)
   have I1:=hp _ (.row 0 (encIns (insAt (blkAt (fnAt fs q).blocks r).ins i))) hI
   have g0:=hg _ hI
   have g1:=hg _ I1
   simp only[encIns] at g1 I1
   generalize hx:insAt (blkAt (fnAt fs q).blocks r).ins i=x at g1⊢
   obtain⟨o1,q1⟩:∃q,decide (x.op=2)=q:=⟨_,rfl⟩
   obtain⟨o2,q2⟩:∃q,decide (x.op=22)=q:=⟨_,rfl⟩
   obtain⟨o3,q3⟩:∃q,decide (x.op=3)=q:=⟨_,rfl⟩
   obtain⟨o4,q4⟩:∃q,decide (x.op=23)=q:=⟨_,rfl⟩
   obtain⟨o5,q5⟩:∃q,decide (x.op=24)=q:=⟨_,rfl⟩
   unfold badSI
   refine⟨_,I1,?_⟩
   obtain⟨bd,hbd⟩:∃z,boundI xs.length gs.length ts.length fs.length x=z:=⟨_,rfl⟩
   rw[hbd]
   unfold boundI at hbd
   rw[q1,q2,q3,q4,q5] at hbd
   cases o1 with
   |true=>simp only[Bool.true_or,if_true] at hbd;subst hbd;(cases c1:decide (x.sym<0)<;>cases c2:decide (x.sym≥((fs.length:Nat):Int))<;>simp +decide -implicitDefEqProofs only[k82b2,go_sem,e1,e2,e3,set_new,encIns,g0,g1,hx,q1,q2,q3,q4,q5,c1,c2,hq,hr])
   |false=>
    cases o2 with
    |true=>simp only[Bool.false_or,if_true] at hbd;subst hbd;(cases c1:decide (x.sym<0)<;>cases c2:decide (x.sym≥((fs.length:Nat):Int))<;>simp +decide -implicitDefEqProofs only[k82b2,go_sem,e1,e2,e3,set_new,encIns,g0,g1,hx,q1,q2,q3,q4,q5,c1,c2,hq,hr])
    |false=>
     simp only[Bool.or_self,Bool.false_eq_true,if_false] at hbd
     cases o3 with
     |true=>simp only[if_true] at hbd;subst hbd;(cases c1:decide (x.sym<0)<;>cases c2:decide (x.sym≥((gs.length:Nat):Int))<;>simp +decide -implicitDefEqProofs only[k82b2,go_sem,e1,e2,e3,set_new,encIns,g0,g1,hx,q1,q2,q3,q4,q5,c1,c2,hq,hr])
     |false=>
      simp only[Bool.false_eq_true,if_false] at hbd
      cases o4 with
      |true=>simp only[if_true] at hbd;subst hbd;(cases c1:decide (x.sym<0)<;>cases c2:decide (x.sym≥((xs.length:Nat):Int))<;>simp +decide -implicitDefEqProofs only[k82b2,go_sem,e1,e2,e3,set_new,encIns,g0,g1,hx,q1,q2,q3,q4,q5,c1,c2,hq,hr])
      |false=>
       simp only[Bool.false_eq_true,if_false] at hbd
       cases o5 with
       |true=>simp only[if_true] at hbd;subst hbd;(cases c1:decide (x.sym<0)<;>cases c2:decide (x.sym≥((ts.length:Nat):Int))<;>simp +decide -implicitDefEqProofs only[k82b2,go_sem,e1,e2,e3,set_new,encIns,g0,g1,hx,q1,q2,q3,q4,q5,c1,c2,hq,hr])
       |false=>
        simp only[Bool.false_eq_true,if_false] at hbd
        subst hbd
        (cases c1:decide (x.sym<0)<;>cases c2:decide (x.sym≥(1:Int))<;>simp +decide -implicitDefEqProofs only[k82b2,go_sem,e1,e2,e3,set_new,encIns,g0,g1,hx,q1,q2,q3,q4,q5,c1,c2,hq,hr]))
  (fun h hI=>by
   have g0:=hg h hI
   exact⟨h,hI,by simp +decide -implicitDefEqProofs only[k82b2,go_sem,Int.lt_irrefl,decide_false,g0,hq,hr]⟩) (blkAt (fnAt fs q).blocks r).ins.length 0 m h (by omega) hm hI
 simp only[show((0:Nat):Int)=0 from rfl] at L
 rw[any_inss] at L
 exact⟨h1,J,L⟩
theorem syms_l3 {vals:FuncId→Bool}{call:CallF}{n:Nat}(xs:List Extern)(gs:List Tm.Global)(ts:List Table)(fs:List Tm.Func)(q:Int)(hq:0≤q∧q<fs.length)(hl2:(fnAt fs q).blocks.length<2^50)(hb:∀x∈(fnAt fs q).blocks,x.ins.length<n∧x.ins.length<2^50)(I:Heap→Prop)(hp:∀h x,I h→I (h++[x]))(hg:∀h,I h→h[0]?=some (.row 0 [externs xs,globals gs,tables ts,funcs fs]))(m:Nat)(hm:(fnAt fs q).blocks.length<m)(h:Heap)(hI:I h):∃h1,I h1∧Tm.Loop Try.prog vals call n [1,6,7] k82b3 m ⟨[(1,.op 0 0),(6,int q),(7,int 0)],h⟩=some (if (fnAt fs q).blocks.any (badSB xs.length gs.length ts.length fs.length)=true then(.ret,⟨[(2,bool false)],h1⟩) else(.exit 6,⟨[(1,.op 0 0),(6,int q),(7,int (fnAt fs q).blocks.length),(62,bool false)],h1⟩)):=by
 obtain⟨h1,J,L⟩:=Loop_any (P:=Try.prog) (vals:=vals) (call:=call) (n:=n) (ks:=[1,6,7]) (K:=k82b3) (id:=6) (fnAt fs q).blocks.length (fun i=>badSB xs.length gs.length ts.length fs.length (blkAt (fnAt fs q).blocks i)) (fun i=>[(1,.op 0 0),(6,int q),(7,int i)]) [(2,bool false)] [(1,.op 0 0),(6,int q),(7,int (fnAt fs q).blocks.length),(62,bool false)] I
  (fun i h hi hI=>by
   have e1:decide ((i:Int)<(fnAt fs q).blocks.length)=true:=by simp;omega
   have e2:0≤(i:Int)∧(i:Int)<(fnAt fs q).blocks.length:=by omega
   have e3:=wrap_next (n:=(fnAt fs q).blocks.length) (i:=i) (by omega) (by omega)
   have hx:=blkAt_mem e2
   have hbl:=hb _ hx
   have g0:=hg _ hI
   obtain⟨h1,J1,L1⟩:=syms_l2 (vals:=vals) (call:=call) (n:=n) xs gs ts fs q hq i e2 hbl.2 I hp hg n hbl.1 _ hI
   unfold badSB
   refine⟨h1,J1,?_⟩
   cases c1:(blkAt (fnAt fs q).blocks i).ins.any (badSI xs.length gs.length ts.length fs.length) with
   |true=>
    rw[c1,if_pos rfl] at L1
    simp +decide -implicitDefEqProofs only[k82b3,go_sem,e1,e2,e3,set_new,g0,hq,L1]
   |false=>
    rw[c1,if_neg (by decide)] at L1
    simp +decide -implicitDefEqProofs only[k82b3,go_sem,e1,e2,e3,set_new,g0,hq,L1])
  (fun h hI=>by
   have g0:=hg h hI
   exact⟨h,hI,by simp +decide -implicitDefEqProofs only[k82b3,go_sem,Int.lt_irrefl,decide_false,g0,hq]⟩) (fnAt fs q).blocks.length 0 m h (by omega) hm hI
 simp only[show((0:Nat):Int)=0 from rfl] at L
 rw[any_blks] at L
 exact⟨h1,J,L⟩
theorem syms_l4 {vals:FuncId→Bool}{call:CallF}{n:Nat}(xs:List Extern)(gs:List Tm.Global)(ts:List Table)(fs:List Tm.Func)(hl2:fs.length<2^50)(hb:∀f∈fs,(f.blocks.length<n∧f.blocks.length<2^50)∧∀x∈f.blocks,x.ins.length<n∧x.ins.length<2^50)(I:Heap→Prop)(hp:∀h x,I h→I (h++[x]))(hg:∀h,I h→h[0]?=some (.row 0 [externs xs,globals gs,tables ts,funcs fs]))(m:Nat)(hm:fs.length<m)(h:Heap)(hI:I h):∃h1,I h1∧Tm.Loop Try.prog vals call n [1,6] k82b4 m ⟨[(1,.op 0 0),(6,int 0)],h⟩=some (if fs.any (badSF xs.length gs.length ts.length fs.length)=true then(.ret,⟨[(2,bool false)],h1⟩) else(.exit 4,⟨[(1,.op 0 0),(6,int fs.length),(51,bool false)],h1⟩)):=by
 obtain⟨h1,J,L⟩:=Loop_any (P:=Try.prog) (vals:=vals) (call:=call) (n:=n) (ks:=[1,6]) (K:=k82b4) (id:=4) fs.length (fun i=>badSF xs.length gs.length ts.length fs.length (fnAt fs i)) (fun i=>[(1,.op 0 0),(6,int i)]) [(2,bool false)] [(1,.op 0 0),(6,int fs.length),(51,bool false)] I
  (fun i h hi hI=>by
   have e1:decide ((i:Int)<fs.length)=true:=by simp;omega
   have e2:0≤(i:Int)∧(i:Int)<fs.length:=by omega
   have e3:=wrap_next (n:=fs.length) (i:=i) (by omega) (by omega)
   have hx:fnAt fs i∈fs:=getD_mem hi
   obtain⟨hb2,hb3⟩:=hb _ hx
   have g0:=hg _ hI
   obtain⟨h1,J1,L1⟩:=syms_l3 (vals:=vals) (call:=call) (n:=n) xs gs ts fs i e2 hb2.2 hb3 I hp hg n hb2.1 _ hI
   unfold badSF
   refine⟨h1,J1,?_⟩
   cases c1:(fnAt fs i).blocks.any (badSB xs.length gs.length ts.length fs.length) with
   |true=>
    rw[c1,if_pos rfl] at L1
    simp +decide -implicitDefEqProofs only[k82b4,go_sem,e1,e2,e3,set_new,g0,L1]
   |false=>
    rw[c1,if_neg (by decide)] at L1
    simp +decide -implicitDefEqProofs only[k82b4,go_sem,e1,e2,e3,set_new,g0,L1])
  (fun h hI=>by
   have g0:=hg h hI
   exact⟨h,hI,by simp +decide -implicitDefEqProofs only[k82b4,go_sem,Int.lt_irrefl,decide_false,g0]⟩) fs.length 0 m h (by omega) hm hI
 simp only[show((0:Nat):Int)=0 from rfl] at L
 rw[any_fns] at L
 exact⟨h1,J,L⟩
theorem wknown_runs (m:Tm.Module)(F:FineM m)(hns:∀f∈m.funcs,∀b∈f.blocks,∀x∈b.ins,NoSym x):Runs Try.prog tab 200 90 [.agg (encModule m)] (bool (knownB m)):=by
 refine Runs.by (rs:=[.tmp 2]) (N:=98) rfl Try.func90 rfl rfl (by simp) fun k hk=>?_
 have b1:=F.tables
 have b4:=F.funcs
 generalize hc:callAt Try.prog tab k=call
 generalize hv:valsOf tab=vals
 rw[enc_module]
 generalize hI:Has 0 (.row 0 [externs m.externs,globals m.globals,tables m.tables,funcs m.funcs])=I
 have hp:∀h x,I h→I (h++[x]):=by rw[←hI];exact fun h x H=>H.push
 have hg:∀h,I h→h[0]?=some (.row 0 [externs m.externs,globals m.globals,tables m.tables,funcs m.funcs]):=by rw[←hI];exact fun h H=>H
 have i0:I [.row 0 [externs m.externs,globals m.globals,tables m.tables,funcs m.funcs]]:=by rw[←hI];rfl
 have hbx:∀f∈m.tables,f.funcs.length<k∧f.funcs.length<2^50:=fun x hx=>by have:=(F.tbl x hx).2;omega
 have hbf:∀f∈m.funcs,(f.blocks.length<k∧f.blocks.length<2^50)∧∀x∈f.blocks,x.ins.length<k∧x.ins.length<2^50:=fun f hf=>by
  have:=(F.fn f hf).1.blocks
  exact⟨by omega,fun b hb=>by have:=(F.fn f hf).1.ins b hb;omega⟩
 obtain⟨h1,I1,L1⟩:=known_l1 (vals:=vals) (call:=call) (n:=k) _ _ _ m.funcs m.tables (by omega) hbx I hp hg k (by omega) _ i0
 obtain⟨h2,I2,L2⟩:=known_l4 (vals:=vals) (call:=call) (n:=k) m.externs m.globals m.tables m.funcs m.funcs (by omega) hbf hns I hp hg k (by omega) _ I1
 have g1:=hg h1 I1
 have g2:=hg h2 I2
 unfold knownB
 cases x1:m.tables.any (badTb m.funcs.length) with
 |true=>
  rw[x1,if_pos rfl] at L1
  simp +decide -implicitDefEqProofs only[k90,go_sem,L1];exact⟨_,_,rfl,rfl⟩
 |false=>
  rw[x1,if_neg (by decide)] at L1
  cases x2:m.funcs.any (badSF m.externs.length m.globals.length m.tables.length m.funcs.length) with
  |true=>
   rw[x2,if_pos rfl] at L2
   simp +decide -implicitDefEqProofs only[k90,go_sem,L1,L2,g1,g2];exact⟨_,_,rfl,rfl⟩
  |false=>
   rw[x2,if_neg (by decide)] at L2
   simp +decide -implicitDefEqProofs only[k90,go_sem,L1,L2,g1,g2];exact⟨_,_,rfl,rfl⟩
theorem rsyms_runs (m:Tm.Module)(F:FineM m):Runs Try.prog tab 200 82 [.agg (encModule m)] (bool (knownB m)):=by
 refine Runs.by (rs:=[.tmp 2]) (N:=125) rfl Try.func82 rfl rfl (by simp) fun k hk=>?_
 have b1:=F.tables
 have b4:=F.funcs
 generalize hc:callAt Try.prog tab k=call
 generalize hv:valsOf tab=vals
 rw[enc_module]
 generalize hI:Has 0 (.row 0 [externs m.externs,globals m.globals,tables m.tables,funcs m.funcs])=I
 have hp:∀h x,I h→I (h++[x]):=by rw[←hI];exact fun h x H=>H.push
 have hg:∀h,I h→h[0]?=some (.row 0 [externs m.externs,globals m.globals,tables m.tables,funcs m.funcs]):=by rw[←hI];exact fun h H=>H
 have i0:I [.row 0 [externs m.externs,globals m.globals,tables m.tables,funcs m.funcs]]:=by rw[←hI];rfl
 have hbx:∀f∈m.tables,f.funcs.length<k∧f.funcs.length<2^50:=fun x hx=>by have:=(F.tbl x hx).2;omega
 have hbf:∀f∈m.funcs,(f.blocks.length<k∧f.blocks.length<2^50)∧∀x∈f.blocks,x.ins.length<k∧x.ins.length<2^50:=fun f hf=>by
  have:=(F.fn f hf).1.blocks
  exact⟨by omega,fun b hb=>by have:=(F.fn f hf).1.ins b hb;omega⟩
 obtain⟨h1,I1,L1⟩:=syms_l1 (vals:=vals) (call:=call) (n:=k) _ _ m.funcs m.tables (by omega) hbx I hg k (by omega) _ i0
 obtain⟨h2,I2,L2⟩:=syms_l4 (vals:=vals) (call:=call) (n:=k) m.externs m.globals m.tables m.funcs (by omega) hbf I hp hg k (by omega) _ I1
 have g1:=hg h1 I1
 have g2:=hg h2 I2
 unfold knownB
 cases x1:m.tables.any (badTb m.funcs.length) with
 |true=>
  rw[x1,if_pos rfl] at L1
  simp +decide -implicitDefEqProofs only[k82,go_sem,L1];exact⟨_,_,rfl,rfl⟩
 |false=>
  rw[x1,if_neg (by decide)] at L1
  cases x2:m.funcs.any (badSF m.externs.length m.globals.length m.tables.length m.funcs.length) with
  |true=>
   rw[x2,if_pos rfl] at L2
   simp +decide -implicitDefEqProofs only[k82,go_sem,L1,L2,g1,g2];exact⟨_,_,rfl,rfl⟩
  |false=>
   rw[x2,if_neg (by decide)] at L2
   simp +decide -implicitDefEqProofs only[k82,go_sem,L1,L2,g1,g2];exact⟨_,_,rfl,rfl⟩
structure ShapeOk (x:Ins):Prop where
 lo:1≤x.op
 hi:x.op≤30
 args:x.op≠26→(markOf x.op).args<0∨(x.args.length:Int)=(markOf x.op).args
 into:x.op≠26→(markOf x.op).into<0∨(x.into.length:Int)=(markOf x.op).into
 phi:x.op=26→x.into.length=x.args.length∧1≤x.args.length
 via:x.op=25→1≤x.args.length
 sym:(markOf x.op).sym=false→x.sym=0
theorem shape_ok {x:Ins}(h:shapeB x=true):ShapeOk x:=by
 unfold shapeB shapedS at h
 split at h
 ·exact absurd h (by decide)
 rename_i h1
 split at h
 ·exact absurd h (by decide)
 rename_i h2
 rw[Bool.not_eq_true,Bool.or_eq_false_iff] at h1
 rw[Bool.not_eq_true,Bool.or_eq_false_iff,Bool.or_eq_false_iff,Bool.or_eq_false_iff,Bool.or_eq_false_iff] at h2
 obtain⟨⟨⟨⟨hf,hs⟩,_⟩,_⟩,_⟩:=h2
 rw[Bool.not_eq_false'] at hf
 have a1:¬x.op<1:=of_decide_eq_false h1.1
 have a2:¬x.op>30:=of_decide_eq_false h1.2
 have non:x.op≠26→(((cdOf x).f1||(cdOf x).f2)&&((cdOf x).f3||(cdOf x).f4))=true:=fun hn=>by
  have e:(cdOf x).e26=false:=decide_eq_false hn
  unfold fitsS at hf
  rw[e,if_neg (by decide)] at hf
  split at hf
  ·exact(Bool.and_eq_true _ _ ▸ hf).1
  split at hf
  ·rw[Bool.and_eq_true,Bool.and_eq_true] at hf;exact hf.1.1
  split at hf
  ·exact(Bool.and_eq_true _ _ ▸ hf).1
  split at hf
  ·rw[Bool.and_eq_true,Bool.and_eq_true] at hf;exact hf.1.1
  ·exact hf
 refine⟨by omega,by omega,fun hn=>?_,fun hn=>?_,fun he=>?_,fun he=>?_,fun hsy=>?_⟩
 ·have:=non hn
  rw[Bool.and_eq_true,Bool.or_eq_true] at this
  exact this.1.imp of_decide_eq_true of_decide_eq_true
 ·have:=non hn
  rw[Bool.and_eq_true,Bool.or_eq_true,Bool.or_eq_true] at this
  exact this.2.imp of_decide_eq_true of_decide_eq_true
 ·have e:(cdOf x).e26=true:=decide_eq_true he
  unfold fitsS at hf
  rw[e,if_pos rfl,Bool.and_eq_true] at hf
  have p1:(x.args.length:Int)=x.into.length:=of_decide_eq_true hf.1
  have p2:(x.args.length:Int)≥1:=of_decide_eq_true hf.2
  omega
 ·have e:(cdOf x).e26=false:=decide_eq_false (by omega)
  have e2:(cdOf x).e29=false:=decide_eq_false (by omega)
  have e3:(cdOf x).e25=true:=decide_eq_true he
  unfold fitsS at hf
  rw[e,if_neg (by decide),e2,if_neg (by decide),e3,if_pos rfl,Bool.and_eq_true,Bool.and_eq_true] at hf
  have p2:(x.args.length:Int)≥1:=of_decide_eq_true hf.1.2
  omega
 ·rw[Bool.and_eq_false_iff] at hs
  rcases hs with h|h
  ·have:(cdOf x).sy=false:=hsy
   rw[this] at h;exact absurd h (by decide)
  ·rw[Bool.not_eq_false'] at h
   exact of_decide_eq_true h
theorem ops_of {op:Int}(h1:1≤op)(h2:op≤30):op=1∨op=2∨op=3∨op=4∨op=5∨op=6∨op=7∨op=8∨op=9∨op=10∨op=11∨op=12∨op=13∨op=14∨op=15∨op=16∨op=17∨op=18∨op=19∨op=20∨op=21∨op=22∨op=23∨op=24∨op=25∨op=26∨op=27∨op=28∨op=29∨op=30:=by omega
theorem ShapeOk.intoOk {x:Ins}(H:ShapeOk x):IntoOk x:=by
 constructor
 ·intro e
  have h:=H.into (by omega)
  rw[e] at h
  have m:(markOf 28).into=2:=rfl
  omega
 ·intro he h2
  have hr:27≤x.op∧x.op≤30:=of_decide_eq_true he
  have h:=H.into (by omega)
  have m27:(markOf 27).into=1:=rfl
  have m29:(markOf 29).into=0:=rfl
  have m30:(markOf 30).into=0:=rfl
  rcases(by omega:x.op=27∨x.op=28∨x.op=29∨x.op=30) with e|e|e|e<;>rw[e] at h<;>omega
theorem ShapeOk.noSym {x:Ins}(H:ShapeOk x):NoSym x:=by
 intro h2 h22 h3 h23 h24
 refine H.sym ?_
 rcases ops_of H.lo H.hi with e|e|e|e|e|e|e|e|e|e|e|e|e|e|e|e|e|e|e|e|e|e|e|e|e|e|e|e|e|e<;>first|(exact absurd e (by assumption))|(rw[e];rfl)
def gotOf (ty args:List Int):List Int:=args.map (rd ty)
def allT (t:Int)(got:List Int):Bool:=got.all fun g=>decide (g=t)
theorem any_all (t:Int):∀(got:List Int),(got.any fun g=>!decide (g=t))= !allT t got
 |[]=>rfl
 |g::r=>by
  have ih:=any_all t r
  unfold allT at ih⊢
  rw[List.any_cons,List.all_cons,ih,Bool.not_and]
theorem got_rd {ty args:List Int}{i:Nat}(h:i<args.length):rd (gotOf ty args) i=rd ty (rd args i):=by
 unfold gotOf
 simp only[rd,Int.toNat_natCast,List.getD_eq_getElem?_getD,List.getElem?_map,List.getElem?_eq_getElem h,Option.map_some,Option.getD_some]
theorem wall_l {vals:FuncId→Bool}{call:CallF}{n:Nat}(ty a:List Int)(t:Int)(hl:a.length<2^50)(hin:∀v∈a,0≤v∧v<(ty.length:Int))(h:Heap)(m:Nat)(hm:a.length<m):Tm.Loop Try.prog vals call n [0,2,9,10,11] k118b0 m ⟨[(0,ints ty),(2,int t),(9,ints a),(10,int a.length),(11,int 0)],h⟩=some (if a.any (fun v=>!decide (rd ty v=t))=true then(.ret,⟨[(6,bool false)],h⟩) else(.exit 0,⟨[(0,ints ty),(2,int t),(9,ints a),(10,int a.length),(11,int a.length),(12,bool false)],h⟩)):=by
 obtain⟨h1,e,L⟩:=Loop_any (P:=Try.prog) (vals:=vals) (call:=call) (n:=n) (ks:=[0,2,9,10,11]) (K:=k118b0) (id:=0) a.length (fun i=>!decide (rd ty (rd a i)=t)) (fun i=>[(0,ints ty),(2,int t),(9,ints a),(10,int a.length),(11,int i)]) [(6,bool false)] [(0,ints ty),(2,int t),(9,ints a),(10,int a.length),(11,int a.length),(12,bool false)] (fun g=>g=h)
  (fun i g hi hg=>⟨h,rfl,by
   rw[hg]
   have e1:decide ((i:Int)<a.length)=true:=by simp;omega
   have e2:0≤(i:Int)∧(i:Int)<a.length:=by omega
   have e3:=wrap_next (n:=a.length) (i:=i) (by omega) (by omega)
   have hr:=hin _ (mem_of_rd hi)
   cases c1:decide (rd ty (rd a i)=t)<;>simp +decide -implicitDefEqProofs only[k118b0,go_sem,e1,e2,e3,set_new,c1,hr]⟩)
  (fun g hg=>⟨h,rfl,by rw[hg];simp +decide -implicitDefEqProofs only[k118b0,go_sem,Int.lt_irrefl,decide_false]⟩) a.length 0 m h (by omega) hm rfl
 rw[e] at L
 simp only[show((0:Nat):Int)=0 from rfl] at L
 rw[any_ints (fun v=>!decide (rd ty v=t))] at L
 exact L
theorem wall_runs (ty a:List Int)(t:Int)(hl:a.length<100)(hin:∀v∈a,0≤v∧v<(ty.length:Int)):Runs Try.prog tab 200 118 [ints ty,ints a,int t] (bool (allT t (gotOf ty a))):=by
 refine Runs.by (rs:=[.tmp 6]) (N:=22) rfl Try.func118 rfl rfl (by simp) fun k hk=>?_
 have L:=wall_l (vals:=valsOf tab) (call:=callAt Try.prog tab k) (n:=k) ty a t (by omega) hin [] k (by omega)
 have e:(a.any fun v=>!decide (rd ty v=t))= !allT t (gotOf ty a):=by rw[←any_all];unfold gotOf;rw[List.any_map];rfl
 rw[e] at L
 cases c:allT t (gotOf ty a) with
 |true=>
  rw[c,if_neg (by decide)] at L
  simp +decide -implicitDefEqProofs only[k118,go_sem,L];exact⟨_,_,rfl,rfl⟩
 |false=>
  rw[c,if_pos (by decide)] at L
  simp +decide -implicitDefEqProofs only[k118,go_sem,L];exact⟨_,_,rfl,rfl⟩
theorem wrows_loop {vals:FuncId→Bool}{call:CallF}{n:Nat}(ty a w:List Int)(hl:a.length=w.length)(hx:a.length<2^50)(hin:∀v∈a,0≤v∧v<(ty.length:Int))(h:Heap)(m:Nat)(hm:a.length<m):Tm.Loop Try.prog vals call n [0,2,14,15,16] k119b0 m ⟨[(0,ints ty),(2,ints w),(14,ints a),(15,int a.length),(16,int 0)],h⟩=some (if decide (gotOf ty a=w)=true then(.exit 0,⟨[(0,ints ty),(2,ints w),(14,ints a),(15,int a.length),(16,int a.length),(17,bool false)],h⟩) else(.ret,⟨[(6,bool false)],h⟩)):=by
 have hgl:(gotOf ty a).length=a.length:=by simp[gotOf]
 obtain⟨h1,e,L⟩:=Loop_any (P:=Try.prog) (vals:=vals) (call:=call) (n:=n) (ks:=[0,2,14,15,16]) (K:=k119b0) (id:=0) a.length (fun i=>!decide (rd (gotOf ty a) i=rd w i)) (fun i=>[(0,ints ty),(2,ints w),(14,ints a),(15,int a.length),(16,int i)]) [(6,bool false)] [(0,ints ty),(2,ints w),(14,ints a),(15,int a.length),(16,int a.length),(17,bool false)] (fun g=>g=h)
  (fun i g hi hg=>⟨h,rfl,by
   rw[hg]
   have e1:decide ((i:Int)<a.length)=true:=by simp;omega
   have e2:0≤(i:Int)∧(i:Int)<a.length:=by omega
   have e2b:0≤(i:Int)∧(i:Int)<w.length:=by omega
   have e3:=wrap_next (n:=a.length) (i:=i) (by omega) (by omega)
   have hr:=hin _ (mem_of_rd hi)
   rw[got_rd hi]
   cases c1:decide (rd ty (rd a i)=rd w i)<;>simp +decide -implicitDefEqProofs only[k119b0,go_sem,e1,e2,e2b,e3,hr,c1]⟩)
  (fun g hg=>⟨h,rfl,by rw[hg];simp +decide -implicitDefEqProofs only[k119b0,go_sem,Int.lt_irrefl,decide_false]⟩) a.length 0 m h (by omega) hm rfl
 rw[e] at L
 simp only[show((0:Nat):Int)=0 from rfl] at L
 have hd:=ints_differ (a:=gotOf ty a) (b:=w) (by omega)
 rw[hgl] at hd
 rw[L,←hd]
 cases (List.range' 0 a.length).any fun i=>!decide (rd (gotOf ty a) i=rd w i)<;>rfl
theorem wrows_runs (ty a w:List Int)(hx:a.length<100)(hin:∀v∈a,0≤v∧v<(ty.length:Int)):Runs Try.prog tab 200 119 [ints ty,ints a,ints w] (bool (decide (gotOf ty a=w))):=by
 refine Runs.by (rs:=[.tmp 6]) (N:=31) rfl Try.func119 rfl rfl (by simp) fun k hk=>?_
 have hgl:(gotOf ty a).length=a.length:=by simp[gotOf]
 by_cases hl:a.length=w.length
 ·have L:=wrows_loop (vals:=valsOf tab) (call:=callAt Try.prog tab k) (n:=k) ty a w hl (by omega) hin [] k (by omega)
  have d:decide ((a.length:Int)=w.length)=true:=by simp[hl]
  cases c:decide (gotOf ty a=w) with
  |true=>
   rw[c,if_pos rfl] at L
   simp +decide -implicitDefEqProofs only[k119,go_sem,d,L];exact⟨_,_,rfl,rfl⟩
  |false=>
   rw[c,if_neg (by decide)] at L
   simp +decide -implicitDefEqProofs only[k119,go_sem,d,L];exact⟨_,_,rfl,rfl⟩
 ·have d:decide ((a.length:Int)=w.length)=false:=by simp;omega
  rw[decide_eq_false (fun e=>hl (by rw[←hgl,e]))]
  simp +decide -implicitDefEqProofs only[k119,go_sem,d];exact⟨_,_,rfl,rfl⟩
def fitS (op ty num:Int)(got:List Int)(fres:Int)(fps:List Int)(eres:Int)(eps:List Int)(fr:Int):Bool:=
 if op=1 then decide (ty=1)||(decide (ty=2)&&(decide (num=0)||decide (num=1)))
 else if op=2 then decide (ty=4)
 else if op=3∨op=18 then decide (ty=3)
 else if 4≤op∧op≤13 then decide (ty=1)&&allT 1 got
 else if op=14∨op=15 then decide (ty=2)&&allT 1 got
 else if op=16 then decide (ty=2)&&allT 2 got
 else if op=17 then decide (got=[2,ty,ty])
 else if op=19 then decide (ty=3)&&decide (got=[3,1])
 else if op=20 then decide (ty=1)&&decide (got=[3])
 else if op=21 then decide (got=[3,1])
 else if op=24 then decide (ty=4)&&decide (got=[1])
 else if op=25 then decide (rd got 0=4)&&!decide (ty=3)
 else if op=22 then decide (ty=fres)&&decide (got=fps)
 else if op=23 then decide (ty=eres)&&decide (got=eps)
 else if op=26 then allT ty got
 else if op=28 then decide (got=[2])
 else if op=29 then(if fr=0 then decide (got=[]) else decide (got=[fr]))
 else true
def fitB (m:Tm.Module)(f:Tm.Func)(ty:List Int)(x:Ins):Bool:=
 fitS x.op x.type x.num (gotOf ty x.args) (fnAt m.funcs x.sym).result (fnAt m.funcs x.sym).params (extAt m.externs x.sym).result (extAt m.externs x.sym).params f.result
theorem fit_1 {vals:FuncId→Bool}{call:CallF}{n:Nat}(m:Tm.Module)(f:Tm.Func)(ty:List Int)(x:Ins)(hop:x.op=1)(hall:∀t h,call 118 [ints ty,ints x.args,int t] h=some (bool (allT t (gotOf ty x.args)),h))(hrow:∀(w:List Int) (l:Nat) (h:Heap),h[l]?=some (.row 1 (w.map int))→call 119 [ints ty,ints x.args,.os l 0 w.length (some w.length)] h=some (bool (decide (gotOf ty x.args=w)),h))(hfrz:∀(w:List Int) h,call 119 [ints ty,ints x.args,ints w] h=some (bool (decide (gotOf ty x.args=w)),h)):∃r h',fin Try.prog [.tmp 8] (exec Try.prog vals call n k114 ⟨enterE 0 [.agg [externs m.externs,globals m.globals,tables m.tables,funcs m.funcs],.agg [str f.name,bool f.out,ints f.params,int f.result,blocks f.blocks],ints ty,.agg [int x.op,int x.type,int x.to,int x.sym,int x.num,ints x.args,ints x.into]],[]⟩)=some (r,h')∧view true h' depth r=some (bool (fitB m f ty x)):=by
 rw[show fitB m f ty x=(decide (x.type=1)||(decide (x.type=2)&&(decide (x.num=0)||decide (x.num=1)))) by unfold fitB;rw[hop];rfl]
 cases q1:decide (x.type=1)<;>cases q2:decide (x.type=2)<;>cases q3:decide (x.num=0)<;>cases q4:decide (x.num=1)<;>(simp +decide -implicitDefEqProofs only[k114,go_sem,hop,q1,q2,q3,q4];exact⟨_,_,rfl,rfl⟩)
theorem fit_2 {vals:FuncId→Bool}{call:CallF}{n:Nat}(m:Tm.Module)(f:Tm.Func)(ty:List Int)(x:Ins)(hop:x.op=2)(hall:∀t h,call 118 [ints ty,ints x.args,int t] h=some (bool (allT t (gotOf ty x.args)),h))(hrow:∀(w:List Int) (l:Nat) (h:Heap),h[l]?=some (.row 1 (w.map int))→call 119 [ints ty,ints x.args,.os l 0 w.length (some w.length)] h=some (bool (decide (gotOf ty x.args=w)),h))(hfrz:∀(w:List Int) h,call 119 [ints ty,ints x.args,ints w] h=some (bool (decide (gotOf ty x.args=w)),h)):∃r h',fin Try.prog [.tmp 8] (exec Try.prog vals call n k114 ⟨enterE 0 [.agg [externs m.externs,globals m.globals,tables m.tables,funcs m.funcs],.agg [str f.name,bool f.out,ints f.params,int f.result,blocks f.blocks],ints ty,.agg [int x.op,int x.type,int x.to,int x.sym,int x.num,ints x.args,ints x.into]],[]⟩)=some (r,h')∧view true h' depth r=some (bool (fitB m f ty x)):=by
 rw[show fitB m f ty x=(decide (x.type=4)) by unfold fitB;rw[hop];rfl]
 cases q1:decide (x.type=4)<;>(simp +decide -implicitDefEqProofs only[k114,go_sem,hop,q1];exact⟨_,_,rfl,rfl⟩)
theorem fit_3 {vals:FuncId→Bool}{call:CallF}{n:Nat}(m:Tm.Module)(f:Tm.Func)(ty:List Int)(x:Ins)(hop:x.op=3)(hall:∀t h,call 118 [ints ty,ints x.args,int t] h=some (bool (allT t (gotOf ty x.args)),h))(hrow:∀(w:List Int) (l:Nat) (h:Heap),h[l]?=some (.row 1 (w.map int))→call 119 [ints ty,ints x.args,.os l 0 w.length (some w.length)] h=some (bool (decide (gotOf ty x.args=w)),h))(hfrz:∀(w:List Int) h,call 119 [ints ty,ints x.args,ints w] h=some (bool (decide (gotOf ty x.args=w)),h)):∃r h',fin Try.prog [.tmp 8] (exec Try.prog vals call n k114 ⟨enterE 0 [.agg [externs m.externs,globals m.globals,tables m.tables,funcs m.funcs],.agg [str f.name,bool f.out,ints f.params,int f.result,blocks f.blocks],ints ty,.agg [int x.op,int x.type,int x.to,int x.sym,int x.num,ints x.args,ints x.into]],[]⟩)=some (r,h')∧view true h' depth r=some (bool (fitB m f ty x)):=by
 rw[show fitB m f ty x=(decide (x.type=3)) by unfold fitB;rw[hop];rfl]
 cases q1:decide (x.type=3)<;>(simp +decide -implicitDefEqProofs only[k114,go_sem,hop,q1];exact⟨_,_,rfl,rfl⟩)
theorem fit_18 {vals:FuncId→Bool}{call:CallF}{n:Nat}(m:Tm.Module)(f:Tm.Func)(ty:List Int)(x:Ins)(hop:x.op=18)(hall:∀t h,call 118 [ints ty,ints x.args,int t] h=some (bool (allT t (gotOf ty x.args)),h))(hrow:∀(w:List Int) (l:Nat) (h:Heap),h[l]?=some (.row 1 (w.map int))→call 119 [ints ty,ints x.args,.os l 0 w.length (some w.length)] h=some (bool (decide (gotOf ty x.args=w)),h))(hfrz:∀(w:List Int) h,call 119 [ints ty,ints x.args,ints w] h=some (bool (decide (gotOf ty x.args=w)),h)):∃r h',fin Try.prog [.tmp 8] (exec Try.prog vals call n k114 ⟨enterE 0 [.agg [externs m.externs,globals m.globals,tables m.tables,funcs m.funcs],.agg [str f.name,bool f.out,ints f.params,int f.result,blocks f.blocks],ints ty,.agg [int x.op,int x.type,int x.to,int x.sym,int x.num,ints x.args,ints x.into]],[]⟩)=some (r,h')∧view true h' depth r=some (bool (fitB m f ty x)):=by
 rw[show fitB m f ty x=(decide (x.type=3)) by unfold fitB;rw[hop];rfl]
 cases q1:decide (x.type=3)<;>(simp +decide -implicitDefEqProofs only[k114,go_sem,hop,q1];exact⟨_,_,rfl,rfl⟩)
theorem fit_4 {vals:FuncId→Bool}{call:CallF}{n:Nat}(m:Tm.Module)(f:Tm.Func)(ty:List Int)(x:Ins)(hop:x.op=4)(hall:∀t h,call 118 [ints ty,ints x.args,int t] h=some (bool (allT t (gotOf ty x.args)),h))(hrow:∀(w:List Int) (l:Nat) (h:Heap),h[l]?=some (.row 1 (w.map int))→call 119 [ints ty,ints x.args,.os l 0 w.length (some w.length)] h=some (bool (decide (gotOf ty x.args=w)),h))(hfrz:∀(w:List Int) h,call 119 [ints ty,ints x.args,ints w] h=some (bool (decide (gotOf ty x.args=w)),h)):∃r h',fin Try.prog [.tmp 8] (exec Try.prog vals call n k114 ⟨enterE 0 [.agg [externs m.externs,globals m.globals,tables m.tables,funcs m.funcs],.agg [str f.name,bool f.out,ints f.params,int f.result,blocks f.blocks],ints ty,.agg [int x.op,int x.type,int x.to,int x.sym,int x.num,ints x.args,ints x.into]],[]⟩)=some (r,h')∧view true h' depth r=some (bool (fitB m f ty x)):=by
 rw[show fitB m f ty x=(decide (x.type=1)&&allT 1 (gotOf ty x.args)) by unfold fitB;rw[hop];rfl]
 cases q1:decide (x.type=1)<;>cases q2:allT 1 (gotOf ty x.args)<;>(simp +decide -implicitDefEqProofs only[k114,go_sem,hop,q1,q2,hall];exact⟨_,_,rfl,rfl⟩)
theorem fit_5 {vals:FuncId→Bool}{call:CallF}{n:Nat}(m:Tm.Module)(f:Tm.Func)(ty:List Int)(x:Ins)(hop:x.op=5)(hall:∀t h,call 118 [ints ty,ints x.args,int t] h=some (bool (allT t (gotOf ty x.args)),h))(hrow:∀(w:List Int) (l:Nat) (h:Heap),h[l]?=some (.row 1 (w.map int))→call 119 [ints ty,ints x.args,.os l 0 w.length (some w.length)] h=some (bool (decide (gotOf ty x.args=w)),h))(hfrz:∀(w:List Int) h,call 119 [ints ty,ints x.args,ints w] h=some (bool (decide (gotOf ty x.args=w)),h)):∃r h',fin Try.prog [.tmp 8] (exec Try.prog vals call n k114 ⟨enterE 0 [.agg [externs m.externs,globals m.globals,tables m.tables,funcs m.funcs],.agg [str f.name,bool f.out,ints f.params,int f.result,blocks f.blocks],ints ty,.agg [int x.op,int x.type,int x.to,int x.sym,int x.num,ints x.args,ints x.into]],[]⟩)=some (r,h')∧view true h' depth r=some (bool (fitB m f ty x)):=by
 rw[show fitB m f ty x=(decide (x.type=1)&&allT 1 (gotOf ty x.args)) by unfold fitB;rw[hop];rfl]
 cases q1:decide (x.type=1)<;>cases q2:allT 1 (gotOf ty x.args)<;>(simp +decide -implicitDefEqProofs only[k114,go_sem,hop,q1,q2,hall];exact⟨_,_,rfl,rfl⟩)
theorem fit_6 {vals:FuncId→Bool}{call:CallF}{n:Nat}(m:Tm.Module)(f:Tm.Func)(ty:List Int)(x:Ins)(hop:x.op=6)(hall:∀t h,call 118 [ints ty,ints x.args,int t] h=some (bool (allT t (gotOf ty x.args)),h))(hrow:∀(w:List Int) (l:Nat) (h:Heap),h[l]?=some (.row 1 (w.map int))→call 119 [ints ty,ints x.args,.os l 0 w.length (some w.length)] h=some (bool (decide (gotOf ty x.args=w)),h))(hfrz:∀(w:List Int) h,call 119 [ints ty,ints x.args,ints w] h=some (bool (decide (gotOf ty x.args=w)),h)):∃r h',fin Try.prog [.tmp 8] (exec Try.prog vals call n k114 ⟨enterE 0 [.agg [externs m.externs,globals m.globals,tables m.tables,funcs m.funcs],.agg [str f.name,bool f.out,ints f.params,int f.result,blocks f.blocks],ints ty,.agg [int x.op,int x.type,int x.to,int x.sym,int x.num,ints x.args,ints x.into]],[]⟩)=some (r,h')∧view true h' depth r=some (bool (fitB m f ty x)):=by
 rw[show fitB m f ty x=(decide (x.type=1)&&allT 1 (gotOf ty x.args)) by unfold fitB;rw[hop];rfl]
 cases q1:decide (x.type=1)<;>cases q2:allT 1 (gotOf ty x.args)<;>(simp +decide -implicitDefEqProofs only[k114,go_sem,hop,q1,q2,hall];exact⟨_,_,rfl,rfl⟩)
theorem fit_7 {vals:FuncId→Bool}{call:CallF}{n:Nat}(m:Tm.Module)(f:Tm.Func)(ty:List Int)(x:Ins)(hop:x.op=7)(hall:∀t h,call 118 [ints ty,ints x.args,int t] h=some (bool (allT t (gotOf ty x.args)),h))(hrow:∀(w:List Int) (l:Nat) (h:Heap),h[l]?=some (.row 1 (w.map int))→call 119 [ints ty,ints x.args,.os l 0 w.length (some w.length)] h=some (bool (decide (gotOf ty x.args=w)),h))(hfrz:∀(w:List Int) h,call 119 [ints ty,ints x.args,ints w] h=some (bool (decide (gotOf ty x.args=w)),h)):∃r h',fin Try.prog [.tmp 8] (exec Try.prog vals call n k114 ⟨enterE 0 [.agg [externs m.externs,globals m.globals,tables m.tables,funcs m.funcs],.agg [str f.name,bool f.out,ints f.params,int f.result,blocks f.blocks],ints ty,.agg [int x.op,int x.type,int x.to,int x.sym,int x.num,ints x.args,ints x.into]],[]⟩)=some (r,h')∧view true h' depth r=some (bool (fitB m f ty x)):=by
 rw[show fitB m f ty x=(decide (x.type=1)&&allT 1 (gotOf ty x.args)) by unfold fitB;rw[hop];rfl]
 cases q1:decide (x.type=1)<;>cases q2:allT 1 (gotOf ty x.args)<;>(simp +decide -implicitDefEqProofs only[k114,go_sem,hop,q1,q2,hall];exact⟨_,_,rfl,rfl⟩)
theorem fit_8 {vals:FuncId→Bool}{call:CallF}{n:Nat}(m:Tm.Module)(f:Tm.Func)(ty:List Int)(x:Ins)(hop:x.op=8)(hall:∀t h,call 118 [ints ty,ints x.args,int t] h=some (bool (allT t (gotOf ty x.args)),h))(hrow:∀(w:List Int) (l:Nat) (h:Heap),h[l]?=some (.row 1 (w.map int))→call 119 [ints ty,ints x.args,.os l 0 w.length (some w.length)] h=some (bool (decide (gotOf ty x.args=w)),h))(hfrz:∀(w:List Int) h,call 119 [ints ty,ints x.args,ints w] h=some (bool (decide (gotOf ty x.args=w)),h)):∃r h',fin Try.prog [.tmp 8] (exec Try.prog vals call n k114 ⟨enterE 0 [.agg [externs m.externs,globals m.globals,tables m.tables,funcs m.funcs],.agg [str f.name,bool f.out,ints f.params,int f.result,blocks f.blocks],ints ty,.agg [int x.op,int x.type,int x.to,int x.sym,int x.num,ints x.args,ints x.into]],[]⟩)=some (r,h')∧view true h' depth r=some (bool (fitB m f ty x)):=by
 rw[show fitB m f ty x=(decide (x.type=1)&&allT 1 (gotOf ty x.args)) by unfold fitB;rw[hop];rfl]
 cases q1:decide (x.type=1)<;>cases q2:allT 1 (gotOf ty x.args)<;>(simp +decide -implicitDefEqProofs only[k114,go_sem,hop,q1,q2,hall];exact⟨_,_,rfl,rfl⟩)
theorem fit_9 {vals:FuncId→Bool}{call:CallF}{n:Nat}(m:Tm.Module)(f:Tm.Func)(ty:List Int)(x:Ins)(hop:x.op=9)(hall:∀t h,call 118 [ints ty,ints x.args,int t] h=some (bool (allT t (gotOf ty x.args)),h))(hrow:∀(w:List Int) (l:Nat) (h:Heap),h[l]?=some (.row 1 (w.map int))→call 119 [ints ty,ints x.args,.os l 0 w.length (some w.length)] h=some (bool (decide (gotOf ty x.args=w)),h))(hfrz:∀(w:List Int) h,call 119 [ints ty,ints x.args,ints w] h=some (bool (decide (gotOf ty x.args=w)),h)):∃r h',fin Try.prog [.tmp 8] (exec Try.prog vals call n k114 ⟨enterE 0 [.agg [externs m.externs,globals m.globals,tables m.tables,funcs m.funcs],.agg [str f.name,bool f.out,ints f.params,int f.result,blocks f.blocks],ints ty,.agg [int x.op,int x.type,int x.to,int x.sym,int x.num,ints x.args,ints x.into]],[]⟩)=some (r,h')∧view true h' depth r=some (bool (fitB m f ty x)):=by
 rw[show fitB m f ty x=(decide (x.type=1)&&allT 1 (gotOf ty x.args)) by unfold fitB;rw[hop];rfl]
 cases q1:decide (x.type=1)<;>cases q2:allT 1 (gotOf ty x.args)<;>(simp +decide -implicitDefEqProofs only[k114,go_sem,hop,q1,q2,hall];exact⟨_,_,rfl,rfl⟩)
theorem fit_10 {vals:FuncId→Bool}{call:CallF}{n:Nat}(m:Tm.Module)(f:Tm.Func)(ty:List Int)(x:Ins)(hop:x.op=10)(hall:∀t h,call 118 [ints ty,ints x.args,int t] h=some (bool (allT t (gotOf ty x.args)),h))(hrow:∀(w:List Int) (l:Nat) (h:Heap),h[l]?=some (.row 1 (w.map int))→call 119 [ints ty,ints x.args,.os l 0 w.length (some w.length)] h=some (bool (decide (gotOf ty x.args=w)),h))(hfrz:∀(w:List Int) h,call 119 [ints ty,ints x.args,ints w] h=some (bool (decide (gotOf ty x.args=w)),h)):∃r h',fin Try.prog [.tmp 8] (exec Try.prog vals call n k114 ⟨enterE 0 [.agg [externs m.externs,globals m.globals,tables m.tables,funcs m.funcs],.agg [str f.name,bool f.out,ints f.params,int f.result,blocks f.blocks],ints ty,.agg [int x.op,int x.type,int x.to,int x.sym,int x.num,ints x.args,ints x.into]],[]⟩)=some (r,h')∧view true h' depth r=some (bool (fitB m f ty x)):=by
 rw[show fitB m f ty x=(decide (x.type=1)&&allT 1 (gotOf ty x.args)) by unfold fitB;rw[hop];rfl]
 cases q1:decide (x.type=1)<;>cases q2:allT 1 (gotOf ty x.args)<;>(simp +decide -implicitDefEqProofs only[k114,go_sem,hop,q1,q2,hall];exact⟨_,_,rfl,rfl⟩)
theorem fit_11 {vals:FuncId→Bool}{call:CallF}{n:Nat}(m:Tm.Module)(f:Tm.Func)(ty:List Int)(x:Ins)(hop:x.op=11)(hall:∀t h,call 118 [ints ty,ints x.args,int t] h=some (bool (allT t (gotOf ty x.args)),h))(hrow:∀(w:List Int) (l:Nat) (h:Heap),h[l]?=some (.row 1 (w.map int))→call 119 [ints ty,ints x.args,.os l 0 w.length (some w.length)] h=some (bool (decide (gotOf ty x.args=w)),h))(hfrz:∀(w:List Int) h,call 119 [ints ty,ints x.args,ints w] h=some (bool (decide (gotOf ty x.args=w)),h)):∃r h',fin Try.prog [.tmp 8] (exec Try.prog vals call n k114 ⟨enterE 0 [.agg [externs m.externs,globals m.globals,tables m.tables,funcs m.funcs],.agg [str f.name,bool f.out,ints f.params,int f.result,blocks f.blocks],ints ty,.agg [int x.op,int x.type,int x.to,int x.sym,int x.num,ints x.args,ints x.into]],[]⟩)=some (r,h')∧view true h' depth r=some (bool (fitB m f ty x)):=by
 rw[show fitB m f ty x=(decide (x.type=1)&&allT 1 (gotOf ty x.args)) by unfold fitB;rw[hop];rfl]
 cases q1:decide (x.type=1)<;>cases q2:allT 1 (gotOf ty x.args)<;>(simp +decide -implicitDefEqProofs only[k114,go_sem,hop,q1,q2,hall];exact⟨_,_,rfl,rfl⟩)
theorem fit_12 {vals:FuncId→Bool}{call:CallF}{n:Nat}(m:Tm.Module)(f:Tm.Func)(ty:List Int)(x:Ins)(hop:x.op=12)(hall:∀t h,call 118 [ints ty,ints x.args,int t] h=some (bool (allT t (gotOf ty x.args)),h))(hrow:∀(w:List Int) (l:Nat) (h:Heap),h[l]?=some (.row 1 (w.map int))→call 119 [ints ty,ints x.args,.os l 0 w.length (some w.length)] h=some (bool (decide (gotOf ty x.args=w)),h))(hfrz:∀(w:List Int) h,call 119 [ints ty,ints x.args,ints w] h=some (bool (decide (gotOf ty x.args=w)),h)):∃r h',fin Try.prog [.tmp 8] (exec Try.prog vals call n k114 ⟨enterE 0 [.agg [externs m.externs,globals m.globals,tables m.tables,funcs m.funcs],.agg [str f.name,bool f.out,ints f.params,int f.result,blocks f.blocks],ints ty,.agg [int x.op,int x.type,int x.to,int x.sym,int x.num,ints x.args,ints x.into]],[]⟩)=some (r,h')∧view true h' depth r=some (bool (fitB m f ty x)):=by
 rw[show fitB m f ty x=(decide (x.type=1)&&allT 1 (gotOf ty x.args)) by unfold fitB;rw[hop];rfl]
 cases q1:decide (x.type=1)<;>cases q2:allT 1 (gotOf ty x.args)<;>(simp +decide -implicitDefEqProofs only[k114,go_sem,hop,q1,q2,hall];exact⟨_,_,rfl,rfl⟩)
theorem fit_13 {vals:FuncId→Bool}{call:CallF}{n:Nat}(m:Tm.Module)(f:Tm.Func)(ty:List Int)(x:Ins)(hop:x.op=13)(hall:∀t h,call 118 [ints ty,ints x.args,int t] h=some (bool (allT t (gotOf ty x.args)),h))(hrow:∀(w:List Int) (l:Nat) (h:Heap),h[l]?=some (.row 1 (w.map int))→call 119 [ints ty,ints x.args,.os l 0 w.length (some w.length)] h=some (bool (decide (gotOf ty x.args=w)),h))(hfrz:∀(w:List Int) h,call 119 [ints ty,ints x.args,ints w] h=some (bool (decide (gotOf ty x.args=w)),h)):∃r h',fin Try.prog [.tmp 8] (exec Try.prog vals call n k114 ⟨enterE 0 [.agg [externs m.externs,globals m.globals,tables m.tables,funcs m.funcs],.agg [str f.name,bool f.out,ints f.params,int f.result,blocks f.blocks],ints ty,.agg [int x.op,int x.type,int x.to,int x.sym,int x.num,ints x.args,ints x.into]],[]⟩)=some (r,h')∧view true h' depth r=some (bool (fitB m f ty x)):=by
 rw[show fitB m f ty x=(decide (x.type=1)&&allT 1 (gotOf ty x.args)) by unfold fitB;rw[hop];rfl]
 cases q1:decide (x.type=1)<;>cases q2:allT 1 (gotOf ty x.args)<;>(simp +decide -implicitDefEqProofs only[k114,go_sem,hop,q1,q2,hall];exact⟨_,_,rfl,rfl⟩)
theorem fit_14 {vals:FuncId→Bool}{call:CallF}{n:Nat}(m:Tm.Module)(f:Tm.Func)(ty:List Int)(x:Ins)(hop:x.op=14)(hall:∀t h,call 118 [ints ty,ints x.args,int t] h=some (bool (allT t (gotOf ty x.args)),h))(hrow:∀(w:List Int) (l:Nat) (h:Heap),h[l]?=some (.row 1 (w.map int))→call 119 [ints ty,ints x.args,.os l 0 w.length (some w.length)] h=some (bool (decide (gotOf ty x.args=w)),h))(hfrz:∀(w:List Int) h,call 119 [ints ty,ints x.args,ints w] h=some (bool (decide (gotOf ty x.args=w)),h)):∃r h',fin Try.prog [.tmp 8] (exec Try.prog vals call n k114 ⟨enterE 0 [.agg [externs m.externs,globals m.globals,tables m.tables,funcs m.funcs],.agg [str f.name,bool f.out,ints f.params,int f.result,blocks f.blocks],ints ty,.agg [int x.op,int x.type,int x.to,int x.sym,int x.num,ints x.args,ints x.into]],[]⟩)=some (r,h')∧view true h' depth r=some (bool (fitB m f ty x)):=by
 rw[show fitB m f ty x=(decide (x.type=2)&&allT 1 (gotOf ty x.args)) by unfold fitB;rw[hop];rfl]
 cases q1:decide (x.type=2)<;>cases q2:allT 1 (gotOf ty x.args)<;>(simp +decide -implicitDefEqProofs only[k114,go_sem,hop,q1,q2,hall];exact⟨_,_,rfl,rfl⟩)
theorem fit_15 {vals:FuncId→Bool}{call:CallF}{n:Nat}(m:Tm.Module)(f:Tm.Func)(ty:List Int)(x:Ins)(hop:x.op=15)(hall:∀t h,call 118 [ints ty,ints x.args,int t] h=some (bool (allT t (gotOf ty x.args)),h))(hrow:∀(w:List Int) (l:Nat) (h:Heap),h[l]?=some (.row 1 (w.map int))→call 119 [ints ty,ints x.args,.os l 0 w.length (some w.length)] h=some (bool (decide (gotOf ty x.args=w)),h))(hfrz:∀(w:List Int) h,call 119 [ints ty,ints x.args,ints w] h=some (bool (decide (gotOf ty x.args=w)),h)):∃r h',fin Try.prog [.tmp 8] (exec Try.prog vals call n k114 ⟨enterE 0 [.agg [externs m.externs,globals m.globals,tables m.tables,funcs m.funcs],.agg [str f.name,bool f.out,ints f.params,int f.result,blocks f.blocks],ints ty,.agg [int x.op,int x.type,int x.to,int x.sym,int x.num,ints x.args,ints x.into]],[]⟩)=some (r,h')∧view true h' depth r=some (bool (fitB m f ty x)):=by
 rw[show fitB m f ty x=(decide (x.type=2)&&allT 1 (gotOf ty x.args)) by unfold fitB;rw[hop];rfl]
 cases q1:decide (x.type=2)<;>cases q2:allT 1 (gotOf ty x.args)<;>(simp +decide -implicitDefEqProofs only[k114,go_sem,hop,q1,q2,hall];exact⟨_,_,rfl,rfl⟩)
theorem fit_16 {vals:FuncId→Bool}{call:CallF}{n:Nat}(m:Tm.Module)(f:Tm.Func)(ty:List Int)(x:Ins)(hop:x.op=16)(hall:∀t h,call 118 [ints ty,ints x.args,int t] h=some (bool (allT t (gotOf ty x.args)),h))(hrow:∀(w:List Int) (l:Nat) (h:Heap),h[l]?=some (.row 1 (w.map int))→call 119 [ints ty,ints x.args,.os l 0 w.length (some w.length)] h=some (bool (decide (gotOf ty x.args=w)),h))(hfrz:∀(w:List Int) h,call 119 [ints ty,ints x.args,ints w] h=some (bool (decide (gotOf ty x.args=w)),h)):∃r h',fin Try.prog [.tmp 8] (exec Try.prog vals call n k114 ⟨enterE 0 [.agg [externs m.externs,globals m.globals,tables m.tables,funcs m.funcs],.agg [str f.name,bool f.out,ints f.params,int f.result,blocks f.blocks],ints ty,.agg [int x.op,int x.type,int x.to,int x.sym,int x.num,ints x.args,ints x.into]],[]⟩)=some (r,h')∧view true h' depth r=some (bool (fitB m f ty x)):=by
 rw[show fitB m f ty x=(decide (x.type=2)&&allT 2 (gotOf ty x.args)) by unfold fitB;rw[hop];rfl]
 cases q1:decide (x.type=2)<;>cases q2:allT 2 (gotOf ty x.args)<;>(simp +decide -implicitDefEqProofs only[k114,go_sem,hop,q1,q2,hall];exact⟨_,_,rfl,rfl⟩)
theorem fit_17 {vals:FuncId→Bool}{call:CallF}{n:Nat}(m:Tm.Module)(f:Tm.Func)(ty:List Int)(x:Ins)(hop:x.op=17)(hall:∀t h,call 118 [ints ty,ints x.args,int t] h=some (bool (allT t (gotOf ty x.args)),h))(hrow:∀(w:List Int) (l:Nat) (h:Heap),h[l]?=some (.row 1 (w.map int))→call 119 [ints ty,ints x.args,.os l 0 w.length (some w.length)] h=some (bool (decide (gotOf ty x.args=w)),h))(hfrz:∀(w:List Int) h,call 119 [ints ty,ints x.args,ints w] h=some (bool (decide (gotOf ty x.args=w)),h)):∃r h',fin Try.prog [.tmp 8] (exec Try.prog vals call n k114 ⟨enterE 0 [.agg [externs m.externs,globals m.globals,tables m.tables,funcs m.funcs],.agg [str f.name,bool f.out,ints f.params,int f.result,blocks f.blocks],ints ty,.agg [int x.op,int x.type,int x.to,int x.sym,int x.num,ints x.args,ints x.into]],[]⟩)=some (r,h')∧view true h' depth r=some (bool (fitB m f ty x)):=by
 rw[show fitB m f ty x=(decide (gotOf ty x.args=[2,x.type,x.type])) by unfold fitB;rw[hop];rfl]
 have hr:call 119 [ints ty,ints x.args,.os 3 0 3 (some 3)] [.row 0 [externs m.externs,globals m.globals,tables m.tables,funcs m.funcs],.row 0 [str f.name,bool f.out,ints f.params,int f.result,blocks f.blocks],.row 0 [int 17,int x.type,int x.to,int x.sym,int x.num,ints x.args,ints x.into],.row 1 [int 2,int x.type,int x.type]]=some (bool (decide (gotOf ty x.args=[2,x.type,x.type])),[.row 0 [externs m.externs,globals m.globals,tables m.tables,funcs m.funcs],.row 0 [str f.name,bool f.out,ints f.params,int f.result,blocks f.blocks],.row 0 [int 17,int x.type,int x.to,int x.sym,int x.num,ints x.args,ints x.into],.row 1 [int 2,int x.type,int x.type]]):=hrow [2,x.type,x.type] 3 _ rfl
 cases q2:decide (gotOf ty x.args=[2,x.type,x.type])<;>(rw[q2] at hr;simp +decide -implicitDefEqProofs only[k114,go_sem,hop,hr];exact⟨_,_,rfl,rfl⟩)
theorem fit_19 {vals:FuncId→Bool}{call:CallF}{n:Nat}(m:Tm.Module)(f:Tm.Func)(ty:List Int)(x:Ins)(hop:x.op=19)(hall:∀t h,call 118 [ints ty,ints x.args,int t] h=some (bool (allT t (gotOf ty x.args)),h))(hrow:∀(w:List Int) (l:Nat) (h:Heap),h[l]?=some (.row 1 (w.map int))→call 119 [ints ty,ints x.args,.os l 0 w.length (some w.length)] h=some (bool (decide (gotOf ty x.args=w)),h))(hfrz:∀(w:List Int) h,call 119 [ints ty,ints x.args,ints w] h=some (bool (decide (gotOf ty x.args=w)),h)):∃r h',fin Try.prog [.tmp 8] (exec Try.prog vals call n k114 ⟨enterE 0 [.agg [externs m.externs,globals m.globals,tables m.tables,funcs m.funcs],.agg [str f.name,bool f.out,ints f.params,int f.result,blocks f.blocks],ints ty,.agg [int x.op,int x.type,int x.to,int x.sym,int x.num,ints x.args,ints x.into]],[]⟩)=some (r,h')∧view true h' depth r=some (bool (fitB m f ty x)):=by
 rw[show fitB m f ty x=(decide (x.type=3)&&decide (gotOf ty x.args=[3,1])) by unfold fitB;rw[hop];rfl]
 have hr:call 119 [ints ty,ints x.args,.os 3 0 2 (some 2)] [.row 0 [externs m.externs,globals m.globals,tables m.tables,funcs m.funcs],.row 0 [str f.name,bool f.out,ints f.params,int f.result,blocks f.blocks],.row 0 [int 19,int x.type,int x.to,int x.sym,int x.num,ints x.args,ints x.into],.row 1 [int 3,int 1]]=some (bool (decide (gotOf ty x.args=[3,1])),[.row 0 [externs m.externs,globals m.globals,tables m.tables,funcs m.funcs],.row 0 [str f.name,bool f.out,ints f.params,int f.result,blocks f.blocks],.row 0 [int 19,int x.type,int x.to,int x.sym,int x.num,ints x.args,ints x.into],.row 1 [int 3,int 1]]):=hrow [3,1] 3 _ rfl
 cases q1:decide (x.type=3)<;>cases q2:decide (gotOf ty x.args=[3,1])<;>(rw[q2] at hr;simp +decide -implicitDefEqProofs only[k114,go_sem,hop,q1,hr];exact⟨_,_,rfl,rfl⟩)
theorem fit_20 {vals:FuncId→Bool}{call:CallF}{n:Nat}(m:Tm.Module)(f:Tm.Func)(ty:List Int)(x:Ins)(hop:x.op=20)(hall:∀t h,call 118 [ints ty,ints x.args,int t] h=some (bool (allT t (gotOf ty x.args)),h))(hrow:∀(w:List Int) (l:Nat) (h:Heap),h[l]?=some (.row 1 (w.map int))→call 119 [ints ty,ints x.args,.os l 0 w.length (some w.length)] h=some (bool (decide (gotOf ty x.args=w)),h))(hfrz:∀(w:List Int) h,call 119 [ints ty,ints x.args,ints w] h=some (bool (decide (gotOf ty x.args=w)),h)):∃r h',fin Try.prog [.tmp 8] (exec Try.prog vals call n k114 ⟨enterE 0 [.agg [externs m.externs,globals m.globals,tables m.tables,funcs m.funcs],.agg [str f.name,bool f.out,ints f.params,int f.result,blocks f.blocks],ints ty,.agg [int x.op,int x.type,int x.to,int x.sym,int x.num,ints x.args,ints x.into]],[]⟩)=some (r,h')∧view true h' depth r=some (bool (fitB m f ty x)):=by
 rw[show fitB m f ty x=(decide (x.type=1)&&decide (gotOf ty x.args=[3])) by unfold fitB;rw[hop];rfl]
 have hr:call 119 [ints ty,ints x.args,.os 3 0 1 (some 1)] [.row 0 [externs m.externs,globals m.globals,tables m.tables,funcs m.funcs],.row 0 [str f.name,bool f.out,ints f.params,int f.result,blocks f.blocks],.row 0 [int 20,int x.type,int x.to,int x.sym,int x.num,ints x.args,ints x.into],.row 1 [int 3]]=some (bool (decide (gotOf ty x.args=[3])),[.row 0 [externs m.externs,globals m.globals,tables m.tables,funcs m.funcs],.row 0 [str f.name,bool f.out,ints f.params,int f.result,blocks f.blocks],.row 0 [int 20,int x.type,int x.to,int x.sym,int x.num,ints x.args,ints x.into],.row 1 [int 3]]):=hrow [3] 3 _ rfl
 cases q1:decide (x.type=1)<;>cases q2:decide (gotOf ty x.args=[3])<;>(rw[q2] at hr;simp +decide -implicitDefEqProofs only[k114,go_sem,hop,q1,hr];exact⟨_,_,rfl,rfl⟩)
theorem fit_21 {vals:FuncId→Bool}{call:CallF}{n:Nat}(m:Tm.Module)(f:Tm.Func)(ty:List Int)(x:Ins)(hop:x.op=21)(hall:∀t h,call 118 [ints ty,ints x.args,int t] h=some (bool (allT t (gotOf ty x.args)),h))(hrow:∀(w:List Int) (l:Nat) (h:Heap),h[l]?=some (.row 1 (w.map int))→call 119 [ints ty,ints x.args,.os l 0 w.length (some w.length)] h=some (bool (decide (gotOf ty x.args=w)),h))(hfrz:∀(w:List Int) h,call 119 [ints ty,ints x.args,ints w] h=some (bool (decide (gotOf ty x.args=w)),h)):∃r h',fin Try.prog [.tmp 8] (exec Try.prog vals call n k114 ⟨enterE 0 [.agg [externs m.externs,globals m.globals,tables m.tables,funcs m.funcs],.agg [str f.name,bool f.out,ints f.params,int f.result,blocks f.blocks],ints ty,.agg [int x.op,int x.type,int x.to,int x.sym,int x.num,ints x.args,ints x.into]],[]⟩)=some (r,h')∧view true h' depth r=some (bool (fitB m f ty x)):=by
 rw[show fitB m f ty x=(decide (gotOf ty x.args=[3,1])) by unfold fitB;rw[hop];rfl]
 have hr:call 119 [ints ty,ints x.args,.os 3 0 2 (some 2)] [.row 0 [externs m.externs,globals m.globals,tables m.tables,funcs m.funcs],.row 0 [str f.name,bool f.out,ints f.params,int f.result,blocks f.blocks],.row 0 [int 21,int x.type,int x.to,int x.sym,int x.num,ints x.args,ints x.into],.row 1 [int 3,int 1]]=some (bool (decide (gotOf ty x.args=[3,1])),[.row 0 [externs m.externs,globals m.globals,tables m.tables,funcs m.funcs],.row 0 [str f.name,bool f.out,ints f.params,int f.result,blocks f.blocks],.row 0 [int 21,int x.type,int x.to,int x.sym,int x.num,ints x.args,ints x.into],.row 1 [int 3,int 1]]):=hrow [3,1] 3 _ rfl
 cases q2:decide (gotOf ty x.args=[3,1])<;>(rw[q2] at hr;simp +decide -implicitDefEqProofs only[k114,go_sem,hop,hr];exact⟨_,_,rfl,rfl⟩)
theorem fit_22 {vals:FuncId→Bool}{call:CallF}{n:Nat}(m:Tm.Module)(f:Tm.Func)(ty:List Int)(x:Ins)(hop:x.op=22)(hall:∀t h,call 118 [ints ty,ints x.args,int t] h=some (bool (allT t (gotOf ty x.args)),h))(hrow:∀(w:List Int) (l:Nat) (h:Heap),h[l]?=some (.row 1 (w.map int))→call 119 [ints ty,ints x.args,.os l 0 w.length (some w.length)] h=some (bool (decide (gotOf ty x.args=w)),h))(hfrz:∀(w:List Int) h,call 119 [ints ty,ints x.args,ints w] h=some (bool (decide (gotOf ty x.args=w)),h))(hs:0≤x.sym∧x.sym<m.funcs.length):∃r h',fin Try.prog [.tmp 8] (exec Try.prog vals call n k114 ⟨enterE 0 [.agg [externs m.externs,globals m.globals,tables m.tables,funcs m.funcs],.agg [str f.name,bool f.out,ints f.params,int f.result,blocks f.blocks],ints ty,.agg [int x.op,int x.type,int x.to,int x.sym,int x.num,ints x.args,ints x.into]],[]⟩)=some (r,h')∧view true h' depth r=some (bool (fitB m f ty x)):=by
 rw[show fitB m f ty x=(decide (x.type=(fnAt m.funcs x.sym).result)&&decide (gotOf ty x.args=(fnAt m.funcs x.sym).params)) by unfold fitB;rw[hop];rfl]
 cases q1:decide (x.type=(fnAt m.funcs x.sym).result)<;>cases q2:decide (gotOf ty x.args=(fnAt m.funcs x.sym).params)<;>(simp +decide -implicitDefEqProofs only[k114,go_sem,hop,hs,hfrz,q1,q2];exact⟨_,_,rfl,rfl⟩)
theorem fit_23 {vals:FuncId→Bool}{call:CallF}{n:Nat}(m:Tm.Module)(f:Tm.Func)(ty:List Int)(x:Ins)(hop:x.op=23)(hall:∀t h,call 118 [ints ty,ints x.args,int t] h=some (bool (allT t (gotOf ty x.args)),h))(hrow:∀(w:List Int) (l:Nat) (h:Heap),h[l]?=some (.row 1 (w.map int))→call 119 [ints ty,ints x.args,.os l 0 w.length (some w.length)] h=some (bool (decide (gotOf ty x.args=w)),h))(hfrz:∀(w:List Int) h,call 119 [ints ty,ints x.args,ints w] h=some (bool (decide (gotOf ty x.args=w)),h))(hs:0≤x.sym∧x.sym<m.externs.length):∃r h',fin Try.prog [.tmp 8] (exec Try.prog vals call n k114 ⟨enterE 0 [.agg [externs m.externs,globals m.globals,tables m.tables,funcs m.funcs],.agg [str f.name,bool f.out,ints f.params,int f.result,blocks f.blocks],ints ty,.agg [int x.op,int x.type,int x.to,int x.sym,int x.num,ints x.args,ints x.into]],[]⟩)=some (r,h')∧view true h' depth r=some (bool (fitB m f ty x)):=by
 rw[show fitB m f ty x=(decide (x.type=(extAt m.externs x.sym).result)&&decide (gotOf ty x.args=(extAt m.externs x.sym).params)) by unfold fitB;rw[hop];rfl]
 cases q1:decide (x.type=(extAt m.externs x.sym).result)<;>cases q2:decide (gotOf ty x.args=(extAt m.externs x.sym).params)<;>(simp +decide -implicitDefEqProofs only[k114,go_sem,hop,hs,hfrz,q1,q2];exact⟨_,_,rfl,rfl⟩)
theorem fit_24 {vals:FuncId→Bool}{call:CallF}{n:Nat}(m:Tm.Module)(f:Tm.Func)(ty:List Int)(x:Ins)(hop:x.op=24)(hall:∀t h,call 118 [ints ty,ints x.args,int t] h=some (bool (allT t (gotOf ty x.args)),h))(hrow:∀(w:List Int) (l:Nat) (h:Heap),h[l]?=some (.row 1 (w.map int))→call 119 [ints ty,ints x.args,.os l 0 w.length (some w.length)] h=some (bool (decide (gotOf ty x.args=w)),h))(hfrz:∀(w:List Int) h,call 119 [ints ty,ints x.args,ints w] h=some (bool (decide (gotOf ty x.args=w)),h)):∃r h',fin Try.prog [.tmp 8] (exec Try.prog vals call n k114 ⟨enterE 0 [.agg [externs m.externs,globals m.globals,tables m.tables,funcs m.funcs],.agg [str f.name,bool f.out,ints f.params,int f.result,blocks f.blocks],ints ty,.agg [int x.op,int x.type,int x.to,int x.sym,int x.num,ints x.args,ints x.into]],[]⟩)=some (r,h')∧view true h' depth r=some (bool (fitB m f ty x)):=by
 rw[show fitB m f ty x=(decide (x.type=4)&&decide (gotOf ty x.args=[1])) by unfold fitB;rw[hop];rfl]
 have hr:call 119 [ints ty,ints x.args,.os 3 0 1 (some 1)] [.row 0 [externs m.externs,globals m.globals,tables m.tables,funcs m.funcs],.row 0 [str f.name,bool f.out,ints f.params,int f.result,blocks f.blocks],.row 0 [int 24,int x.type,int x.to,int x.sym,int x.num,ints x.args,ints x.into],.row 1 [int 1]]=some (bool (decide (gotOf ty x.args=[1])),[.row 0 [externs m.externs,globals m.globals,tables m.tables,funcs m.funcs],.row 0 [str f.name,bool f.out,ints f.params,int f.result,blocks f.blocks],.row 0 [int 24,int x.type,int x.to,int x.sym,int x.num,ints x.args,ints x.into],.row 1 [int 1]]):=hrow [1] 3 _ rfl
 cases q1:decide (x.type=4)<;>cases q2:decide (gotOf ty x.args=[1])<;>(rw[q2] at hr;simp +decide -implicitDefEqProofs only[k114,go_sem,hop,q1,hr];exact⟨_,_,rfl,rfl⟩)
theorem fit_25 {vals:FuncId→Bool}{call:CallF}{n:Nat}(m:Tm.Module)(f:Tm.Func)(ty:List Int)(x:Ins)(hop:x.op=25)(hall:∀t h,call 118 [ints ty,ints x.args,int t] h=some (bool (allT t (gotOf ty x.args)),h))(hrow:∀(w:List Int) (l:Nat) (h:Heap),h[l]?=some (.row 1 (w.map int))→call 119 [ints ty,ints x.args,.os l 0 w.length (some w.length)] h=some (bool (decide (gotOf ty x.args=w)),h))(hfrz:∀(w:List Int) h,call 119 [ints ty,ints x.args,ints w] h=some (bool (decide (gotOf ty x.args=w)),h))(hpos:0<x.args.length)(hin:∀v∈x.args,0≤v∧v<(ty.length:Int)):∃r h',fin Try.prog [.tmp 8] (exec Try.prog vals call n k114 ⟨enterE 0 [.agg [externs m.externs,globals m.globals,tables m.tables,funcs m.funcs],.agg [str f.name,bool f.out,ints f.params,int f.result,blocks f.blocks],ints ty,.agg [int x.op,int x.type,int x.to,int x.sym,int x.num,ints x.args,ints x.into]],[]⟩)=some (r,h')∧view true h' depth r=some (bool (fitB m f ty x)):=by
 rw[show fitB m f ty x=(decide (rd (gotOf ty x.args) 0=4)&&!decide (x.type=3)) by unfold fitB;rw[hop];rfl]
 have e0:(0:Int)≤0∧(0:Int)<x.args.length:=by omega
 have hr:=hin (rd x.args 0) (by have:=mem_of_rd (xs:=x.args) (i:=0) (by omega);simpa using this)
 have hg:rd (gotOf ty x.args) 0=rd ty (rd x.args 0):=by have:=got_rd (ty:=ty) (args:=x.args) (i:=0) (by omega);simpa using this
 rw[hg]
 cases q1:decide (rd ty (rd x.args 0)=4)<;>cases q2:decide (x.type=3)<;>(simp +decide -implicitDefEqProofs only[k114,go_sem,hop,e0,hr,q1,q2];exact⟨_,_,rfl,rfl⟩)
theorem fit_26 {vals:FuncId→Bool}{call:CallF}{n:Nat}(m:Tm.Module)(f:Tm.Func)(ty:List Int)(x:Ins)(hop:x.op=26)(hall:∀t h,call 118 [ints ty,ints x.args,int t] h=some (bool (allT t (gotOf ty x.args)),h))(hrow:∀(w:List Int) (l:Nat) (h:Heap),h[l]?=some (.row 1 (w.map int))→call 119 [ints ty,ints x.args,.os l 0 w.length (some w.length)] h=some (bool (decide (gotOf ty x.args=w)),h))(hfrz:∀(w:List Int) h,call 119 [ints ty,ints x.args,ints w] h=some (bool (decide (gotOf ty x.args=w)),h)):∃r h',fin Try.prog [.tmp 8] (exec Try.prog vals call n k114 ⟨enterE 0 [.agg [externs m.externs,globals m.globals,tables m.tables,funcs m.funcs],.agg [str f.name,bool f.out,ints f.params,int f.result,blocks f.blocks],ints ty,.agg [int x.op,int x.type,int x.to,int x.sym,int x.num,ints x.args,ints x.into]],[]⟩)=some (r,h')∧view true h' depth r=some (bool (fitB m f ty x)):=by
 rw[show fitB m f ty x=(allT x.type (gotOf ty x.args)) by unfold fitB;rw[hop];rfl]
 cases q2:allT x.type (gotOf ty x.args)<;>(simp +decide -implicitDefEqProofs only[k114,go_sem,hop,q2,hall];exact⟨_,_,rfl,rfl⟩)
theorem fit_27 {vals:FuncId→Bool}{call:CallF}{n:Nat}(m:Tm.Module)(f:Tm.Func)(ty:List Int)(x:Ins)(hop:x.op=27)(hall:∀t h,call 118 [ints ty,ints x.args,int t] h=some (bool (allT t (gotOf ty x.args)),h))(hrow:∀(w:List Int) (l:Nat) (h:Heap),h[l]?=some (.row 1 (w.map int))→call 119 [ints ty,ints x.args,.os l 0 w.length (some w.length)] h=some (bool (decide (gotOf ty x.args=w)),h))(hfrz:∀(w:List Int) h,call 119 [ints ty,ints x.args,ints w] h=some (bool (decide (gotOf ty x.args=w)),h)):∃r h',fin Try.prog [.tmp 8] (exec Try.prog vals call n k114 ⟨enterE 0 [.agg [externs m.externs,globals m.globals,tables m.tables,funcs m.funcs],.agg [str f.name,bool f.out,ints f.params,int f.result,blocks f.blocks],ints ty,.agg [int x.op,int x.type,int x.to,int x.sym,int x.num,ints x.args,ints x.into]],[]⟩)=some (r,h')∧view true h' depth r=some (bool (fitB m f ty x)):=by
 rw[show fitB m f ty x=(true) by unfold fitB;rw[hop];rfl]
 simp +decide -implicitDefEqProofs only[k114,go_sem,hop];exact⟨_,_,rfl,rfl⟩
theorem fit_28 {vals:FuncId→Bool}{call:CallF}{n:Nat}(m:Tm.Module)(f:Tm.Func)(ty:List Int)(x:Ins)(hop:x.op=28)(hall:∀t h,call 118 [ints ty,ints x.args,int t] h=some (bool (allT t (gotOf ty x.args)),h))(hrow:∀(w:List Int) (l:Nat) (h:Heap),h[l]?=some (.row 1 (w.map int))→call 119 [ints ty,ints x.args,.os l 0 w.length (some w.length)] h=some (bool (decide (gotOf ty x.args=w)),h))(hfrz:∀(w:List Int) h,call 119 [ints ty,ints x.args,ints w] h=some (bool (decide (gotOf ty x.args=w)),h)):∃r h',fin Try.prog [.tmp 8] (exec Try.prog vals call n k114 ⟨enterE 0 [.agg [externs m.externs,globals m.globals,tables m.tables,funcs m.funcs],.agg [str f.name,bool f.out,ints f.params,int f.result,blocks f.blocks],ints ty,.agg [int x.op,int x.type,int x.to,int x.sym,int x.num,ints x.args,ints x.into]],[]⟩)=some (r,h')∧view true h' depth r=some (bool (fitB m f ty x)):=by
 rw[show fitB m f ty x=(decide (gotOf ty x.args=[2])) by unfold fitB;rw[hop];rfl]
 have hr:call 119 [ints ty,ints x.args,.os 3 0 1 (some 1)] [.row 0 [externs m.externs,globals m.globals,tables m.tables,funcs m.funcs],.row 0 [str f.name,bool f.out,ints f.params,int f.result,blocks f.blocks],.row 0 [int 28,int x.type,int x.to,int x.sym,int x.num,ints x.args,ints x.into],.row 1 [int 2]]=some (bool (decide (gotOf ty x.args=[2])),[.row 0 [externs m.externs,globals m.globals,tables m.tables,funcs m.funcs],.row 0 [str f.name,bool f.out,ints f.params,int f.result,blocks f.blocks],.row 0 [int 28,int x.type,int x.to,int x.sym,int x.num,ints x.args,ints x.into],.row 1 [int 2]]):=hrow [2] 3 _ rfl
 cases q2:decide (gotOf ty x.args=[2])<;>(rw[q2] at hr;simp +decide -implicitDefEqProofs only[k114,go_sem,hop,hr];exact⟨_,_,rfl,rfl⟩)
theorem fit_29 {vals:FuncId→Bool}{call:CallF}{n:Nat}(m:Tm.Module)(f:Tm.Func)(ty:List Int)(x:Ins)(hop:x.op=29)(hall:∀t h,call 118 [ints ty,ints x.args,int t] h=some (bool (allT t (gotOf ty x.args)),h))(hrow:∀(w:List Int) (l:Nat) (h:Heap),h[l]?=some (.row 1 (w.map int))→call 119 [ints ty,ints x.args,.os l 0 w.length (some w.length)] h=some (bool (decide (gotOf ty x.args=w)),h))(hfrz:∀(w:List Int) h,call 119 [ints ty,ints x.args,ints w] h=some (bool (decide (gotOf ty x.args=w)),h)):∃r h',fin Try.prog [.tmp 8] (exec Try.prog vals call n k114 ⟨enterE 0 [.agg [externs m.externs,globals m.globals,tables m.tables,funcs m.funcs],.agg [str f.name,bool f.out,ints f.params,int f.result,blocks f.blocks],ints ty,.agg [int x.op,int x.type,int x.to,int x.sym,int x.num,ints x.args,ints x.into]],[]⟩)=some (r,h')∧view true h' depth r=some (bool (fitB m f ty x)):=by
 rw[show fitB m f ty x=(if f.result=0 then decide (gotOf ty x.args=[]) else decide (gotOf ty x.args=[f.result])) by unfold fitB;rw[hop];rfl]
 have hr:call 119 [ints ty,ints x.args,.os 3 0 1 (some 1)] [.row 0 [externs m.externs,globals m.globals,tables m.tables,funcs m.funcs],.row 0 [str f.name,bool f.out,ints f.params,int f.result,blocks f.blocks],.row 0 [int 29,int x.type,int x.to,int x.sym,int x.num,ints x.args,ints x.into],.row 1 [int f.result]]=some (bool (decide (gotOf ty x.args=[f.result])),[.row 0 [externs m.externs,globals m.globals,tables m.tables,funcs m.funcs],.row 0 [str f.name,bool f.out,ints f.params,int f.result,blocks f.blocks],.row 0 [int 29,int x.type,int x.to,int x.sym,int x.num,ints x.args,ints x.into],.row 1 [int f.result]]):=hrow [f.result] 3 _ rfl
 have hl:decide ((x.args.length:Int)=0)=decide (gotOf ty x.args=[]):=by
  rw[decide_eq_decide]
  unfold gotOf
  rw[List.map_eq_nil_iff,←List.length_eq_zero_iff]
  omega
 cases q1:decide (f.result=0) with
 |true=>
  rw[if_pos (of_decide_eq_true q1),←hl]
  cases q2:decide ((x.args.length:Int)=0)<;>(simp +decide -implicitDefEqProofs only[k114,go_sem,hop,q1,q2];exact⟨_,_,rfl,rfl⟩)
 |false=>
  rw[if_neg (of_decide_eq_false q1)]
  cases q2:decide (gotOf ty x.args=[f.result])<;>(rw[q2] at hr;simp +decide -implicitDefEqProofs only[k114,go_sem,hop,q1,hr];exact⟨_,_,rfl,rfl⟩)
theorem fit_30 {vals:FuncId→Bool}{call:CallF}{n:Nat}(m:Tm.Module)(f:Tm.Func)(ty:List Int)(x:Ins)(hop:x.op=30)(hall:∀t h,call 118 [ints ty,ints x.args,int t] h=some (bool (allT t (gotOf ty x.args)),h))(hrow:∀(w:List Int) (l:Nat) (h:Heap),h[l]?=some (.row 1 (w.map int))→call 119 [ints ty,ints x.args,.os l 0 w.length (some w.length)] h=some (bool (decide (gotOf ty x.args=w)),h))(hfrz:∀(w:List Int) h,call 119 [ints ty,ints x.args,ints w] h=some (bool (decide (gotOf ty x.args=w)),h)):∃r h',fin Try.prog [.tmp 8] (exec Try.prog vals call n k114 ⟨enterE 0 [.agg [externs m.externs,globals m.globals,tables m.tables,funcs m.funcs],.agg [str f.name,bool f.out,ints f.params,int f.result,blocks f.blocks],ints ty,.agg [int x.op,int x.type,int x.to,int x.sym,int x.num,ints x.args,ints x.into]],[]⟩)=some (r,h')∧view true h' depth r=some (bool (fitB m f ty x)):=by
 rw[show fitB m f ty x=(true) by unfold fitB;rw[hop];rfl]
 simp +decide -implicitDefEqProofs only[k114,go_sem,hop];exact⟨_,_,rfl,rfl⟩
def fitG (m:Tm.Module)(f:Tm.Func)(x:Ins)(got:List Int):Bool:=
 fitS x.op x.type x.num got (fnAt m.funcs x.sym).result (fnAt m.funcs x.sym).params (extAt m.externs x.sym).result (extAt m.externs x.sym).params f.result
theorem dec1 (a g:Int):decide ([g]=[a])=decide (g=a):=decide_eq_decide.2 (by simp)
theorem dec2 (a b g g':Int):decide ([g,g']=[a,b])=(decide (g=a)&&decide (g'=b)):=by rw[←Bool.decide_and];exact decide_eq_decide.2 (by simp)
theorem dec3 (a b c g g' g2:Int):decide ([g,g',g2]=[a,b,c])=((decide (g=a)&&decide (g'=b))&&decide (g2=c)):=by rw[←Bool.decide_and,←Bool.decide_and];exact decide_eq_decide.2 (by simp[and_assoc])
theorem all1 (t g:Int):allT t [g]=decide (g=t):=by simp[allT]
theorem all2 (t g g':Int):allT t [g,g']=(decide (g=t)&&decide (g'=t)):=by simp[allT]
theorem len1 {got:List Int}(h:got.length=1):∃a,got=[a]:=by
 match got,h with
 |[a],_=>exact⟨a,rfl⟩
theorem len2 {got:List Int}(h:got.length=2):∃a b,got=[a,b]:=by
 match got,h with
 |[a,b],_=>exact⟨a,b,rfl⟩
theorem len3 {got:List Int}(h:got.length=3):∃a b c,got=[a,b,c]:=by
 match got,h with
 |[a,b,c],_=>exact⟨a,b,c,rfl⟩
theorem at0 (a:Int)(r:List Int):rd (a::r) 0=a:=rfl
theorem at1 (a b:Int)(r:List Int):rd (a::b::r) 1=b:=rfl
theorem at2 (a b c:Int)(r:List Int):rd (a::b::c::r) 2=c:=rfl
theorem in0 (a:Int)(r:List Int):(0:Int)≤0∧(0:Int)<(a::r).length:=by simp
theorem in1 (a b:Int)(r:List Int):(0:Int)≤1∧(1:Int)<(a::b::r).length:=by simp;omega
theorem in2 (a b c:Int)(r:List Int):(0:Int)≤2∧(2:Int)<(a::b::c::r).length:=by simp;omega
theorem fit_phi {vals:FuncId→Bool}{call:CallF}{n:Nat}(got:List Int)(x:Ins)(p:Nat)(hl:got.length<2^50)(h:Heap)(hp:h[p]?=some (.row 0 [int x.op,int x.type,int x.to,int x.sym,int x.num,ints x.args,ints x.into]))(m:Nat)(hm:got.length<m):Tm.Loop Try.prog vals call n [3,6,9] k106b0 m ⟨[(3,ints got),(6,.op p 0),(9,int 0)],h⟩=some (if got.any (fun v=>!decide (v=x.type))=true then(.ret,⟨[(8,bool false)],h⟩) else(.exit 1,⟨[(3,ints got),(6,.op p 0),(9,int got.length),(233,bool false)],h⟩)):=by
 obtain⟨h1,e,L⟩:=Loop_any (P:=Try.prog) (vals:=vals) (call:=call) (n:=n) (ks:=[3,6,9]) (K:=k106b0) (id:=1) got.length (fun i=>!decide (rd got i=x.type)) (fun i=>[(3,ints got),(6,.op p 0),(9,int i)]) [(8,bool false)] [(3,ints got),(6,.op p 0),(9,int got.length),(233,bool false)] (fun g=>g=h)
  (fun i g hi hg=>⟨h,rfl,by
   rw[hg]
   have e1:decide ((i:Int)<got.length)=true:=by simp;omega
   have e2:0≤(i:Int)∧(i:Int)<got.length:=by omega
   have e3:=wrap_next (n:=got.length) (i:=i) (by omega) (by omega)
   cases c1:decide (rd got i=x.type)<;>simp +decide -implicitDefEqProofs only[k106b0,go_sem,e1,e2,e3,set_new,c1,hp]⟩)
  (fun g hg=>⟨h,rfl,by rw[hg];simp +decide -implicitDefEqProofs only[k106b0,go_sem,Int.lt_irrefl,decide_false]⟩) got.length 0 m h (by omega) hm rfl
 rw[e] at L
 simp only[show((0:Nat):Int)=0 from rfl] at L
 rw[any_ints (fun v=>!decide (v=x.type))] at L
 exact L
theorem rfit_1 {vals:FuncId→Bool}{call:CallF}{n:Nat}(m:Tm.Module)(f:Tm.Func)(got:List Int)(x:Ins)(hop:x.op=1):∃r h',fin Try.prog [.tmp 8] (exec Try.prog vals call n k106 ⟨enterE 0 [.agg [externs m.externs,globals m.globals,tables m.tables,funcs m.funcs],.agg [str f.name,bool f.out,ints f.params,int f.result,blocks f.blocks],.agg [int x.op,int x.type,int x.to,int x.sym,int x.num,ints x.args,ints x.into],ints got],[]⟩)=some (r,h')∧view true h' depth r=some (bool (fitG m f x got)):=by
 rw[show fitG m f x got=(decide (x.type=1)||(decide (x.type=2)&&(decide (x.num=0)||decide (x.num=1)))) by unfold fitG;rw[hop];rfl]
 cases q1:decide (x.type=1)<;>cases q2:decide (x.type=2)<;>cases q3:decide (x.num=0)<;>cases q4:decide (x.num=1)<;>(simp +decide -implicitDefEqProofs only[k106,go_sem,hop,q1,q2,q3,q4];exact⟨_,_,rfl,rfl⟩)
theorem rfit_2 {vals:FuncId→Bool}{call:CallF}{n:Nat}(m:Tm.Module)(f:Tm.Func)(got:List Int)(x:Ins)(hop:x.op=2):∃r h',fin Try.prog [.tmp 8] (exec Try.prog vals call n k106 ⟨enterE 0 [.agg [externs m.externs,globals m.globals,tables m.tables,funcs m.funcs],.agg [str f.name,bool f.out,ints f.params,int f.result,blocks f.blocks],.agg [int x.op,int x.type,int x.to,int x.sym,int x.num,ints x.args,ints x.into],ints got],[]⟩)=some (r,h')∧view true h' depth r=some (bool (fitG m f x got)):=by
 rw[show fitG m f x got=(decide (x.type=4)) by unfold fitG;rw[hop];rfl]
 cases q1:decide (x.type=4)<;>(simp +decide -implicitDefEqProofs only[k106,go_sem,hop,q1];exact⟨_,_,rfl,rfl⟩)
theorem rfit_3 {vals:FuncId→Bool}{call:CallF}{n:Nat}(m:Tm.Module)(f:Tm.Func)(got:List Int)(x:Ins)(hop:x.op=3):∃r h',fin Try.prog [.tmp 8] (exec Try.prog vals call n k106 ⟨enterE 0 [.agg [externs m.externs,globals m.globals,tables m.tables,funcs m.funcs],.agg [str f.name,bool f.out,ints f.params,int f.result,blocks f.blocks],.agg [int x.op,int x.type,int x.to,int x.sym,int x.num,ints x.args,ints x.into],ints got],[]⟩)=some (r,h')∧view true h' depth r=some (bool (fitG m f x got)):=by
 rw[show fitG m f x got=(decide (x.type=3)) by unfold fitG;rw[hop];rfl]
 cases q1:decide (x.type=3)<;>(simp +decide -implicitDefEqProofs only[k106,go_sem,hop,q1];exact⟨_,_,rfl,rfl⟩)
theorem rfit_18 {vals:FuncId→Bool}{call:CallF}{n:Nat}(m:Tm.Module)(f:Tm.Func)(got:List Int)(x:Ins)(hop:x.op=18):∃r h',fin Try.prog [.tmp 8] (exec Try.prog vals call n k106 ⟨enterE 0 [.agg [externs m.externs,globals m.globals,tables m.tables,funcs m.funcs],.agg [str f.name,bool f.out,ints f.params,int f.result,blocks f.blocks],.agg [int x.op,int x.type,int x.to,int x.sym,int x.num,ints x.args,ints x.into],ints got],[]⟩)=some (r,h')∧view true h' depth r=some (bool (fitG m f x got)):=by
 rw[show fitG m f x got=(decide (x.type=3)) by unfold fitG;rw[hop];rfl]
 cases q1:decide (x.type=3)<;>(simp +decide -implicitDefEqProofs only[k106,go_sem,hop,q1];exact⟨_,_,rfl,rfl⟩)
theorem rfit_4 {vals:FuncId→Bool}{call:CallF}{n:Nat}(m:Tm.Module)(f:Tm.Func)(got:List Int)(x:Ins)(hop:x.op=4)(hl:got.length=2):∃r h',fin Try.prog [.tmp 8] (exec Try.prog vals call n k106 ⟨enterE 0 [.agg [externs m.externs,globals m.globals,tables m.tables,funcs m.funcs],.agg [str f.name,bool f.out,ints f.params,int f.result,blocks f.blocks],.agg [int x.op,int x.type,int x.to,int x.sym,int x.num,ints x.args,ints x.into],ints got],[]⟩)=some (r,h')∧view true h' depth r=some (bool (fitG m f x got)):=by
 rw[show fitG m f x got=(decide (x.type=1)&&allT 1 got) by unfold fitG;rw[hop];rfl]
 obtain⟨a,b,rfl⟩:=len2 hl
 rw[all2]
 cases q1:decide (x.type=1)<;>cases q2:decide (a=1)<;>cases q3:decide (b=1)<;>(simp +decide -implicitDefEqProofs only[k106,go_sem,hop,q1,q2,q3,in0,in1,in2,at0,at1,at2];exact⟨_,_,rfl,rfl⟩)
theorem rfit_5 {vals:FuncId→Bool}{call:CallF}{n:Nat}(m:Tm.Module)(f:Tm.Func)(got:List Int)(x:Ins)(hop:x.op=5)(hl:got.length=2):∃r h',fin Try.prog [.tmp 8] (exec Try.prog vals call n k106 ⟨enterE 0 [.agg [externs m.externs,globals m.globals,tables m.tables,funcs m.funcs],.agg [str f.name,bool f.out,ints f.params,int f.result,blocks f.blocks],.agg [int x.op,int x.type,int x.to,int x.sym,int x.num,ints x.args,ints x.into],ints got],[]⟩)=some (r,h')∧view true h' depth r=some (bool (fitG m f x got)):=by
 rw[show fitG m f x got=(decide (x.type=1)&&allT 1 got) by unfold fitG;rw[hop];rfl]
 obtain⟨a,b,rfl⟩:=len2 hl
 rw[all2]
 cases q1:decide (x.type=1)<;>cases q2:decide (a=1)<;>cases q3:decide (b=1)<;>(simp +decide -implicitDefEqProofs only[k106,go_sem,hop,q1,q2,q3,in0,in1,in2,at0,at1,at2];exact⟨_,_,rfl,rfl⟩)
theorem rfit_6 {vals:FuncId→Bool}{call:CallF}{n:Nat}(m:Tm.Module)(f:Tm.Func)(got:List Int)(x:Ins)(hop:x.op=6)(hl:got.length=2):∃r h',fin Try.prog [.tmp 8] (exec Try.prog vals call n k106 ⟨enterE 0 [.agg [externs m.externs,globals m.globals,tables m.tables,funcs m.funcs],.agg [str f.name,bool f.out,ints f.params,int f.result,blocks f.blocks],.agg [int x.op,int x.type,int x.to,int x.sym,int x.num,ints x.args,ints x.into],ints got],[]⟩)=some (r,h')∧view true h' depth r=some (bool (fitG m f x got)):=by
 rw[show fitG m f x got=(decide (x.type=1)&&allT 1 got) by unfold fitG;rw[hop];rfl]
 obtain⟨a,b,rfl⟩:=len2 hl
 rw[all2]
 cases q1:decide (x.type=1)<;>cases q2:decide (a=1)<;>cases q3:decide (b=1)<;>(simp +decide -implicitDefEqProofs only[k106,go_sem,hop,q1,q2,q3,in0,in1,in2,at0,at1,at2];exact⟨_,_,rfl,rfl⟩)
theorem rfit_7 {vals:FuncId→Bool}{call:CallF}{n:Nat}(m:Tm.Module)(f:Tm.Func)(got:List Int)(x:Ins)(hop:x.op=7)(hl:got.length=2):∃r h',fin Try.prog [.tmp 8] (exec Try.prog vals call n k106 ⟨enterE 0 [.agg [externs m.externs,globals m.globals,tables m.tables,funcs m.funcs],.agg [str f.name,bool f.out,ints f.params,int f.result,blocks f.blocks],.agg [int x.op,int x.type,int x.to,int x.sym,int x.num,ints x.args,ints x.into],ints got],[]⟩)=some (r,h')∧view true h' depth r=some (bool (fitG m f x got)):=by
 rw[show fitG m f x got=(decide (x.type=1)&&allT 1 got) by unfold fitG;rw[hop];rfl]
 obtain⟨a,b,rfl⟩:=len2 hl
 rw[all2]
 cases q1:decide (x.type=1)<;>cases q2:decide (a=1)<;>cases q3:decide (b=1)<;>(simp +decide -implicitDefEqProofs only[k106,go_sem,hop,q1,q2,q3,in0,in1,in2,at0,at1,at2];exact⟨_,_,rfl,rfl⟩)
theorem rfit_8 {vals:FuncId→Bool}{call:CallF}{n:Nat}(m:Tm.Module)(f:Tm.Func)(got:List Int)(x:Ins)(hop:x.op=8)(hl:got.length=2):∃r h',fin Try.prog [.tmp 8] (exec Try.prog vals call n k106 ⟨enterE 0 [.agg [externs m.externs,globals m.globals,tables m.tables,funcs m.funcs],.agg [str f.name,bool f.out,ints f.params,int f.result,blocks f.blocks],.agg [int x.op,int x.type,int x.to,int x.sym,int x.num,ints x.args,ints x.into],ints got],[]⟩)=some (r,h')∧view true h' depth r=some (bool (fitG m f x got)):=by
 rw[show fitG m f x got=(decide (x.type=1)&&allT 1 got) by unfold fitG;rw[hop];rfl]
 obtain⟨a,b,rfl⟩:=len2 hl
 rw[all2]
 cases q1:decide (x.type=1)<;>cases q2:decide (a=1)<;>cases q3:decide (b=1)<;>(simp +decide -implicitDefEqProofs only[k106,go_sem,hop,q1,q2,q3,in0,in1,in2,at0,at1,at2];exact⟨_,_,rfl,rfl⟩)
theorem rfit_9 {vals:FuncId→Bool}{call:CallF}{n:Nat}(m:Tm.Module)(f:Tm.Func)(got:List Int)(x:Ins)(hop:x.op=9)(hl:got.length=2):∃r h',fin Try.prog [.tmp 8] (exec Try.prog vals call n k106 ⟨enterE 0 [.agg [externs m.externs,globals m.globals,tables m.tables,funcs m.funcs],.agg [str f.name,bool f.out,ints f.params,int f.result,blocks f.blocks],.agg [int x.op,int x.type,int x.to,int x.sym,int x.num,ints x.args,ints x.into],ints got],[]⟩)=some (r,h')∧view true h' depth r=some (bool (fitG m f x got)):=by
 rw[show fitG m f x got=(decide (x.type=1)&&allT 1 got) by unfold fitG;rw[hop];rfl]
 obtain⟨a,b,rfl⟩:=len2 hl
 rw[all2]
 cases q1:decide (x.type=1)<;>cases q2:decide (a=1)<;>cases q3:decide (b=1)<;>(simp +decide -implicitDefEqProofs only[k106,go_sem,hop,q1,q2,q3,in0,in1,in2,at0,at1,at2];exact⟨_,_,rfl,rfl⟩)
theorem rfit_10 {vals:FuncId→Bool}{call:CallF}{n:Nat}(m:Tm.Module)(f:Tm.Func)(got:List Int)(x:Ins)(hop:x.op=10)(hl:got.length=2):∃r h',fin Try.prog [.tmp 8] (exec Try.prog vals call n k106 ⟨enterE 0 [.agg [externs m.externs,globals m.globals,tables m.tables,funcs m.funcs],.agg [str f.name,bool f.out,ints f.params,int f.result,blocks f.blocks],.agg [int x.op,int x.type,int x.to,int x.sym,int x.num,ints x.args,ints x.into],ints got],[]⟩)=some (r,h')∧view true h' depth r=some (bool (fitG m f x got)):=by
 rw[show fitG m f x got=(decide (x.type=1)&&allT 1 got) by unfold fitG;rw[hop];rfl]
 obtain⟨a,b,rfl⟩:=len2 hl
 rw[all2]
 cases q1:decide (x.type=1)<;>cases q2:decide (a=1)<;>cases q3:decide (b=1)<;>(simp +decide -implicitDefEqProofs only[k106,go_sem,hop,q1,q2,q3,in0,in1,in2,at0,at1,at2];exact⟨_,_,rfl,rfl⟩)
theorem rfit_11 {vals:FuncId→Bool}{call:CallF}{n:Nat}(m:Tm.Module)(f:Tm.Func)(got:List Int)(x:Ins)(hop:x.op=11)(hl:got.length=2):∃r h',fin Try.prog [.tmp 8] (exec Try.prog vals call n k106 ⟨enterE 0 [.agg [externs m.externs,globals m.globals,tables m.tables,funcs m.funcs],.agg [str f.name,bool f.out,ints f.params,int f.result,blocks f.blocks],.agg [int x.op,int x.type,int x.to,int x.sym,int x.num,ints x.args,ints x.into],ints got],[]⟩)=some (r,h')∧view true h' depth r=some (bool (fitG m f x got)):=by
 rw[show fitG m f x got=(decide (x.type=1)&&allT 1 got) by unfold fitG;rw[hop];rfl]
 obtain⟨a,b,rfl⟩:=len2 hl
 rw[all2]
 cases q1:decide (x.type=1)<;>cases q2:decide (a=1)<;>cases q3:decide (b=1)<;>(simp +decide -implicitDefEqProofs only[k106,go_sem,hop,q1,q2,q3,in0,in1,in2,at0,at1,at2];exact⟨_,_,rfl,rfl⟩)
theorem rfit_12 {vals:FuncId→Bool}{call:CallF}{n:Nat}(m:Tm.Module)(f:Tm.Func)(got:List Int)(x:Ins)(hop:x.op=12)(hl:got.length=2):∃r h',fin Try.prog [.tmp 8] (exec Try.prog vals call n k106 ⟨enterE 0 [.agg [externs m.externs,globals m.globals,tables m.tables,funcs m.funcs],.agg [str f.name,bool f.out,ints f.params,int f.result,blocks f.blocks],.agg [int x.op,int x.type,int x.to,int x.sym,int x.num,ints x.args,ints x.into],ints got],[]⟩)=some (r,h')∧view true h' depth r=some (bool (fitG m f x got)):=by
 rw[show fitG m f x got=(decide (x.type=1)&&allT 1 got) by unfold fitG;rw[hop];rfl]
 obtain⟨a,b,rfl⟩:=len2 hl
 rw[all2]
 cases q1:decide (x.type=1)<;>cases q2:decide (a=1)<;>cases q3:decide (b=1)<;>(simp +decide -implicitDefEqProofs only[k106,go_sem,hop,q1,q2,q3,in0,in1,in2,at0,at1,at2];exact⟨_,_,rfl,rfl⟩)
theorem rfit_13 {vals:FuncId→Bool}{call:CallF}{n:Nat}(m:Tm.Module)(f:Tm.Func)(got:List Int)(x:Ins)(hop:x.op=13)(hl:got.length=2):∃r h',fin Try.prog [.tmp 8] (exec Try.prog vals call n k106 ⟨enterE 0 [.agg [externs m.externs,globals m.globals,tables m.tables,funcs m.funcs],.agg [str f.name,bool f.out,ints f.params,int f.result,blocks f.blocks],.agg [int x.op,int x.type,int x.to,int x.sym,int x.num,ints x.args,ints x.into],ints got],[]⟩)=some (r,h')∧view true h' depth r=some (bool (fitG m f x got)):=by
 rw[show fitG m f x got=(decide (x.type=1)&&allT 1 got) by unfold fitG;rw[hop];rfl]
 obtain⟨a,b,rfl⟩:=len2 hl
 rw[all2]
 cases q1:decide (x.type=1)<;>cases q2:decide (a=1)<;>cases q3:decide (b=1)<;>(simp +decide -implicitDefEqProofs only[k106,go_sem,hop,q1,q2,q3,in0,in1,in2,at0,at1,at2];exact⟨_,_,rfl,rfl⟩)
theorem rfit_14 {vals:FuncId→Bool}{call:CallF}{n:Nat}(m:Tm.Module)(f:Tm.Func)(got:List Int)(x:Ins)(hop:x.op=14)(hl:got.length=2):∃r h',fin Try.prog [.tmp 8] (exec Try.prog vals call n k106 ⟨enterE 0 [.agg [externs m.externs,globals m.globals,tables m.tables,funcs m.funcs],.agg [str f.name,bool f.out,ints f.params,int f.result,blocks f.blocks],.agg [int x.op,int x.type,int x.to,int x.sym,int x.num,ints x.args,ints x.into],ints got],[]⟩)=some (r,h')∧view true h' depth r=some (bool (fitG m f x got)):=by
 rw[show fitG m f x got=(decide (x.type=2)&&allT 1 got) by unfold fitG;rw[hop];rfl]
 obtain⟨a,b,rfl⟩:=len2 hl
 rw[all2]
 cases q1:decide (x.type=2)<;>cases q2:decide (a=1)<;>cases q3:decide (b=1)<;>(simp +decide -implicitDefEqProofs only[k106,go_sem,hop,q1,q2,q3,in0,in1,in2,at0,at1,at2];exact⟨_,_,rfl,rfl⟩)
theorem rfit_15 {vals:FuncId→Bool}{call:CallF}{n:Nat}(m:Tm.Module)(f:Tm.Func)(got:List Int)(x:Ins)(hop:x.op=15)(hl:got.length=2):∃r h',fin Try.prog [.tmp 8] (exec Try.prog vals call n k106 ⟨enterE 0 [.agg [externs m.externs,globals m.globals,tables m.tables,funcs m.funcs],.agg [str f.name,bool f.out,ints f.params,int f.result,blocks f.blocks],.agg [int x.op,int x.type,int x.to,int x.sym,int x.num,ints x.args,ints x.into],ints got],[]⟩)=some (r,h')∧view true h' depth r=some (bool (fitG m f x got)):=by
 rw[show fitG m f x got=(decide (x.type=2)&&allT 1 got) by unfold fitG;rw[hop];rfl]
 obtain⟨a,b,rfl⟩:=len2 hl
 rw[all2]
 cases q1:decide (x.type=2)<;>cases q2:decide (a=1)<;>cases q3:decide (b=1)<;>(simp +decide -implicitDefEqProofs only[k106,go_sem,hop,q1,q2,q3,in0,in1,in2,at0,at1,at2];exact⟨_,_,rfl,rfl⟩)
theorem rfit_16 {vals:FuncId→Bool}{call:CallF}{n:Nat}(m:Tm.Module)(f:Tm.Func)(got:List Int)(x:Ins)(hop:x.op=16)(hl:got.length=1):∃r h',fin Try.prog [.tmp 8] (exec Try.prog vals call n k106 ⟨enterE 0 [.agg [externs m.externs,globals m.globals,tables m.tables,funcs m.funcs],.agg [str f.name,bool f.out,ints f.params,int f.result,blocks f.blocks],.agg [int x.op,int x.type,int x.to,int x.sym,int x.num,ints x.args,ints x.into],ints got],[]⟩)=some (r,h')∧view true h' depth r=some (bool (fitG m f x got)):=by
 rw[show fitG m f x got=(decide (x.type=2)&&allT 2 got) by unfold fitG;rw[hop];rfl]
 obtain⟨a,rfl⟩:=len1 hl
 rw[all1]
 cases q1:decide (x.type=2)<;>cases q2:decide (a=2)<;>(simp +decide -implicitDefEqProofs only[k106,go_sem,hop,q1,q2,in0,in1,in2,at0,at1,at2];exact⟨_,_,rfl,rfl⟩)
theorem rfit_17 {vals:FuncId→Bool}{call:CallF}{n:Nat}(m:Tm.Module)(f:Tm.Func)(got:List Int)(x:Ins)(hop:x.op=17)(hl:got.length=3):∃r h',fin Try.prog [.tmp 8] (exec Try.prog vals call n k106 ⟨enterE 0 [.agg [externs m.externs,globals m.globals,tables m.tables,funcs m.funcs],.agg [str f.name,bool f.out,ints f.params,int f.result,blocks f.blocks],.agg [int x.op,int x.type,int x.to,int x.sym,int x.num,ints x.args,ints x.into],ints got],[]⟩)=some (r,h')∧view true h' depth r=some (bool (fitG m f x got)):=by
 rw[show fitG m f x got=(decide (got=[2,x.type,x.type])) by unfold fitG;rw[hop];rfl]
 obtain⟨a,b,c,rfl⟩:=len3 hl
 rw[dec3]
 cases q1:decide (a=2)<;>cases q2:decide (b=x.type)<;>cases q3:decide (c=x.type)<;>(simp +decide -implicitDefEqProofs only[k106,go_sem,hop,q1,q2,q3,in0,in1,in2,at0,at1,at2];exact⟨_,_,rfl,rfl⟩)
theorem rfit_19 {vals:FuncId→Bool}{call:CallF}{n:Nat}(m:Tm.Module)(f:Tm.Func)(got:List Int)(x:Ins)(hop:x.op=19)(hl:got.length=2):∃r h',fin Try.prog [.tmp 8] (exec Try.prog vals call n k106 ⟨enterE 0 [.agg [externs m.externs,globals m.globals,tables m.tables,funcs m.funcs],.agg [str f.name,bool f.out,ints f.params,int f.result,blocks f.blocks],.agg [int x.op,int x.type,int x.to,int x.sym,int x.num,ints x.args,ints x.into],ints got],[]⟩)=some (r,h')∧view true h' depth r=some (bool (fitG m f x got)):=by
 rw[show fitG m f x got=(decide (x.type=3)&&decide (got=[3,1])) by unfold fitG;rw[hop];rfl]
 obtain⟨a,b,rfl⟩:=len2 hl
 rw[dec2]
 cases q1:decide (x.type=3)<;>cases q2:decide (a=3)<;>cases q3:decide (b=1)<;>(simp +decide -implicitDefEqProofs only[k106,go_sem,hop,q1,q2,q3,in0,in1,in2,at0,at1,at2];exact⟨_,_,rfl,rfl⟩)
theorem rfit_20 {vals:FuncId→Bool}{call:CallF}{n:Nat}(m:Tm.Module)(f:Tm.Func)(got:List Int)(x:Ins)(hop:x.op=20)(hl:got.length=1):∃r h',fin Try.prog [.tmp 8] (exec Try.prog vals call n k106 ⟨enterE 0 [.agg [externs m.externs,globals m.globals,tables m.tables,funcs m.funcs],.agg [str f.name,bool f.out,ints f.params,int f.result,blocks f.blocks],.agg [int x.op,int x.type,int x.to,int x.sym,int x.num,ints x.args,ints x.into],ints got],[]⟩)=some (r,h')∧view true h' depth r=some (bool (fitG m f x got)):=by
 rw[show fitG m f x got=(decide (x.type=1)&&decide (got=[3])) by unfold fitG;rw[hop];rfl]
 obtain⟨a,rfl⟩:=len1 hl
 rw[dec1]
 cases q1:decide (x.type=1)<;>cases q2:decide (a=3)<;>(simp +decide -implicitDefEqProofs only[k106,go_sem,hop,q1,q2,in0,in1,in2,at0,at1,at2];exact⟨_,_,rfl,rfl⟩)
theorem rfit_21 {vals:FuncId→Bool}{call:CallF}{n:Nat}(m:Tm.Module)(f:Tm.Func)(got:List Int)(x:Ins)(hop:x.op=21)(hl:got.length=2):∃r h',fin Try.prog [.tmp 8] (exec Try.prog vals call n k106 ⟨enterE 0 [.agg [externs m.externs,globals m.globals,tables m.tables,funcs m.funcs],.agg [str f.name,bool f.out,ints f.params,int f.result,blocks f.blocks],.agg [int x.op,int x.type,int x.to,int x.sym,int x.num,ints x.args,ints x.into],ints got],[]⟩)=some (r,h')∧view true h' depth r=some (bool (fitG m f x got)):=by
 rw[show fitG m f x got=(decide (got=[3,1])) by unfold fitG;rw[hop];rfl]
 obtain⟨a,b,rfl⟩:=len2 hl
 rw[dec2]
 cases q2:decide (a=3)<;>cases q3:decide (b=1)<;>(simp +decide -implicitDefEqProofs only[k106,go_sem,hop,q2,q3,in0,in1,in2,at0,at1,at2];exact⟨_,_,rfl,rfl⟩)
theorem rfit_22 {vals:FuncId→Bool}{call:CallF}{n:Nat}(m:Tm.Module)(f:Tm.Func)(got:List Int)(x:Ins)(hop:x.op=22)(hs:0≤x.sym∧x.sym<m.funcs.length)(hv:vals 18=true)(h18:∀(w:List Int) h,call 18 [ints got,ints w] h=some (bool (decide (got=w)),h)):∃r h',fin Try.prog [.tmp 8] (exec Try.prog vals call n k106 ⟨enterE 0 [.agg [externs m.externs,globals m.globals,tables m.tables,funcs m.funcs],.agg [str f.name,bool f.out,ints f.params,int f.result,blocks f.blocks],.agg [int x.op,int x.type,int x.to,int x.sym,int x.num,ints x.args,ints x.into],ints got],[]⟩)=some (r,h')∧view true h' depth r=some (bool (fitG m f x got)):=by
 rw[show fitG m f x got=(decide (x.type=(fnAt m.funcs x.sym).result)&&decide (got=(fnAt m.funcs x.sym).params)) by unfold fitG;rw[hop];rfl]
 cases q1:decide (x.type=(fnAt m.funcs x.sym).result)<;>cases q2:decide (got=(fnAt m.funcs x.sym).params)<;>(simp +decide -implicitDefEqProofs only[k106,go_sem,hop,hs,hv,h18,q1,q2];exact⟨_,_,rfl,rfl⟩)
theorem rfit_23 {vals:FuncId→Bool}{call:CallF}{n:Nat}(m:Tm.Module)(f:Tm.Func)(got:List Int)(x:Ins)(hop:x.op=23)(hs:0≤x.sym∧x.sym<m.externs.length)(hv:vals 18=true)(h18:∀(w:List Int) h,call 18 [ints got,ints w] h=some (bool (decide (got=w)),h)):∃r h',fin Try.prog [.tmp 8] (exec Try.prog vals call n k106 ⟨enterE 0 [.agg [externs m.externs,globals m.globals,tables m.tables,funcs m.funcs],.agg [str f.name,bool f.out,ints f.params,int f.result,blocks f.blocks],.agg [int x.op,int x.type,int x.to,int x.sym,int x.num,ints x.args,ints x.into],ints got],[]⟩)=some (r,h')∧view true h' depth r=some (bool (fitG m f x got)):=by
 rw[show fitG m f x got=(decide (x.type=(extAt m.externs x.sym).result)&&decide (got=(extAt m.externs x.sym).params)) by unfold fitG;rw[hop];rfl]
 cases q1:decide (x.type=(extAt m.externs x.sym).result)<;>cases q2:decide (got=(extAt m.externs x.sym).params)<;>(simp +decide -implicitDefEqProofs only[k106,go_sem,hop,hs,hv,h18,q1,q2];exact⟨_,_,rfl,rfl⟩)
theorem rfit_24 {vals:FuncId→Bool}{call:CallF}{n:Nat}(m:Tm.Module)(f:Tm.Func)(got:List Int)(x:Ins)(hop:x.op=24)(hl:got.length=1):∃r h',fin Try.prog [.tmp 8] (exec Try.prog vals call n k106 ⟨enterE 0 [.agg [externs m.externs,globals m.globals,tables m.tables,funcs m.funcs],.agg [str f.name,bool f.out,ints f.params,int f.result,blocks f.blocks],.agg [int x.op,int x.type,int x.to,int x.sym,int x.num,ints x.args,ints x.into],ints got],[]⟩)=some (r,h')∧view true h' depth r=some (bool (fitG m f x got)):=by
 rw[show fitG m f x got=(decide (x.type=4)&&decide (got=[1])) by unfold fitG;rw[hop];rfl]
 obtain⟨a,rfl⟩:=len1 hl
 rw[dec1]
 cases q1:decide (x.type=4)<;>cases q2:decide (a=1)<;>(simp +decide -implicitDefEqProofs only[k106,go_sem,hop,q1,q2,in0,in1,in2,at0,at1,at2];exact⟨_,_,rfl,rfl⟩)
theorem rfit_25 {vals:FuncId→Bool}{call:CallF}{n:Nat}(m:Tm.Module)(f:Tm.Func)(got:List Int)(x:Ins)(hop:x.op=25)(hl:1≤got.length):∃r h',fin Try.prog [.tmp 8] (exec Try.prog vals call n k106 ⟨enterE 0 [.agg [externs m.externs,globals m.globals,tables m.tables,funcs m.funcs],.agg [str f.name,bool f.out,ints f.params,int f.result,blocks f.blocks],.agg [int x.op,int x.type,int x.to,int x.sym,int x.num,ints x.args,ints x.into],ints got],[]⟩)=some (r,h')∧view true h' depth r=some (bool (fitG m f x got)):=by
 rw[show fitG m f x got=(decide (rd got 0=4)&&!decide (x.type=3)) by unfold fitG;rw[hop];rfl]
 have e0:(0:Int)≤0∧(0:Int)<got.length:=by omega
 cases q1:decide (rd got 0=4)<;>cases q2:decide (x.type=3)<;>(simp +decide -implicitDefEqProofs only[k106,go_sem,hop,e0,q1,q2];exact⟨_,_,rfl,rfl⟩)
theorem rfit_26 {vals:FuncId→Bool}{call:CallF}{n:Nat}(m:Tm.Module)(f:Tm.Func)(got:List Int)(x:Ins)(hop:x.op=26)(hl:got.length<2^50)(hn:got.length<n):∃r h',fin Try.prog [.tmp 8] (exec Try.prog vals call n k106 ⟨enterE 0 [.agg [externs m.externs,globals m.globals,tables m.tables,funcs m.funcs],.agg [str f.name,bool f.out,ints f.params,int f.result,blocks f.blocks],.agg [int x.op,int x.type,int x.to,int x.sym,int x.num,ints x.args,ints x.into],ints got],[]⟩)=some (r,h')∧view true h' depth r=some (bool (fitG m f x got)):=by
 rw[show fitG m f x got=(allT x.type got) by unfold fitG;rw[hop];rfl]
 have L:=fit_phi (vals:=vals) (call:=call) (n:=n) got x 2 hl [.row 0 [externs m.externs,globals m.globals,tables m.tables,funcs m.funcs],.row 0 [str f.name,bool f.out,ints f.params,int f.result,blocks f.blocks],.row 0 [int x.op,int x.type,int x.to,int x.sym,int x.num,ints x.args,ints x.into]] rfl n hn
 rw[any_all,hop] at L
 cases q2:allT x.type got with
 |true=>
  rw[q2,if_neg (by decide)] at L
  simp +decide -implicitDefEqProofs only[k106,go_sem,hop,L];exact⟨_,_,rfl,rfl⟩
 |false=>
  rw[q2,if_pos (by decide)] at L
  simp +decide -implicitDefEqProofs only[k106,go_sem,hop,L];exact⟨_,_,rfl,rfl⟩
theorem rfit_27 {vals:FuncId→Bool}{call:CallF}{n:Nat}(m:Tm.Module)(f:Tm.Func)(got:List Int)(x:Ins)(hop:x.op=27):∃r h',fin Try.prog [.tmp 8] (exec Try.prog vals call n k106 ⟨enterE 0 [.agg [externs m.externs,globals m.globals,tables m.tables,funcs m.funcs],.agg [str f.name,bool f.out,ints f.params,int f.result,blocks f.blocks],.agg [int x.op,int x.type,int x.to,int x.sym,int x.num,ints x.args,ints x.into],ints got],[]⟩)=some (r,h')∧view true h' depth r=some (bool (fitG m f x got)):=by
 rw[show fitG m f x got=(true) by unfold fitG;rw[hop];rfl]
 simp +decide -implicitDefEqProofs only[k106,go_sem,hop];exact⟨_,_,rfl,rfl⟩
theorem rfit_28 {vals:FuncId→Bool}{call:CallF}{n:Nat}(m:Tm.Module)(f:Tm.Func)(got:List Int)(x:Ins)(hop:x.op=28)(hl:got.length=1):∃r h',fin Try.prog [.tmp 8] (exec Try.prog vals call n k106 ⟨enterE 0 [.agg [externs m.externs,globals m.globals,tables m.tables,funcs m.funcs],.agg [str f.name,bool f.out,ints f.params,int f.result,blocks f.blocks],.agg [int x.op,int x.type,int x.to,int x.sym,int x.num,ints x.args,ints x.into],ints got],[]⟩)=some (r,h')∧view true h' depth r=some (bool (fitG m f x got)):=by
 rw[show fitG m f x got=(decide (got=[2])) by unfold fitG;rw[hop];rfl]
 obtain⟨a,rfl⟩:=len1 hl
 rw[dec1]
 cases q2:decide (a=2)<;>(simp +decide -implicitDefEqProofs only[k106,go_sem,hop,q2,in0,in1,in2,at0,at1,at2];exact⟨_,_,rfl,rfl⟩)
theorem rfit_29 {vals:FuncId→Bool}{call:CallF}{n:Nat}(m:Tm.Module)(f:Tm.Func)(got:List Int)(x:Ins)(hop:x.op=29):∃r h',fin Try.prog [.tmp 8] (exec Try.prog vals call n k106 ⟨enterE 0 [.agg [externs m.externs,globals m.globals,tables m.tables,funcs m.funcs],.agg [str f.name,bool f.out,ints f.params,int f.result,blocks f.blocks],.agg [int x.op,int x.type,int x.to,int x.sym,int x.num,ints x.args,ints x.into],ints got],[]⟩)=some (r,h')∧view true h' depth r=some (bool (fitG m f x got)):=by
 rw[show fitG m f x got=(if f.result=0 then decide (got=[]) else decide (got=[f.result])) by unfold fitG;rw[hop];rfl]
 have hl:decide ((got.length:Int)=0)=decide (got=[]):=by
  rw[decide_eq_decide,←List.length_eq_zero_iff]
  omega
 cases q1:decide (f.result=0) with
 |true=>
  rw[if_pos (of_decide_eq_true q1),←hl]
  cases q2:decide ((got.length:Int)=0)<;>(simp +decide -implicitDefEqProofs only[k106,go_sem,hop,q1,q2];exact⟨_,_,rfl,rfl⟩)
 |false=>
  rw[if_neg (of_decide_eq_false q1)]
  cases q2:decide ((got.length:Int)=1) with
  |true=>
   obtain⟨a,rfl⟩:=len1 (got:=got) (by have:=of_decide_eq_true q2;omega)
   rw[dec1]
   cases q3:decide (a=f.result)<;>(simp +decide -implicitDefEqProofs only[k106,go_sem,hop,q1,q2,q3,in0,in1,in2,at0,at1,at2];exact⟨_,_,rfl,rfl⟩)
  |false=>
   rw[show decide (got=[f.result])=false from decide_eq_false (fun e=>of_decide_eq_false q2 (by rw[e];rfl))]
   simp +decide -implicitDefEqProofs only[k106,go_sem,hop,q1,q2];exact⟨_,_,rfl,rfl⟩
theorem rfit_30 {vals:FuncId→Bool}{call:CallF}{n:Nat}(m:Tm.Module)(f:Tm.Func)(got:List Int)(x:Ins)(hop:x.op=30):∃r h',fin Try.prog [.tmp 8] (exec Try.prog vals call n k106 ⟨enterE 0 [.agg [externs m.externs,globals m.globals,tables m.tables,funcs m.funcs],.agg [str f.name,bool f.out,ints f.params,int f.result,blocks f.blocks],.agg [int x.op,int x.type,int x.to,int x.sym,int x.num,ints x.args,ints x.into],ints got],[]⟩)=some (r,h')∧view true h' depth r=some (bool (fitG m f x got)):=by
 rw[show fitG m f x got=(true) by unfold fitG;rw[hop];rfl]
 simp +decide -implicitDefEqProofs only[k106,go_sem,hop];exact⟨_,_,rfl,rfl⟩
end Go.Proofs.Ytkcimaibaicdcaa.Tk
