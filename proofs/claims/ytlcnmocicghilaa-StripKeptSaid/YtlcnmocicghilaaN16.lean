/- The law returns true at every input. No condition. A part of its proof. -/
import Derived.Test.YtlcnmocicghilaaN15
set_option linter.unusedSimpArgs false
set_option linter.unusedVariables false
namespace Go.Tm
def rblk (p:KS×Bool)(b:Block):KS×Bool:=b.ins.foldl rins p
theorem rblks_flat (f:Tm.Func)(p:KS×Bool):f.blocks.foldl rblk p=(insOf f).foldl rins p:=by
 unfold insOf;rw[List.foldl_flatMap];rfl
theorem rents_ta:∀(l:List Int) (p:KS×Bool),(l.foldl rent p).1.ta=p.1.ta
 |[],_=>rfl
 |v::l,p=>by
  rw[List.foldl_cons,rents_ta l]
  unfold rent rmk
  split
  ·split
   ·rfl
   ·rfl
  ·rfl
theorem rfns_next (m:Tm.Module)(p:KS×Bool)(i:Nat):(List.range (i+1)).foldl (rfn m) p=rfn m ((List.range i).foldl (rfn m) p) i:=by
 rw[List.range_succ,List.foldl_append];rfl
theorem rtbs_next (m:Tm.Module)(p:KS×Bool)(i:Nat):(List.range (i+1)).foldl (rtb m) p=rtb m ((List.range i).foldl (rtb m) p) i:=by
 rw[List.range_succ,List.foldl_append];rfl
def outI (m:Tm.Module):Nat→List Bool
 |0=>List.replicate m.funcs.length false
 |i+1=>(outI m i).set i (fnAt m.funcs i).out
theorem outI_len (m:Tm.Module):∀i,(outI m i).length=m.funcs.length
 |0=>by simp[outI]
 |i+1=>by rw[outI,List.length_set,outI_len m i]
theorem outI_at (m:Tm.Module):∀(i:Nat),i≤m.funcs.length→∀k:Nat,k<m.funcs.length→rdOf false (outI m i) k=(decide (k<i)&&(fnAt m.funcs k).out)
 |0,_,k,_=>by
  unfold rdOf outI
  rw[List.getD_eq_getElem?_getD,List.getElem?_replicate]
  split<;>simp
 |i+1,hi,k,hk=>by
  have ih:=outI_at m i (by omega) k hk
  have hl:=outI_len m i
  unfold rdOf at ih⊢
  rw[outI,List.getD_eq_getElem?_getD,List.getElem?_set]
  rw[Int.toNat_natCast] at ih⊢
  by_cases e:i=k
  ·subst e
   rw[if_pos rfl,if_pos (by omega)]
   simp
  ·rw[if_neg e, ←List.getD_eq_getElem?_getD,ih]
   congr 1
   rw[decide_eq_decide];omega
end Go.Tm
namespace Go.Proofs.Ytlcnmocicghilaa.Tk
open Go.Tm Go.Tm.Tab
set_option maxRecDepth 100000
section
variable {vals:FuncId→Bool} {call:CallF} {n:Nat}
set_option maxHeartbeats 8000000 in
theorem rk_l2 {m:Tm.Module} (j:Nat) (hj:j<m.funcs.length) (hl:(fnAt m.funcs j).blocks.length<2^50) (hb:∀b∈(fnAt m.funcs j).blocks,(b.ins.length<n∧b.ins.length<2^50)∧∀x∈b.ins,SymIn m x) (p:KS×Bool) (mm:Nat) (hm:(fnAt m.funcs j).blocks.length<mm) (h:Heap) (H:RAt m h p.1):
  ∃h',Tm.Loop Try.prog vals call n [1,2,3,4,5,7,8,9] k10b2 mm ⟨[(1,.op 0 0),(2,.os 1 0 m.externs.length (some m.externs.length)),(3,.os 2 0 m.globals.length (some m.globals.length)),(4,.os 3 0 m.tables.length (some m.tables.length)),(5,.os 4 0 m.funcs.length (some m.funcs.length)),(7,bool p.2),(8,int j),(9,int 0)],h⟩=some (.exit 6,⟨[(1,.op 0 0),(2,.os 1 0 m.externs.length (some m.externs.length)),(3,.os 2 0 m.globals.length (some m.globals.length)),(4,.os 3 0 m.tables.length (some m.tables.length)),(5,.os 4 0 m.funcs.length (some m.funcs.length)),(7,bool ((fnAt m.funcs j).blocks.foldl rblk p).2),(8,int j),(9,int (fnAt m.funcs j).blocks.length),(67,bool false)],h'⟩)∧RAt m h' ((fnAt m.funcs j).blocks.foldl rblk p).1:=by
 have hj1:0≤(j:Int)∧(j:Int)<m.funcs.length:=by omega
 obtain⟨s,⟨h',rfl,g1⟩,L⟩:=Loop_run (P:=Try.prog) (vals:=vals) (call:=call) (n:=n) (ks:=[1,2,3,4,5,7,8,9]) (K:=k10b2) (id:=6) (fnAt m.funcs j).blocks.length
  (fun i s=>∃h,s=⟨[(1,.op 0 0),(2,.os 1 0 m.externs.length (some m.externs.length)),(3,.os 2 0 m.globals.length (some m.globals.length)),(4,.os 3 0 m.tables.length (some m.tables.length)),(5,.os 4 0 m.funcs.length (some m.funcs.length)),(7,bool (((fnAt m.funcs j).blocks.take i).foldl rblk p).2),(8,int j),(9,int i)],h⟩∧RAt m h (((fnAt m.funcs j).blocks.take i).foldl rblk p).1)
  (fun s=>∃h,s=⟨[(1,.op 0 0),(2,.os 1 0 m.externs.length (some m.externs.length)),(3,.os 2 0 m.globals.length (some m.globals.length)),(4,.os 3 0 m.tables.length (some m.tables.length)),(5,.os 4 0 m.funcs.length (some m.funcs.length)),(7,bool ((fnAt m.funcs j).blocks.foldl rblk p).2),(8,int j),(9,int (fnAt m.funcs j).blocks.length),(67,bool false)],h⟩∧RAt m h ((fnAt m.funcs j).blocks.foldl rblk p).1)
  (fun i e h hi ⟨h2,hs,g1⟩=>by
   cases hs
   have e1:decide ((i:Int)<(fnAt m.funcs j).blocks.length)=true:=by simp;omega
   have e2:0≤(i:Int)∧(i:Int)<(fnAt m.funcs j).blocks.length:=by omega
   have e3:=wrap_next (n:=(fnAt m.funcs j).blocks.length) (i:=i) (by omega) (by omega)
   obtain⟨⟨hn1,hx⟩,hI⟩:=hb _ (blkAt_mem e2)
   have hn:=fold_next (f:=rblk) (p:=p) (default:Block) hi
   have hat:(fnAt m.funcs j).blocks.getD i default=blkAt (fnAt m.funcs j).blocks i:=rfl
   have hpb:∀q b,rblk q b=b.ins.foldl rins q:=fun _ _=>rfl
   rw[hat,hpb] at hn
   have r0:=g1.r0
   obtain⟨h',L0,a2⟩:=rk_l1 (vals:=vals) (call:=call) (n:=n) j hj i hi hx hI _ n hn1 h g1
   rw[hn]
   exact⟨_,⟨h',rfl,a2⟩,by simp +decide -implicitDefEqProofs only[k10b2,go_sem,r0,hj1,e1,e2,e3,L0]⟩)
  (fun e h ⟨h2,hs,g1⟩=>by
   cases hs
   rw[List.take_length] at g1⊢
   have r0:=g1.r0
   exact⟨_,⟨_,rfl,g1⟩,by simp +decide -implicitDefEqProofs only[k10b2,go_sem,r0,hj1,Int.lt_irrefl,decide_false]⟩)
  _ 0 mm _ h (by omega) hm ⟨h,rfl,H⟩
 exact⟨h',L,g1⟩
set_option maxHeartbeats 8000000 in
theorem rk_l3 {m:Tm.Module} (O:KOk m n) (hl:m.funcs.length<2^50) (p:KS×Bool) (mm:Nat) (hm:m.funcs.length<mm) (h:Heap) (H:RAt m h p.1):
  ∃h',Tm.Loop Try.prog vals call n [1,2,3,4,5,7,8] k10b3 mm ⟨[(1,.op 0 0),(2,.os 1 0 m.externs.length (some m.externs.length)),(3,.os 2 0 m.globals.length (some m.globals.length)),(4,.os 3 0 m.tables.length (some m.tables.length)),(5,.os 4 0 m.funcs.length (some m.funcs.length)),(7,bool p.2),(8,int 0)],h⟩=some (.exit 4,⟨[(1,.op 0 0),(2,.os 1 0 m.externs.length (some m.externs.length)),(3,.os 2 0 m.globals.length (some m.globals.length)),(4,.os 3 0 m.tables.length (some m.tables.length)),(5,.os 4 0 m.funcs.length (some m.funcs.length)),(7,bool (rfns m p).2),(8,int m.funcs.length),(51,bool false)],h'⟩)∧RAt m h' (rfns m p).1:=by
 obtain⟨s,⟨h',rfl,g1⟩,L⟩:=Loop_run (P:=Try.prog) (vals:=vals) (call:=call) (n:=n) (ks:=[1,2,3,4,5,7,8]) (K:=k10b3) (id:=4) m.funcs.length
  (fun i s=>∃h,s=⟨[(1,.op 0 0),(2,.os 1 0 m.externs.length (some m.externs.length)),(3,.os 2 0 m.globals.length (some m.globals.length)),(4,.os 3 0 m.tables.length (some m.tables.length)),(5,.os 4 0 m.funcs.length (some m.funcs.length)),(7,bool ((List.range i).foldl (rfn m) p).2),(8,int i)],h⟩∧RAt m h ((List.range i).foldl (rfn m) p).1)
  (fun s=>∃h,s=⟨[(1,.op 0 0),(2,.os 1 0 m.externs.length (some m.externs.length)),(3,.os 2 0 m.globals.length (some m.globals.length)),(4,.os 3 0 m.tables.length (some m.tables.length)),(5,.os 4 0 m.funcs.length (some m.funcs.length)),(7,bool (rfns m p).2),(8,int m.funcs.length),(51,bool false)],h⟩∧RAt m h (rfns m p).1)
  (fun i e h hi ⟨h2,hs,g1⟩=>by
   cases hs
   have e1:decide ((i:Int)<m.funcs.length)=true:=by simp;omega
   have e2:0≤(i:Int)∧(i:Int)<m.funcs.length:=by omega
   have e3:=wrap_next (n:=m.funcs.length) (i:=i) (by omega) (by omega)
   have hn:=rfns_next m p i
   rw[hn]
   generalize (List.range i).foldl (rfn m) p=p1 at g1
   obtain⟨s,ag⟩:=p1
   change RAt m h s at g1
   have r0:=g1.r0
   have r4:=g1.r4
   have hle:=g1.len.fu
   have e5:(i:Int).toNat<s.fu.length:=by omega
   have hf:=fnAt_in e2
   obtain⟨o1,o2,o3⟩:=O.fn _ hf
   have hr:rfn m (s,ag) i=if rdOf false s.fu i=true then(insOf (fnAt m.funcs i)).foldl rins (s,ag) else(s,ag):=rfl
   rw[hr]
   cases c2:rdOf false s.fu i with
   |true=>
    have c2':s.fu.getD (i:Int).toNat false=true:=c2
    rw[if_pos rfl, ←rblks_flat]
    obtain⟨h',L0,a2⟩:=rk_l2 (vals:=vals) (call:=call) (n:=n) i hi o2 (fun b hb=>⟨o3 b hb,fun x hx=>O.nm.sym hf hb hx⟩) (s,ag) n o1 h g1
    exact⟨_,⟨h',rfl,a2⟩,by simp +decide -implicitDefEqProofs only[k10b3,go_sem,e1,e2,e3,r4,e5,c2',L0]⟩
   |false=>
    have c2':s.fu.getD (i:Int).toNat false=false:=c2
    rw[if_neg (by decide)]
    exact⟨_,⟨h,rfl,g1⟩,by simp +decide -implicitDefEqProofs only[k10b3,go_sem,e1,e2,e3,r4,e5,c2']⟩)
  (fun e h ⟨h2,hs,g1⟩=>by
   cases hs
   exact⟨_,⟨_,rfl,g1⟩,by simp +decide -implicitDefEqProofs only[k10b3,go_sem,Int.lt_irrefl,decide_false];rfl⟩)
  _ 0 mm _ h (by omega) hm ⟨h,rfl,H⟩
 exact⟨h',L,g1⟩
set_option maxHeartbeats 8000000 in
theorem rk_l4 {m:Tm.Module} (N:Named m) (t:Nat) (ht:t<m.tables.length) (hl:(tblAt m.tables t).funcs.length<2^50) (p:KS×Bool) (hat:p.1.at 1 t=true) (mm:Nat) (hm:(tblAt m.tables t).funcs.length<mm) (h:Heap) (H:RAt m h p.1):
  ∃h',Tm.Loop Try.prog vals call n [1,2,3,4,5,7,13,14] k10b4 mm ⟨[(1,.op 0 0),(2,.os 1 0 m.externs.length (some m.externs.length)),(3,.os 2 0 m.globals.length (some m.globals.length)),(4,.os 3 0 m.tables.length (some m.tables.length)),(5,.os 4 0 m.funcs.length (some m.funcs.length)),(7,bool p.2),(13,int t),(14,int 0)],h⟩=some (.exit 13,⟨[(1,.op 0 0),(2,.os 1 0 m.externs.length (some m.externs.length)),(3,.os 2 0 m.globals.length (some m.globals.length)),(4,.os 3 0 m.tables.length (some m.tables.length)),(5,.os 4 0 m.funcs.length (some m.funcs.length)),(7,bool ((tblAt m.tables t).funcs.foldl rent p).2),(13,int t),(14,int (tblAt m.tables t).funcs.length),(148,bool false)],h'⟩)∧RAt m h' ((tblAt m.tables t).funcs.foldl rent p).1:=by
 have ht1:0≤(t:Int)∧(t:Int)<m.tables.length:=by omega
 have hes:=N.tab _ (tblAt_in ht1)
 generalize htb:(tblAt m.tables t).funcs=es at hl hm hes⊢
 obtain⟨s,⟨h',rfl,g1⟩,L⟩:=Loop_run (P:=Try.prog) (vals:=vals) (call:=call) (n:=n) (ks:=[1,2,3,4,5,7,13,14]) (K:=k10b4) (id:=13) es.length
  (fun i s=>∃h,s=⟨[(1,.op 0 0),(2,.os 1 0 m.externs.length (some m.externs.length)),(3,.os 2 0 m.globals.length (some m.globals.length)),(4,.os 3 0 m.tables.length (some m.tables.length)),(5,.os 4 0 m.funcs.length (some m.funcs.length)),(7,bool ((es.take i).foldl rent p).2),(13,int t),(14,int i)],h⟩∧RAt m h ((es.take i).foldl rent p).1)
  (fun s=>∃h,s=⟨[(1,.op 0 0),(2,.os 1 0 m.externs.length (some m.externs.length)),(3,.os 2 0 m.globals.length (some m.globals.length)),(4,.os 3 0 m.tables.length (some m.tables.length)),(5,.os 4 0 m.funcs.length (some m.funcs.length)),(7,bool (es.foldl rent p).2),(13,int t),(14,int es.length),(148,bool false)],h⟩∧RAt m h (es.foldl rent p).1)
  (fun i e h hi ⟨h2,hs,g1⟩=>by
   cases hs
   have e1:decide ((i:Int)<es.length)=true:=by simp;omega
   have e2:0≤(i:Int)∧(i:Int)<es.length:=by omega
   have e3:=wrap_next (n:=es.length) (i:=i) (by omega) (by omega)
   have hn:=fold_next (f:=rent) (p:=p) (0:Int) hi
   have hat1:es.getD i 0=rd es i:=rfl
   have hv:=hes _ (rd_mem e2.1 e2.2)
   have hta:=rents_ta (es.take i) p
   rw[hat1] at hn
   rw[hn]
   generalize hvv:rd es i=v at hv
   generalize (es.take i).foldl rent p=p1 at g1 hta
   obtain⟨s,ag⟩:=p1
   change RAt m h s at g1
   change s.ta=p.1.ta at hta
   have r0:=g1.r0
   have r3:=g1.r3
   have r4:=g1.r4
   have hle:=g1.len.fu
   have hlt:=g1.len.ta
   have t5:(t:Int).toNat<s.ta.length:=by omega
   have t2:s.ta.getD (t:Int).toNat false=true:=by rw[hta];exact hat
   have hr:rent (s,ag) v=if 0≤v then(if rdOf false s.fu v=true then(s,ag) else(s.mark 0 v,true)) else(s,ag):=rfl
   rw[hr]
   cases c1:decide (v≥0) with
   |false=>
    rw[if_neg (by have:=of_decide_eq_false c1;omega)]
    exact⟨_,⟨h,rfl,g1⟩,by simp +decide -implicitDefEqProofs only[k10b4,go_sem,r0,r3,r4,ht1,htb,t5,t2,e1,e2,e3,hvv,c1]⟩
   |true=>
    have h0:0≤v:=of_decide_eq_true c1
    have hv2:0≤v∧v<(m.funcs.length:Int):=⟨h0,hv⟩
    have e5:v.toNat<s.fu.length:=by omega
    rw[if_pos h0]
    cases c2:rdOf false s.fu v with
    |true=>
     have c2':s.fu.getD v.toNat false=true:=c2
     rw[if_pos rfl]
     exact⟨_,⟨h,rfl,g1⟩,by simp +decide -implicitDefEqProofs only[k10b4,go_sem,r0,r3,r4,ht1,htb,t5,t2,e1,e2,e3,hvv,c1,hv2,e5,c2']⟩
    |false=>
     have c2':s.fu.getD v.toNat false=false:=c2
     rw[if_neg (by decide)]
     have st:=store_b (h:=h) (q:=4) (k:=v.toNat) (s:=s.fu) e5 true
     exact⟨_,⟨_,rfl,g1.mark0 v⟩,by simp +decide -implicitDefEqProofs only[k10b4,go_sem,r0,r3,r4,ht1,htb,t5,t2,e1,e2,e3,hvv,c1,hv2,e5,c2',st]⟩)
  (fun e h ⟨h2,hs,g1⟩=>by
   cases hs
   rw[List.take_length] at g1⊢
   have r0:=g1.r0
   exact⟨_,⟨_,rfl,g1⟩,by simp +decide -implicitDefEqProofs only[k10b4,go_sem,r0,ht1,htb,Int.lt_irrefl,decide_false]⟩)
  _ 0 mm _ h (by omega) hm ⟨h,rfl,H⟩
 exact⟨h',L,g1⟩
set_option maxHeartbeats 8000000 in
theorem rk_l4n {m:Tm.Module} (t:Nat) (ht:t<m.tables.length) (p:KS×Bool) (hat:p.1.at 1 t=false) (mm:Nat) (hm:0<mm) (h:Heap) (H:RAt m h p.1):
  Tm.Loop Try.prog vals call n [1,2,3,4,5,7,13,14] k10b4 mm ⟨[(1,.op 0 0),(2,.os 1 0 m.externs.length (some m.externs.length)),(3,.os 2 0 m.globals.length (some m.globals.length)),(4,.os 3 0 m.tables.length (some m.tables.length)),(5,.os 4 0 m.funcs.length (some m.funcs.length)),(7,bool p.2),(13,int t),(14,int 0)],h⟩=some (.exit 13,⟨[(1,.op 0 0),(2,.os 1 0 m.externs.length (some m.externs.length)),(3,.os 2 0 m.globals.length (some m.globals.length)),(4,.os 3 0 m.tables.length (some m.tables.length)),(5,.os 4 0 m.funcs.length (some m.funcs.length)),(7,bool p.2),(13,int t),(14,int 0),(148,bool false)],h⟩):=by
 have ht1:0≤(t:Int)∧(t:Int)<m.tables.length:=by omega
 obtain⟨mm,rfl⟩:∃q,mm=q+1:=⟨mm-1,by omega⟩
 have r0:=H.r0
 have r3:=H.r3
 have hlt:=H.len.ta
 have t5:(t:Int).toNat<p.1.ta.length:=by omega
 have t2:p.1.ta.getD (t:Int).toNat false=false:=hat
 rw[Tm.Loop_succ]
 cases c:decide ((0:Int)<((tblAt m.tables t).funcs.length:Int)) with
 |true=>simp +decide -implicitDefEqProofs only[k10b4,go_sem,r0,r3,ht1,t5,t2,c]
 |false=>simp +decide -implicitDefEqProofs only[k10b4,go_sem,r0,r3,ht1,t5,t2,c]
set_option maxHeartbeats 8000000 in
theorem rk_l5 {m:Tm.Module} (N:Named m) (hel:∀t∈m.tables,t.funcs.length<2^50∧t.funcs.length<n) (hn0:0<n) (hl:m.tables.length<2^50) (p:KS×Bool) (mm:Nat) (hm:m.tables.length<mm) (h:Heap) (H:RAt m h p.1):
  ∃h',Tm.Loop Try.prog vals call n [1,2,3,4,5,7,13] k10b5 mm ⟨[(1,.op 0 0),(2,.os 1 0 m.externs.length (some m.externs.length)),(3,.os 2 0 m.globals.length (some m.globals.length)),(4,.os 3 0 m.tables.length (some m.tables.length)),(5,.os 4 0 m.funcs.length (some m.funcs.length)),(7,bool p.2),(13,int 0)],h⟩=some (.exit 11,⟨[(1,.op 0 0),(2,.os 1 0 m.externs.length (some m.externs.length)),(3,.os 2 0 m.globals.length (some m.globals.length)),(4,.os 3 0 m.tables.length (some m.tables.length)),(5,.os 4 0 m.funcs.length (some m.funcs.length)),(7,bool (rtbs m p).2),(13,int m.tables.length),(131,bool false)],h'⟩)∧RAt m h' (rtbs m p).1:=by
 obtain⟨s,⟨h',rfl,g1⟩,L⟩:=Loop_run (P:=Try.prog) (vals:=vals) (call:=call) (n:=n) (ks:=[1,2,3,4,5,7,13]) (K:=k10b5) (id:=11) m.tables.length
  (fun i s=>∃h,s=⟨[(1,.op 0 0),(2,.os 1 0 m.externs.length (some m.externs.length)),(3,.os 2 0 m.globals.length (some m.globals.length)),(4,.os 3 0 m.tables.length (some m.tables.length)),(5,.os 4 0 m.funcs.length (some m.funcs.length)),(7,bool ((List.range i).foldl (rtb m) p).2),(13,int i)],h⟩∧RAt m h ((List.range i).foldl (rtb m) p).1)
  (fun s=>∃h,s=⟨[(1,.op 0 0),(2,.os 1 0 m.externs.length (some m.externs.length)),(3,.os 2 0 m.globals.length (some m.globals.length)),(4,.os 3 0 m.tables.length (some m.tables.length)),(5,.os 4 0 m.funcs.length (some m.funcs.length)),(7,bool (rtbs m p).2),(13,int m.tables.length),(131,bool false)],h⟩∧RAt m h (rtbs m p).1)
  (fun i e h hi ⟨h2,hs,g1⟩=>by
   cases hs
   have e1:decide ((i:Int)<m.tables.length)=true:=by simp;omega
   have e2:0≤(i:Int)∧(i:Int)<m.tables.length:=by omega
   have e3:=wrap_next (n:=m.tables.length) (i:=i) (by omega) (by omega)
   have hn:=rtbs_next m p i
   rw[hn]
   generalize (List.range i).foldl (rtb m) p=p1 at g1
   have hr:rtb m p1 i=if p1.1.at 1 i=true then(tblAt m.tables i).funcs.foldl rent p1 else p1:=rfl
   rw[hr]
   obtain⟨l1,l2⟩:=hel _ (tblAt_in e2)
   cases c2:p1.1.at 1 i with
   |true=>
    rw[if_pos rfl]
    obtain⟨h',L0,a2⟩:=rk_l4 (vals:=vals) (call:=call) (n:=n) N i hi l1 p1 c2 n l2 h g1
    exact⟨_,⟨h',rfl,a2⟩,by simp +decide -implicitDefEqProofs only[k10b5,go_sem,e1,e2,e3,L0]⟩
   |false=>
    rw[if_neg (by decide)]
    have L0:=rk_l4n (vals:=vals) (call:=call) (n:=n) i hi p1 c2 n hn0 h g1
    exact⟨_,⟨h,rfl,g1⟩,by simp +decide -implicitDefEqProofs only[k10b5,go_sem,e1,e2,e3,L0]⟩)
  (fun e h ⟨h2,hs,g1⟩=>by
   cases hs
   exact⟨_,⟨_,rfl,g1⟩,by simp +decide -implicitDefEqProofs only[k10b5,go_sem,Int.lt_irrefl,decide_false];rfl⟩)
  _ 0 mm _ h (by omega) hm ⟨h,rfl,H⟩
 exact⟨h',L,g1⟩
set_option maxHeartbeats 8000000 in
theorem rk_l0 {m:Tm.Module} (hl:m.funcs.length<2^50) (s0:KS) (mm:Nat) (hm:m.funcs.length<mm) (h:Heap) (H:RAt m h { s0 with fu:=outI m 0 }):
  ∃h',Tm.Loop Try.prog vals call n [1,2,3,4,5,6] k10b0 mm ⟨[(1,.op 0 0),(2,.os 1 0 m.externs.length (some m.externs.length)),(3,.os 2 0 m.globals.length (some m.globals.length)),(4,.os 3 0 m.tables.length (some m.tables.length)),(5,.os 4 0 m.funcs.length (some m.funcs.length)),(6,int 0)],h⟩=some (.exit 0,⟨[(1,.op 0 0),(2,.os 1 0 m.externs.length (some m.externs.length)),(3,.os 2 0 m.globals.length (some m.globals.length)),(4,.os 3 0 m.tables.length (some m.tables.length)),(5,.os 4 0 m.funcs.length (some m.funcs.length)),(6,int m.funcs.length),(35,bool false)],h'⟩)∧RAt m h' { s0 with fu:=outI m m.funcs.length }:=by
 obtain⟨s,⟨h',rfl,g1⟩,L⟩:=Loop_run (P:=Try.prog) (vals:=vals) (call:=call) (n:=n) (ks:=[1,2,3,4,5,6]) (K:=k10b0) (id:=0) m.funcs.length
  (fun i s=>∃h,s=⟨[(1,.op 0 0),(2,.os 1 0 m.externs.length (some m.externs.length)),(3,.os 2 0 m.globals.length (some m.globals.length)),(4,.os 3 0 m.tables.length (some m.tables.length)),(5,.os 4 0 m.funcs.length (some m.funcs.length)),(6,int i)],h⟩∧RAt m h { s0 with fu:=outI m i })
  (fun s=>∃h,s=⟨[(1,.op 0 0),(2,.os 1 0 m.externs.length (some m.externs.length)),(3,.os 2 0 m.globals.length (some m.globals.length)),(4,.os 3 0 m.tables.length (some m.tables.length)),(5,.os 4 0 m.funcs.length (some m.funcs.length)),(6,int m.funcs.length),(35,bool false)],h⟩∧RAt m h { s0 with fu:=outI m m.funcs.length })
  (fun i e h hi ⟨h2,hs,g1⟩=>by
   cases hs
   have e1:decide ((i:Int)<m.funcs.length)=true:=by simp;omega
   have e2:0≤(i:Int)∧(i:Int)<m.funcs.length:=by omega
   have e3:=wrap_next (n:=m.funcs.length) (i:=i) (by omega) (by omega)
   have hle:=outI_len m i
   have r0:=g1.r0
   have r4:h[4]?=some (.row 1 ((outI m i).map bool)):=g1.r4
   have st:=store_b (h:=h) (q:=4) (k:=(i:Int).toNat) (s:=outI m i) (by omega) (fnAt m.funcs i).out
   refine⟨_,⟨_,rfl,⟨g1.len.ex,g1.len.gl,g1.len.ta,outI_len m (i+1)⟩, ?_, ?_, ?_, ?_,set_at r4⟩,by simp +decide -implicitDefEqProofs only[k10b0,go_sem,r0,r4,e1,e2,e3,st];rfl⟩
   ·rw[List.getElem?_set_ne (by decide)];exact g1.r0
   ·rw[List.getElem?_set_ne (by decide)];exact g1.r1
   ·rw[List.getElem?_set_ne (by decide)];exact g1.r2
   ·rw[List.getElem?_set_ne (by decide)];exact g1.r3)
  (fun e h ⟨h2,hs,g1⟩=>by
   cases hs
   exact⟨_,⟨_,rfl,g1⟩,by simp +decide -implicitDefEqProofs only[k10b0,go_sem,Int.lt_irrefl,decide_false]⟩)
  _ 0 mm _ h (by omega) hm ⟨h,rfl,H⟩
 exact⟨h',L,g1⟩
end
end Go.Proofs.Ytlcnmocicghilaa.Tk
namespace Go.Proofs.Ytlcnmocicghilaa.Tk
open Go.Tm Go.Tm.Tab
set_option maxRecDepth 100000
def OutsIn (m:Tm.Module)(s:KS):Prop:=∀k:Nat,k<m.funcs.length→(fnAt m.funcs k).out=true→s.at 0 k=true
set_option maxHeartbeats 8000000 in
theorem rk_l6 {vals:FuncId→Bool} {call:CallF} {n:Nat} {m:Tm.Module} (O:KOk m n) (hel:∀t∈m.tables,t.funcs.length<2^50∧t.funcs.length<n) (hn0:0<n) (h1:m.funcs.length<n∧m.funcs.length<2^50) (h2:m.tables.length<n∧m.tables.length<2^50) (s:KS) (hR:RI m s) (ho:OutsIn m s) (mm:Nat) (hm:falses s+1<mm) (h:Heap) (H:RAt m h s):
  ∃h' s',Tm.Loop Try.prog vals call n [1,2,3,4,5,7] k10b6 mm ⟨[(1,.op 0 0),(2,.os 1 0 m.externs.length (some m.externs.length)),(3,.os 2 0 m.globals.length (some m.globals.length)),(4,.os 3 0 m.tables.length (some m.tables.length)),(5,.os 4 0 m.funcs.length (some m.funcs.length)),(7,bool true)],h⟩=some (.exit 2,⟨[(1,.op 0 0),(2,.os 1 0 m.externs.length (some m.externs.length)),(3,.os 2 0 m.globals.length (some m.globals.length)),(4,.os 3 0 m.tables.length (some m.tables.length)),(5,.os 4 0 m.funcs.length (some m.funcs.length)),(47,bool false)],h'⟩)∧RAt m h' s'∧ToldK m s':=by
 obtain⟨t,⟨h',s',rfl,g1,g2⟩,L⟩:=Loop_while (P:=Try.prog) (vals:=vals) (call:=call) (n:=n) (ks:=[1,2,3,4,5,7]) (K:=k10b6) (id:=2)
  (fun M t=>∃(h:Heap) (s:KS) (ag:Bool),keepE t.env [1,2,3,4,5,7]=[(1,.op 0 0),(2,.os 1 0 m.externs.length (some m.externs.length)),(3,.os 2 0 m.globals.length (some m.globals.length)),(4,.os 3 0 m.tables.length (some m.tables.length)),(5,.os 4 0 m.funcs.length (some m.funcs.length)),(7,Tm.bool ag)]∧t.heap=h∧RAt m h s∧RI m s∧OutsIn m s∧(ag=false→ToldK m s)∧M=if ag=true then falses s+1 else 0)
  (fun t=>∃h s,t=⟨[(1,.op 0 0),(2,.os 1 0 m.externs.length (some m.externs.length)),(3,.os 2 0 m.globals.length (some m.globals.length)),(4,.os 3 0 m.tables.length (some m.tables.length)),(5,.os 4 0 m.funcs.length (some m.funcs.length)),(47,bool false)],h⟩∧RAt m h s∧ToldK m s)
  (fun M e h ⟨hh,s,ag,q1,q2,g1,g2,g3,g4,g5⟩=>by
   change h=hh at q2
   subst q2
   change keepE e [1,2,3,4,5,7]=_ at q1
   rw[q1]
   cases ag with
   |false=>
    left
    exact⟨_,⟨h,s,rfl,g1,g4 rfl⟩,by simp +decide -implicitDefEqProofs only[k10b6,go_sem]⟩
   |true=>
    right
    rw[if_pos rfl] at g5
    obtain⟨ha,L3,a3⟩:=rk_l3 (vals:=vals) (call:=call) (n:=n) O h1.2 (s,false) n h1.1 h g1
    obtain⟨hb,L5,a5⟩:=rk_l5 (vals:=vals) (call:=call) (n:=n) O.nm hel hn0 h2.2 (rfns m (s,false)) n h2.1 ha a3
    have st:=round_step O.nm s g2
    have hout:OutsIn m (roundK m s).1:=fun k hk hk2=>st.le 0 k (by omega) (g3 k hk hk2)
    have hrd:rtbs m (rfns m (s,false))=roundK m s:=rfl
    rw[hrd] at L5 a5
    refine⟨if (roundK m s).2=true then falses (roundK m s).1+1 else 0,⟨[(1,.op 0 0),(2,.os 1 0 m.externs.length (some m.externs.length)),(3,.os 2 0 m.globals.length (some m.globals.length)),(4,.os 3 0 m.tables.length (some m.tables.length)),(5,.os 4 0 m.funcs.length (some m.funcs.length)),(7,bool (roundK m s).2),(13,int m.tables.length),(131,bool false)],hb⟩, ?_,⟨hb,(roundK m s).1,(roundK m s).2,rfl,rfl,a5,st.ri,hout,fun hq=> ?_,rfl⟩,by simp +decide -implicitDefEqProofs only[k10b6,go_sem,L3,L5]⟩
    ·cases hq:(roundK m s).2 with
     |false=>rw[if_neg (by decide)];omega
     |true=>
      rw[if_pos rfl]
      rcases st.new hq with c|c
      ·cases c
      ·have:falses (roundK m s).1<falses s:=c
       omega
    ·obtain⟨b1,b2⟩:=round_end O.nm g2 g3 hq
     rw[b1];exact b2)
  (falses s+1) (falses s+1) mm [(1,.op 0 0),(2,.os 1 0 m.externs.length (some m.externs.length)),(3,.os 2 0 m.globals.length (some m.globals.length)),(4,.os 3 0 m.tables.length (some m.tables.length)),(5,.os 4 0 m.funcs.length (some m.funcs.length)),(7,bool true)] h (Nat.le_refl _) hm ⟨h,s,true,rfl,rfl,H,hR,ho,(fun hq=>by cases hq),rfl⟩
 exact⟨h',s',L,g1,g2⟩
theorem falses_le {m:Tm.Module}{s:KS}(L:KLen m s):falses s≤m.externs.length+m.globals.length+m.tables.length+m.funcs.length:=by
 have a1:=List.count_le_length (a:=false) (l:=s.ex)
 have a2:=List.count_le_length (a:=false) (l:=s.gl)
 have a3:=List.count_le_length (a:=false) (l:=s.ta)
 have a4:=List.count_le_length (a:=false) (l:=s.fu)
 rw[L.ex] at a1
 rw[L.gl] at a2
 rw[L.ta] at a3
 rw[L.fu] at a4
 unfold falses;omega
theorem out_ri (m:Tm.Module):RI m { s0K m with fu:=outI m m.funcs.length }∧OutsIn m { s0K m with fu:=outI m m.funcs.length }:=by
 have L:=s0_len m
 refine⟨⟨⟨L.ex,L.gl,L.ta,outI_len m _⟩,fun c k h0 h1 h=> ?_⟩,fun k hk ho=> ?_⟩
 ·match c,h1,h with
  |0,h1,h=>
   have h1':k<(m.funcs.length:Int):=h1
   have e:rdOf false (outI m m.funcs.length) ((k.toNat:Nat):Int)=true:=by rw[Int.toNat_of_nonneg h0];exact h
   rw[outI_at m _ (Nat.le_refl _) k.toNat (by omega),Bool.and_eq_true] at e
   have:=Hit.out (m:=m) k.toNat (by omega) e.2
   rwa [Int.toNat_of_nonneg h0] at this
  |1,_,h=>exact absurd h (by rw[show KS.at _ 1 k=rdOf false (List.replicate m.tables.length false) k from rfl,rd_none];decide)
  |2,_,h=>exact absurd h (by rw[show KS.at _ 2 k=rdOf false (List.replicate m.globals.length false) k from rfl,rd_none];decide)
  |3,_,h=>exact absurd h (by rw[show KS.at _ 3 k=rdOf false (List.replicate m.externs.length false) k from rfl,rd_none];decide)
  |c+4,_,h=>cases h
 ·show rdOf false (outI m m.funcs.length) k=true
  rw[outI_at m _ (Nat.le_refl _) k hk,ho,decide_eq_true hk];rfl
set_option maxHeartbeats 8000000 in
/-- plnref25.Kept. -/
theorem rkept_runs (m:Tm.Module) (F:FineM m) (O:KOk m (2^21)):∃s,ToldK m s∧Runs Try.prog tab (2^22) 10 [.agg (encModule m)] (keptC m s):=by
 have f1:=F.externs
 have f2:=F.globals
 have f3:=F.tables
 have f4:=F.funcs
 have key:∀k,2^22-1≤k→∃s,ToldK m s∧∃c h,fin Try.prog [.tmp 2,.tmp 3,.tmp 4,.tmp 5] (exec Try.prog (valsOf tab) (callAt Try.prog tab k) k k10 ⟨enterE 0 [.agg [externs m.externs,globals m.globals,tables m.tables,funcs m.funcs]],[]⟩)=some (c,h)∧view true h depth c=some (keptC m s):=by
  intro k hk
  have O':KOk m k:=⟨O.nm,O.tb,fun f hf=>by obtain⟨a,b,c⟩:=O.fn f hf;exact⟨by omega,b,fun y hy=>by have:=c y hy;omega⟩⟩
  have M1:0≤(m.externs.length:Int)∧(m.externs.length:Int)≤(m.externs.length:Int)∧(m.externs.length:Int)≤(maxRow:Nat):=⟨by omega,by omega,by unfold maxRow;omega⟩
  have M2:0≤(m.globals.length:Int)∧(m.globals.length:Int)≤(m.globals.length:Int)∧(m.globals.length:Int)≤(maxRow:Nat):=⟨by omega,by omega,by unfold maxRow;omega⟩
  have M3:0≤(m.tables.length:Int)∧(m.tables.length:Int)≤(m.tables.length:Int)∧(m.tables.length:Int)≤(maxRow:Nat):=⟨by omega,by omega,by unfold maxRow;omega⟩
  have M4:0≤(m.funcs.length:Int)∧(m.funcs.length:Int)≤(m.funcs.length:Int)∧(m.funcs.length:Int)≤(maxRow:Nat):=⟨by omega,by omega,by unfold maxRow;omega⟩
  have H0:RAt m [.row 0 [externs m.externs,globals m.globals,tables m.tables,funcs m.funcs],.row 1 (List.replicate m.externs.length (.v (.bool false))),.row 1 (List.replicate m.globals.length (.v (.bool false))),.row 1 (List.replicate m.tables.length (.v (.bool false))),.row 1 (List.replicate m.funcs.length (.v (.bool false)))] { s0K m with fu:=outI m 0 }:=
   ⟨⟨(s0_len m).ex,(s0_len m).gl,(s0_len m).ta,outI_len m 0⟩,rfl,by unfold s0K;rw[map_rep];rfl,by unfold s0K;rw[map_rep];rfl,by unfold s0K;rw[map_rep];rfl,by unfold outI;rw[map_rep];rfl⟩
  obtain⟨h1,L0,a0⟩:=rk_l0 (vals:=valsOf tab) (call:=callAt Try.prog tab k) (n:=k) (by omega) (s0K m) k (by omega) _ H0
  obtain⟨o1,o2⟩:=out_ri m
  have hfl:=falses_le o1.len
  obtain⟨h2,s,L6,a6,ht⟩:=rk_l6 (vals:=valsOf tab) (call:=callAt Try.prog tab k) (n:=k) O' (fun t ht=>by have:=(F.tbl t ht).2;omega) (by omega) (by omega) (by omega) _ o1 o2 k (by omega) h1 a0
  refine⟨s,ht, ?_⟩
  simp +decide -implicitDefEqProofs only[k10,go_sem,M1,M2,M3,M4,Int.toNat_natCast,rep_bools,L0,L6]
  exact⟨_,_,rfl,view_rows4 a6.len a6.r1 a6.r2 a6.r3 a6.r4⟩
 obtain⟨s,ht,_⟩:=key (2^22-1) (Nat.le_refl _)
 refine⟨s,ht, ?_⟩
 refine Runs.by (rs:=[.tmp 2,.tmp 3,.tmp 4,.tmp 5]) (N:=172) rfl Try.func10 rfl rfl (by simp) fun k hk=> ?_
 obtain⟨s',ht',h⟩:=key k hk
 rw[ht.same ht',enc_module]
 exact h
theorem right_ok (m:Tm.Module)(F:FineM m)(h:checkN m=0):KOk m (2^21):=by
 have hk:knownB m=true:=by
  unfold checkN at h
  repeat (split at h; · cases h)
  rename_i h4 _ _ _
  simpa using h4
 unfold knownB at hk
 rw[Bool.and_eq_true,Bool.not_eq_true',Bool.not_eq_true',List.any_eq_false,List.any_eq_false] at hk
 refine⟨⟨fun f hf x hx c hc=> ?_,fun t ht v hv=> ?_⟩,fun t ht=>by have:=(F.tbl t ht).2;omega,fun f hf=> ?_⟩
 ·obtain⟨b,hb,hxb⟩:=List.mem_flatMap.1 hx
  have h2:=hk.2 f hf
  unfold badSF at h2
  rw[Bool.not_eq_true,List.any_eq_false] at h2
  have h3:=h2 b hb
  unfold badSB at h3
  rw[Bool.not_eq_true,List.any_eq_false] at h3
  have h4:=h3 x hxb
  unfold badSI at h4
  rw[Bool.not_eq_true,Bool.or_eq_false_iff] at h4
  have a1:=of_decide_eq_false h4.1
  have a2:=of_decide_eq_false h4.2
  refine⟨by omega, ?_⟩
  have hb2:boundI m.externs.length m.globals.length m.tables.length m.funcs.length x=(cntM m c:Int):=by
   unfold boundI
   rcases kind_cases x.op with ⟨a,e⟩|⟨a,e⟩|⟨a,e⟩|⟨a,e⟩|⟨a,e⟩
   ·rw[a] at hc;cases hc
    rw[if_pos (by rcases e with e|e<;>rw[e]<;>rfl)];rfl
   ·rw[a] at hc;cases hc
    rw[e];rfl
   ·rw[a] at hc;cases hc
    rw[e];rfl
   ·rw[a] at hc;cases hc
    rw[e];rfl
   ·rw[a] at hc;cases hc
  rw[hb2] at a2
  omega
 ·have h2:=hk.1 t ht
  unfold badTb at h2
  rw[Bool.not_eq_true,List.any_eq_false] at h2
  have h3:=h2 v hv
  unfold badY at h3
  rw[Bool.not_eq_true,Bool.or_eq_false_iff] at h3
  have:=of_decide_eq_false h3.2
  omega
 ·have Ff:=(F.fn f hf).1
  have b1:=Ff.blocks
  exact⟨by omega,by omega,fun b hb=>by have:=Ff.ins b hb;omega⟩
end Go.Proofs.Ytlcnmocicghilaa.Tk
namespace Go.Proofs.Ytlcnmocicghilaa.Tk
open Go.Tm Go.Tm.Tab
set_option maxRecDepth 100000
theorem light2_runs (f:Tm.Func)(hl:∀b∈f.blocks,b.ins.length<2^45):∃t,Runs Try.prog tab (2^36+1) 21 [.agg (encFunc f)] (bool t)∧(t=true→Fine f∧f.name.size≤40∧f.params.length≤8):=by
 by_cases c1:(f.name.size:Int)>40
 ·refine⟨false,Runs.by (rs:=[.tmp 2]) (N:=77) rfl Try.func21 rfl rfl (by simp) fun k hk=> ?_,fun h=>by cases h⟩
  rw[enc_func]
  simp +decide -implicitDefEqProofs only[bind_ite,andThen_ite,leaves_ite,k21,go_sem,decide_eq_true c1]
  exact⟨_,_,rfl,rfl⟩
 by_cases c2:(f.params.length:Int)>8
 ·refine⟨false,Runs.by (rs:=[.tmp 2]) (N:=77) rfl Try.func21 rfl rfl (by simp) fun k hk=> ?_,fun h=>by cases h⟩
  rw[enc_func]
  simp +decide -implicitDefEqProofs only[bind_ite,andThen_ite,leaves_ite,k21,go_sem,decide_eq_false c1,decide_eq_true c2]
  exact⟨_,_,rfl,rfl⟩
 by_cases c3:(f.blocks.length:Int)>16
 ·refine⟨false,Runs.by (rs:=[.tmp 2]) (N:=77) rfl Try.func21 rfl rfl (by simp) fun k hk=> ?_,fun h=>by cases h⟩
  rw[enc_func]
  simp +decide -implicitDefEqProofs only[bind_ite,andThen_ite,leaves_ite,k21,go_sem,decide_eq_false c1,decide_eq_false c2,decide_eq_true c3]
  exact⟨_,_,rfl,rfl⟩
 refine⟨lightB f.blocks 0,Runs.by (rs:=[.tmp 2]) (N:=77) rfl Try.func21 rfl rfl (by simp) fun k hk=> ?_,fun ht=>⟨⟨by omega,fun b hb=>(lightB_ins (Int.le_refl 0) ht b hb).1,fun b hb=>(lightB_ins (Int.le_refl 0) ht b hb).2⟩,by omega,by omega⟩⟩
 obtain⟨e,h⟩:=light_out (vals:=valsOf tab) (call:=callAt Try.prog tab k) (n:=k) f (by omega) hl hk f.blocks.length 0 k 0 (by omega) (by omega) (by omega)
 rw[show((0:Nat):Int)=0 from rfl,List.drop_zero] at h
 rw[enc_func] at h⊢
 cases hb:lightB f.blocks 0 with
 |true=>
  rw[if_pos hb] at h
  simp +decide -implicitDefEqProofs only[bind_ite,andThen_ite,leaves_ite,k21,go_sem,decide_eq_false c1,decide_eq_false c2,decide_eq_false c3,h]
  exact⟨_,_,rfl,rfl⟩
 |false=>
  rw[if_neg (by rw[hb];decide)] at h
  simp +decide -implicitDefEqProofs only[bind_ite,andThen_ite,leaves_ite,k21,go_sem,decide_eq_false c1,decide_eq_false c2,decide_eq_false c3,h]
  exact⟨_,_,rfl,rfl⟩
open Classical in
noncomputable def lightT (f:Tm.Func):Bool:=if h:∃t,Runs Try.prog tab (2^36+1) 21 [.agg (encFunc f)] (bool t)∧(t=true→Fine f∧f.name.size≤40∧f.params.length≤8) then Classical.choose h else false
theorem light_is (f:Tm.Func)(hl:∀b∈f.blocks,b.ins.length<2^45):Runs Try.prog tab (2^36+1) 21 [.agg (encFunc f)] (bool (lightT f))∧(lightT f=true→Fine f∧f.name.size≤40∧f.params.length≤8):=by
 have h:=light2_runs f hl
 unfold lightT
 rw[dif_pos h]
 exact Classical.choose_spec h
def sumS (l:List Tm.Func):Nat:=(l.map fun f=>sizeOfL f.blocks).sum
theorem sumS_next {l:List Tm.Func}{i:Nat}(h:i<l.length):sumS (l.take (i+1))=sumS (l.take i)+sizeOfL (fnAt l i).blocks:=by
 unfold sumS
 rw[List.take_add_one,List.getElem?_eq_getElem h,List.map_append,List.sum_append]
 simp[fnAt,List.getD_eq_getElem?_getD,List.getElem?_eq_getElem h]
def bigX (x:Extern):Bool:=decide ((x.name.size:Int)>40)||decide ((x.params.length:Int)>10)
def bigG (x:Tm.Global):Bool:=decide ((x.name.size:Int)>40)||decide ((x.cells.length:Int)>20)
def bigT (x:Table):Bool:=decide ((x.name.size:Int)>40)||decide ((x.funcs.length:Int)>16)
theorem small_l0 {vals:FuncId→Bool}{call:CallF}{n:Nat}(m:Tm.Module)(hl:m.externs.length<2^50)(h:Heap)(h0:h[0]?=some (.row 0 [externs m.externs,globals m.globals,tables m.tables,funcs m.funcs]))(mm:Nat)(hm:m.externs.length<mm):Tm.Loop Try.prog vals call n [1,3] k7b0 mm ⟨[(1,.op 0 0),(3,int 0)],h⟩=some (if m.externs.any bigX=true then(.ret,⟨[(2,bool false)],h⟩) else(.exit 0,⟨[(1,.op 0 0),(3,int m.externs.length),(34,bool false)],h⟩)):=by
 obtain⟨h1,e,L⟩:=Loop_any (P:=Try.prog) (vals:=vals) (call:=call) (n:=n) (ks:=[1,3]) (K:=k7b0) (id:=0) m.externs.length (fun i=>bigX (extAt m.externs i)) (fun i=>[(1,.op 0 0),(3,int i)]) [(2,bool false)] [(1,.op 0 0),(3,int m.externs.length),(34,bool false)] (fun g=>g=h)
  (fun i g hi hg=>⟨h,rfl,by
   rw[hg]
   have e1:decide ((i:Int)<m.externs.length)=true:=by simp;omega
   have e2:0≤(i:Int)∧(i:Int)<m.externs.length:=by omega
   have e3:=wrap_next (n:=m.externs.length) (i:=i) (by omega) (by omega)
   unfold bigX
   cases c1:decide (((extAt m.externs i).name.size:Int)>40)<;>cases c2:decide (((extAt m.externs i).params.length:Int)>10)<;>simp +decide -implicitDefEqProofs only[k7b0,go_sem,e1,e2,e3,set_new,c1,c2,h0]⟩)
  (fun g hg=>⟨h,rfl,by rw[hg];simp +decide -implicitDefEqProofs only[k7b0,go_sem,Int.lt_irrefl,decide_false,h0]⟩) m.externs.length 0 mm h (by omega) hm rfl
 rw[e] at L
 simp only[show((0:Nat):Int)=0 from rfl] at L
 rw[any_exts] at L
 exact L
theorem small_l1 {vals:FuncId→Bool}{call:CallF}{n:Nat}(m:Tm.Module)(hl:m.globals.length<2^50)(h:Heap)(h0:h[0]?=some (.row 0 [externs m.externs,globals m.globals,tables m.tables,funcs m.funcs]))(mm:Nat)(hm:m.globals.length<mm):Tm.Loop Try.prog vals call n [1,4] k7b1 mm ⟨[(1,.op 0 0),(4,int 0)],h⟩=some (if m.globals.any bigG=true then(.ret,⟨[(2,bool false)],h⟩) else(.exit 2,⟨[(1,.op 0 0),(4,int m.globals.length),(59,bool false)],h⟩)):=by
 obtain⟨h1,e,L⟩:=Loop_any (P:=Try.prog) (vals:=vals) (call:=call) (n:=n) (ks:=[1,4]) (K:=k7b1) (id:=2) m.globals.length (fun i=>bigG (gloAt m.globals i)) (fun i=>[(1,.op 0 0),(4,int i)]) [(2,bool false)] [(1,.op 0 0),(4,int m.globals.length),(59,bool false)] (fun g=>g=h)
  (fun i g hi hg=>⟨h,rfl,by
   rw[hg]
   have e1:decide ((i:Int)<m.globals.length)=true:=by simp;omega
   have e2:0≤(i:Int)∧(i:Int)<m.globals.length:=by omega
   have e3:=wrap_next (n:=m.globals.length) (i:=i) (by omega) (by omega)
   unfold bigG
   cases c1:decide (((gloAt m.globals i).name.size:Int)>40)<;>cases c2:decide (((gloAt m.globals i).cells.length:Int)>20)<;>simp +decide -implicitDefEqProofs only[k7b1,go_sem,e1,e2,e3,set_new,c1,c2,h0]⟩)
  (fun g hg=>⟨h,rfl,by rw[hg];simp +decide -implicitDefEqProofs only[k7b1,go_sem,Int.lt_irrefl,decide_false,h0]⟩) m.globals.length 0 mm h (by omega) hm rfl
 rw[e] at L
 simp only[show((0:Nat):Int)=0 from rfl] at L
 rw[any_glos] at L
 exact L
theorem small_l2 {vals:FuncId→Bool}{call:CallF}{n:Nat}(m:Tm.Module)(hl:m.tables.length<2^50)(h:Heap)(h0:h[0]?=some (.row 0 [externs m.externs,globals m.globals,tables m.tables,funcs m.funcs]))(mm:Nat)(hm:m.tables.length<mm):Tm.Loop Try.prog vals call n [1,5] k7b2 mm ⟨[(1,.op 0 0),(5,int 0)],h⟩=some (if m.tables.any bigT=true then(.ret,⟨[(2,bool false)],h⟩) else(.exit 4,⟨[(1,.op 0 0),(5,int m.tables.length),(84,bool false)],h⟩)):=by
 obtain⟨h1,e,L⟩:=Loop_any (P:=Try.prog) (vals:=vals) (call:=call) (n:=n) (ks:=[1,5]) (K:=k7b2) (id:=4) m.tables.length (fun i=>bigT (tblAt m.tables i)) (fun i=>[(1,.op 0 0),(5,int i)]) [(2,bool false)] [(1,.op 0 0),(5,int m.tables.length),(84,bool false)] (fun g=>g=h)
  (fun i g hi hg=>⟨h,rfl,by
   rw[hg]
   have e1:decide ((i:Int)<m.tables.length)=true:=by simp;omega
   have e2:0≤(i:Int)∧(i:Int)<m.tables.length:=by omega
   have e3:=wrap_next (n:=m.tables.length) (i:=i) (by omega) (by omega)
   unfold bigT
   cases c1:decide (((tblAt m.tables i).name.size:Int)>40)<;>cases c2:decide (((tblAt m.tables i).funcs.length:Int)>16)<;>simp +decide -implicitDefEqProofs only[k7b2,go_sem,e1,e2,e3,set_new,c1,c2,h0]⟩)
  (fun g hg=>⟨h,rfl,by rw[hg];simp +decide -implicitDefEqProofs only[k7b2,go_sem,Int.lt_irrefl,decide_false,h0]⟩) m.tables.length 0 mm h (by omega) hm rfl
 rw[e] at L
 simp only[show((0:Nat):Int)=0 from rfl] at L
 rw[any_tbls] at L
 exact L
theorem small_l3 {vals:FuncId→Bool}{call:CallF}{n:Nat}(m:Tm.Module)(hl:m.funcs.length≤26)(h:Heap)(h0:h[0]?=some (.row 0 [externs m.externs,globals m.globals,tables m.tables,funcs m.funcs]))(hc:∀f∈m.funcs,∀h,call 21 [.agg [str f.name,bool f.out,ints f.params,int f.result,blocks f.blocks]] h=some (bool (lightT f),h))(hz:∀f∈m.funcs,Fine f→∀h,call 22 [.agg [str f.name,bool f.out,ints f.params,int f.result,blocks f.blocks]] h=some (int (sizeOfL f.blocks),h))(hf:∀f∈m.funcs,lightT f=true→Fine f)(hs:∀f,Fine f→sizeOfL f.blocks≤1440)(mm:Nat)(hm:m.funcs.length<mm):
  ((List.range' 0 m.funcs.length).any (fun i=> !lightT (fnAt m.funcs i))=true∧∃h',Tm.Loop Try.prog vals call n [1,6,7] k7b3 mm ⟨[(1,.op 0 0),(6,int 0),(7,int 0)],h⟩=some (.ret,⟨[(2,bool false)],h'⟩))∨((List.range' 0 m.funcs.length).any (fun i=> !lightT (fnAt m.funcs i))=false∧∃s,(s=⟨[(1,.op 0 0),(6,int (sumS m.funcs:Nat)),(7,int m.funcs.length),(109,bool false)],h⟩)∧Tm.Loop Try.prog vals call n [1,6,7] k7b3 mm ⟨[(1,.op 0 0),(6,int 0),(7,int 0)],h⟩=some (.exit 6,s)):=by
 refine Loop_anyS (P:=Try.prog) (vals:=vals) (call:=call) (n:=n) (ks:=[1,6,7]) (K:=k7b3) (id:=6) m.funcs.length (fun i=> !lightT (fnAt m.funcs i))
  (fun i s=>∃z:Nat,s=⟨[(1,.op 0 0),(6,int z),(7,int i)],h⟩∧z≤i*1440∧z=sumS (m.funcs.take i))
  (fun s=>s=⟨[(1,.op 0 0),(6,int (sumS m.funcs:Nat)),(7,int m.funcs.length),(109,bool false)],h⟩) [(2,bool false)]
  (fun i e g hi ⟨z,hq,hzz,hzs⟩ hbad=>by
   cases hq
   have e1:decide ((i:Int)<m.funcs.length)=true:=by simp;omega
   have e2:0≤(i:Int)∧(i:Int)<m.funcs.length:=by omega
   have hx:fnAt m.funcs i∈m.funcs:=getD_mem hi
   have hc1:=hc _ hx
   have hb:lightT (fnAt m.funcs i)=false:=by simpa using hbad
   rw[hb] at hc1
   refine⟨h, ?_⟩
   simp +decide -implicitDefEqProofs only[k7b3,go_sem,e1,e2,h0,hc1])
  (fun i e g hi ⟨z,hq,hzz,hzs⟩ hbad=>by
   cases hq
   have e1:decide ((i:Int)<m.funcs.length)=true:=by simp;omega
   have e2:0≤(i:Int)∧(i:Int)<m.funcs.length:=by omega
   have e3:=wrap_next (n:=m.funcs.length) (i:=i) (by omega) (by omega)
   have hx:fnAt m.funcs i∈m.funcs:=getD_mem hi
   have hc1:=hc _ hx
   have hb:lightT (fnAt m.funcs i)=true:=by simpa using hbad
   rw[hb] at hc1
   have hF:=hf _ hx hb
   have hz1:=hz _ hx hF
   have hsz:=hs _ hF
   have hw:IntKind.i64.wrap ((z:Int)+(sizeOfL (fnAt m.funcs i).blocks:Int))=((z+sizeOfL (fnAt m.funcs i).blocks:Nat):Int):=by rw[wrap_in (by omega) (by omega)];omega
   refine⟨_,⟨z+sizeOfL (fnAt m.funcs i).blocks,rfl,by omega,by rw[sumS_next hi,hzs]⟩, ?_⟩
   simp +decide -implicitDefEqProofs only[k7b3,go_sem,e1,e2,e3,h0,hc1,hz1,hw])
  (fun e g ⟨z,hq,hzz,hzs⟩=>by
   cases hq
   rw[List.take_length] at hzs
   refine⟨_,rfl, ?_⟩
   rw[hzs]
   simp +decide -implicitDefEqProofs only[k7b3,go_sem,h0,Int.lt_irrefl,decide_false])
  m.funcs.length 0 mm _ h (by omega) hm ⟨0,rfl,by omega,rfl⟩
theorem size_le (f:Tm.Func)(F:Fine f):sizeOfL f.blocks≤1440:=by
 have h1:∀l:List Block,(∀b∈l,b.ins.length≤90)→sizeOfL l≤l.length*90:=by
  intro l
  induction l with
  |nil=>intro _;exact Nat.le_refl _
  |cons b l ih=>
   intro h
   have h2:=ih fun b hb=>h b (List.mem_cons_of_mem _ hb)
   have h3:=h b (List.mem_cons_self ..)
   simp only[sizeOfL,List.map_cons,List.sum_cons,List.length_cons,Nat.add_mul] at h2⊢
   omega
 have:=h1 f.blocks F.ins
 have:=F.blocks
 have:f.blocks.length*90≤16*90:=Nat.mul_le_mul_right _ F.blocks
 omega
set_option maxHeartbeats 4000000 in
theorem small_runs (m:Tm.Module) (hl:∀f∈m.funcs,∀b∈f.blocks,b.ins.length<2^45):∃t,Runs Try.prog tab (2^36+20) 7 [.agg (encModule m)] (bool t)∧(t=true→FineM m):=by
 obtain⟨d1,q1⟩:∃d,decide ((m.externs.length:Int)>14)=d:=⟨_,rfl⟩
 obtain⟨d2,q2⟩:∃d,decide ((m.globals.length:Int)>14)=d:=⟨_,rfl⟩
 obtain⟨d3,q3⟩:∃d,decide ((m.tables.length:Int)>8)=d:=⟨_,rfl⟩
 obtain⟨d4,q4⟩:∃d,decide ((m.funcs.length:Int)>26)=d:=⟨_,rfl⟩
 have hRby:∀t,(∀k,2^36+19≤k→∃c h,fin Try.prog [.tmp 2] (exec Try.prog (valsOf tab) (callAt Try.prog tab k) k k7 ⟨enterE 0 [.agg (encModule m)],[]⟩)=some (c,h)∧view true h depth c=some (bool t))→Runs Try.prog tab (2^36+20) 7 [.agg (encModule m)] (bool t):=fun t H=>Runs.by (rs:=[.tmp 2]) (N:=129) rfl Try.func7 rfl rfl (by simp) H
 cases hd:((d1||d2)||d3)||d4 with
 |true=>
  refine⟨false,hRby _ fun k hk=> ?_,fun h=>by cases h⟩
  rw[enc_module]
  cases d1<;>cases d2<;>cases d3<;>cases d4<;>first|(exact absurd hd (by decide))|(simp +decide -implicitDefEqProofs only[k7,go_sem,q1,q2,q3,q4];exact⟨_,_,rfl,rfl⟩)
 |false=>
  obtain⟨⟨⟨rfl,rfl⟩,rfl⟩,rfl⟩:((d1=false∧d2=false)∧d3=false)∧d4=false:=by simpa only[Bool.or_eq_false_iff] using hd
  have b1:=of_decide_eq_false q1
  have b2:=of_decide_eq_false q2
  have b3:=of_decide_eq_false q3
  have b4:=of_decide_eq_false q4
  have L0:=fun(k:Nat) (hk:2^36+19≤k)=>small_l0 (vals:=valsOf tab) (call:=callAt Try.prog tab k) (n:=k) m (by omega) [.row 0 [externs m.externs,globals m.globals,tables m.tables,funcs m.funcs]] rfl k (by omega)
  have L1:=fun(k:Nat) (hk:2^36+19≤k)=>small_l1 (vals:=valsOf tab) (call:=callAt Try.prog tab k) (n:=k) m (by omega) [.row 0 [externs m.externs,globals m.globals,tables m.tables,funcs m.funcs]] rfl k (by omega)
  have L2:=fun(k:Nat) (hk:2^36+19≤k)=>small_l2 (vals:=valsOf tab) (call:=callAt Try.prog tab k) (n:=k) m (by omega) [.row 0 [externs m.externs,globals m.globals,tables m.tables,funcs m.funcs]] rfl k (by omega)
  have L3:=fun(k:Nat) (hk:2^36+19≤k)=>small_l3 (vals:=valsOf tab) (call:=callAt Try.prog tab k) (n:=k) m (by omega) [.row 0 [externs m.externs,globals m.globals,tables m.tables,funcs m.funcs]] rfl
   (fun f hf h=>(light_is f (hl f hf)).1 k (by omega) _ h (by rw[enc_func];simp +decide -implicitDefEqProofs only[depth,go_sem]))
   (fun f hf F h=>rsize_runs f F k (by omega) _ h (by rw[enc_func];simp +decide -implicitDefEqProofs only[depth,go_sem]))
   (fun f hf h=>((light_is f (hl f hf)).2 h).1) size_le k (by omega)
  cases x1:m.externs.any bigX with
  |true=>
   refine⟨false,hRby _ fun k hk=> ?_,fun h=>by cases h⟩
   have L0:=L0 k hk
   rw[x1,if_pos rfl] at L0
   rw[enc_module]
   simp +decide -implicitDefEqProofs only[k7,go_sem,q1,q2,q3,q4,L0];exact⟨_,_,rfl,rfl⟩
  |false=>
  cases x2:m.globals.any bigG with
  |true=>
   refine⟨false,hRby _ fun k hk=> ?_,fun h=>by cases h⟩
   have L0:=L0 k hk
   have L1:=L1 k hk
   rw[x1,if_neg (by decide)] at L0
   rw[x2,if_pos rfl] at L1
   rw[enc_module]
   simp +decide -implicitDefEqProofs only[k7,go_sem,q1,q2,q3,q4,L0,L1];exact⟨_,_,rfl,rfl⟩
  |false=>
  cases x3:m.tables.any bigT with
  |true=>
   refine⟨false,hRby _ fun k hk=> ?_,fun h=>by cases h⟩
   have L0:=L0 k hk
   have L1:=L1 k hk
   have L2:=L2 k hk
   rw[x1,if_neg (by decide)] at L0
   rw[x2,if_neg (by decide)] at L1
   rw[x3,if_pos rfl] at L2
   rw[enc_module]
   simp +decide -implicitDefEqProofs only[k7,go_sem,q1,q2,q3,q4,L0,L1,L2];exact⟨_,_,rfl,rfl⟩
  |false=>
  cases x4:(List.range' 0 m.funcs.length).any (fun i=> !lightT (fnAt m.funcs i)) with
  |true=>
   refine⟨false,hRby _ fun k hk=> ?_,fun h=>by cases h⟩
   have L0:=L0 k hk
   have L1:=L1 k hk
   have L2:=L2 k hk
   rw[x1,if_neg (by decide)] at L0
   rw[x2,if_neg (by decide)] at L1
   rw[x3,if_neg (by decide)] at L2
   rw[enc_module]
   rcases L3 k hk with ⟨_,h',L3⟩|⟨L3,_⟩
   ·simp +decide -implicitDefEqProofs only[k7,go_sem,q1,q2,q3,q4,L0,L1,L2,L3];exact⟨_,_,rfl,rfl⟩
   ·rw[x4] at L3;exact absurd L3 (by decide)
  |false=>
   have fine:FineM m:=by
    refine⟨by omega,by omega,by omega,by omega,fun x hx=> ?_,fun x hx=> ?_,fun x hx=> ?_,fun x hx=> ?_⟩
    ·rw[List.any_eq_false] at x1
     have:=x1 x hx
     unfold bigX at this
     rw[Bool.not_eq_true,Bool.or_eq_false_iff] at this
     have a1:=of_decide_eq_false this.1
     have a2:=of_decide_eq_false this.2
     omega
    ·rw[List.any_eq_false] at x2
     have:=x2 x hx
     unfold bigG at this
     rw[Bool.not_eq_true,Bool.or_eq_false_iff] at this
     have a1:=of_decide_eq_false this.1
     have a2:=of_decide_eq_false this.2
     omega
    ·rw[List.any_eq_false] at x3
     have:=x3 x hx
     unfold bigT at this
     rw[Bool.not_eq_true,Bool.or_eq_false_iff] at this
     have a1:=of_decide_eq_false this.1
     have a2:=of_decide_eq_false this.2
     omega
    ·rw[any_fns (fun f=> !lightT f),List.any_eq_false] at x4
     have:=x4 x hx
     exact(light_is x (hl x hx)).2 (by simpa using this)
   refine⟨decide ((sumS m.funcs:Int)≤160),hRby _ fun k hk=> ?_,fun _=>fine⟩
   have L0:=L0 k hk
   have L1:=L1 k hk
   have L2:=L2 k hk
   rw[x1,if_neg (by decide)] at L0
   rw[x2,if_neg (by decide)] at L1
   rw[x3,if_neg (by decide)] at L2
   rw[enc_module]
   rcases L3 k hk with ⟨L3,_⟩|⟨_,s,rfl,L3⟩
   ·rw[x4] at L3;exact absurd L3 (by decide)
   ·simp +decide -implicitDefEqProofs only[k7,go_sem,q1,q2,q3,q4,L0,L1,L2,L3]
    cases decide ((sumS m.funcs:Int)≤160)<;>exact⟨_,_,rfl,rfl⟩
end Go.Proofs.Ytlcnmocicghilaa.Tk
namespace Go.Proofs.Ytlcnmocicghilaa.Tk
open Go.Tm Go.Tm.Tab
set_option maxRecDepth 100000
theorem tupK0 (a b c d:C):tupAt (.tup [a,b,c,d]) 0=some a:=rfl
theorem tupK1 (a b c d:C):tupAt (.tup [a,b,c,d]) 1=some b:=rfl
theorem tupK2 (a b c d:C):tupAt (.tup [a,b,c,d]) 2=some c:=rfl
theorem tupK3 (a b c d:C):tupAt (.tup [a,b,c,d]) 3=some d:=rfl
theorem first31:Runs Try.prog tab 1000 6 [] (bool true):=Runs.known (K:=k6) rfl (by kernel_rfl)
set_option maxHeartbeats 4000000 in
/-- plnkeep.Bools of a row and itself. -/
theorem bools_self (a:List Bool) (hx:a.length<2^50):Runs Try.prog tab (a.length+3) 11 [bools a,bools a] (bool true):=by
 refine Runs.by (rs:=[.tmp 4]) (N:=26) rfl Try.func11 rfl rfl (by simp) fun k hk=> ?_
 obtain⟨s,⟨h',rfl⟩,L⟩:=Loop_run (P:=Try.prog) (vals:=valsOf tab) (call:=callAt Try.prog tab k) (n:=k) (ks:=[0,1,5]) (K:=k11b0) (id:=0) a.length
  (fun i s=>∃h,s=⟨[(0,bools a),(1,bools a),(5,int i)],h⟩)
  (fun s=>∃h,s=⟨[(0,bools a),(1,bools a),(5,int a.length),(14,bool false)],h⟩)
  (fun i e h hi ⟨h2,hs⟩=>by
   cases hs
   have e1:decide ((i:Int)<a.length)=true:=by simp;omega
   have e2:0≤(i:Int)∧(i:Int)<a.length:=by omega
   have e3:=wrap_next (n:=a.length) (i:=i) (by omega) (by omega)
   have e4:decide (rdOf false a i=rdOf false a i)=true:=by simp
   exact⟨_,⟨h,rfl⟩,by simp +decide -implicitDefEqProofs only[k11b0,go_sem,e1,e2,e3,e4]⟩)
  (fun e h ⟨h2,hs⟩=>by
   cases hs
   exact⟨_,⟨h,rfl⟩,by simp +decide -implicitDefEqProofs only[k11b0,go_sem,Int.lt_irrefl,decide_false]⟩)
  a.length 0 k [(0,bools a),(1,bools a),(5,int 0)] [] (by omega) (by omega) ⟨[],rfl⟩
 have e0:decide ((a.length:Int)=a.length)=true:=by simp
 simp +decide -implicitDefEqProofs only[k11,go_sem,e0,L]
 exact⟨_,_,rfl,rfl⟩
set_option maxHeartbeats 4000000 in
theorem stripKept (m:Tm.Module) (hl:∀f∈m.funcs,∀b∈f.blocks,b.ins.length<2^45):Runs Try.prog tab (2^36+400) 3 [.agg (encModule m)] (bool true):=by
 refine Runs.by (rs:=[.tmp 2]) (N:=64) rfl Try.func3 rfl rfl (by simp) fun k hk=> ?_
 have h6:∀h,callAt Try.prog tab k 6 [] h=some (bool true,h):=fun h=>first31 k (by omega) [] h rfl
 obtain⟨t,hsm,hF⟩:=small_runs m hl
 have hmv:∀h,mapC (view false h depth) [.agg [externs m.externs,globals m.globals,tables m.tables,funcs m.funcs]]=some [.agg [externs m.externs,globals m.globals,tables m.tables,funcs m.funcs]]:=fun h=>by simp +decide -implicitDefEqProofs only[depth,go_sem]
 have h7:∀h,callAt Try.prog tab k 7 [.agg [externs m.externs,globals m.globals,tables m.tables,funcs m.funcs]] h=some (bool t,h):=fun h=>hsm k (by omega) _ h (hmv h)
 have v1:valsOf tab 8=true:=by decide
 have v2:valsOf tab 9=true:=by decide
 have v3:valsOf tab 10=true:=by decide
 have v4:valsOf tab 11=true:=by decide
 rw[enc_module]
 cases t with
 |false=>simp +decide -implicitDefEqProofs only[k3,go_sem,h6,h7];exact⟨_,_,rfl,rfl⟩
 |true=>
  have F:=hF rfl
  have h9:∀h,callAt Try.prog tab k 9 [.agg [externs m.externs,globals m.globals,tables m.tables,funcs m.funcs]] h=some (int (checkN m),h):=fun h=>rcheck_runs m F k (by omega) _ h (hmv h)
  obtain⟨kA,kB⟩:=kept_runs m F (fun h=>right_ok m F h)
  by_cases hc:checkN m=0
  ·obtain⟨s,ht,hr⟩:=kB hc
   obtain⟨s',ht',hr'⟩:=rkept_runs m F (right_ok m F hc)
   have hs:=ht.same ht'
   subst hs
   have h8:∀h,callAt Try.prog tab k 8 [.agg [externs m.externs,globals m.globals,tables m.tables,funcs m.funcs]] h=some (.tup [bools s.ex,bools s.gl,bools s.ta,bools s.fu],h):=fun h=>hr k (by omega) _ h (hmv h)
   have h10:∀h,callAt Try.prog tab k 10 [.agg [externs m.externs,globals m.globals,tables m.tables,funcs m.funcs]] h=some (.tup [bools s.ex,bools s.gl,bools s.ta,bools s.fu],h):=fun h=>hr' k (by omega) _ h (hmv h)
   have f1:=F.externs
   have f2:=F.globals
   have f3:=F.tables
   have f4:=F.funcs
   obtain⟨l1,l2,l3,l4⟩:=ht.len
   have hB:∀(a:List Bool),a.length<100→∀h,callAt Try.prog tab k 11 [bools a,bools a] h=some (bool true,h):=fun a ha h=>bools_self a (by omega) k (by omega) [bools a,bools a] h (by simp +decide -implicitDefEqProofs only[depth,go_sem])
   have b1:=hB s.ex (by omega)
   have b2:=hB s.gl (by omega)
   have b3:=hB s.ta (by omega)
   have b4:=hB s.fu (by omega)
   have c:decide (checkN m=0)=true:=decide_eq_true hc
   generalize checkN m=ck at h9 c
   simp +decide -implicitDefEqProofs only[k3,go_sem,h6,h7,h8,h9,h10,tupK0,tupK1,tupK2,tupK3,c,b1,b2,b3,b4,v1,v2,v3,v4];exact⟨_,_,rfl,rfl⟩
  ·have hr:=kA hc
   have h8:∀h,callAt Try.prog tab k 8 [.agg [externs m.externs,globals m.globals,tables m.tables,funcs m.funcs]] h=some (.tup [bools [],bools [],bools [],bools []],h):=fun h=>hr k (by omega) _ h (hmv h)
   have c:decide (checkN m=0)=false:=decide_eq_false hc
   have lb:∀l:List Bool,lenS (bools l)=some (int l.length):=fun _=>rfl
   have w0:IntKind.i64.wrap ((0:Int)+0)=0:=rfl
   generalize checkN m=ck at h9 c
   simp +decide -implicitDefEqProofs only[k3,go_sem,h6,h7,h8,h9,tupK0,tupK1,tupK2,tupK3,c,lb,List.length_nil,w0,v1,v2,v3,v4];exact⟨_,_,rfl,rfl⟩
end Go.Proofs.Ytlcnmocicghilaa.Tk
