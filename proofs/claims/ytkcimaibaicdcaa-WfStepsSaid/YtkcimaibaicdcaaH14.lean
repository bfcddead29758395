/- The law returns true at every input. No condition. A part of its proof. -/
import Derived.Test.YtkcimaibaicdcaaH13
set_option linter.unusedSimpArgs false
set_option linter.unusedVariables false
namespace Go.Proofs.Ytkcimaibaicdcaa.Tk
open Go.Tm Go.Tm.Tab
set_option maxRecDepth 100000
noncomputable def checkN (m : Tm.Module) : Int :=
 if limitsB m = false then 2 else if formedB m = false then 1 else if namedB m = false then 3 else if knownB m = false then 4
 else if (m.funcs.any fun f => !flowsB f.blocks) = true then 5 else if (m.funcs.any fun f => !usedB f) = true then 6 else if (m.funcs.any fun f => !typedB m f) = true then 7 else 0
theorem limits_blocks {m : Tm.Module} (h : limitsB m = true) : ∀ f ∈ m.funcs,0 < f.blocks.length := by
 intro f hf
 unfold limitsB at h
 rw [Bool.and_eq_true,Bool.and_eq_true,Bool.and_eq_true,Bool.and_eq_true] at h
 have h1 := h.2.2.2.2
 rw [Bool.not_eq_true',List.any_eq_false] at h1
 have h2 := h1 f hf
 unfold moreF at h2
 rw [Bool.not_eq_true,Bool.or_eq_false_iff,Bool.or_eq_false_iff,Bool.or_eq_false_iff] at h2
 have := of_decide_eq_false h2.1.1.2
 omega
theorem formed_shape {m : Tm.Module} (h : formedB m = true) : ∀ f ∈ m.funcs,∀ b ∈ f.blocks,∀ x ∈ b.ins,ShapeOk x := by
 intro f hf b hb x hx
 unfold formedB at h
 rw [Bool.and_eq_true] at h
 have h1 := h.2
 rw [Bool.not_eq_true',List.any_eq_false] at h1
 have h2 := h1 f hf
 unfold badF at h2
 rw [Bool.not_eq_true,Bool.or_eq_false_iff,Bool.or_eq_false_iff,List.any_eq_false,List.any_eq_false] at h2
 have h3 := h2.2.2 b hb
 unfold badB2 at h3
 rw [Bool.not_eq_true,List.any_eq_false] at h3
 have h4 := h3 x hx
 unfold badI at h4
 exact shape_ok (by simpa using h4)
theorem known_sym {m : Tm.Module} (h : knownB m = true) : ∀ f ∈ m.funcs,∀ b ∈ f.blocks,∀ x ∈ b.ins,SymOk m x := by
  intro f hf b hb x hx
  unfold knownB at h
  rw [Bool.and_eq_true] at h
  have h1 := h.2
  rw [Bool.not_eq_true',List.any_eq_false] at h1
  have h2 := h1 f hf
  unfold badSF at h2
  rw [Bool.not_eq_true,List.any_eq_false] at h2
  have h3 := h2 b hb
  unfold badSB at h3
  rw [Bool.not_eq_true,List.any_eq_false] at h3
  have h4 := h3 x hx
  unfold badSI at h4
  rw [Bool.not_eq_true,Bool.or_eq_false_iff] at h4
  have a1 := of_decide_eq_false h4.1
  have a2 := of_decide_eq_false h4.2
  constructor
  · intro e
    have : boundI m.externs.length m.globals.length m.tables.length m.funcs.length x = (m.funcs.length : Int) := by unfold boundI; rw [e]; rfl
    rw [this] at a2
    omega
  · intro e
    have : boundI m.externs.length m.globals.length m.tables.length m.funcs.length x = (m.externs.length : Int) := by unfold boundI; rw [e]; rfl
    rw [this] at a2
    omega
theorem blk_of_mem {l : List Block} {b : Block} (h : b ∈ l) : ∃ i : Nat,i < l.length ∧ blkAt l i = b := by
 obtain ⟨i,hi,e⟩ := List.getElem_of_mem h
 exact ⟨i,hi,by simp [blkAt,List.getD_eq_getElem?_getD,List.getElem?_eq_getElem hi,e]⟩
theorem ins_of_mem {l : List Ins} {b : Ins} (h : b ∈ l) : ∃ i : Nat,i < l.length ∧ insAt l i = b := by
 obtain ⟨i,hi,e⟩ := List.getElem_of_mem h
 exact ⟨i,hi,by rw [insAt_get hi]; exact e⟩
structure FlowOk (l : List Block) : Prop where
 ins : ∀ b ∈ l,0 < b.ins.length
 met : ∀ b : Nat,b < l.length → Rc (nextOf l) (fun _ => True) 0 b
 phi : ∀ b ∈ l,∀ x ∈ b.ins,phiB x = true → ∀ t ∈ x.into,0 ≤ t ∧ t < (l.length : Int)
theorem flow_ok {l : List Block} (h : flowsB l = true) : FlowOk l := by
  unfold flowsB at h
  rw [Bool.and_eq_true,Bool.and_eq_true,Bool.not_eq_true',Bool.not_eq_true',Bool.not_eq_true',any_no,any_no,reach_all] at h
  obtain ⟨h1,h2,h3⟩ := h
  refine ⟨fun b hb => ?_,fun b hb => (reach_at (by omega) (by omega)).1 (h2 b hb),fun b hb x hx hp t ht => ?_⟩
  · obtain ⟨i,hi,rfl⟩ := blk_of_mem hb
    have := h1 i hi
    unfold badBW badW at this
    rw [Bool.or_eq_false_iff] at this
    have := of_decide_eq_false this.1
    omega
  · obtain ⟨i,hi,rfl⟩ := blk_of_mem hb
    have := h3 i hi
    unfold badBP at this
    rw [List.any_eq_false] at this
    have := this x hx
    unfold badPhi at this
    rw [hp,Bool.true_and] at this
    have e : x.into = rowOfL (prevOf l) i := by simpa using this
    rw [e] at ht
    have := (prev_mem (l := l) (b := (i : Int)) (by omega)).1 ht
    exact ⟨this.1,this.2.1⟩
theorem used_args {f : Tm.Func} (h : usedB f = true) : ∀ b ∈ f.blocks,∀ x ∈ b.ins,∀ v ∈ x.args,1 ≤ v ∧ v ≤ ((f.params.length + (posOf f.blocks).length : Nat) : Int) := by
 intro b hb x hx v hv
 unfold usedB at h
 rw [Bool.and_eq_true,Bool.not_eq_true',Bool.not_eq_true',any_no,any_no] at h
 obtain ⟨i,hi,rfl⟩ := blk_of_mem hb
 have h1 := h.2 i hi
 unfold badUB at h1
 rw [any_no] at h1
 obtain ⟨k,hk,rfl⟩ := ins_of_mem hx
 have h2 := h1 k hk
 unfold badUX at h2
 rw [any_no] at h2
 obtain ⟨j,hj,e⟩ := List.getElem_of_mem hv
 have h3 := h2 j hj
 unfold badA at h3
 rw [Bool.or_eq_false_iff,Bool.or_eq_false_iff] at h3
 have e2 : rd (insAt (blkAt f.blocks i).ins k).args j = v := by rw [rd,Int.toNat_natCast,List.getD_eq_getElem?_getD,List.getElem?_eq_getElem hj,Option.getD_some,e]
 rw [e2] at h3
 have a1 := of_decide_eq_false h3.1.1
 have a2 := of_decide_eq_false h3.1.2
 omega
theorem types_len (f : Tm.Func) : (typesOf f).length = f.params.length + 1 + (posOf f.blocks).length := by rw [posOf_len]; simp [typesOf]; omega
set_option maxHeartbeats 2000000 in
theorem wcheck_l0 {vals : FuncId → Bool} {call : CallF} {n : Nat} (m : Tm.Module) (hl : m.funcs.length < 2 ^ 50) (I : Heap → Prop) (hp : ∀ h x,I h → I (h ++ [x])) (hg : ∀ h,I h → h[0]? = some (.row 0 [externs m.externs,globals m.globals,tables m.tables,funcs m.funcs])) (hc : ∀ f ∈ m.funcs,∀ h,call 91 [.agg [str f.name,bool f.out,ints f.params,int f.result,blocks f.blocks]] h = some (bool (flowsB f.blocks),h)) (mm : Nat) (hm : m.funcs.length < mm) (h : Heap) (hI : I h) : ∃ h1,I h1 ∧ Tm.Loop Try.prog vals call n [1,26,27,28] k53b0 mm ⟨[(1,.op 0 0),(26,funcs m.funcs),(27,int m.funcs.length),(28,int 0)],h⟩ = some (if (m.funcs.any fun f => !flowsB f.blocks) = true then (.ret,⟨[(2,int 5)],h1⟩) else (.exit 1,⟨[(1,.op 0 0),(26,funcs m.funcs),(27,int m.funcs.length),(28,int m.funcs.length),(29,bool false)],h1⟩)) := by
 obtain ⟨h1,J,L⟩ := Loop_any (P := Try.prog) (vals := vals) (call := call) (n := n) (ks := [1,26,27,28]) (K := k53b0) (id := 1) m.funcs.length (fun i => !flowsB (fnAt m.funcs i).blocks) (fun i => [(1,.op 0 0),(26,funcs m.funcs),(27,int m.funcs.length),(28,int i)]) [(2,int 5)] [(1,.op 0 0),(26,funcs m.funcs),(27,int m.funcs.length),(28,int m.funcs.length),(29,bool false)] I
  (fun i h hi hI => by
   have e1 : decide ((i : Int) < m.funcs.length) = true := by simp; omega
   have e2 : 0 ≤ (i : Int) ∧ (i : Int) < m.funcs.length := by omega
   have e3 := wrap_next (n := m.funcs.length) (i := i) (by omega) (by omega)
   have hx : fnAt m.funcs i ∈ m.funcs := getD_mem hi
   have hc1 := hc _ hx
   have g0 := hg _ hI
   have I1 := hp _ (.row 0 (encFunc (fnAt m.funcs i))) hI
   have g1 := hg _ I1
   simp only [enc_func] at I1 g1
   refine ⟨_,I1,?_⟩
   cases c1 : flowsB (fnAt m.funcs i).blocks <;> simp +decide -implicitDefEqProofs only [k53b0,go_sem,e1,e2,e3,set_new,enc_func,g0,g1,hc1,c1])
  (fun h hI => by
   exact ⟨h,hI,by simp +decide -implicitDefEqProofs only [k53b0,go_sem,Int.lt_irrefl,decide_false]⟩) m.funcs.length 0 mm h (by omega) hm hI
 simp only [show ((0 : Nat) : Int) = 0 from rfl] at L
 rw [any_fns (fun f => !flowsB f.blocks)] at L
 exact ⟨h1,J,L⟩
set_option maxHeartbeats 2000000 in
theorem wcheck_l1 {vals : FuncId → Bool} {call : CallF} {n : Nat} (m : Tm.Module) (hl : m.funcs.length < 2 ^ 50) (I : Heap → Prop) (hp : ∀ h x,I h → I (h ++ [x])) (hg : ∀ h,I h → h[0]? = some (.row 0 [externs m.externs,globals m.globals,tables m.tables,funcs m.funcs])) (hc : ∀ f ∈ m.funcs,∀ h,call 92 [.agg [str f.name,bool f.out,ints f.params,int f.result,blocks f.blocks]] h = some (bool (usedB f),h)) (mm : Nat) (hm : m.funcs.length < mm) (h : Heap) (hI : I h) : ∃ h1,I h1 ∧ Tm.Loop Try.prog vals call n [1,37,38,39] k53b1 mm ⟨[(1,.op 0 0),(37,funcs m.funcs),(38,int m.funcs.length),(39,int 0)],h⟩ = some (if (m.funcs.any fun f => !usedB f) = true then (.ret,⟨[(2,int 6)],h1⟩) else (.exit 3,⟨[(1,.op 0 0),(37,funcs m.funcs),(38,int m.funcs.length),(39,int m.funcs.length),(40,bool false)],h1⟩)) := by
 obtain ⟨h1,J,L⟩ := Loop_any (P := Try.prog) (vals := vals) (call := call) (n := n) (ks := [1,37,38,39]) (K := k53b1) (id := 3) m.funcs.length (fun i => !usedB (fnAt m.funcs i)) (fun i => [(1,.op 0 0),(37,funcs m.funcs),(38,int m.funcs.length),(39,int i)]) [(2,int 6)] [(1,.op 0 0),(37,funcs m.funcs),(38,int m.funcs.length),(39,int m.funcs.length),(40,bool false)] I
  (fun i h hi hI => by
   have e1 : decide ((i : Int) < m.funcs.length) = true := by simp; omega
   have e2 : 0 ≤ (i : Int) ∧ (i : Int) < m.funcs.length := by omega
   have e3 := wrap_next (n := m.funcs.length) (i := i) (by omega) (by omega)
   have hx : fnAt m.funcs i ∈ m.funcs := getD_mem hi
   have hc1 := hc _ hx
   have g0 := hg _ hI
   have I1 := hp _ (.row 0 (encFunc (fnAt m.funcs i))) hI
   have g1 := hg _ I1
   simp only [enc_func] at I1 g1
   refine ⟨_,I1,?_⟩
   cases c1 : usedB (fnAt m.funcs i) <;> simp +decide -implicitDefEqProofs only [k53b1,go_sem,e1,e2,e3,set_new,enc_func,g0,g1,hc1,c1])
  (fun h hI => by
   exact ⟨h,hI,by simp +decide -implicitDefEqProofs only [k53b1,go_sem,Int.lt_irrefl,decide_false]⟩) m.funcs.length 0 mm h (by omega) hm hI
 simp only [show ((0 : Nat) : Int) = 0 from rfl] at L
 rw [any_fns (fun f => !usedB f)] at L
 exact ⟨h1,J,L⟩
set_option maxHeartbeats 2000000 in
theorem wcheck_l2 {vals : FuncId → Bool} {call : CallF} {n : Nat} (m : Tm.Module) (hl : m.funcs.length < 2 ^ 50) (I : Heap → Prop) (hp : ∀ h x,I h → I (h ++ [x])) (hg : ∀ h,I h → h[0]? = some (.row 0 [externs m.externs,globals m.globals,tables m.tables,funcs m.funcs])) (hc : ∀ f ∈ m.funcs,∀ h,call 93 [.agg [externs m.externs,globals m.globals,tables m.tables,funcs m.funcs],.agg [str f.name,bool f.out,ints f.params,int f.result,blocks f.blocks]] h = some (bool (typedB m f),h)) (mm : Nat) (hm : m.funcs.length < mm) (h : Heap) (hI : I h) : ∃ h1,I h1 ∧ Tm.Loop Try.prog vals call n [1,48,49,50] k53b2 mm ⟨[(1,.op 0 0),(48,funcs m.funcs),(49,int m.funcs.length),(50,int 0)],h⟩ = some (if (m.funcs.any fun f => !typedB m f) = true then (.ret,⟨[(2,int 7)],h1⟩) else (.exit 5,⟨[(1,.op 0 0),(48,funcs m.funcs),(49,int m.funcs.length),(50,int m.funcs.length),(51,bool false)],h1⟩)) := by
 obtain ⟨h1,J,L⟩ := Loop_any (P := Try.prog) (vals := vals) (call := call) (n := n) (ks := [1,48,49,50]) (K := k53b2) (id := 5) m.funcs.length (fun i => !typedB m (fnAt m.funcs i)) (fun i => [(1,.op 0 0),(48,funcs m.funcs),(49,int m.funcs.length),(50,int i)]) [(2,int 7)] [(1,.op 0 0),(48,funcs m.funcs),(49,int m.funcs.length),(50,int m.funcs.length),(51,bool false)] I
  (fun i h hi hI => by
   have e1 : decide ((i : Int) < m.funcs.length) = true := by simp; omega
   have e2 : 0 ≤ (i : Int) ∧ (i : Int) < m.funcs.length := by omega
   have e3 := wrap_next (n := m.funcs.length) (i := i) (by omega) (by omega)
   have hx : fnAt m.funcs i ∈ m.funcs := getD_mem hi
   have hc1 := hc _ hx
   have g0 := hg _ hI
   have I1 := hp _ (.row 0 (encFunc (fnAt m.funcs i))) hI
   have g1 := hg _ I1
   simp only [enc_func] at I1 g1
   refine ⟨_,I1,?_⟩
   cases c1 : typedB m (fnAt m.funcs i) <;> simp +decide -implicitDefEqProofs only [k53b2,go_sem,e1,e2,e3,set_new,enc_func,g0,g1,hc1,c1])
  (fun h hI => by
   exact ⟨h,hI,by simp +decide -implicitDefEqProofs only [k53b2,go_sem,Int.lt_irrefl,decide_false]⟩) m.funcs.length 0 mm h (by omega) hm hI
 simp only [show ((0 : Nat) : Int) = 0 from rfl] at L
 rw [any_fns (fun f => !typedB m f)] at L
 exact ⟨h1,J,L⟩
end Go.Proofs.Ytkcimaibaicdcaa.Tk
namespace Go.Proofs.Ytkcimaibaicdcaa.Tk
open Go.Tm Go.Tm.Tab
set_option maxRecDepth 100000
theorem any_not {α : Type} {p : α → Bool} {l : List α} (h : (l.any fun x => !p x) = false) : ∀ x ∈ l,p x = true := by
 intro x hx
 rw [List.any_eq_false] at h
 have := h x hx
 simpa using this
set_option maxHeartbeats 4000000 in
theorem wcheck_runs (m : Tm.Module) (F : FineM m) : Runs Try.prog tab (2 ^ 36 + 200) 53 [.agg (encModule m)] (int (checkN m)) := by
 refine Runs.by (rs := [.tmp 2]) (N := 59) rfl Try.func53 rfl rfl (by simp) fun k hk => ?_
 have b4 := F.funcs
 rw [enc_module]
 have h87 : ∀ h,callAt Try.prog tab k 87 [.agg [externs m.externs,globals m.globals,tables m.tables,funcs m.funcs]] h = some (bool (limitsB m),h) := fun h => wsmall_runs m F k (by omega) _ h (by rw [enc_module]; simp +decide -implicitDefEqProofs only [depth,go_sem])
 have h88 : ∀ h,callAt Try.prog tab k 88 [.agg [externs m.externs,globals m.globals,tables m.tables,funcs m.funcs]] h = some (bool (formedB m),h) := fun h => wformed_runs m F k (by omega) _ h (by rw [enc_module]; simp +decide -implicitDefEqProofs only [depth,go_sem])
 have h89 : ∀ h,callAt Try.prog tab k 89 [.agg [externs m.externs,globals m.globals,tables m.tables,funcs m.funcs]] h = some (bool (namedB m),h) := fun h => wnamed_runs m F k (by omega) _ h (by rw [enc_module]; simp +decide -implicitDefEqProofs only [depth,go_sem])
 have hp : ∀ (h : Heap) (x : Tm.Node),h[0]? = some (.row 0 [externs m.externs,globals m.globals,tables m.tables,funcs m.funcs]) → (h ++ [x])[0]? = some (.row 0 [externs m.externs,globals m.globals,tables m.tables,funcs m.funcs]) := fun h x H => by rw [List.getElem?_append_left (List.getElem?_eq_some_iff.1 H).1]; exact H
 unfold checkN
 cases c1 : limitsB m with
 | false => rw [if_pos rfl]; rw [c1] at h87; (simp +decide -implicitDefEqProofs only [k53,go_sem,h87]; exact ⟨_,_,rfl,rfl⟩)
 | true =>
 rw [if_neg (by decide)]
 rw [c1] at h87
 cases c2 : formedB m with
 | false => rw [if_pos rfl]; rw [c2] at h88; (simp +decide -implicitDefEqProofs only [k53,go_sem,h87,h88]; exact ⟨_,_,rfl,rfl⟩)
 | true =>
 rw [if_neg (by decide)]
 rw [c2] at h88
 cases c3 : namedB m with
 | false => rw [if_pos rfl]; rw [c3] at h89; (simp +decide -implicitDefEqProofs only [k53,go_sem,h87,h88,h89]; exact ⟨_,_,rfl,rfl⟩)
 | true =>
 rw [if_neg (by decide)]
 rw [c3] at h89
 have hpos := limits_blocks c1
 have hsh := formed_shape c2
 have h90 : ∀ h,callAt Try.prog tab k 90 [.agg [externs m.externs,globals m.globals,tables m.tables,funcs m.funcs]] h = some (bool (knownB m),h) := fun h => wknown_runs m F (fun f hf b hb x hx => (hsh f hf b hb x hx).noSym) k (by omega) _ h (by rw [enc_module]; simp +decide -implicitDefEqProofs only [depth,go_sem])
 cases c4 : knownB m with
 | false => rw [if_pos rfl]; rw [c4] at h90; (simp +decide -implicitDefEqProofs only [k53,go_sem,h87,h88,h89,h90]; exact ⟨_,_,rfl,rfl⟩)
 | true =>
 rw [if_neg (by decide)]
 rw [c4] at h90
 have hsy := known_sym c4
 have q5 : ∀ f ∈ m.funcs,∀ h,callAt Try.prog tab k 91 [.agg [str f.name,bool f.out,ints f.params,int f.result,blocks f.blocks]] h = some (bool (flowsB f.blocks),h) := fun f hf h => wflows_runs f (F.fn f hf).1 k (by omega) _ h (by rw [enc_func]; simp +decide -implicitDefEqProofs only [depth,go_sem])
 obtain ⟨g1,I1,L1⟩ := wcheck_l0 (vals := valsOf tab) (call := callAt Try.prog tab k) (n := k) m (by omega) (fun (h : Heap) => h[0]? = some (.row 0 [externs m.externs,globals m.globals,tables m.tables,funcs m.funcs])) hp (fun h H => H) q5 k (by omega) [.row 0 [externs m.externs,globals m.globals,tables m.tables,funcs m.funcs]] rfl
 cases c5 : (m.funcs.any fun f => !flowsB f.blocks) with
 | true => rw [if_pos rfl]; rw [c5,if_pos rfl] at L1; (simp +decide -implicitDefEqProofs only [k53,go_sem,h87,h88,h89,h90,L1]; exact ⟨_,_,rfl,rfl⟩)
 | false =>
 rw [if_neg (by decide)]
 rw [c5,if_neg (by decide)] at L1
 have hfl : ∀ f ∈ m.funcs,FlowOk f.blocks := fun f hf => flow_ok (any_not c5 f hf)
 have hph : ∀ f ∈ m.funcs,∀ b ∈ f.blocks,∀ x ∈ b.ins,PhiOk f.blocks.length x := fun f hf b hb x hx => ⟨fun hq => ((hsh f hf b hb x hx).phi (of_decide_eq_true hq)).1,fun hq => (hfl f hf).phi b hb x hx hq⟩
 have q6 : ∀ f ∈ m.funcs,∀ h,callAt Try.prog tab k 92 [.agg [str f.name,bool f.out,ints f.params,int f.result,blocks f.blocks]] h = some (bool (usedB f),h) := fun f hf h => wused_runs f (F.fn f hf).1 (by have := (F.fn f hf).2.2; omega) (hpos f hf) (hfl f hf).ins (hph f hf) (hfl f hf).met k (by omega) _ h (by rw [enc_func]; simp +decide -implicitDefEqProofs only [depth,go_sem])
 obtain ⟨g2,I2,L2⟩ := wcheck_l1 (vals := valsOf tab) (call := callAt Try.prog tab k) (n := k) m (by omega) (fun (h : Heap) => h[0]? = some (.row 0 [externs m.externs,globals m.globals,tables m.tables,funcs m.funcs])) hp (fun h H => H) q6 k (by omega) g1 I1
 cases c6 : (m.funcs.any fun f => !usedB f) with
 | true => rw [if_pos rfl]; rw [c6,if_pos rfl] at L2; (simp +decide -implicitDefEqProofs only [k53,go_sem,h87,h88,h89,h90,L1,I1,L2]; exact ⟨_,_,rfl,rfl⟩)
 | false =>
 rw [if_neg (by decide)]
 rw [c6,if_neg (by decide)] at L2
 have q7 : ∀ f ∈ m.funcs,∀ h,callAt Try.prog tab k 93 [.agg [externs m.externs,globals m.globals,tables m.tables,funcs m.funcs],.agg [str f.name,bool f.out,ints f.params,int f.result,blocks f.blocks]] h = some (bool (typedB m f),h) := fun f hf h => wtyped_runs m f (F.fn f hf).1 (by have := (F.fn f hf).2.2; omega) (hsh f hf) (hsy f hf) (fun b hb x hx v hv => by have := used_args (any_not c6 f hf) b hb x hx v hv; have := types_len f; omega) k (by omega) _ h (by rw [enc_func,enc_module]; simp +decide -implicitDefEqProofs only [depth,go_sem])
 obtain ⟨g3,I3,L3⟩ := wcheck_l2 (vals := valsOf tab) (call := callAt Try.prog tab k) (n := k) m (by omega) (fun (h : Heap) => h[0]? = some (.row 0 [externs m.externs,globals m.globals,tables m.tables,funcs m.funcs])) hp (fun h H => H) q7 k (by omega) g2 I2
 cases c7 : (m.funcs.any fun f => !typedB m f) with
 | true => rw [if_pos rfl]; rw [c7,if_pos rfl] at L3; (simp +decide -implicitDefEqProofs only [k53,go_sem,h87,h88,h89,h90,L1,I1,L2,I2,L3]; exact ⟨_,_,rfl,rfl⟩)
 | false => rw [if_neg (by decide)]; rw [c7,if_neg (by decide)] at L3; (simp +decide -implicitDefEqProofs only [k53,go_sem,h87,h88,h89,h90,L1,I1,L2,I2,L3]; exact ⟨_,_,rfl,rfl⟩)
end Go.Proofs.Ytkcimaibaicdcaa.Tk
namespace Go.Proofs.Ytkcimaibaicdcaa.Tk
open Go.Tm Go.Tm.Tab
set_option maxRecDepth 100000
theorem light2_runs (f : Tm.Func) (hl : ∀ b ∈ f.blocks,b.ins.length < 2 ^ 45) : ∃ t,Runs Try.prog tab (2 ^ 36 + 1) 17 [.agg (encFunc f)] (bool t) ∧ (t = true → Fine f ∧ f.name.size ≤ 40 ∧ f.params.length ≤ 8) := by
  by_cases c1 : (f.name.size : Int) > 40
  · refine ⟨false,Runs.by (rs := [.tmp 2]) (N := 77) rfl Try.func17 rfl rfl (by simp) fun k hk => ?_,fun h => by cases h⟩
    rw [enc_func]
    simp +decide -implicitDefEqProofs only [bind_ite,andThen_ite,leaves_ite,k17,go_sem,decide_eq_true c1]
    exact ⟨_,_,rfl,rfl⟩
  by_cases c2 : (f.params.length : Int) > 8
  · refine ⟨false,Runs.by (rs := [.tmp 2]) (N := 77) rfl Try.func17 rfl rfl (by simp) fun k hk => ?_,fun h => by cases h⟩
    rw [enc_func]
    simp +decide -implicitDefEqProofs only [bind_ite,andThen_ite,leaves_ite,k17,go_sem,decide_eq_false c1,decide_eq_true c2]
    exact ⟨_,_,rfl,rfl⟩
  by_cases c3 : (f.blocks.length : Int) > 16
  · refine ⟨false,Runs.by (rs := [.tmp 2]) (N := 77) rfl Try.func17 rfl rfl (by simp) fun k hk => ?_,fun h => by cases h⟩
    rw [enc_func]
    simp +decide -implicitDefEqProofs only [bind_ite,andThen_ite,leaves_ite,k17,go_sem,decide_eq_false c1,decide_eq_false c2,decide_eq_true c3]
    exact ⟨_,_,rfl,rfl⟩
  refine ⟨lightB f.blocks 0,Runs.by (rs := [.tmp 2]) (N := 77) rfl Try.func17 rfl rfl (by simp) fun k hk => ?_,fun ht => ⟨⟨by omega,fun b hb => (lightB_ins (Int.le_refl 0) ht b hb).1,fun b hb => (lightB_ins (Int.le_refl 0) ht b hb).2⟩,by omega,by omega⟩⟩
  obtain ⟨e,h⟩ := light_out (vals := valsOf tab) (call := callAt Try.prog tab k) (n := k) f (by omega) hl hk f.blocks.length 0 k 0 (by omega) (by omega) (by omega)
  rw [show ((0 : Nat) : Int) = 0 from rfl,List.drop_zero] at h
  rw [enc_func] at h ⊢
  cases hb : lightB f.blocks 0 with
  | true =>
    rw [if_pos hb] at h
    simp +decide -implicitDefEqProofs only [bind_ite,andThen_ite,leaves_ite,k17,go_sem,decide_eq_false c1,decide_eq_false c2,decide_eq_false c3,h]
    exact ⟨_,_,rfl,rfl⟩
  | false =>
    rw [if_neg (by rw [hb]; decide)] at h
    simp +decide -implicitDefEqProofs only [bind_ite,andThen_ite,leaves_ite,k17,go_sem,decide_eq_false c1,decide_eq_false c2,decide_eq_false c3,h]
    exact ⟨_,_,rfl,rfl⟩
open Classical in
noncomputable def lightT (f : Tm.Func) : Bool := if h : ∃ t,Runs Try.prog tab (2 ^ 36 + 1) 17 [.agg (encFunc f)] (bool t) ∧ (t = true → Fine f ∧ f.name.size ≤ 40 ∧ f.params.length ≤ 8) then Classical.choose h else false
theorem light_is (f : Tm.Func) (hl : ∀ b ∈ f.blocks,b.ins.length < 2 ^ 45) : Runs Try.prog tab (2 ^ 36 + 1) 17 [.agg (encFunc f)] (bool (lightT f)) ∧ (lightT f = true → Fine f ∧ f.name.size ≤ 40 ∧ f.params.length ≤ 8) := by
 have h := light2_runs f hl
 unfold lightT
 rw [dif_pos h]
 exact Classical.choose_spec h
def sumS (l : List Tm.Func) : Nat := (l.map fun f => sizeOfL f.blocks).sum
theorem sumS_next {l : List Tm.Func} {i : Nat} (h : i < l.length) : sumS (l.take (i + 1)) = sumS (l.take i) + sizeOfL (fnAt l i).blocks := by
 unfold sumS
 rw [List.take_add_one,List.getElem?_eq_getElem h,List.map_append,List.sum_append]
 simp [fnAt,List.getD_eq_getElem?_getD,List.getElem?_eq_getElem h]
def bigX (x : Extern) : Bool := decide ((x.name.size : Int) > 40) || decide ((x.params.length : Int) > 10)
def bigG (x : Tm.Global) : Bool := decide ((x.name.size : Int) > 40) || decide ((x.cells.length : Int) > 20)
def bigT (x : Table) : Bool := decide ((x.name.size : Int) > 40) || decide ((x.funcs.length : Int) > 16)
theorem small_l0 {vals : FuncId → Bool} {call : CallF} {n : Nat} (m : Tm.Module) (hl : m.externs.length < 2 ^ 50) (h : Heap) (h0 : h[0]? = some (.row 0 [externs m.externs,globals m.globals,tables m.tables,funcs m.funcs])) (mm : Nat) (hm : m.externs.length < mm) : Tm.Loop Try.prog vals call n [1,3] k50b0 mm ⟨[(1,.op 0 0),(3,int 0)],h⟩ = some (if m.externs.any bigX = true then (.ret,⟨[(2,bool false)],h⟩) else (.exit 0,⟨[(1,.op 0 0),(3,int m.externs.length),(34,bool false)],h⟩)) := by
 obtain ⟨h1,e,L⟩ := Loop_any (P := Try.prog) (vals := vals) (call := call) (n := n) (ks := [1,3]) (K := k50b0) (id := 0) m.externs.length (fun i => bigX (extAt m.externs i)) (fun i => [(1,.op 0 0),(3,int i)]) [(2,bool false)] [(1,.op 0 0),(3,int m.externs.length),(34,bool false)] (fun g => g = h)
  (fun i g hi hg => ⟨h,rfl,by
   rw [hg]
   have e1 : decide ((i : Int) < m.externs.length) = true := by simp; omega
   have e2 : 0 ≤ (i : Int) ∧ (i : Int) < m.externs.length := by omega
   have e3 := wrap_next (n := m.externs.length) (i := i) (by omega) (by omega)
   unfold bigX
   cases c1 : decide (((extAt m.externs i).name.size : Int) > 40) <;> cases c2 : decide (((extAt m.externs i).params.length : Int) > 10) <;> simp +decide -implicitDefEqProofs only [k50b0,go_sem,e1,e2,e3,set_new,c1,c2,h0]⟩)
  (fun g hg => ⟨h,rfl,by rw [hg]; simp +decide -implicitDefEqProofs only [k50b0,go_sem,Int.lt_irrefl,decide_false,h0]⟩) m.externs.length 0 mm h (by omega) hm rfl
 rw [e] at L
 simp only [show ((0 : Nat) : Int) = 0 from rfl] at L
 rw [any_exts] at L
 exact L
theorem small_l1 {vals : FuncId → Bool} {call : CallF} {n : Nat} (m : Tm.Module) (hl : m.globals.length < 2 ^ 50) (h : Heap) (h0 : h[0]? = some (.row 0 [externs m.externs,globals m.globals,tables m.tables,funcs m.funcs])) (mm : Nat) (hm : m.globals.length < mm) : Tm.Loop Try.prog vals call n [1,4] k50b1 mm ⟨[(1,.op 0 0),(4,int 0)],h⟩ = some (if m.globals.any bigG = true then (.ret,⟨[(2,bool false)],h⟩) else (.exit 2,⟨[(1,.op 0 0),(4,int m.globals.length),(59,bool false)],h⟩)) := by
 obtain ⟨h1,e,L⟩ := Loop_any (P := Try.prog) (vals := vals) (call := call) (n := n) (ks := [1,4]) (K := k50b1) (id := 2) m.globals.length (fun i => bigG (gloAt m.globals i)) (fun i => [(1,.op 0 0),(4,int i)]) [(2,bool false)] [(1,.op 0 0),(4,int m.globals.length),(59,bool false)] (fun g => g = h)
  (fun i g hi hg => ⟨h,rfl,by
   rw [hg]
   have e1 : decide ((i : Int) < m.globals.length) = true := by simp; omega
   have e2 : 0 ≤ (i : Int) ∧ (i : Int) < m.globals.length := by omega
   have e3 := wrap_next (n := m.globals.length) (i := i) (by omega) (by omega)
   unfold bigG
   cases c1 : decide (((gloAt m.globals i).name.size : Int) > 40) <;> cases c2 : decide (((gloAt m.globals i).cells.length : Int) > 20) <;> simp +decide -implicitDefEqProofs only [k50b1,go_sem,e1,e2,e3,set_new,c1,c2,h0]⟩)
  (fun g hg => ⟨h,rfl,by rw [hg]; simp +decide -implicitDefEqProofs only [k50b1,go_sem,Int.lt_irrefl,decide_false,h0]⟩) m.globals.length 0 mm h (by omega) hm rfl
 rw [e] at L
 simp only [show ((0 : Nat) : Int) = 0 from rfl] at L
 rw [any_glos] at L
 exact L
theorem small_l2 {vals : FuncId → Bool} {call : CallF} {n : Nat} (m : Tm.Module) (hl : m.tables.length < 2 ^ 50) (h : Heap) (h0 : h[0]? = some (.row 0 [externs m.externs,globals m.globals,tables m.tables,funcs m.funcs])) (mm : Nat) (hm : m.tables.length < mm) : Tm.Loop Try.prog vals call n [1,5] k50b2 mm ⟨[(1,.op 0 0),(5,int 0)],h⟩ = some (if m.tables.any bigT = true then (.ret,⟨[(2,bool false)],h⟩) else (.exit 4,⟨[(1,.op 0 0),(5,int m.tables.length),(84,bool false)],h⟩)) := by
 obtain ⟨h1,e,L⟩ := Loop_any (P := Try.prog) (vals := vals) (call := call) (n := n) (ks := [1,5]) (K := k50b2) (id := 4) m.tables.length (fun i => bigT (tblAt m.tables i)) (fun i => [(1,.op 0 0),(5,int i)]) [(2,bool false)] [(1,.op 0 0),(5,int m.tables.length),(84,bool false)] (fun g => g = h)
  (fun i g hi hg => ⟨h,rfl,by
   rw [hg]
   have e1 : decide ((i : Int) < m.tables.length) = true := by simp; omega
   have e2 : 0 ≤ (i : Int) ∧ (i : Int) < m.tables.length := by omega
   have e3 := wrap_next (n := m.tables.length) (i := i) (by omega) (by omega)
   unfold bigT
   cases c1 : decide (((tblAt m.tables i).name.size : Int) > 40) <;> cases c2 : decide (((tblAt m.tables i).funcs.length : Int) > 16) <;> simp +decide -implicitDefEqProofs only [k50b2,go_sem,e1,e2,e3,set_new,c1,c2,h0]⟩)
  (fun g hg => ⟨h,rfl,by rw [hg]; simp +decide -implicitDefEqProofs only [k50b2,go_sem,Int.lt_irrefl,decide_false,h0]⟩) m.tables.length 0 mm h (by omega) hm rfl
 rw [e] at L
 simp only [show ((0 : Nat) : Int) = 0 from rfl] at L
 rw [any_tbls] at L
 exact L
theorem small_l3 {vals : FuncId → Bool} {call : CallF} {n : Nat} (m : Tm.Module) (hl : m.funcs.length ≤ 26) (h : Heap) (h0 : h[0]? = some (.row 0 [externs m.externs,globals m.globals,tables m.tables,funcs m.funcs])) (hc : ∀ f ∈ m.funcs,∀ h,call 17 [.agg [str f.name,bool f.out,ints f.params,int f.result,blocks f.blocks]] h = some (bool (lightT f),h)) (hz : ∀ f ∈ m.funcs,Fine f → ∀ h,call 86 [.agg [str f.name,bool f.out,ints f.params,int f.result,blocks f.blocks]] h = some (int (sizeOfL f.blocks),h)) (hf : ∀ f ∈ m.funcs,lightT f = true → Fine f) (hs : ∀ f,Fine f → sizeOfL f.blocks ≤ 1440) (mm : Nat) (hm : m.funcs.length < mm) :
  ((List.range' 0 m.funcs.length).any (fun i => !lightT (fnAt m.funcs i)) = true ∧ ∃ h',Tm.Loop Try.prog vals call n [1,6,7] k50b3 mm ⟨[(1,.op 0 0),(6,int 0),(7,int 0)],h⟩ = some (.ret,⟨[(2,bool false)],h'⟩)) ∨ ((List.range' 0 m.funcs.length).any (fun i => !lightT (fnAt m.funcs i)) = false ∧ ∃ s,(s = ⟨[(1,.op 0 0),(6,int (sumS m.funcs : Nat)),(7,int m.funcs.length),(109,bool false)],h⟩) ∧ Tm.Loop Try.prog vals call n [1,6,7] k50b3 mm ⟨[(1,.op 0 0),(6,int 0),(7,int 0)],h⟩ = some (.exit 6,s)) := by
 refine Loop_anyS (P := Try.prog) (vals := vals) (call := call) (n := n) (ks := [1,6,7]) (K := k50b3) (id := 6) m.funcs.length (fun i => !lightT (fnAt m.funcs i))
  (fun i s => ∃ z : Nat,s = ⟨[(1,.op 0 0),(6,int z),(7,int i)],h⟩ ∧ z ≤ i * 1440 ∧ z = sumS (m.funcs.take i))
  (fun s => s = ⟨[(1,.op 0 0),(6,int (sumS m.funcs : Nat)),(7,int m.funcs.length),(109,bool false)],h⟩) [(2,bool false)]
  (fun i e g hi ⟨z,hq,hzz,hzs⟩ hbad => by
   cases hq
   have e1 : decide ((i : Int) < m.funcs.length) = true := by simp; omega
   have e2 : 0 ≤ (i : Int) ∧ (i : Int) < m.funcs.length := by omega
   have hx : fnAt m.funcs i ∈ m.funcs := getD_mem hi
   have hc1 := hc _ hx
   have hb : lightT (fnAt m.funcs i) = false := by simpa using hbad
   rw [hb] at hc1
   refine ⟨h,?_⟩
   simp +decide -implicitDefEqProofs only [k50b3,go_sem,e1,e2,h0,hc1])
  (fun i e g hi ⟨z,hq,hzz,hzs⟩ hbad => by
   cases hq
   have e1 : decide ((i : Int) < m.funcs.length) = true := by simp; omega
   have e2 : 0 ≤ (i : Int) ∧ (i : Int) < m.funcs.length := by omega
   have e3 := wrap_next (n := m.funcs.length) (i := i) (by omega) (by omega)
   have hx : fnAt m.funcs i ∈ m.funcs := getD_mem hi
   have hc1 := hc _ hx
   have hb : lightT (fnAt m.funcs i) = true := by simpa using hbad
   rw [hb] at hc1
   have hF := hf _ hx hb
   have hz1 := hz _ hx hF
   have hsz := hs _ hF
   have hw : IntKind.i64.wrap ((z : Int) + (sizeOfL (fnAt m.funcs i).blocks : Int)) = ((z + sizeOfL (fnAt m.funcs i).blocks : Nat) : Int) := by rw [wrap_in (by omega) (by omega)]; omega
   refine ⟨_,⟨z + sizeOfL (fnAt m.funcs i).blocks,rfl,by omega,by rw [sumS_next hi,hzs]⟩,?_⟩
   simp +decide -implicitDefEqProofs only [k50b3,go_sem,e1,e2,e3,h0,hc1,hz1,hw])
  (fun e g ⟨z,hq,hzz,hzs⟩ => by
   cases hq
   rw [List.take_length] at hzs
   refine ⟨_,rfl,?_⟩
   rw [hzs]
   simp +decide -implicitDefEqProofs only [k50b3,go_sem,h0,Int.lt_irrefl,decide_false])
  m.funcs.length 0 mm _ h (by omega) hm ⟨0,rfl,by omega,rfl⟩
theorem size_le (f : Tm.Func) (F : Fine f) : sizeOfL f.blocks ≤ 1440 := by
 have h1 : ∀ l : List Block,(∀ b ∈ l,b.ins.length ≤ 90) → sizeOfL l ≤ l.length * 90 := by
  intro l
  induction l with
  | nil => intro _; exact Nat.le_refl _
  | cons b l ih =>
   intro h
   have h2 := ih fun b hb => h b (List.mem_cons_of_mem _ hb)
   have h3 := h b (List.mem_cons_self ..)
   simp only [sizeOfL,List.map_cons,List.sum_cons,List.length_cons,Nat.add_mul] at h2 ⊢
   omega
 have := h1 f.blocks F.ins
 have := F.blocks
 have : f.blocks.length * 90 ≤ 16 * 90 := Nat.mul_le_mul_right _ F.blocks
 omega
set_option maxHeartbeats 4000000 in
theorem small_runs (m : Tm.Module) (hl : ∀ f ∈ m.funcs,∀ b ∈ f.blocks,b.ins.length < 2 ^ 45) : ∃ t,Runs Try.prog tab (2 ^ 36 + 20) 50 [.agg (encModule m)] (bool t) ∧ (t = true → FineM m) := by
  obtain ⟨d1,q1⟩ : ∃ d,decide ((m.externs.length : Int) > 14) = d := ⟨_,rfl⟩
  obtain ⟨d2,q2⟩ : ∃ d,decide ((m.globals.length : Int) > 14) = d := ⟨_,rfl⟩
  obtain ⟨d3,q3⟩ : ∃ d,decide ((m.tables.length : Int) > 8) = d := ⟨_,rfl⟩
  obtain ⟨d4,q4⟩ : ∃ d,decide ((m.funcs.length : Int) > 26) = d := ⟨_,rfl⟩
  have hRby : ∀ t,(∀ k,2 ^ 36 + 19 ≤ k → ∃ c h,fin Try.prog [.tmp 2] (exec Try.prog (valsOf tab) (callAt Try.prog tab k) k k50 ⟨enterE 0 [.agg (encModule m)],[]⟩) = some (c,h) ∧ view true h depth c = some (bool t)) → Runs Try.prog tab (2 ^ 36 + 20) 50 [.agg (encModule m)] (bool t) := fun t H => Runs.by (rs := [.tmp 2]) (N := 129) rfl Try.func50 rfl rfl (by simp) H
  cases hd : ((d1 || d2) || d3) || d4 with
  | true =>
    refine ⟨false,hRby _ fun k hk => ?_,fun h => by cases h⟩
    rw [enc_module]
    cases d1 <;> cases d2 <;> cases d3 <;> cases d4 <;> first | (exact absurd hd (by decide)) | (simp +decide -implicitDefEqProofs only [k50,go_sem,q1,q2,q3,q4]; exact ⟨_,_,rfl,rfl⟩)
  | false =>
    obtain ⟨⟨⟨rfl,rfl⟩,rfl⟩,rfl⟩ : ((d1 = false ∧ d2 = false) ∧ d3 = false) ∧ d4 = false := by simpa only [Bool.or_eq_false_iff] using hd
    have b1 := of_decide_eq_false q1
    have b2 := of_decide_eq_false q2
    have b3 := of_decide_eq_false q3
    have b4 := of_decide_eq_false q4
    have L0 := fun (k : Nat) (hk : 2 ^ 36 + 19 ≤ k) => small_l0 (vals := valsOf tab) (call := callAt Try.prog tab k) (n := k) m (by omega) [.row 0 [externs m.externs,globals m.globals,tables m.tables,funcs m.funcs]] rfl k (by omega)
    have L1 := fun (k : Nat) (hk : 2 ^ 36 + 19 ≤ k) => small_l1 (vals := valsOf tab) (call := callAt Try.prog tab k) (n := k) m (by omega) [.row 0 [externs m.externs,globals m.globals,tables m.tables,funcs m.funcs]] rfl k (by omega)
    have L2 := fun (k : Nat) (hk : 2 ^ 36 + 19 ≤ k) => small_l2 (vals := valsOf tab) (call := callAt Try.prog tab k) (n := k) m (by omega) [.row 0 [externs m.externs,globals m.globals,tables m.tables,funcs m.funcs]] rfl k (by omega)
    have L3 := fun (k : Nat) (hk : 2 ^ 36 + 19 ≤ k) => small_l3 (vals := valsOf tab) (call := callAt Try.prog tab k) (n := k) m (by omega) [.row 0 [externs m.externs,globals m.globals,tables m.tables,funcs m.funcs]] rfl
      (fun f hf h => (light_is f (hl f hf)).1 k (by omega) _ h (by rw [enc_func]; simp +decide -implicitDefEqProofs only [depth,go_sem]))
      (fun f hf F h => rsize_runs f F k (by omega) _ h (by rw [enc_func]; simp +decide -implicitDefEqProofs only [depth,go_sem]))
      (fun f hf h => ((light_is f (hl f hf)).2 h).1) size_le k (by omega)
    cases x1 : m.externs.any bigX with
    | true =>
      refine ⟨false,hRby _ fun k hk => ?_,fun h => by cases h⟩
      have L0 := L0 k hk
      rw [x1,if_pos rfl] at L0
      rw [enc_module]
      simp +decide -implicitDefEqProofs only [k50,go_sem,q1,q2,q3,q4,L0]; exact ⟨_,_,rfl,rfl⟩
    | false =>
    cases x2 : m.globals.any bigG with
    | true =>
      refine ⟨false,hRby _ fun k hk => ?_,fun h => by cases h⟩
      have L0 := L0 k hk
      have L1 := L1 k hk
      rw [x1,if_neg (by decide)] at L0
      rw [x2,if_pos rfl] at L1
      rw [enc_module]
      simp +decide -implicitDefEqProofs only [k50,go_sem,q1,q2,q3,q4,L0,L1]; exact ⟨_,_,rfl,rfl⟩
    | false =>
    cases x3 : m.tables.any bigT with
    | true =>
      refine ⟨false,hRby _ fun k hk => ?_,fun h => by cases h⟩
      have L0 := L0 k hk
      have L1 := L1 k hk
      have L2 := L2 k hk
      rw [x1,if_neg (by decide)] at L0
      rw [x2,if_neg (by decide)] at L1
      rw [x3,if_pos rfl] at L2
      rw [enc_module]
      simp +decide -implicitDefEqProofs only [k50,go_sem,q1,q2,q3,q4,L0,L1,L2]; exact ⟨_,_,rfl,rfl⟩
    | false =>
    cases x4 : (List.range' 0 m.funcs.length).any (fun i => !lightT (fnAt m.funcs i)) with
    | true =>
      refine ⟨false,hRby _ fun k hk => ?_,fun h => by cases h⟩
      have L0 := L0 k hk
      have L1 := L1 k hk
      have L2 := L2 k hk
      rw [x1,if_neg (by decide)] at L0
      rw [x2,if_neg (by decide)] at L1
      rw [x3,if_neg (by decide)] at L2
      rw [enc_module]
      rcases L3 k hk with ⟨_,h',L3⟩ | ⟨L3,_⟩
      · simp +decide -implicitDefEqProofs only [k50,go_sem,q1,q2,q3,q4,L0,L1,L2,L3]; exact ⟨_,_,rfl,rfl⟩
      · rw [x4] at L3; exact absurd L3 (by decide)
    | false =>
      have fine : FineM m := by
        refine ⟨by omega,by omega,by omega,by omega,fun x hx => ?_,fun x hx => ?_,fun x hx => ?_,fun x hx => ?_⟩
        · rw [List.any_eq_false] at x1
          have := x1 x hx
          unfold bigX at this
          rw [Bool.not_eq_true,Bool.or_eq_false_iff] at this
          have a1 := of_decide_eq_false this.1
          have a2 := of_decide_eq_false this.2
          omega
        · rw [List.any_eq_false] at x2
          have := x2 x hx
          unfold bigG at this
          rw [Bool.not_eq_true,Bool.or_eq_false_iff] at this
          have a1 := of_decide_eq_false this.1
          have a2 := of_decide_eq_false this.2
          omega
        · rw [List.any_eq_false] at x3
          have := x3 x hx
          unfold bigT at this
          rw [Bool.not_eq_true,Bool.or_eq_false_iff] at this
          have a1 := of_decide_eq_false this.1
          have a2 := of_decide_eq_false this.2
          omega
        · rw [any_fns (fun f => !lightT f),List.any_eq_false] at x4
          have := x4 x hx
          exact (light_is x (hl x hx)).2 (by simpa using this)
      refine ⟨decide ((sumS m.funcs : Int) ≤ 160),hRby _ fun k hk => ?_,fun _ => fine⟩
      have L0 := L0 k hk
      have L1 := L1 k hk
      have L2 := L2 k hk
      rw [x1,if_neg (by decide)] at L0
      rw [x2,if_neg (by decide)] at L1
      rw [x3,if_neg (by decide)] at L2
      rw [enc_module]
      rcases L3 k hk with ⟨L3,_⟩ | ⟨_,s,rfl,L3⟩
      · rw [x4] at L3; exact absurd L3 (by decide)
      · simp +decide -implicitDefEqProofs only [k50,go_sem,q1,q2,q3,q4,L0,L1,L2,L3]
        cases decide ((sumS m.funcs : Int) ≤ 160) <;> exact ⟨_,_,rfl,rfl⟩
theorem first6 : Runs Try.prog tab 1000 49 [] (bool true) := Runs.known (K := k49) rfl (by kernel_rfl)
end Go.Proofs.Ytkcimaibaicdcaa.Tk
namespace Go.Proofs.Ytkcimaibaicdcaa.Tk
open Go.Tm Go.Tm.Tab
set_option maxRecDepth 100000
end Go.Proofs.Ytkcimaibaicdcaa.Tk
namespace Go.Proofs.Ytkcimaibaicdcaa.Tk
open Go.Tm Go.Tm.Tab
set_option maxRecDepth 100000
theorem i64_and65535 (n : Int) : 0 ≤ Go.bits .and .i64 n 65535 ∧ Go.bits .and .i64 n 65535 ≤ 65535 := by
 have h : (BitVec.ofInt 64 65535).toNat = 2 ^ 16 - 1 := by decide
 have key : (BitVec.ofInt 64 n &&& BitVec.ofInt 64 65535).toNat = (n % ((2 ^ 64 : Nat) : Int)).toNat % 2 ^ 16 := by
  rw [BitVec.toNat_and,BitVec.toNat_ofInt,h,Nat.and_two_pow_sub_one_eq_mod]
 have e : Go.bits .and .i64 n 65535 = n % 65536 := by
  show IntKind.i64.wrap ((BitVec.ofInt 64 n &&& BitVec.ofInt 64 65535).toNat : Nat) = n % 65536
  rw [key,IntKind.wrap_i64]
  omega
 omega
theorem index_ok (x : Int) {n : Nat} (h : 0 < n) : 0 ≤ Int.tmod (Go.bits .and .i64 x 65535) (n : Int) ∧ Int.tmod (Go.bits .and .i64 x 65535) (n : Int) < (n : Int) :=
 ⟨Int.tmod_nonneg _ (i64_and65535 x).1,Int.tmod_lt_of_pos _ (by omega)⟩
def badNo (b : Block) : Bool := decide ((b.ins.length : Int) = 0)
def badNF (f : Tm.Func) : Bool := decide ((f.blocks.length : Int) = 0) || f.blocks.any badNo
def wholeB (m : Tm.Module) : Bool := !m.funcs.any badNF
theorem whole_l0 {vals : FuncId → Bool} {call : CallF} {n : Nat} (m : Tm.Module) (q : Int) (hq : 0 ≤ q ∧ q < m.funcs.length) (hl : (fnAt m.funcs q).blocks.length < 2 ^ 50) (h : Heap) (h0 : h[0]? = some (.row 0 [externs m.externs,globals m.globals,tables m.tables,funcs m.funcs])) (mm : Nat) (hm : (fnAt m.funcs q).blocks.length < mm) : Tm.Loop Try.prog vals call n [1,3,4] k58b0 mm ⟨[(1,.op 0 0),(3,int q),(4,int 0)],h⟩ = some (if (fnAt m.funcs q).blocks.any badNo = true then (.ret,⟨[(2,bool false)],h⟩) else (.exit 2,⟨[(1,.op 0 0),(3,int q),(4,int (fnAt m.funcs q).blocks.length),(28,bool false)],h⟩)) := by
 obtain ⟨h1,e,L⟩ := Loop_any (P := Try.prog) (vals := vals) (call := call) (n := n) (ks := [1,3,4]) (K := k58b0) (id := 2) (fnAt m.funcs q).blocks.length (fun i => badNo (blkAt (fnAt m.funcs q).blocks i)) (fun i => [(1,.op 0 0),(3,int q),(4,int i)]) [(2,bool false)] [(1,.op 0 0),(3,int q),(4,int (fnAt m.funcs q).blocks.length),(28,bool false)] (fun g => g = h)
  (fun i g hi hg => ⟨h,rfl,by
   rw [hg]
   have e1 : decide ((i : Int) < (fnAt m.funcs q).blocks.length) = true := by simp; omega
   have e2 : 0 ≤ (i : Int) ∧ (i : Int) < (fnAt m.funcs q).blocks.length := by omega
   have e3 := wrap_next (n := (fnAt m.funcs q).blocks.length) (i := i) (by omega) (by omega)
   unfold badNo
   cases c1 : decide (((blkAt (fnAt m.funcs q).blocks i).ins.length : Int) = 0) <;> simp +decide -implicitDefEqProofs only [k58b0,go_sem,e1,e2,e3,set_new,c1,h0,hq]⟩)
  (fun g hg => ⟨h,rfl,by rw [hg]; simp +decide -implicitDefEqProofs only [k58b0,go_sem,Int.lt_irrefl,decide_false,h0,hq]⟩) (fnAt m.funcs q).blocks.length 0 mm h (by omega) hm rfl
 rw [e] at L
 simp only [show ((0 : Nat) : Int) = 0 from rfl] at L
 rw [any_blks] at L
 exact L
theorem whole_l1 {vals : FuncId → Bool} {call : CallF} {n : Nat} (m : Tm.Module) (hl : m.funcs.length < 2 ^ 50) (hb : ∀ f ∈ m.funcs,f.blocks.length < n ∧ f.blocks.length < 2 ^ 50) (I : Heap → Prop) (hg : ∀ h,I h → h[0]? = some (.row 0 [externs m.externs,globals m.globals,tables m.tables,funcs m.funcs])) (mm : Nat) (hm : m.funcs.length < mm) (h : Heap) (hI : I h) : ∃ h1,I h1 ∧ Tm.Loop Try.prog vals call n [1,3] k58b1 mm ⟨[(1,.op 0 0),(3,int 0)],h⟩ = some (if m.funcs.any badNF = true then (.ret,⟨[(2,bool false)],h1⟩) else (.exit 0,⟨[(1,.op 0 0),(3,int m.funcs.length),(9,bool false)],h1⟩)) := by
 obtain ⟨h1,J,L⟩ := Loop_any (P := Try.prog) (vals := vals) (call := call) (n := n) (ks := [1,3]) (K := k58b1) (id := 0) m.funcs.length (fun i => badNF (fnAt m.funcs i)) (fun i => [(1,.op 0 0),(3,int i)]) [(2,bool false)] [(1,.op 0 0),(3,int m.funcs.length),(9,bool false)] I
  (fun i h hi hI => by
   have e1 : decide ((i : Int) < m.funcs.length) = true := by simp; omega
   have e2 : 0 ≤ (i : Int) ∧ (i : Int) < m.funcs.length := by omega
   have e3 := wrap_next (n := m.funcs.length) (i := i) (by omega) (by omega)
   have hx : fnAt m.funcs i ∈ m.funcs := getD_mem hi
   obtain ⟨hb1,hb2⟩ := hb _ hx
   have g0 := hg _ hI
   have L := whole_l0 (vals := vals) (call := call) (n := n) m i e2 hb2 h g0 n hb1
   refine ⟨h,hI,?_⟩
   unfold badNF
   cases c0 : decide (((fnAt m.funcs i).blocks.length : Int) = 0) with
   | true => simp +decide -implicitDefEqProofs only [k58b1,go_sem,e1,e2,e3,set_new,g0,c0]
   | false =>
    cases c1 : (fnAt m.funcs i).blocks.any badNo with
    | true =>
     rw [c1,if_pos rfl] at L
     simp +decide -implicitDefEqProofs only [k58b1,go_sem,e1,e2,e3,set_new,g0,c0,L]
    | false =>
     rw [c1,if_neg (by decide)] at L
     simp +decide -implicitDefEqProofs only [k58b1,go_sem,e1,e2,e3,set_new,g0,c0,L])
  (fun h hI => by
   have g0 := hg h hI
   exact ⟨h,hI,by simp +decide -implicitDefEqProofs only [k58b1,go_sem,Int.lt_irrefl,decide_false,g0]⟩) m.funcs.length 0 mm h (by omega) hm hI
 simp only [show ((0 : Nat) : Int) = 0 from rfl] at L
 rw [any_fns] at L
 exact ⟨h1,J,L⟩
theorem whole_runs (m : Tm.Module) (F : FineM m) : Runs Try.prog tab 200 58 [.agg (encModule m)] (bool (wholeB m)) := by
 refine Runs.by (rs := [.tmp 2]) (N := 43) rfl Try.func58 rfl rfl (by simp) fun k hk => ?_
 have b4 := F.funcs
 rw [enc_module]
 obtain ⟨h1,I1,L⟩ := whole_l1 (vals := valsOf tab) (call := callAt Try.prog tab k) (n := k) m (by omega) (fun f hf => by have := (F.fn f hf).1.blocks; omega) (fun (h : Heap) => h[0]? = some (.row 0 [externs m.externs,globals m.globals,tables m.tables,funcs m.funcs])) (fun h H => H) k (by omega) [.row 0 [externs m.externs,globals m.globals,tables m.tables,funcs m.funcs]] rfl
 unfold wholeB
 cases c : m.funcs.any badNF with
 | true =>
  rw [c,if_pos rfl] at L
  simp +decide -implicitDefEqProofs only [k58,go_sem,L]; exact ⟨_,_,rfl,rfl⟩
 | false =>
  rw [c,if_neg (by decide)] at L
  simp +decide -implicitDefEqProofs only [k58,go_sem,L]; exact ⟨_,_,rfl,rfl⟩
structure Had (l : List Block) (np : Nat) (hv : List Bool) (P : Nat × Nat → Prop) : Prop where
 len : hv.length = np + 1 + (posOf l).length
 par : ∀ v : Nat,1 ≤ v → v ≤ np → rdOf false hv v = true
 at_ : ∀ (j : Nat) (q : Nat × Nat),(posOf l)[j]? = some q → P q → rdOf false hv ((np + 1 + j : Nat) : Int) = true
theorem Had.imp {l : List Block} {np : Nat} {hv : List Bool} {P Q : Nat × Nat → Prop} (H : Had l np hv P) (h : ∀ q,q ∈ posOf l → Q q → P q) : Had l np hv Q :=
 ⟨H.len,H.par,fun j q hj hq => H.at_ j q hj (h q (List.mem_of_getElem? hj) hq)⟩
def wayP (l : List Block) (b k : Nat) (fr : Int) (q : Nat × Nat) : Prop := (Ov l q.1 b ∧ q.1 ≠ b) ∨ (q.1 = b ∧ q.2 < k) ∨ (0 ≤ fr ∧ Ov l q.1 fr)
theorem Had.set {l : List Block} {np : Nat} {hv : List Bool} {b k : Nat} {fr : Int} (H : Had l np hv (wayP l b k fr)) (hb : b < l.length) (hk : k < (blkAt l b).ins.length) (ht : tyI (insAt (blkAt l b).ins k) = true) : Had l np (hv.set (np + (posU l b k).length + 1) true) (wayP l b (k + 1) fr) := by
  have hle := posU_le (bl := l) (b := b) (k := k + 1) hb (by omega)
  have hn := posU_next l b k
  rw [ht,if_pos rfl] at hn
  rw [hn,List.length_append,List.length_singleton] at hle
  have hs : ∀ x : Int,0 ≤ x → (rdOf false (hv.set (np + (posU l b k).length + 1) true) x = true ↔ x = ((np + (posU l b k).length + 1 : Nat) : Int) ∨ rdOf false hv x = true) := fun x hx => rdOf_set (by rw [H.len]; omega) hx
  refine ⟨by rw [List.length_set]; exact H.len,fun v h1 h2 => (hs _ (by omega)).2 (.inr (H.par v h1 h2)),fun j q hj hq => (hs _ (by omega)).2 ?_⟩
  by_cases e : j = (posU l b k).length
  · left; omega
  · right
    refine H.at_ j q hj ?_
    rcases hq with h | ⟨h1,h2⟩ | h
    · exact .inl h
    · by_cases e2 : q.2 = k
      · exfalso
        have a1 := pos_ahead (bl := l) (b := b) (k := k + 1) hb (by omega) hj
        have a2 := pos_ahead (bl := l) (b := b) (k := k) hb (by omega) hj
        rw [hn,List.length_append,List.length_singleton] at a1
        have : j < (posU l b k).length + 1 := a1.2 (.inr ⟨h1,by omega⟩)
        have : ¬ j < (posU l b k).length := fun h => by
          have := a2.1 h
          unfold Tm.ahead at this
          omega
        omega
      · exact .inr (.inl ⟨h1,by omega⟩)
    · exact .inr (.inr h)
theorem Had.skip {l : List Block} {np : Nat} {hv : List Bool} {b k : Nat} {fr : Int} (H : Had l np hv (wayP l b k fr)) (hb : b < l.length) (hk : k < (blkAt l b).ins.length) (ht : tyI (insAt (blkAt l b).ins k) = false) : Had l np hv (wayP l b (k + 1) fr) := by
  have hn := posU_next l b k
  rw [ht,if_neg (by decide),List.append_nil] at hn
  refine ⟨H.len,H.par,fun j q hj hq => H.at_ j q hj ?_⟩
  rcases hq with h | ⟨h1,h2⟩ | h
  · exact .inl h
  · by_cases e2 : q.2 = k
    · exfalso
      have a1 := pos_ahead (bl := l) (b := b) (k := k + 1) hb (by omega) hj
      have a2 := pos_ahead (bl := l) (b := b) (k := k) hb (by omega) hj
      rw [hn] at a1
      have : j < (posU l b k).length := a1.2 (.inr ⟨h1,by omega⟩)
      have := a2.1 this
      unfold Tm.ahead at this
      omega
    · exact .inr (.inl ⟨h1,by omega⟩)
  · exact .inr (.inr h)
theorem Had.next {l : List Block} {np : Nat} {hv : List Bool} {b c : Nat} {fr : Int} (H : Had l np hv (wayP l b (blkAt l b).ins.length fr)) (hr : Rc (nextOf l) (fun _ => True) 0 (b : Int)) (hc : (c : Int) ∈ nextOf l b) : Had l np hv (wayP l c 0 b) := by
  refine H.imp fun q hq h => ?_
  have key : Ov l q.1 b → wayP l b (blkAt l b).ins.length fr q := fun ho => by
    by_cases e : q.1 = b
    · exact .inr (.inl ⟨e,by have := (posOf_in hq).2; rw [e] at this; exact this⟩)
    · exact .inl ⟨ho,e⟩
  rcases h with ⟨h1,h2⟩ | ⟨h1,h2⟩ | ⟨h1,h2⟩
  · refine key ⟨h1.1,hr,fun hn => h1.2.2 ?_⟩
    exact hn.step hc (by omega)
  · omega
  · exact key h2
theorem use_had {f : Tm.Func} {hv : List Bool} {b k j : Nat} {fr : Int} {x : Ins} (H : Had f.blocks f.params.length hv (wayP f.blocks b k fr)) (hb : b < f.blocks.length) (hk : k ≤ (blkAt f.blocks b).ins.length) (hg : badA f.params.length f.blocks b k x j = false) (hp : phiB x = true → rd x.into j = fr ∧ 0 ≤ fr ∧ fr < (f.blocks.length : Int)) :
    (1 ≤ rd x.args j ∧ rd x.args j < (hv.length : Int)) ∧ rdOf false hv (rd x.args j) = true := by
  unfold badA at hg
  rw [Bool.or_eq_false_iff,Bool.or_eq_false_iff] at hg
  obtain ⟨⟨g1,g2⟩,g3⟩ := hg
  have v1 := of_decide_eq_false g1
  have v2 := of_decide_eq_false g2
  obtain ⟨vn,hv'⟩ : ∃ vn : Nat,rd x.args j = (vn : Int) := ⟨(rd x.args j).toNat,by omega⟩
  have hlen := H.len
  rw [hv'] at g3 v1 v2 ⊢
  refine ⟨by omega,?_⟩
  by_cases hle : vn ≤ f.params.length
  · exact H.par vn (by omega) hle
  · rw [decide_eq_false (by omega),Bool.not_false,Bool.true_and,Bool.not_eq_false'] at g3
    obtain ⟨q,hq,hhq⟩ := home_at (np := f.params.length) (l := f.blocks) (v := vn) (by omega) (by omega)
    have hqb := posOf_in (List.mem_of_getElem? hq)
    have he : ((f.params.length + 1 + (vn - f.params.length - 1) : Nat) : Int) = (vn : Int) := by omega
    rw [← he]
    refine H.at_ _ q hq ?_
    unfold thereB homeAt at g3
    rw [Int.toNat_natCast,hhq] at g3
    have ro : ∀ t : Int,0 ≤ t → t < (f.blocks.length : Int) → ovB f.blocks q.1 t = true → Ov f.blocks q.1 t := fun t t0 t1 ht => (rowOv_at t0 t1).1 ht
    cases hph : phiB x with
    | true =>
      rw [hph,if_pos rfl] at g3
      obtain ⟨p1,p2,p3⟩ := hp hph
      rw [p1] at g3
      exact .inr (.inr ⟨p2,ro fr p2 p3 g3⟩)
    | false =>
      rw [hph,if_neg (by decide)] at g3
      by_cases e : q.1 = b
      · rw [decide_eq_true (by omega),if_pos rfl] at g3
        have := of_decide_eq_true g3
        have := (pos_ahead (bl := f.blocks) (b := b) (k := k) hb hk hq).1 (by omega)
        unfold Tm.ahead at this
        exact .inr (.inl ⟨e,by omega⟩)
      · rw [decide_eq_false (by omega),if_neg (by decide)] at g3
        exact .inl ⟨ro b (by omega) (by omega) g3,e⟩
end Go.Proofs.Ytkcimaibaicdcaa.Tk
namespace Go.Proofs.Ytkcimaibaicdcaa.Tk
open Go.Tm Go.Tm.Tab
set_option maxRecDepth 100000
theorem had_read {hv : List Bool} {v : Int} (h : (1 ≤ v ∧ v < (hv.length : Int)) ∧ rdOf false hv v = true) : ∃ vn : Nat,v = (vn : Int) ∧ vn < hv.length ∧ hv.getD vn false = true ∧ decide ((vn : Int) < 1) = false ∧ decide ((vn : Int) ≥ (hv.length : Int)) = false ∧ (0 ≤ (vn : Int) ∧ (vn : Int) < (hv.length : Nat)) := by
 obtain ⟨⟨h1,h2⟩,h3⟩ := h
 obtain ⟨vn,rfl⟩ : ∃ vn : Nat,v = (vn : Int) := ⟨v.toNat,by omega⟩
 rw [rdOf,Int.toNat_natCast] at h3
 exact ⟨vn,rfl,by omega,h3,decide_eq_false (by omega),decide_eq_false (by omega),by omega,by omega⟩
theorem steps_l0 {vals : FuncId → Bool} {call : CallF} {n : Nat} (A B : Tm.Node) (st : C) (u v w x : C) (ps : List Int) (hps : ps.length ≤ 20) (N : Nat) (hN : ps.length < N) (hN2 : N < 2 ^ 20) (hB : B = .row 0 [u,v,ints ps,w,x]) (m : Nat) (hm : ps.length < m) :
    ∃ hv : List Bool,(hv.length = N ∧ ∀ a : Nat,1 ≤ a → a ≤ ps.length → rdOf false hv a = true) ∧ Tm.Loop Try.prog vals call n [2,7,8,9] k12b0 m ⟨[(2,st),(7,.op 1 0),(8,.os 2 0 N (some N)),(9,int 1)],[A,B,.row 1 ((List.replicate N false).map bool)]⟩ = some (.exit 0,⟨[(2,st),(7,.op 1 0),(8,.os 2 0 N (some N)),(9,int (ps.length + 1 : Nat)),(63,bool false)],[A,B,.row 1 (hv.map bool)]⟩) := by
  obtain ⟨s,⟨hv,rfl,h1,h2⟩,L⟩ := Loop_run (P := Try.prog) (vals := vals) (call := call) (n := n) (ks := [2,7,8,9]) (K := k12b0) (id := 0) ps.length
    (fun i s => ∃ hv : List Bool,s = ⟨[(2,st),(7,.op 1 0),(8,.os 2 0 N (some N)),(9,int (i + 1 : Nat))],[A,B,.row 1 (hv.map bool)]⟩ ∧ hv.length = N ∧ ∀ a : Nat,1 ≤ a → a ≤ i → rdOf false hv a = true)
    (fun s => ∃ hv : List Bool,s = ⟨[(2,st),(7,.op 1 0),(8,.os 2 0 N (some N)),(9,int (ps.length + 1 : Nat)),(63,bool false)],[A,B,.row 1 (hv.map bool)]⟩ ∧ hv.length = N ∧ ∀ a : Nat,1 ≤ a → a ≤ ps.length → rdOf false hv a = true)
    (fun i e h hi ⟨hv,hs,h1,h2⟩ => by
      subst hB
      cases hs
      have e1 : decide (((i + 1 : Nat) : Int) ≤ ps.length) = true := decide_eq_true (by omega)
      have e2 : 0 ≤ ((i + 1 : Nat) : Int) ∧ ((i + 1 : Nat) : Int) < (N : Nat) := by omega
      have e3 := wrap1 (k := i + 1) (by omega)
      have a1 : storeR [A,.row 0 [u,v,ints ps,w,x],.row 1 (hv.map bool)] 2 (i + 1) 1 (some (.row 1 (hv.map bool))) [bool true] = some [A,.row 0 [u,v,ints ps,w,x],.row 1 ((hv.set (i + 1) true).map bool)] := by
        rw [storeR_row,if_pos ⟨rfl,by simp; omega,rfl⟩,put_map (f := bool) (by omega)]; rfl
      refine ⟨_,⟨hv.set (i + 1) true,rfl,by rw [List.length_set]; exact h1,fun a q1 q2 => (rdOf_set (by omega) (by omega)).2 ?_⟩,?_⟩
      · by_cases e : a = i + 1
        · exact .inl (by omega)
        · exact .inr (h2 a q1 (by omega))
      · simp +decide -implicitDefEqProofs only [k12b0,go_sem,e1,e2,e3,Int.toNat_natCast,a1])
    (fun e h ⟨hv,hs,h1,h2⟩ => by
      subst hB
      cases hs
      have e1 : decide (((ps.length + 1 : Nat) : Int) ≤ ps.length) = false := decide_eq_false (by omega)
      refine ⟨_,⟨hv,rfl,h1,h2⟩,?_⟩
      simp +decide -implicitDefEqProofs only [k12b0,go_sem,e1])
    ps.length 0 m _ _ (by omega) hm ⟨List.replicate N false,rfl,by simp,fun a q1 q2 => by omega⟩
  exact ⟨hv,⟨h1,h2⟩,L⟩
set_option maxHeartbeats 2000000 in
theorem steps_l1 {vals : FuncId → Bool} {call : CallF} {n : Nat} (st y z z2 : C) (H : Nat) (hv : List Bool) (fr : Int) (l : List Ins) (j : Nat) (hj : j < l.length) (x : Ins) (hx : insAt l j = x) (hl : x.args.length < 2 ^ 50) (hlen : phiB x = true → x.into.length = x.args.length) (hok : ∀ q : Nat,q < x.args.length → (phiB x = true → rd x.into q = fr) → (1 ≤ rd x.args q ∧ rd x.args q < (hv.length : Int)) ∧ rdOf false hv (rd x.args q) = true) (h : Heap) (hh : h[H]? = some (.row 1 (hv.map bool))) (m : Nat) (hm : x.args.length < m) :
  Tm.Loop Try.prog vals call n [2,7,8,10,11,12,13,14,15] k12b1 m ⟨[(2,st),(7,y),(8,.os H 0 hv.length (some hv.length)),(10,z),(11,int fr),(12,z2),(13,inss l),(14,int j),(15,int 0)],h⟩ = some (.exit 6,⟨[(2,st),(7,y),(8,.os H 0 hv.length (some hv.length)),(10,z),(11,int fr),(12,z2),(13,inss l),(14,int j),(15,int x.args.length),(94,bool false)],h⟩) := by
 have ej : 0 ≤ (j : Int) ∧ (j : Int) < l.length := by omega
 obtain ⟨s,rfl,L⟩ := Loop_run (P := Try.prog) (vals := vals) (call := call) (n := n) (ks := [2,7,8,10,11,12,13,14,15]) (K := k12b1) (id := 6) x.args.length
  (fun i s => s = ⟨[(2,st),(7,y),(8,.os H 0 hv.length (some hv.length)),(10,z),(11,int fr),(12,z2),(13,inss l),(14,int j),(15,int i)],h⟩)
  (fun s => s = ⟨[(2,st),(7,y),(8,.os H 0 hv.length (some hv.length)),(10,z),(11,int fr),(12,z2),(13,inss l),(14,int j),(15,int x.args.length),(94,bool false)],h⟩)
  (fun i e g hi hs => by
   cases hs
   have e1 : decide ((i : Int) < x.args.length) = true := by simp; omega
   have e2 : 0 ≤ (i : Int) ∧ (i : Int) < x.args.length := by omega
   have e3 := wrap_next (n := x.args.length) (i := i) (by omega) (by omega)
   refine ⟨_,rfl,?_⟩
   have hok := hok i hi
   unfold phiB at hok hlen
   cases c1 : decide (x.op = 26) with
   | false =>
    rw [c1] at hok
    obtain ⟨vn,w1,w2,w3,w4,w5,w6⟩ := had_read (hok (fun h => by cases h))
    simp +decide -implicitDefEqProofs only [k12b1,go_sem,e1,e2,e3,ej,hx,c1,w1,w2,w3,w4,w5,w6,hh,Int.toNat_natCast]
   | true =>
    rw [c1] at hok hlen
    have hil := hlen rfl
    have c2 : decide ((i : Int) ≥ x.into.length) = false := decide_eq_false (by omega)
    have ei : 0 ≤ (i : Int) ∧ (i : Int) < x.into.length := by omega
    cases c3 : decide (rd x.into i = fr) with
    | false => simp +decide -implicitDefEqProofs only [k12b1,go_sem,e1,e2,e3,ej,hx,c1,c2,c3,ei]
    | true =>
     obtain ⟨vn,w1,w2,w3,w4,w5,w6⟩ := had_read (hok (fun _ => of_decide_eq_true c3))
     simp +decide -implicitDefEqProofs only [k12b1,go_sem,e1,e2,e3,ej,hx,c1,c2,c3,ei,w1,w2,w3,w4,w5,w6,hh,Int.toNat_natCast])
  (fun e g hs => by
   cases hs
   refine ⟨_,rfl,?_⟩
   simp +decide -implicitDefEqProofs only [k12b1,go_sem,ej,hx,Int.lt_irrefl,decide_false])
  x.args.length 0 m _ h (by omega) hm rfl
 exact L
structure Passed (f : Tm.Func) : Prop where
 par : f.params.length ≤ 20
 phi : ∀ b ∈ f.blocks,∀ x ∈ b.ins,PhiOk f.blocks.length x
 num : ∀ (b : Nat),b < f.blocks.length → ∀ k,k < (blkAt f.blocks b).ins.length → badNm f.params.length f.blocks b k = false
 use : ∀ (b : Nat),b < f.blocks.length → ∀ (k : Nat),k < (blkAt f.blocks b).ins.length → ∀ (j : Nat),j < (insAt (blkAt f.blocks b).ins k).args.length → badA f.params.length f.blocks b k (insAt (blkAt f.blocks b).ins k) j = false
 met : ∀ b : Nat,b < f.blocks.length → Rc (nextOf f.blocks) (fun _ => True) 0 b
set_option maxHeartbeats 2000000 in
theorem steps_l2 {vals : FuncId → Bool} {call : CallF} {n : Nat} (f : Tm.Func) (Q : Passed f) (F : Fine f) (hn : 200 ≤ n) (A B : Tm.Node) (st z2 : C) (b : Nat) (hb : b < f.blocks.length) (fr : Int) (hfr : fr = -1 ∨ (0 ≤ fr ∧ fr < (f.blocks.length : Int))) (m : Nat) (hm : (blkAt f.blocks b).ins.length < m) (hv0 : List Bool) (H0 : Had f.blocks f.params.length hv0 (wayP f.blocks b 0 fr)) :
  ∃ hv,Had f.blocks f.params.length hv (wayP f.blocks b (blkAt f.blocks b).ins.length fr) ∧ Tm.Loop Try.prog vals call n [2,7,8,10,11,12,13,14] k12b2 m ⟨[(2,st),(7,.op 1 0),(8,.os 2 0 (f.params.length + 1 + (posOf f.blocks).length) (some (f.params.length + 1 + (posOf f.blocks).length))),(10,int b),(11,int fr),(12,z2),(13,inss (blkAt f.blocks b).ins),(14,int 0)],[A,B,.row 1 (hv0.map bool)]⟩ = some (.exit 4,⟨[(2,st),(7,.op 1 0),(8,.os 2 0 (f.params.length + 1 + (posOf f.blocks).length) (some (f.params.length + 1 + (posOf f.blocks).length))),(10,int b),(11,int fr),(12,z2),(13,inss (blkAt f.blocks b).ins),(14,int (blkAt f.blocks b).ins.length),(84,bool false)],[A,B,.row 1 (hv.map bool)]⟩) := by
 have hbm := blkAt_mem (l := f.blocks) (b := (b : Int)) (by omega)
 have hil := F.ins _ hbm
 have hle := tsB_le 90 f.blocks fun b hb => F.ins b hb
 have hle2 : f.blocks.length * 90 ≤ 16 * 90 := Nat.mul_le_mul_right _ F.blocks
 have hpl := posOf_len f.blocks
 have hpar := Q.par
 obtain ⟨s,⟨hv,rfl,G⟩,L⟩ := Loop_run (P := Try.prog) (vals := vals) (call := call) (n := n) (ks := [2,7,8,10,11,12,13,14]) (K := k12b2) (id := 4) (blkAt f.blocks b).ins.length
  (fun i s => ∃ hv,s = ⟨[(2,st),(7,.op 1 0),(8,.os 2 0 (f.params.length + 1 + (posOf f.blocks).length) (some (f.params.length + 1 + (posOf f.blocks).length))),(10,int b),(11,int fr),(12,z2),(13,inss (blkAt f.blocks b).ins),(14,int i)],[A,B,.row 1 (hv.map bool)]⟩ ∧ Had f.blocks f.params.length hv (wayP f.blocks b i fr))
  (fun s => ∃ hv,s = ⟨[(2,st),(7,.op 1 0),(8,.os 2 0 (f.params.length + 1 + (posOf f.blocks).length) (some (f.params.length + 1 + (posOf f.blocks).length))),(10,int b),(11,int fr),(12,z2),(13,inss (blkAt f.blocks b).ins),(14,int (blkAt f.blocks b).ins.length),(84,bool false)],[A,B,.row 1 (hv.map bool)]⟩ ∧ Had f.blocks f.params.length hv (wayP f.blocks b (blkAt f.blocks b).ins.length fr))
  (fun i e h hi ⟨hv,hs,G⟩ => by
   cases hs
   have e1 : decide ((i : Int) < (blkAt f.blocks b).ins.length) = true := by simp; omega
   have e2 : 0 ≤ (i : Int) ∧ (i : Int) < (blkAt f.blocks b).ins.length := by omega
   have e3 := wrap_next (n := (blkAt f.blocks b).ins.length) (i := i) (by omega) (by omega)
   have hxm := insAt_mem e2
   have hph := Q.phi _ hbm _ hxm
   have hxa := (F.into _ hbm _ hxm).1
   have hlen := G.len
   have L1 := steps_l1 (vals := vals) (call := call) (n := n) st (.op 1 0) (int b) z2 2 hv fr (blkAt f.blocks b).ins i hi _ rfl (by omega) hph.len (fun q hq hp => use_had G hb (by omega) (Q.use b hb i hi q hq) (fun hpp => by
    have h1 := hp hpp
    have h2 := hph.to hpp (rd (insAt (blkAt f.blocks b).ins i).into q) (mem_of_rd (by rw [hph.len hpp]; exact hq))
    rw [h1] at h2
    exact ⟨h1,h2.1,h2.2⟩)) [A,B,.row 1 (hv.map bool)] rfl n (by omega)
   rw [hlen] at L1
   cases c1 : decide ((insAt (blkAt f.blocks b).ins i).type = 0) with
   | true =>
    refine ⟨_,⟨hv,rfl,G.skip hb hi (by unfold tyI; rw [c1]; rfl)⟩,?_⟩
    simp +decide -implicitDefEqProofs only [k12b2,go_sem,e1,e2,e3,L1,c1]
   | false =>
    have hty : tyI (insAt (blkAt f.blocks b).ins i) = true := by unfold tyI; rw [c1]; rfl
    have hto := badNm_no (Q.num b hb i hi) hty
    have hps := posU_le (bl := f.blocks) (b := b) (k := i + 1) hb (by omega)
    have hpn := posU_next f.blocks b i
    rw [hty,if_pos rfl] at hpn
    rw [hpn,List.length_append,List.length_singleton] at hps
    have c2 : decide (((f.params.length + (posU f.blocks b i).length + 1 : Nat) : Int) < 1) = false := decide_eq_false (by omega)
    have c3 : decide (((f.params.length + (posU f.blocks b i).length + 1 : Nat) : Int) ≥ ((f.params.length + 1 + (posOf f.blocks).length) : Nat)) = false := decide_eq_false (by omega)
    have ev : 0 ≤ ((f.params.length + (posU f.blocks b i).length + 1 : Nat) : Int) ∧ ((f.params.length + (posU f.blocks b i).length + 1 : Nat) : Int) < ((f.params.length + 1 + (posOf f.blocks).length) : Nat) := by omega
    have a1 : storeR [A,B,.row 1 (hv.map bool)] 2 (f.params.length + (posU f.blocks b i).length + 1) 1 (some (.row 1 (hv.map bool))) [bool true] = some [A,B,.row 1 ((hv.set (f.params.length + (posU f.blocks b i).length + 1) true).map bool)] := by
     rw [storeR_row,if_pos ⟨rfl,by simp; omega,rfl⟩,put_map (f := bool) (by omega)]; rfl
    refine ⟨_,⟨_,rfl,G.set hb hi hty⟩,?_⟩
    simp +decide -implicitDefEqProofs only [k12b2,go_sem,e1,e2,e3,L1,c1,hto,c2,c3,ev,Int.toNat_natCast,a1])
  (fun e h ⟨hv,hs,G⟩ => by
   cases hs
   refine ⟨_,⟨hv,rfl,G⟩,?_⟩
   simp +decide -implicitDefEqProofs only [k12b2,go_sem,Int.lt_irrefl,decide_false])
  (blkAt f.blocks b).ins.length 0 m _ _ (by omega) hm ⟨hv0,rfl,H0⟩
 exact ⟨hv,G,L⟩
set_option maxHeartbeats 2000000 in
theorem steps_l3 {vals : FuncId → Bool} {call : CallF} {n : Nat} (f : Tm.Func) (Q : Passed f) (F : Fine f) (hn : 200 ≤ n) (A : Tm.Node) (st : List Int) (hst : st.length ≤ 40) (hnx : ∀ (b : Int) h,call 20 [.agg [str f.name,bool f.out,ints f.params,int f.result,blocks f.blocks],int b] h = some (ints (nextOf f.blocks b),h)) :
  ∀ (d i m b : Nat) (fr : Int) (hv : List Bool),i + d = st.length → d < m → b < f.blocks.length → (fr = -1 ∨ (0 ≤ fr ∧ fr < (f.blocks.length : Int))) → Had f.blocks f.params.length hv (wayP f.blocks b 0 fr) →
  ∃ h',Tm.Loop Try.prog vals call n [2,7,8,10,11,12] k12b3 m ⟨[(2,ints st),(7,.op 1 0),(8,.os 2 0 (f.params.length + 1 + (posOf f.blocks).length) (some (f.params.length + 1 + (posOf f.blocks).length))),(10,int b),(11,int fr),(12,int i)],[A,.row 0 [str f.name,bool f.out,ints f.params,int f.result,blocks f.blocks],.row 1 (hv.map bool)]⟩ = some (.ret,⟨[(6,bool true)],h'⟩) := by
 intro d
 induction d with
 | zero =>
  intro i m b fr hv hi hm hb hfr H0
  obtain ⟨m,rfl⟩ : ∃ p,m = p + 1 := ⟨m - 1,by omega⟩
  have e1 : decide ((i : Int) ≤ st.length) = true := decide_eq_true (by omega)
  have eb : 0 ≤ (b : Int) ∧ (b : Int) < f.blocks.length := by omega
  have e4 : decide ((i : Int) = st.length) = true := decide_eq_true (by omega)
  obtain ⟨hv2,G,L2⟩ := steps_l2 (vals := vals) (call := call) (n := n) f Q F hn A (.row 0 [str f.name,bool f.out,ints f.params,int f.result,blocks f.blocks]) (ints st) (int i) b hb fr hfr n (by have := F.ins _ (blkAt_mem eb); omega) hv H0
  have hnb := hnx b
  rw [Tm.Loop_succ]
  generalize Tm.Loop Try.prog vals call n [2,7,8,10,11,12] k12b3 m = LL
  refine ⟨[A,.row 0 [str f.name,bool f.out,ints f.params,int f.result,blocks f.blocks],.row 1 (hv2.map bool)],?_⟩
  cases c5 : decide (((nextOf f.blocks b).length : Int) = 0) <;> simp +decide -implicitDefEqProofs only [k12b3,go_sem,e1,e4,eb,L2,hnb,c5]
 | succ d ih =>
  intro i m b fr hv hi hm hb hfr H0
  obtain ⟨m,rfl⟩ : ∃ p,m = p + 1 := ⟨m - 1,by omega⟩
  have e1 : decide ((i : Int) ≤ st.length) = true := decide_eq_true (by omega)
  have eb : 0 ≤ (b : Int) ∧ (b : Int) < f.blocks.length := by omega
  have e4 : decide ((i : Int) = st.length) = false := decide_eq_false (by omega)
  have es : 0 ≤ (i : Int) ∧ (i : Int) < st.length := by omega
  have e3 := wrap_next (n := st.length) (i := i) (by omega) (by omega)
  obtain ⟨hv2,G,L2⟩ := steps_l2 (vals := vals) (call := call) (n := n) f Q F hn A (.row 0 [str f.name,bool f.out,ints f.params,int f.result,blocks f.blocks]) (ints st) (int i) b hb fr hfr n (by have := F.ins _ (blkAt_mem eb); omega) hv H0
  have hnb := hnx b
  rw [Tm.Loop_succ]
  cases c5 : decide (((nextOf f.blocks b).length : Int) = 0) with
  | true =>
   generalize Tm.Loop Try.prog vals call n [2,7,8,10,11,12] k12b3 m = LL
   refine ⟨[A,.row 0 [str f.name,bool f.out,ints f.params,int f.result,blocks f.blocks],.row 1 (hv2.map bool)],?_⟩
   simp +decide -implicitDefEqProofs only [k12b3,go_sem,e1,e4,eb,L2,hnb,c5]
  | false =>
   have c0 := of_decide_eq_false c5
   have ia := index_ok (rd st i) (n := (nextOf f.blocks b).length) (by omega)
   have ra := bin_rem (P := Try.prog) (t := 3) (x := .tmp 194) (y := .tmp 196) (a := Go.bits .and .i64 (rd st i) 65535) c0
   generalize Int.tmod (Go.bits .and .i64 (rd st i) 65535) ((nextOf f.blocks b).length : Int) = a at ia ra
   obtain ⟨an,rfl⟩ : ∃ an : Nat,a = (an : Int) := ⟨a.toNat,by omega⟩
   have hmem := mem_of_rd (xs := nextOf f.blocks b) (i := an) (by omega)
   have hrng := next_in hmem
   obtain ⟨c,hc⟩ : ∃ c : Nat,rd (nextOf f.blocks b) an = (c : Int) := ⟨(rd (nextOf f.blocks b) an).toNat,by omega⟩
   rw [hc] at hmem hrng
   obtain ⟨h',L3⟩ := ih (i + 1) m c b hv2 (by omega) (by omega) (by omega) (.inr ⟨by omega,by omega⟩) (G.next (Q.met b hb) hmem)
   refine ⟨h',?_⟩
   generalize Tm.Loop Try.prog vals call n [2,7,8,10,11,12] k12b3 m = LL at L3 ⊢
   simp +decide -implicitDefEqProofs only [k12b3,go_sem,e1,e3,e4,es,eb,L2,hnb,c5,ia,ra,hc,L3]
end Go.Proofs.Ytkcimaibaicdcaa.Tk
namespace Go.Proofs.Ytkcimaibaicdcaa.Tk
open Go.Tm Go.Tm.Tab
set_option maxRecDepth 100000
theorem check_zero {m : Tm.Module} (h : checkN m = 0) : limitsB m = true ∧ formedB m = true ∧ namedB m = true ∧ knownB m = true ∧ (∀ f ∈ m.funcs,flowsB f.blocks = true) ∧ (∀ f ∈ m.funcs,usedB f = true) ∧ ∀ f ∈ m.funcs,typedB m f = true := by
  unfold checkN at h
  split at h
  · exact absurd h (by decide)
  split at h
  · exact absurd h (by decide)
  split at h
  · exact absurd h (by decide)
  split at h
  · exact absurd h (by decide)
  split at h
  · exact absurd h (by decide)
  split at h
  · exact absurd h (by decide)
  split at h
  · exact absurd h (by decide)
  rename_i h1 h2 h3 h4 h5 h6 h7
  rw [Bool.not_eq_true] at h5 h6 h7
  exact ⟨by simpa using h1,by simpa using h2,by simpa using h3,by simpa using h4,any_not h5,any_not h6,any_not h7⟩
theorem passed {m : Tm.Module} (F : FineM m) (h : checkN m = 0) : ∀ f ∈ m.funcs,Passed f ∧ 0 < f.blocks.length := by
  intro f hf
  obtain ⟨h1,h2,_,_,h5,h6,_⟩ := check_zero h
  have hsh := formed_shape h2
  have hfl := flow_ok (h5 f hf)
  have hu := h6 f hf
  unfold usedB at hu
  rw [Bool.and_eq_true,Bool.not_eq_true',Bool.not_eq_true',any_no,any_no] at hu
  refine ⟨⟨by have := (F.fn f hf).2.2; omega,fun b hb x hx => ⟨fun hq => ((hsh f hf b hb x hx).phi (of_decide_eq_true hq)).1,fun hq => hfl.phi b hb x hx hq⟩,fun b hb k hk => ?_,fun b hb k hk j hj => ?_,hfl.met⟩,limits_blocks h1 f hf⟩
  · have := hu.1 b hb
    unfold badNB at this
    exact any_no.1 this k hk
  · have := hu.2 b hb
    unfold badUB at this
    have := any_no.1 this k hk
    unfold badUX at this
    exact any_no.1 this j hj
theorem had_start {f : Tm.Func} {hv : List Bool} (h1 : hv.length = (f.params.length + 1 + (posOf f.blocks).length)) (h2 : ∀ a : Nat,1 ≤ a → a ≤ f.params.length → rdOf false hv a = true) : Had f.blocks f.params.length hv (wayP f.blocks 0 0 (-1)) := by
  refine ⟨h1,h2,fun j q hj hq => ?_⟩
  exfalso
  rcases hq with ⟨a,b⟩ | ⟨a,b⟩ | ⟨a,b⟩
  · exact a.2.2 (.refl (by simpa using Ne.symm (show (q.1 : Int) ≠ 0 by omega)))
  · omega
  · omega
set_option maxHeartbeats 4000000 in
theorem wfSteps (m : Tm.Module) (hl : ∀ f ∈ m.funcs,∀ b ∈ f.blocks,b.ins.length < 2 ^ 45) (xk : Int) (st : List Int) : Runs Try.prog tab (2 ^ 36 + 300) 12 [.agg (encModule m),int xk,ints st] (bool true) := by
 refine Runs.by (rs := [.tmp 6]) (N := 201) rfl Try.func12 rfl rfl (by simp) fun k hk => ?_
 have h49 : ∀ h,callAt Try.prog tab k 49 [] h = some (bool true,h) := fun h => first6 k (by omega) [] h rfl
 obtain ⟨t,hsm,hF⟩ := small_runs m hl
 have h50 : ∀ h,callAt Try.prog tab k 50 [.agg [externs m.externs,globals m.globals,tables m.tables,funcs m.funcs]] h = some (bool t,h) := fun h => hsm k (by omega) _ h (by rw [enc_module]; simp +decide -implicitDefEqProofs only [depth,go_sem])
 rw [enc_module]
 cases t with
 | false => simp +decide -implicitDefEqProofs only [k12,go_sem,h49,h50]; exact ⟨_,_,rfl,rfl⟩
 | true =>
  have F := hF rfl
  cases c1 : decide ((m.funcs.length : Int) = 0) with
  | true => simp +decide -implicitDefEqProofs only [k12,go_sem,h49,h50,c1]; exact ⟨_,_,rfl,rfl⟩
  | false =>
  cases c2 : decide ((st.length : Int) > 40) with
  | true => simp +decide -implicitDefEqProofs only [k12,go_sem,h49,h50,c1,c2]; exact ⟨_,_,rfl,rfl⟩
  | false =>
  have h53 : ∀ h,callAt Try.prog tab k 53 [.agg [externs m.externs,globals m.globals,tables m.tables,funcs m.funcs]] h = some (int (checkN m),h) := fun h => wcheck_runs m F k (by omega) _ h (by rw [enc_module]; simp +decide -implicitDefEqProofs only [depth,go_sem])
  cases c3 : decide (checkN m = 0) with
  | false => simp +decide -implicitDefEqProofs only [k12,go_sem,h49,h50,h53,c1,c2,c3]; exact ⟨_,_,rfl,rfl⟩
  | true =>
  have h58 : ∀ h,callAt Try.prog tab k 58 [.agg [externs m.externs,globals m.globals,tables m.tables,funcs m.funcs]] h = some (bool (wholeB m),h) := fun h => whole_runs m F k (by omega) _ h (by rw [enc_module]; simp +decide -implicitDefEqProofs only [depth,go_sem])
  cases c4 : wholeB m with
  | false => rw [c4] at h58; simp +decide -implicitDefEqProofs only [k12,go_sem,h49,h50,h53,h58,c1,c2,c3]; exact ⟨_,_,rfl,rfl⟩
  | true =>
  rw [c4] at h58
  have c0 := of_decide_eq_false c1
  have hst := of_decide_eq_false c2
  have ia := index_ok xk (n := m.funcs.length) (by omega)
  have ra := bin_rem (P := Try.prog) (t := 3) (x := .tmp 48) (y := .tmp 51) (a := Go.bits .and .i64 xk 65535) c0
  generalize Int.tmod (Go.bits .and .i64 xk 65535) (m.funcs.length : Int) = a at ia ra
  obtain ⟨an,rfl⟩ : ∃ an : Nat,a = (an : Int) := ⟨a.toNat,by omega⟩
  have hfm : fnAt m.funcs an ∈ m.funcs := getD_mem (by omega)
  generalize hfa : fnAt m.funcs an = f at hfm
  obtain ⟨Q,hpos⟩ := passed F (of_decide_eq_true c3) f hfm
  obtain ⟨Ff,_,hpar⟩ := F.fn f hfm
  have hty := types_len f
  have hle := tsB_le 90 f.blocks fun b hb => Ff.ins b hb
  have hle2 : f.blocks.length * 90 ≤ 16 * 90 := Nat.mul_le_mul_right _ Ff.blocks
  have hpl := posOf_len f.blocks
  have h59 : ∀ h,callAt Try.prog tab k 59 [.agg [str f.name,bool f.out,ints f.params,int f.result,blocks f.blocks]] h = some (int ((typesOf f).length - 1 : Int),h) := fun h => values_runs f Ff (by omega) k (by omega) _ h (by rw [enc_func]; simp +decide -implicitDefEqProofs only [depth,go_sem])
  have h20 : ∀ (b : Int) h,callAt Try.prog tab k 20 [.agg [str f.name,bool f.out,ints f.params,int f.result,blocks f.blocks],int b] h = some (ints (nextOf f.blocks b),h) := fun b h => rnext_runs f Ff b k (by omega) _ h (by rw [enc_func]; simp +decide -implicitDefEqProofs only [depth,go_sem])
  have hw : IntKind.i64.wrap (((typesOf f).length : Int) - 1 + 1) = (((f.params.length + 1 + (posOf f.blocks).length) : Nat) : Int) := by rw [hty,wrap_in (by omega) (by omega)]; omega
  have hmr : (2 : Nat) ^ 22 < maxRow := by decide
  have eM : 0 ≤ (((f.params.length + 1 + (posOf f.blocks).length) : Nat) : Int) ∧ (((f.params.length + 1 + (posOf f.blocks).length) : Nat) : Int) ≤ (((f.params.length + 1 + (posOf f.blocks).length) : Nat) : Int) ∧ (((f.params.length + 1 + (posOf f.blocks).length) : Nat) : Int) ≤ (maxRow : Nat) := ⟨by omega,by omega,by omega⟩
  have r1 := rep_map (f := bool) (f.params.length + 1 + (posOf f.blocks).length) false
  obtain ⟨hv,⟨hv1,hv2⟩,L0⟩ := steps_l0 (vals := valsOf tab) (call := callAt Try.prog tab k) (n := k) (.row 0 [externs m.externs,globals m.globals,tables m.tables,funcs m.funcs]) (.row 0 [str f.name,bool f.out,ints f.params,int f.result,blocks f.blocks]) (ints st) _ _ _ _ f.params (by omega) (f.params.length + 1 + (posOf f.blocks).length) (by omega) (by omega) rfl k (by omega)
  obtain ⟨h',L3⟩ := steps_l3 (vals := valsOf tab) (call := callAt Try.prog tab k) (n := k) f Q Ff (by omega) (.row 0 [externs m.externs,globals m.globals,tables m.tables,funcs m.funcs]) st (by omega) h20 st.length 0 k 0 (-1) hv (by omega) (by omega) hpos (.inl rfl) (had_start hv1 hv2)
  simp only [show ((0 : Nat) : Int) = 0 from rfl] at L3
  simp +decide -implicitDefEqProofs only [k12,go_sem,h49,h50,h53,h58,c1,c2,c3,ia,ra,hfa,enc_func,h59,hw,eM,Int.toNat_natCast,r1,L0,L3]
  exact ⟨_,_,rfl,rfl⟩
end Go.Proofs.Ytkcimaibaicdcaa.Tk
