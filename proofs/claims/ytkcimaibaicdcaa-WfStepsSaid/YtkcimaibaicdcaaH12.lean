/- The law returns true at every input. No condition. A part of its proof. -/
import Derived.Test.YtkcimaibaicdcaaH11
set_option linter.unusedSimpArgs false
set_option linter.unusedVariables false
namespace Go.Tm
def byteAt (s : ByteArray) (i : Int) : Int := ((s[i.toNat]?).map fun b => (b.toNat : Int)).getD 0
theorem pure_under {P : Program} {t : TypeId} {d : TypeDesc} (hu : P.underlying t = some d) (f : TypeDesc → Sem Value) : pureRun P (underlying t >>= f) = pureRun P (f d) := by
 have e : pureRun P (underlying t >>= f) = pureRun P ((match P.underlying t with | some d => pure d | none => stuck "no such type") >>= f) := rfl
 rw [e,hu]
 rfl
theorem idx_str {P : Program} {t : TypeId} (hu : P.underlying t = some .string) {s : ByteArray} {i : Int} (h : 0 ≤ i ∧ i < (s.size : Int)) : indexC P t (str s) (int i) = some (.v (.int .u8 (byteAt s i))) := by
 have hlt : i.toNat < s.size := by omega
 have hb : s[i.toNat]? = some s[i.toNat] := by simp [hlt]
 unfold byteAt
 rw [hb]
 have e : pureRun P (Instr.index t (.string s) (.int .i64 i)) = some (.int .u8 (s[i.toNat].toNat : Int)) := by
  have e2 : Instr.index t (.string s) (.int .i64 i) = underlying t >>= fun d => (match d,Value.string s with
   | .array len elem,.agg cs => if 0 ≤ i ∧ i < len then (do part elem cs (i.toNat * (← sizeOf elem))) else boundsPanic .i64 i len .index
   | .string,.string s => match (if 0 ≤ i then s[i.toNat]? else none) with
    | some b => pure (.int .u8 b.toNat)
    | none => boundsPanic .i64 i s.size .index
   | _,_ => stuck "Index: array or string expected") := rfl
  rw [e2,pure_under hu]
  simp only [if_pos h.1,hb]
  rfl
 simp only [indexC,intOf,Option.bind_eq_bind,Option.bind_some,e]
 rfl
section
variable {P : Program} {t : TypeId} {x y : Operand} {a b : Int}
theorem bin_geq8 : binC P .geq t x y (.v (.int .u8 a)) (.v (.int .u8 b)) = some (.v (.bool (decide (a ≥ b)))) := rfl
theorem bin_leq8 : binC P .leq t x y (.v (.int .u8 a)) (.v (.int .u8 b)) = some (.v (.bool (decide (a ≤ b)))) := rfl
theorem bin_lss8 : binC P .lss t x y (.v (.int .u8 a)) (.v (.int .u8 b)) = some (.v (.bool (decide (a < b)))) := rfl
theorem bin_gtr8 : binC P .gtr t x y (.v (.int .u8 a)) (.v (.int .u8 b)) = some (.v (.bool (decide (a > b)))) := rfl
theorem bin_neq8 : binC P .neq t x y (.v (.int .u8 a)) (.v (.int .u8 b)) = some (.v (.bool (!decide (a = b)))) := rfl
end
end Go.Tm
namespace Go.Proofs.Ytkcimaibaicdcaa.Tk
open Go.Tm Go.Tm.Tab
set_option maxRecDepth 100000
def badB (s : ByteArray) (k : Nat) : Bool := !(decide (byteAt s k ≥ 97) && decide (byteAt s k ≤ 122)) && (decide ((k : Int) = 0) || (!decide (byteAt s k = 95) && (decide (byteAt s k < 48) || decide (byteAt s k > 57))))
theorem name_loop {vals : FuncId → Bool} {call : CallF} {n : Nat} (s : ByteArray) (hx : s.size < 2 ^ 30) : ∀ (d i m : Nat),i + d = s.size → d < m →
  Tm.Loop Try.prog vals call n [0,15,16] k54b0 m ⟨[(0,str s),(15,int s.size),(16,int i)],[]⟩ = some (if (List.range' i d).any (badB s) = true then (.ret,⟨[(2,bool false)],[]⟩) else (.exit 0,⟨[(0,str s),(15,int s.size),(16,int s.size),(17,bool false)],[]⟩))
 | 0,i,m,hi,hm => by
  obtain ⟨m,rfl⟩ : ∃ p,m = p + 1 := ⟨m - 1,by omega⟩
  obtain rfl : i = s.size := by omega
  rw [Tm.Loop_succ]
  simp -implicitDefEqProofs only [k54b0,go_sem,Int.lt_irrefl,decide_false]
  rfl
 | d + 1,i,m,hi,hm => by
  obtain ⟨m,rfl⟩ : ∃ p,m = p + 1 := ⟨m - 1,by omega⟩
  have ih := name_loop (vals := vals) (call := call) (n := n) s hx d (i + 1) m (by omega) (by omega)
  rw [Tm.Loop_succ,List.range'_succ,List.any_cons]
  generalize Tm.Loop Try.prog vals call n [0,15,16] k54b0 m = L at ih ⊢
  have e1 : decide ((i : Int) < s.size) = true := by simp; omega
  have e3 := wrap_next (n := s.size) (i := i) (by omega) (by omega)
  have hb := idx_str (P := Try.prog) (t := 9) (by kernel_rfl) (s := s) (i := i) (by omega)
  have hbad : badB s i = (!(decide (byteAt s i ≥ 97) && decide (byteAt s i ≤ 122)) && (decide ((i : Int) = 0) || (!decide (byteAt s i = 95) && (decide (byteAt s i < 48) || decide (byteAt s i > 57))))) := rfl
  rw [hbad]
  generalize byteAt s i = b at hb
  obtain ⟨l1,h1⟩ : ∃ q,decide (b ≥ 97) = q := ⟨_,rfl⟩
  obtain ⟨l2,h2⟩ : ∃ q,decide (b ≤ 122) = q := ⟨_,rfl⟩
  obtain ⟨z,h3⟩ : ∃ q,decide ((i : Int) = 0) = q := ⟨_,rfl⟩
  obtain ⟨u,h4⟩ : ∃ q,decide (b = 95) = q := ⟨_,rfl⟩
  obtain ⟨d1,h5⟩ : ∃ q,decide (b < 48) = q := ⟨_,rfl⟩
  obtain ⟨d2,h6⟩ : ∃ q,decide (b > 57) = q := ⟨_,rfl⟩
  rw [h1,h2,h3,h4,h5,h6]
  cases l1 with
  | false =>
   cases z with
   | true =>
    simp only [Bool.and_false,Bool.false_and,Bool.and_true,Bool.true_and,Bool.not_true,Bool.not_false,Bool.or_true,Bool.true_or,Bool.false_or,Bool.or_false,if_true]
    simp +decide -implicitDefEqProofs only [k54b0,go_sem,bin_geq8,bin_leq8,bin_lss8,bin_gtr8,bin_neq8,e1,e3,hb,h1,h2,h3,h4,h5,h6]
   | false =>
    cases u with
    | true =>
     simp only [Bool.and_false,Bool.false_and,Bool.and_true,Bool.true_and,Bool.not_true,Bool.not_false,Bool.or_true,Bool.true_or,Bool.false_or,Bool.or_false,if_true]
     simp +decide -implicitDefEqProofs only [k54b0,go_sem,bin_geq8,bin_leq8,bin_lss8,bin_gtr8,bin_neq8,e1,e3,hb,h1,h2,h3,h4,h5,h6]
     exact ih
    | false =>
     cases d1 with
     | true =>
      simp only [Bool.and_false,Bool.false_and,Bool.and_true,Bool.true_and,Bool.not_true,Bool.not_false,Bool.or_true,Bool.true_or,Bool.false_or,Bool.or_false,if_true]
      simp +decide -implicitDefEqProofs only [k54b0,go_sem,bin_geq8,bin_leq8,bin_lss8,bin_gtr8,bin_neq8,e1,e3,hb,h1,h2,h3,h4,h5,h6]
     | false =>
      cases d2 with
      | true =>
       simp only [Bool.and_false,Bool.false_and,Bool.and_true,Bool.true_and,Bool.not_true,Bool.not_false,Bool.or_true,Bool.true_or,Bool.false_or,Bool.or_false,if_true]
       simp +decide -implicitDefEqProofs only [k54b0,go_sem,bin_geq8,bin_leq8,bin_lss8,bin_gtr8,bin_neq8,e1,e3,hb,h1,h2,h3,h4,h5,h6]
      | false =>
       simp only [Bool.and_false,Bool.false_and,Bool.and_true,Bool.true_and,Bool.not_true,Bool.not_false,Bool.or_true,Bool.true_or,Bool.false_or,Bool.or_false,if_true]
       simp +decide -implicitDefEqProofs only [k54b0,go_sem,bin_geq8,bin_leq8,bin_lss8,bin_gtr8,bin_neq8,e1,e3,hb,h1,h2,h3,h4,h5,h6]
       exact ih
  | true =>
   cases l2 with
   | false =>
    cases z with
    | true =>
     simp only [Bool.and_false,Bool.false_and,Bool.and_true,Bool.true_and,Bool.not_true,Bool.not_false,Bool.or_true,Bool.true_or,Bool.false_or,Bool.or_false,if_true]
     simp +decide -implicitDefEqProofs only [k54b0,go_sem,bin_geq8,bin_leq8,bin_lss8,bin_gtr8,bin_neq8,e1,e3,hb,h1,h2,h3,h4,h5,h6]
    | false =>
     cases u with
     | true =>
      simp only [Bool.and_false,Bool.false_and,Bool.and_true,Bool.true_and,Bool.not_true,Bool.not_false,Bool.or_true,Bool.true_or,Bool.false_or,Bool.or_false,if_true]
      simp +decide -implicitDefEqProofs only [k54b0,go_sem,bin_geq8,bin_leq8,bin_lss8,bin_gtr8,bin_neq8,e1,e3,hb,h1,h2,h3,h4,h5,h6]
      exact ih
     | false =>
      cases d1 with
      | true =>
       simp only [Bool.and_false,Bool.false_and,Bool.and_true,Bool.true_and,Bool.not_true,Bool.not_false,Bool.or_true,Bool.true_or,Bool.false_or,Bool.or_false,if_true]
       simp +decide -implicitDefEqProofs only [k54b0,go_sem,bin_geq8,bin_leq8,bin_lss8,bin_gtr8,bin_neq8,e1,e3,hb,h1,h2,h3,h4,h5,h6]
      | false =>
       cases d2 with
       | true =>
        simp only [Bool.and_false,Bool.false_and,Bool.and_true,Bool.true_and,Bool.not_true,Bool.not_false,Bool.or_true,Bool.true_or,Bool.false_or,Bool.or_false,if_true]
        simp +decide -implicitDefEqProofs only [k54b0,go_sem,bin_geq8,bin_leq8,bin_lss8,bin_gtr8,bin_neq8,e1,e3,hb,h1,h2,h3,h4,h5,h6]
       | false =>
        simp only [Bool.and_false,Bool.false_and,Bool.and_true,Bool.true_and,Bool.not_true,Bool.not_false,Bool.or_true,Bool.true_or,Bool.false_or,Bool.or_false,if_true]
        simp +decide -implicitDefEqProofs only [k54b0,go_sem,bin_geq8,bin_leq8,bin_lss8,bin_gtr8,bin_neq8,e1,e3,hb,h1,h2,h3,h4,h5,h6]
        exact ih
   | true =>
    simp only [Bool.and_false,Bool.false_and,Bool.and_true,Bool.true_and,Bool.not_true,Bool.not_false,Bool.or_true,Bool.true_or,Bool.false_or,Bool.or_false,if_true]
    simp +decide -implicitDefEqProofs only [k54b0,go_sem,bin_geq8,bin_leq8,bin_lss8,bin_gtr8,bin_neq8,e1,e3,hb,h1,h2,h3,h4,h5,h6]
    exact ih
def nameB (s : ByteArray) : Bool := (decide ((s.size : Int) ≥ 1) && decide ((s.size : Int) ≤ 12)) && !(List.range' 0 s.size).any (badB s)
theorem name_runs (s : ByteArray) : Runs Try.prog tab 20 54 [str s] (bool (nameB s)) := by
  refine Runs.by (rs := [.tmp 2]) (N := 47) rfl Try.func54 rfl rfl (by simp) fun k hk => ?_
  unfold nameB
  by_cases c1 : (s.size : Int) < 1
  · rw [decide_eq_false (show ¬ (s.size : Int) ≥ 1 by omega)]
    simp +decide -implicitDefEqProofs only [k54,go_sem,decide_eq_true c1]
    exact ⟨_,_,rfl,rfl⟩
  by_cases c2 : (s.size : Int) > 12
  · rw [decide_eq_false (show ¬ (s.size : Int) ≤ 12 by omega),Bool.and_false]
    simp +decide -implicitDefEqProofs only [k54,go_sem,decide_eq_false c1,decide_eq_true c2]
    exact ⟨_,_,rfl,rfl⟩
  rw [decide_eq_true (show (s.size : Int) ≥ 1 by omega),decide_eq_true (show (s.size : Int) ≤ 12 by omega)]
  have L := name_loop (vals := valsOf tab) (call := callAt Try.prog tab k) (n := k) s (by omega) s.size 0 k (by omega) (by omega)
  rw [show ((0 : Nat) : Int) = 0 from rfl] at L
  cases hb : (List.range' 0 s.size).any (badB s) with
  | true =>
    rw [hb,if_pos rfl] at L
    simp +decide -implicitDefEqProofs only [k54,go_sem,decide_eq_false c1,decide_eq_false c2,L]
    exact ⟨_,_,rfl,rfl⟩
  | false =>
    rw [hb,if_neg (by decide)] at L
    simp +decide -implicitDefEqProofs only [k54,go_sem,decide_eq_false c1,decide_eq_false c2,L]
    exact ⟨_,_,rfl,rfl⟩
end Go.Proofs.Ytkcimaibaicdcaa.Tk
namespace Go.Tm
def sizeOfL (l : List Block) : Nat := (l.map fun b => b.ins.length).sum
theorem sizeOfL_drop {l : List Block} {i : Nat} (h : i < l.length) : sizeOfL (l.drop i) = (blkAt l i).ins.length + sizeOfL (l.drop (i + 1)) := by
 unfold sizeOfL blkAt
 rw [List.drop_eq_getElem_cons h,List.map_cons,List.sum_cons,Int.toNat_natCast,List.getD_eq_getElem?_getD,List.getElem?_eq_getElem h]
 rfl
end Go.Tm
namespace Go.Proofs.Ytkcimaibaicdcaa.Tk
open Go.Tm Go.Tm.Tab
set_option maxRecDepth 100000
theorem size_loop {vals : FuncId → Bool} {call : CallF} {n : Nat} (l : List Block) (hn : l.length ≤ 2 ^ 20) (hb : ∀ b ∈ l,b.ins.length ≤ 2 ^ 20) : ∀ (d i m acc : Nat) (h : Heap),i + d = l.length → d < m → acc + 2 ^ 20 * d ≤ 2 ^ 50 →
  ∃ h',Tm.Loop Try.prog vals call n [3,7,8,9] k107b0 m ⟨[(3,int acc),(7,blocks l),(8,int l.length),(9,int i)],h⟩ = some (.exit 0,⟨[(3,int ((acc + sizeOfL (l.drop i) : Nat) : Int)),(7,blocks l),(8,int l.length),(9,int l.length),(10,bool false)],h'⟩)
 | 0,i,m,acc,h,hi,hm,_ => by
  obtain ⟨m,rfl⟩ : ∃ p,m = p + 1 := ⟨m - 1,by omega⟩
  obtain rfl : i = l.length := by omega
  refine ⟨h,?_⟩
  rw [Tm.Loop_succ,List.drop_eq_nil_of_le (Nat.le_refl _)]
  simp -implicitDefEqProofs only [k107b0,go_sem,Int.lt_irrefl,decide_false]
  rfl
 | d + 1,i,m,acc,h,hi,hm,ha => by
  obtain ⟨m,rfl⟩ : ∃ p,m = p + 1 := ⟨m - 1,by omega⟩
  have e2 : 0 ≤ (i : Int) ∧ (i : Int) < l.length := by omega
  have hlb := hb _ (blkAt_mem e2)
  have ih := fun h => size_loop (vals := vals) (call := call) (n := n) l hn hb d (i + 1) m (acc + (blkAt l i).ins.length) h (by omega) (by omega) (by omega)
  rw [Tm.Loop_succ,sizeOfL_drop (by omega),← Nat.add_assoc]
  generalize Tm.Loop Try.prog vals call n [3,7,8,9] k107b0 m = L at ih ⊢
  have e1 : decide ((i : Int) < l.length) = true := by simp; omega
  have e3 := wrap_next (n := l.length) (i := i) (by omega) (by omega)
  have e4 : IntKind.i64.wrap ((acc : Int) + ((blkAt l i).ins.length : Int)) = ((acc + (blkAt l i).ins.length : Nat) : Int) := by rw [wrap_in (by omega) (by omega)]; omega
  have s1 : ∀ a b : Tm.Node,(h ++ [a]).set h.length b = h ++ [b] := fun a b => by rw [List.set_append_right _ _ (Nat.le_refl _),Nat.sub_self]; rfl
  obtain ⟨h',ih⟩ := ih (h ++ [.row 0 [inss (blkAt l i).ins]])
  refine ⟨h',?_⟩
  simp +decide -implicitDefEqProofs only [k107b0,go_sem,e1,e2,e3,e4,s1]
  exact ih
theorem size_runs (f : Tm.Func) (F : Fine f) : Runs Try.prog tab 100 107 [.agg (encFunc f)] (int (sizeOfL f.blocks)) := by
 refine Runs.by (rs := [.tmp 2]) (N := 20) rfl Try.func107 rfl rfl (by simp) fun k hk => ?_
 have hn := F.blocks
 obtain ⟨h',L⟩ := size_loop (vals := valsOf tab) (call := callAt Try.prog tab k) (n := k) f.blocks (by omega) (fun b hb => by have := F.ins b hb; omega) f.blocks.length 0 k 0 [.row 0 (encFunc f)] (by omega) (by omega) (by omega)
 rw [show ((0 : Nat) : Int) = 0 from rfl,List.drop_zero,Nat.zero_add] at L
 rw [enc_func] at *
 simp +decide -implicitDefEqProofs only [k107,go_sem,L]
 exact ⟨_,_,rfl,rfl⟩
theorem rsize_loop {vals : FuncId → Bool} {call : CallF} {n : Nat} (f : Tm.Func) (hn : f.blocks.length ≤ 2 ^ 20) (hb : ∀ b ∈ f.blocks,b.ins.length ≤ 2 ^ 20) (h : Heap) (h0 : h[0]? = some (.row 0 (encFunc f))) : ∀ (d i m acc : Nat),i + d = f.blocks.length → d < m → acc + 2 ^ 20 * d ≤ 2 ^ 50 →
  Tm.Loop Try.prog vals call n [1,3,4] k86b0 m ⟨[(1,.op 0 0),(3,int acc),(4,int i)],h⟩ = some (.exit 0,⟨[(1,.op 0 0),(3,int ((acc + sizeOfL (f.blocks.drop i) : Nat) : Int)),(4,int f.blocks.length),(9,bool false)],h⟩)
 | 0,i,m,acc,hi,hm,_ => by
  obtain ⟨m,rfl⟩ : ∃ p,m = p + 1 := ⟨m - 1,by omega⟩
  obtain rfl : i = f.blocks.length := by omega
  rw [Tm.Loop_succ,List.drop_eq_nil_of_le (Nat.le_refl _)]
  rw [enc_func] at h0
  simp -implicitDefEqProofs only [k86b0,go_sem,h0,Int.lt_irrefl,decide_false]
  rfl
 | d + 1,i,m,acc,hi,hm,ha => by
  obtain ⟨m,rfl⟩ : ∃ p,m = p + 1 := ⟨m - 1,by omega⟩
  have e2 : 0 ≤ (i : Int) ∧ (i : Int) < f.blocks.length := by omega
  have hlb := hb _ (blkAt_mem e2)
  have ih := rsize_loop (vals := vals) (call := call) (n := n) f hn hb h h0 d (i + 1) m (acc + (blkAt f.blocks i).ins.length) (by omega) (by omega) (by omega)
  rw [Tm.Loop_succ,sizeOfL_drop (by omega),← Nat.add_assoc]
  generalize Tm.Loop Try.prog vals call n [1,3,4] k86b0 m = L at ih ⊢
  have e1 : decide ((i : Int) < f.blocks.length) = true := by simp; omega
  have e3 := wrap_next (n := f.blocks.length) (i := i) (by omega) (by omega)
  have e4 : IntKind.i64.wrap ((acc : Int) + ((blkAt f.blocks i).ins.length : Int)) = ((acc + (blkAt f.blocks i).ins.length : Nat) : Int) := by rw [wrap_in (by omega) (by omega)]; omega
  rw [enc_func] at h0
  simp +decide -implicitDefEqProofs only [k86b0,go_sem,h0,e1,e2,e3,e4]
  exact ih
theorem rsize_runs (f : Tm.Func) (F : Fine f) : Runs Try.prog tab 100 86 [.agg (encFunc f)] (int (sizeOfL f.blocks)) := by
 refine Runs.by (rs := [.tmp 2]) (N := 22) rfl Try.func86 rfl rfl (by simp) fun k hk => ?_
 have hn := F.blocks
 have L := rsize_loop (vals := valsOf tab) (call := callAt Try.prog tab k) (n := k) f (by omega) (fun b hb => by have := F.ins b hb; omega) [.row 0 (encFunc f)] rfl f.blocks.length 0 k 0 (by omega) (by omega) (by omega)
 rw [show ((0 : Nat) : Int) = 0 from rfl,List.drop_zero,Nat.zero_add] at L
 rw [enc_func] at *
 simp +decide -implicitDefEqProofs only [k86,go_sem,L]
 exact ⟨_,_,rfl,rfl⟩
end Go.Proofs.Ytkcimaibaicdcaa.Tk
namespace Go.Tm
def extAt (l : List Extern) (i : Int) : Extern := l.getD i.toNat default
def gloAt (l : List Global) (i : Int) : Global := l.getD i.toNat default
def tblAt (l : List Table) (i : Int) : Table := l.getD i.toNat default
def fnAt (l : List Func) (i : Int) : Func := l.getD i.toNat default
@[go_sem] theorem idx_externs (l : List Extern) (i : Int) : idxC 3 (externs l) i = if 0 ≤ i ∧ i < l.length then some (.fp (str (extAt l i).name :: ints (extAt l i).params :: int (extAt l i).result :: restOf encExtern l i)) else none := by
  simp only [externs,idxC]
  split
  · rename_i h; rw [at_flat (f := encExtern) (s := 3) (fun _ => rfl) default h]; rfl
  · rfl
@[go_sem] theorem idx_globals (l : List Global) (i : Int) : idxC 2 (globals l) i = if 0 ≤ i ∧ i < l.length then some (.fp (str (gloAt l i).name :: ints (gloAt l i).cells :: restOf encGlobal l i)) else none := by
  simp only [globals,idxC]
  split
  · rename_i h; rw [at_flat (f := encGlobal) (s := 2) (fun _ => rfl) default h]; rfl
  · rfl
@[go_sem] theorem idx_tables (l : List Table) (i : Int) : idxC 2 (tables l) i = if 0 ≤ i ∧ i < l.length then some (.fp (str (tblAt l i).name :: ints (tblAt l i).funcs :: restOf encTable l i)) else none := by
  simp only [tables,idxC]
  split
  · rename_i h; rw [at_flat (f := encTable) (s := 2) (fun _ => rfl) default h]; rfl
  · rfl
@[go_sem] theorem idx_funcs (l : List Func) (i : Int) : idxC 5 (funcs l) i = if 0 ≤ i ∧ i < l.length then some (.fp (str (fnAt l i).name :: bool (fnAt l i).out :: ints (fnAt l i).params :: int (fnAt l i).result :: blocks (fnAt l i).blocks :: restOf encFunc l i)) else none := by
  simp only [funcs,idxC]
  split
  · rename_i h; rw [at_flat (f := encFunc) (s := 5) (fun _ => rfl) default h]; rfl
  · rfl
@[go_sem] theorem len_externs (l : List Extern) : lenS (externs l) = some (int l.length) := rfl
@[go_sem] theorem len_globals (l : List Global) : lenS (globals l) = some (int l.length) := rfl
@[go_sem] theorem len_tables (l : List Table) : lenS (tables l) = some (int l.length) := rfl
@[go_sem] theorem len_funcs (l : List Func) : lenS (funcs l) = some (int l.length) := rfl
@[go_sem] theorem cell_externs (l : List Extern) : (externs l).isCell = true := rfl
@[go_sem] theorem cell_globals (l : List Global) : (globals l).isCell = true := rfl
@[go_sem] theorem cell_tables (l : List Table) : (tables l).isCell = true := rfl
@[go_sem] theorem cell_funcs (l : List Func) : (funcs l).isCell = true := rfl
theorem getD_mem {α : Type} {l : List α} {i : Nat} {z : α} (h : i < l.length) : l.getD i z ∈ l := by
 rw [List.getD_eq_getElem?_getD,List.getElem?_eq_getElem h]; exact List.getElem_mem _
theorem any_at {α : Type} (z : α) (p : α → Bool) : ∀ (l : List α) (k : Nat) (g : Nat → Bool),(∀ i,g (k + i) = p (l.getD i z)) → (List.range' k l.length).any g = l.any p
 | [],_,_,_ => rfl
 | x :: l,k,g,h => by
  rw [List.length_cons,List.range'_succ,List.any_cons,List.any_cons,any_at z p l (k + 1) g fun i => by rw [show k + 1 + i = k + (i + 1) by omega,h]; rfl]
  rw [show g k = p x from h 0]
theorem any_exts (p : Extern → Bool) (l : List Extern) : (List.range' 0 l.length).any (fun i => p (extAt l i)) = l.any p := any_at default p l 0 _ fun i => by rw [Nat.zero_add]; rfl
theorem any_glos (p : Global → Bool) (l : List Global) : (List.range' 0 l.length).any (fun i => p (gloAt l i)) = l.any p := any_at default p l 0 _ fun i => by rw [Nat.zero_add]; rfl
theorem any_tbls (p : Table → Bool) (l : List Table) : (List.range' 0 l.length).any (fun i => p (tblAt l i)) = l.any p := any_at default p l 0 _ fun i => by rw [Nat.zero_add]; rfl
theorem any_fns (p : Func → Bool) (l : List Func) : (List.range' 0 l.length).any (fun i => p (fnAt l i)) = l.any p := any_at default p l 0 _ fun i => by rw [Nat.zero_add]; rfl
theorem any_blks (p : Block → Bool) (l : List Block) : (List.range' 0 l.length).any (fun i => p (blkAt l i)) = l.any p := any_at default p l 0 _ fun i => by rw [Nat.zero_add]; rfl
theorem any_inss (p : Ins → Bool) (l : List Ins) : (List.range' 0 l.length).any (fun i => p (insAt l i)) = l.any p := any_at default p l 0 _ fun i => by rw [Nat.zero_add]; rfl
theorem any_ints (p : Int → Bool) (l : List Int) : (List.range' 0 l.length).any (fun i => p (rd l i)) = l.any p := any_at 0 p l 0 _ fun i => by rw [Nat.zero_add]; rfl
theorem Loop_any {P : Program} {vals : FuncId → Bool} {call : CallF} {n : Nat} {ks : List Nat} {K : K} {id : Nat} (N : Nat) (bad : Nat → Bool) (S : Nat → Env) (R T : Env) (I : Heap → Prop)
  (hs : ∀ i h,i < N → I h → ∃ h',I h' ∧ exec P vals call n K ⟨keepE (S i) ks,h⟩ = some (if bad i = true then (.ret,⟨R,h'⟩) else (.normal,⟨S (i + 1),h'⟩)))
  (he : ∀ h,I h → ∃ h',I h' ∧ exec P vals call n K ⟨keepE (S N) ks,h⟩ = some (.exit id,⟨T,h'⟩)) :
  ∀ (d i m : Nat) (h : Heap),i + d = N → d < m → I h → ∃ h',I h' ∧ Tm.Loop P vals call n ks K m ⟨S i,h⟩ = some (if (List.range' i d).any bad = true then (.ret,⟨R,h'⟩) else (.exit id,⟨T,h'⟩))
 | 0,i,m,h,hi,hm,hI => by
  obtain ⟨m,rfl⟩ : ∃ p,m = p + 1 := ⟨m - 1,by omega⟩
  obtain rfl : i = N := by omega
  obtain ⟨h',h1,h2⟩ := he h hI
  exact ⟨h',h1,by rw [Tm.Loop_succ,h2]; rfl⟩
 | d + 1,i,m,h,hi,hm,hI => by
  obtain ⟨m,rfl⟩ : ∃ p,m = p + 1 := ⟨m - 1,by omega⟩
  obtain ⟨h',h1,h2⟩ := hs i h (by omega) hI
  rw [List.range'_succ,List.any_cons,Tm.Loop_succ,h2]
  cases hb : bad i with
  | true => exact ⟨h',h1,by rw [Bool.true_or]; rfl⟩
  | false =>
   obtain ⟨h'',h3,h4⟩ := Loop_any N bad S R T I hs he d (i + 1) m h' (by omega) (by omega) h1
   exact ⟨h'',h3,by rw [Bool.false_or,← h4]; rfl⟩
def Has (l : Nat) (nd : Node) (h : Heap) : Prop := h[l]? = some nd
theorem Has.push {l : Nat} {nd x : Node} {h : Heap} (H : Has l nd h) : Has l nd (h ++ [x]) := by
 unfold Has at *; rw [List.getElem?_append_left (List.getElem?_eq_some_iff.1 H).1]; exact H
theorem set_new (h : Heap) (a b : Node) : (h ++ [a]).set h.length b = h ++ [b] := by rw [List.set_append_right _ _ (Nat.le_refl _),Nat.sub_self]; rfl
theorem enc_module (m : Module) : encModule m = [externs m.externs,globals m.globals,tables m.tables,funcs m.funcs] := rfl
def moreX (x : Extern) : Bool := decide ((x.params.length : Int) > 5)
def moreG (x : Global) : Bool := decide ((x.cells.length : Int) < 1) || decide ((x.cells.length : Int) > 16)
def moreT (x : Table) : Bool := decide ((x.funcs.length : Int) < 1) || decide ((x.funcs.length : Int) > 12)
def moreF (x : Func) : Bool := ((decide ((x.params.length : Int) > 5) || decide ((x.blocks.length : Int) < 1)) || decide ((x.blocks.length : Int) > 40)) || decide ((sizeOfL x.blocks : Int) > 300)
def limitsB (m : Module) : Bool :=
 !(((decide ((m.funcs.length : Int) > 24) || decide ((m.externs.length : Int) > 12)) || decide ((m.globals.length : Int) > 12)) || decide ((m.tables.length : Int) > 6)) && (!m.externs.any moreX && (!m.globals.any moreG && (!m.tables.any moreT && !m.funcs.any moreF)))
end Go.Tm
namespace Go.Proofs.Ytkcimaibaicdcaa.Tk
open Go.Tm Go.Tm.Tab
set_option maxRecDepth 100000
structure FineM (m : Tm.Module) : Prop where
 externs : m.externs.length ≤ 14
 globals : m.globals.length ≤ 14
 tables : m.tables.length ≤ 8
 funcs : m.funcs.length ≤ 26
 ext : ∀ x ∈ m.externs,x.name.size ≤ 40 ∧ x.params.length ≤ 10
 glo : ∀ x ∈ m.globals,x.name.size ≤ 40 ∧ x.cells.length ≤ 20
 tbl : ∀ x ∈ m.tables,x.name.size ≤ 40 ∧ x.funcs.length ≤ 16
 fn : ∀ x ∈ m.funcs,Fine x ∧ x.name.size ≤ 40 ∧ x.params.length ≤ 8
set_option maxHeartbeats 2000000 in
theorem wsmall_runs (m : Tm.Module) (F : FineM m) : Runs Try.prog tab 200 87 [.agg (encModule m)] (bool (limitsB m)) := by
 refine Runs.by (rs := [.tmp 2]) (N := 110) rfl Try.func87 rfl rfl (by simp) fun k hk => ?_
 have b1 := F.externs
 have b2 := F.globals
 have b3 := F.tables
 have b4 := F.funcs
 have hsz : ∀ (x : Tm.Func) (h : Heap),x ∈ m.funcs → callAt Try.prog tab k 107 [.agg (encFunc x)] h = some (int (sizeOfL x.blocks),h) := fun x h hx => size_runs x (F.fn x hx).1 k (by omega) _ h (by simp only [mapC_cons,mapC_nil,depth,view_func,Option.bind_some])
 generalize hc : callAt Try.prog tab k = call at hsz
 generalize hv : valsOf tab = vals
 rw [enc_module]
 generalize hI : Has 0 (.row 0 [externs m.externs,globals m.globals,tables m.tables,funcs m.funcs]) = I
 have hp : ∀ h x,I h → I (h ++ [x]) := by rw [← hI]; exact fun h x H => H.push
 have hg : ∀ h,I h → h[0]? = some (.row 0 [externs m.externs,globals m.globals,tables m.tables,funcs m.funcs]) := by rw [← hI]; exact fun h H => H
 have i0 : I [.row 0 [externs m.externs,globals m.globals,tables m.tables,funcs m.funcs]] := by rw [← hI]; rfl
 have L1 := Loop_any (P := Try.prog) (vals := vals) (call := call) (n := k) (ks := [1,34,35,36]) (K := k87b0) (id := 0) m.externs.length (fun i => moreX (extAt m.externs i)) (fun i => [(1,.op 0 0),(34,externs m.externs),(35,int m.externs.length),(36,int i)]) [(2,bool false)] [(1,.op 0 0),(34,externs m.externs),(35,int m.externs.length),(36,int m.externs.length),(37,bool false)] I
  (fun i h hi hI => ⟨_,hp _ (.row 0 (encExtern (extAt m.externs i))) hI,by
   have e1 : decide ((i : Int) < m.externs.length) = true := by simp; omega
   have e2 : 0 ≤ (i : Int) ∧ (i : Int) < m.externs.length := by omega
   have e3 := wrap_next (n := m.externs.length) (i := i) (by omega) (by omega)
   unfold moreX
   cases c1 : decide (((extAt m.externs i).params.length : Int) > 5) <;> simp +decide -implicitDefEqProofs only [k87b0,go_sem,e1,e2,e3,set_new,c1,encExtern]⟩)
  (fun h hI => ⟨h,hI,by simp -implicitDefEqProofs only [k87b0,go_sem,Int.lt_irrefl,decide_false]⟩)
 have L2 := Loop_any (P := Try.prog) (vals := vals) (call := call) (n := k) (ks := [1,46,47,48]) (K := k87b1) (id := 2) m.globals.length (fun i => moreG (gloAt m.globals i)) (fun i => [(1,.op 0 0),(46,globals m.globals),(47,int m.globals.length),(48,int i)]) [(2,bool false)] [(1,.op 0 0),(46,globals m.globals),(47,int m.globals.length),(48,int m.globals.length),(49,bool false)] I
  (fun i h hi hI => ⟨_,hp _ (.row 0 (encGlobal (gloAt m.globals i))) hI,by
   have e1 : decide ((i : Int) < m.globals.length) = true := by simp; omega
   have e2 : 0 ≤ (i : Int) ∧ (i : Int) < m.globals.length := by omega
   have e3 := wrap_next (n := m.globals.length) (i := i) (by omega) (by omega)
   unfold moreG
   cases c1 : decide (((gloAt m.globals i).cells.length : Int) < 1) <;> cases c2 : decide (((gloAt m.globals i).cells.length : Int) > 16) <;> simp +decide -implicitDefEqProofs only [k87b1,go_sem,e1,e2,e3,set_new,c1,c2,encGlobal]⟩)
  (fun h hI => ⟨h,hI,by simp -implicitDefEqProofs only [k87b1,go_sem,Int.lt_irrefl,decide_false]⟩)
 have L3 := Loop_any (P := Try.prog) (vals := vals) (call := call) (n := k) (ks := [1,64,65,66]) (K := k87b2) (id := 4) m.tables.length (fun i => moreT (tblAt m.tables i)) (fun i => [(1,.op 0 0),(64,tables m.tables),(65,int m.tables.length),(66,int i)]) [(2,bool false)] [(1,.op 0 0),(64,tables m.tables),(65,int m.tables.length),(66,int m.tables.length),(67,bool false)] I
  (fun i h hi hI => ⟨_,hp _ (.row 0 (encTable (tblAt m.tables i))) hI,by
   have e1 : decide ((i : Int) < m.tables.length) = true := by simp; omega
   have e2 : 0 ≤ (i : Int) ∧ (i : Int) < m.tables.length := by omega
   have e3 := wrap_next (n := m.tables.length) (i := i) (by omega) (by omega)
   unfold moreT
   cases c1 : decide (((tblAt m.tables i).funcs.length : Int) < 1) <;> cases c2 : decide (((tblAt m.tables i).funcs.length : Int) > 12) <;> simp +decide -implicitDefEqProofs only [k87b2,go_sem,e1,e2,e3,set_new,c1,c2,encTable]⟩)
  (fun h hI => ⟨h,hI,by simp -implicitDefEqProofs only [k87b2,go_sem,Int.lt_irrefl,decide_false]⟩)
 have L4 := Loop_any (P := Try.prog) (vals := vals) (call := call) (n := k) (ks := [82,83,84]) (K := k87b3) (id := 6) m.funcs.length (fun i => moreF (fnAt m.funcs i)) (fun i => [(82,funcs m.funcs),(83,int m.funcs.length),(84,int i)]) [(2,bool false)] [(82,funcs m.funcs),(83,int m.funcs.length),(84,int m.funcs.length),(85,bool false)] I
  (fun i h hi hI => ⟨_,hp _ (.row 0 (encFunc (fnAt m.funcs i))) hI,by
   have e1 : decide ((i : Int) < m.funcs.length) = true := by simp; omega
   have e2 : 0 ≤ (i : Int) ∧ (i : Int) < m.funcs.length := by omega
   have e3 := wrap_next (n := m.funcs.length) (i := i) (by omega) (by omega)
   have e5 := fun h => hsz (fnAt m.funcs i) h (getD_mem hi)
   simp only [encFunc] at e5
   unfold moreF
   cases c1 : decide (((fnAt m.funcs i).params.length : Int) > 5) <;> cases c2 : decide (((fnAt m.funcs i).blocks.length : Int) < 1) <;> cases c3 : decide (((fnAt m.funcs i).blocks.length : Int) > 40) <;> cases c4 : decide ((sizeOfL (fnAt m.funcs i).blocks : Int) > 300) <;> simp +decide -implicitDefEqProofs only [k87b3,go_sem,e1,e2,e3,set_new,c1,c2,c3,c4,encFunc,e5]⟩)
  (fun h hI => ⟨h,hI,by simp -implicitDefEqProofs only [k87b3,go_sem,Int.lt_irrefl,decide_false]⟩)
 obtain ⟨h1,I1,L1⟩ := L1 m.externs.length 0 k _ (by omega) (by omega) i0
 obtain ⟨h2,I2,L2⟩ := L2 m.globals.length 0 k _ (by omega) (by omega) I1
 obtain ⟨h3,I3,L3⟩ := L3 m.tables.length 0 k _ (by omega) (by omega) I2
 obtain ⟨h4,I4,L4⟩ := L4 m.funcs.length 0 k _ (by omega) (by omega) I3
 simp only [show ((0 : Nat) : Int) = 0 from rfl] at L1 L2 L3 L4
 rw [any_exts] at L1
 rw [any_glos] at L2
 rw [any_tbls] at L3
 rw [any_fns] at L4
 have g1 := hg h1 I1
 have g2 := hg h2 I2
 have g3 := hg h3 I3
 unfold limitsB
 obtain ⟨d1,q1⟩ : ∃ d,decide ((m.funcs.length : Int) > 24) = d := ⟨_,rfl⟩
 obtain ⟨d2,q2⟩ : ∃ d,decide ((m.externs.length : Int) > 12) = d := ⟨_,rfl⟩
 obtain ⟨d3,q3⟩ : ∃ d,decide ((m.globals.length : Int) > 12) = d := ⟨_,rfl⟩
 obtain ⟨d4,q4⟩ : ∃ d,decide ((m.tables.length : Int) > 6) = d := ⟨_,rfl⟩
 rw [q1,q2,q3,q4]
 generalize m.externs.any moreX = x1 at L1 ⊢
 generalize m.globals.any moreG = x2 at L2 ⊢
 generalize m.tables.any moreT = x3 at L3 ⊢
 generalize m.funcs.any moreF = x4 at L4 ⊢
 have fall : (d1 || d2 || d3 || d4) = true → ∃ c h',fin Try.prog [.tmp 2] (exec Try.prog vals call k k87 ⟨[(0,.agg [externs m.externs,globals m.globals,tables m.tables,funcs m.funcs])],[]⟩) = some (c,h') ∧ view true h' depth c = some (bool false) := by
  intro hd
  cases d1 <;> cases d2 <;> cases d3 <;> cases d4 <;> first | (exact absurd hd (by decide)) | (simp +decide -implicitDefEqProofs only [k87,go_sem,q1,q2,q3,q4]; exact ⟨_,_,rfl,rfl⟩)
 cases hd : (d1 || d2 || d3 || d4) with
 | true => exact fall hd
 | false =>
  obtain ⟨⟨⟨rfl,rfl⟩,rfl⟩,rfl⟩ : ((d1 = false ∧ d2 = false) ∧ d3 = false) ∧ d4 = false := by simpa only [Bool.or_eq_false_iff] using hd
  clear fall
  cases x1 with
  | true => simp +decide -implicitDefEqProofs only [k87,go_sem,q1,q2,q3,q4,L1]; exact ⟨_,_,rfl,rfl⟩
  | false =>
   cases x2 with
   | true => simp +decide -implicitDefEqProofs only [k87,go_sem,q1,q2,q3,q4,L1,L2,g1,g2,g3]; exact ⟨_,_,rfl,rfl⟩
   | false =>
    cases x3 with
    | true => simp +decide -implicitDefEqProofs only [k87,go_sem,q1,q2,q3,q4,L1,L2,L3,g1,g2,g3]; exact ⟨_,_,rfl,rfl⟩
    | false =>
     cases x4 <;> (simp +decide -implicitDefEqProofs only [k87,go_sem,q1,q2,q3,q4,L1,L2,L3,L4,g1,g2,g3]; exact ⟨_,_,rfl,rfl⟩)
end Go.Proofs.Ytkcimaibaicdcaa.Tk
namespace Go.Proofs.Ytkcimaibaicdcaa.Tk
open Go.Tm Go.Tm.Tab
set_option maxRecDepth 100000
def badT (t : Int) : Bool := !scalB t
def badR (r : Int) : Bool := (!decide (r = 0)) && badT r
def badX (x : Extern) : Bool := x.params.any badT || badR x.result
def badO (o : Bool) (r : Int) : Bool := badR r && (!decide (r = 4) || o)
def badP (o : Bool) (t : Int) : Bool := (decide (t < 1) || decide (t > 4)) || (o && badT t)
def badI (x : Ins) : Bool := !shapeB x
def badB2 (b : Block) : Bool := b.ins.any badI
def badF (f : Tm.Func) : Bool := badO f.out f.result || (f.params.any (badP f.out) || f.blocks.any badB2)
def formedB (m : Tm.Module) : Bool := !m.externs.any badX && !m.funcs.any badF
theorem formed_l0 {vals : FuncId → Bool} {call : CallF} {n : Nat} (a b c d f : C) (l : List Int) (hl : l.length < 2 ^ 50) (h : Heap) (hs : ∀ t h,call 108 [int t] h = some (bool (scalB t),h)) (m : Nat) (hm : l.length < m) : Tm.Loop Try.prog vals call n [1,4,16,17,18,23,24,25] k88b0 m ⟨[(1,a),(4,b),(16,c),(17,d),(18,f),(23,ints l),(24,int l.length),(25,int 0)],h⟩ = some (if l.any badT = true then (.ret,⟨[(2,bool false)],h⟩) else (.exit 2,⟨[(1,a),(4,b),(16,c),(17,d),(18,f),(23,ints l),(24,int l.length),(25,int l.length),(26,bool false)],h⟩)) := by
 obtain ⟨h1,e,L⟩ := Loop_any (P := Try.prog) (vals := vals) (call := call) (n := n) (ks := [1,4,16,17,18,23,24,25]) (K := k88b0) (id := 2) l.length (fun i => badT (rd l i)) (fun i => [(1,a),(4,b),(16,c),(17,d),(18,f),(23,ints l),(24,int l.length),(25,int i)]) [(2,bool false)] [(1,a),(4,b),(16,c),(17,d),(18,f),(23,ints l),(24,int l.length),(25,int l.length),(26,bool false)] (fun g => g = h)
  (fun i g hi hg => ⟨h,rfl,by
   rw [hg]
   have e1 : decide ((i : Int) < l.length) = true := by simp; omega
   have e2 : 0 ≤ (i : Int) ∧ (i : Int) < l.length := by omega
   have e3 := wrap_next (n := l.length) (i := i) (by omega) (by omega)
   unfold badT
   cases c1 : scalB (rd l i) <;> simp +decide -implicitDefEqProofs only [k88b0,go_sem,e1,e2,e3,set_new,c1,hs]⟩)
  (fun g hg => ⟨h,rfl,by rw [hg]; simp +decide -implicitDefEqProofs only [k88b0,go_sem,Int.lt_irrefl,decide_false]⟩) l.length 0 m h (by omega) hm rfl
 rw [e] at L
 simp only [show ((0 : Nat) : Int) = 0 from rfl] at L
 rw [any_ints] at L
 exact L
theorem formed_l2 {vals : FuncId → Bool} {call : CallF} {n : Nat} (b c d : C) (p : Nat) (u v w z : C) (o : Bool) (l : List Int) (hl : l.length < 2 ^ 50) (h : Heap) (hs : ∀ t h,call 108 [int t] h = some (bool (scalB t),h)) (h0 : h[p]? = some (.row 0 [u,bool o,v,w,z])) (m : Nat) (hm : l.length < m) : Tm.Loop Try.prog vals call n [8,44,45,46,69,70,71] k88b2 m ⟨[(8,.op p 0),(44,b),(45,c),(46,d),(69,ints l),(70,int l.length),(71,int 0)],h⟩ = some (if l.any (badP o) = true then (.ret,⟨[(2,bool false)],h⟩) else (.exit 6,⟨[(8,.op p 0),(44,b),(45,c),(46,d),(69,ints l),(70,int l.length),(71,int l.length),(72,bool false)],h⟩)) := by
 obtain ⟨h1,e,L⟩ := Loop_any (P := Try.prog) (vals := vals) (call := call) (n := n) (ks := [8,44,45,46,69,70,71]) (K := k88b2) (id := 6) l.length (fun i => badP o (rd l i)) (fun i => [(8,.op p 0),(44,b),(45,c),(46,d),(69,ints l),(70,int l.length),(71,int i)]) [(2,bool false)] [(8,.op p 0),(44,b),(45,c),(46,d),(69,ints l),(70,int l.length),(71,int l.length),(72,bool false)] (fun g => g = h)
  (fun i g hi hg => ⟨h,rfl,by
   rw [hg]
   have e1 : decide ((i : Int) < l.length) = true := by simp; omega
   have e2 : 0 ≤ (i : Int) ∧ (i : Int) < l.length := by omega
   have e3 := wrap_next (n := l.length) (i := i) (by omega) (by omega)
   unfold badP badT
   cases c1 : decide (rd l i < 1) <;> cases c2 : decide (rd l i > 4) <;> cases c3 : o <;> cases c4 : scalB (rd l i) <;> simp +decide -implicitDefEqProofs only [k88b2,go_sem,e1,e2,e3,set_new,c1,c2,c3,c4,hs,h0]⟩)
  (fun g hg => ⟨h,rfl,by rw [hg]; simp +decide -implicitDefEqProofs only [k88b2,go_sem,Int.lt_irrefl,decide_false]⟩) l.length 0 m h (by omega) hm rfl
 rw [e] at L
 simp only [show ((0 : Nat) : Int) = 0 from rfl] at L
 rw [any_ints] at L
 exact L
theorem formed_l3 {vals : FuncId → Bool} {call : CallF} {n : Nat} (a b c d f g : C) (l : List Ins) (hl : l.length < 2 ^ 50) (I : Heap → Prop) (hp : ∀ h x,I h → I (h ++ [x])) (hs : ∀ x ∈ l,∀ h,call 109 [.agg (encIns x)] h = some (bool (shapeB x),h)) (m : Nat) (hm : l.length < m) (h : Heap) (hI : I h) : ∃ h1,I h1 ∧ Tm.Loop Try.prog vals call n [44,45,46,92,93,94,99,100,101] k88b3 m ⟨[(44,a),(45,b),(46,c),(92,d),(93,f),(94,g),(99,inss l),(100,int l.length),(101,int 0)],h⟩ = some (if l.any badI = true then (.ret,⟨[(2,bool false)],h1⟩) else (.exit 10,⟨[(44,a),(45,b),(46,c),(92,d),(93,f),(94,g),(99,inss l),(100,int l.length),(101,int l.length),(102,bool false)],h1⟩)) := by
 obtain ⟨h1,J,L⟩ := Loop_any (P := Try.prog) (vals := vals) (call := call) (n := n) (ks := [44,45,46,92,93,94,99,100,101]) (K := k88b3) (id := 10) l.length (fun i => badI (insAt l i)) (fun i => [(44,a),(45,b),(46,c),(92,d),(93,f),(94,g),(99,inss l),(100,int l.length),(101,int i)]) [(2,bool false)] [(44,a),(45,b),(46,c),(92,d),(93,f),(94,g),(99,inss l),(100,int l.length),(101,int l.length),(102,bool false)] I
  (fun i h hi hI => by
   have e1 : decide ((i : Int) < l.length) = true := by simp; omega
   have e2 : 0 ≤ (i : Int) ∧ (i : Int) < l.length := by omega
   have e3 := wrap_next (n := l.length) (i := i) (by omega) (by omega)
   have hc := fun h => hs (insAt l i) (insAt_mem e2) h
   refine ⟨_,hp _ (.row 0 (encIns (insAt l i))) hI,?_⟩
   unfold badI
   simp only [encIns] at hc ⊢
   cases c1 : shapeB (insAt l i) <;> simp +decide -implicitDefEqProofs only [k88b3,go_sem,e1,e2,e3,set_new,hc,c1])
  (fun h hI => by
   exact ⟨h,hI,by simp +decide -implicitDefEqProofs only [k88b3,go_sem,Int.lt_irrefl,decide_false]⟩) l.length 0 m h (by omega) hm hI
 simp only [show ((0 : Nat) : Int) = 0 from rfl] at L
 rw [any_inss] at L
 exact ⟨h1,J,L⟩
theorem formed_l4 {vals : FuncId → Bool} {call : CallF} {n : Nat} (a b c : C) (l : List Block) (hl : l.length < n) (hl2 : l.length < 2 ^ 50) (hb : ∀ x ∈ l,x.ins.length < n ∧ x.ins.length < 2 ^ 50) (I : Heap → Prop) (hp : ∀ h x,I h → I (h ++ [x])) (hs : ∀ b ∈ l,∀ x ∈ b.ins,∀ h,call 109 [.agg (encIns x)] h = some (bool (shapeB x),h)) (m : Nat) (hm : l.length < m) (h : Heap) (hI : I h) : ∃ h1,I h1 ∧ Tm.Loop Try.prog vals call n [44,45,46,92,93,94] k88b4 m ⟨[(44,a),(45,b),(46,c),(92,blocks l),(93,int l.length),(94,int 0)],h⟩ = some (if l.any badB2 = true then (.ret,⟨[(2,bool false)],h1⟩) else (.exit 8,⟨[(44,a),(45,b),(46,c),(92,blocks l),(93,int l.length),(94,int l.length),(95,bool false)],h1⟩)) := by
 obtain ⟨h1,J,L⟩ := Loop_any (P := Try.prog) (vals := vals) (call := call) (n := n) (ks := [44,45,46,92,93,94]) (K := k88b4) (id := 8) l.length (fun i => badB2 (blkAt l i)) (fun i => [(44,a),(45,b),(46,c),(92,blocks l),(93,int l.length),(94,int i)]) [(2,bool false)] [(44,a),(45,b),(46,c),(92,blocks l),(93,int l.length),(94,int l.length),(95,bool false)] I
  (fun i h hi hI => by
   have e1 : decide ((i : Int) < l.length) = true := by simp; omega
   have e2 : 0 ≤ (i : Int) ∧ (i : Int) < l.length := by omega
   have e3 := wrap_next (n := l.length) (i := i) (by omega) (by omega)
   have hx := blkAt_mem e2
   have hbl := hb _ hx
   obtain ⟨h1,J1,L1⟩ := formed_l3 (vals := vals) (call := call) (n := n) a b c (blocks l) (int l.length) (int i) (blkAt l i).ins hbl.2 I hp (hs _ hx) n hbl.1 _ (hp _ (.row 0 [inss (blkAt l i).ins]) hI)
   unfold badB2
   cases c1 : (blkAt l i).ins.any badI with
   | true =>
    rw [c1,if_pos rfl] at L1
    exact ⟨h1,J1,by simp +decide -implicitDefEqProofs only [k88b4,go_sem,e1,e2,e3,set_new,L1]⟩
   | false =>
    rw [c1,if_neg (by decide)] at L1
    exact ⟨h1,J1,by simp +decide -implicitDefEqProofs only [k88b4,go_sem,e1,e2,e3,set_new,L1]⟩)
  (fun h hI => by
   exact ⟨h,hI,by simp +decide -implicitDefEqProofs only [k88b4,go_sem,Int.lt_irrefl,decide_false]⟩) l.length 0 m h (by omega) hm hI
 simp only [show ((0 : Nat) : Int) = 0 from rfl] at L
 rw [any_blks] at L
 exact ⟨h1,J,L⟩
theorem formed_l5 {vals : FuncId → Bool} {call : CallF} {n : Nat} (l : List Tm.Func) (hl : l.length < n) (hl2 : l.length < 2 ^ 50) (hb : ∀ f ∈ l,(f.params.length < n ∧ f.params.length < 2 ^ 50) ∧ (f.blocks.length < n ∧ f.blocks.length < 2 ^ 50) ∧ ∀ x ∈ f.blocks,x.ins.length < n ∧ x.ins.length < 2 ^ 50) (I : Heap → Prop) (hp : ∀ h x,I h → I (h ++ [x])) (hs : ∀ f ∈ l,∀ b ∈ f.blocks,∀ x ∈ b.ins,∀ h,call 109 [.agg (encIns x)] h = some (bool (shapeB x),h)) (ht : ∀ t h,call 108 [int t] h = some (bool (scalB t),h)) (m : Nat) (hm : l.length < m) (h : Heap) (hI : I h) : ∃ h1,I h1 ∧ Tm.Loop Try.prog vals call n [44,45,46] k88b5 m ⟨[(44,funcs l),(45,int l.length),(46,int 0)],h⟩ = some (if l.any badF = true then (.ret,⟨[(2,bool false)],h1⟩) else (.exit 4,⟨[(44,funcs l),(45,int l.length),(46,int l.length),(47,bool false)],h1⟩)) := by
 obtain ⟨h1,J,L⟩ := Loop_any (P := Try.prog) (vals := vals) (call := call) (n := n) (ks := [44,45,46]) (K := k88b5) (id := 4) l.length (fun i => badF (fnAt l i)) (fun i => [(44,funcs l),(45,int l.length),(46,int i)]) [(2,bool false)] [(44,funcs l),(45,int l.length),(46,int l.length),(47,bool false)] I
  (fun i h hi hI => by
   have e1 : decide ((i : Int) < l.length) = true := by simp; omega
   have e2 : 0 ≤ (i : Int) ∧ (i : Int) < l.length := by omega
   have e3 := wrap_next (n := l.length) (i := i) (by omega) (by omega)
   have hx : fnAt l i ∈ l := getD_mem hi
   obtain ⟨hb1,hb2,hb3⟩ := hb _ hx
   have hsx := hs _ hx
   generalize hf : fnAt l i = f at hx hb1 hb2 hb3 hsx ⊢
   have L1 := formed_l2 (vals := vals) (call := call) (n := n) (funcs l) (int l.length) (int i) h.length (str f.name) (ints f.params) (int f.result) (blocks f.blocks) f.out f.params hb1.2 (h ++ [.row 0 (encFunc f)]) ht (by rw [get_new]; rfl) n hb1.1
   obtain ⟨h2,J2,L2⟩ := formed_l4 (vals := vals) (call := call) (n := n) (funcs l) (int l.length) (int i) f.blocks hb2.1 hb2.2 hb3 I hp hsx n hb2.1 _ (hp _ (.row 0 (encFunc f)) hI)
   simp only [enc_func] at L1 L2
   unfold badF badO badR badT
   obtain ⟨r0,q1⟩ : ∃ q,decide (f.result = 0) = q := ⟨_,rfl⟩
   obtain ⟨r4,q2⟩ : ∃ q,decide (f.result = 4) = q := ⟨_,rfl⟩
   obtain ⟨rs,q3⟩ : ∃ q,scalB f.result = q := ⟨_,rfl⟩
   obtain ⟨o,q4⟩ : ∃ q,f.out = q := ⟨_,rfl⟩
   rw [q1,q2,q3]
   rw [q4] at L1 L2 ⊢
   cases hr : ((!r0 && !rs) && (!r4 || o)) with
   | true =>
    refine ⟨_,hp _ (.row 0 (encFunc f)) hI,?_⟩
    cases r0 <;> cases rs <;> cases r4 <;> cases o <;> first | (exact absurd hr (by decide)) | (simp +decide -implicitDefEqProofs only [k88b5,go_sem,e1,e2,e3,set_new,enc_func,hf,ht,q1,q2,q3,q4,L1,L2])
   | false =>
    cases c1 : f.params.any (badP o) with
    | true =>
     rw [c1,if_pos rfl] at L1
     refine ⟨_,hp _ (.row 0 (encFunc f)) hI,?_⟩
     cases r0 <;> cases rs <;> cases r4 <;> cases o <;> first | (exact absurd hr (by decide)) | (simp +decide -implicitDefEqProofs only [k88b5,go_sem,e1,e2,e3,set_new,enc_func,hf,ht,q1,q2,q3,q4,L1,L2])
    | false =>
     rw [c1,if_neg (by decide)] at L1
     refine ⟨h2,J2,?_⟩
     cases c2 : f.blocks.any badB2 with
     | true =>
      rw [c2,if_pos rfl] at L2
      cases r0 <;> cases rs <;> cases r4 <;> cases o <;> first | (exact absurd hr (by decide)) | (simp +decide -implicitDefEqProofs only [k88b5,go_sem,e1,e2,e3,set_new,enc_func,hf,ht,q1,q2,q3,q4,L1,L2])
     | false =>
      rw [c2,if_neg (by decide)] at L2
      cases r0 <;> cases rs <;> cases r4 <;> cases o <;> first | (exact absurd hr (by decide)) | (simp +decide -implicitDefEqProofs only [k88b5,go_sem,e1,e2,e3,set_new,enc_func,hf,ht,q1,q2,q3,q4,L1,L2]))
  (fun h hI => by
   exact ⟨h,hI,by simp +decide -implicitDefEqProofs only [k88b5,go_sem,Int.lt_irrefl,decide_false]⟩) l.length 0 m h (by omega) hm hI
 simp only [show ((0 : Nat) : Int) = 0 from rfl] at L
 rw [any_fns] at L
 exact ⟨h1,J,L⟩
end Go.Proofs.Ytkcimaibaicdcaa.Tk
namespace Go.Proofs.Ytkcimaibaicdcaa.Tk
open Go.Tm Go.Tm.Tab
set_option maxRecDepth 100000
theorem badT_is (t : Int) : badT t = ((!decide (t = 1)) && (!decide (t = 2))) := by
  unfold badT scalB
  by_cases h1 : t = 1
  · subst h1; rfl
  · by_cases h2 : t = 2
    · subst h2; rfl
    · rw [decide_eq_false (show ¬ (t = 1 ∨ t = 2) by omega),decide_eq_false h1,decide_eq_false h2]; rfl
theorem badR_is (r : Int) : badR r = (decide (r < 0) || decide (r > 2)) := by
 unfold badR
 rw [badT_is,← decide_not,← decide_not,← decide_not,← Bool.decide_and,← Bool.decide_and,← Bool.decide_or]
 exact decide_eq_decide.2 (by omega)
theorem forms_l0 {vals : FuncId → Bool} {call : CallF} {n : Nat} (a b : C) (p : Nat) (u v : C) (l : List Int) (hl : l.length < 2 ^ 50) (h : Heap) (h0 : h[p]? = some (.row 0 [u,ints l,v])) (m : Nat) (hm : l.length < m) : Tm.Loop Try.prog vals call n [1,3,4,5] k80b0 m ⟨[(1,a),(3,b),(4,.op p 0),(5,int 0)],h⟩ = some (if l.any badT = true then (.ret,⟨[(2,bool false)],h⟩) else (.exit 2,⟨[(1,a),(3,b),(4,.op p 0),(5,int l.length),(35,bool false)],h⟩)) := by
 obtain ⟨h1,e,L⟩ := Loop_any (P := Try.prog) (vals := vals) (call := call) (n := n) (ks := [1,3,4,5]) (K := k80b0) (id := 2) l.length (fun i => badT (rd l i)) (fun i => [(1,a),(3,b),(4,.op p 0),(5,int i)]) [(2,bool false)] [(1,a),(3,b),(4,.op p 0),(5,int l.length),(35,bool false)] (fun g => g = h)
  (fun i g hi hg => ⟨h,rfl,by
   rw [hg]
   have e1 : decide ((i : Int) < l.length) = true := by simp; omega
   have e2 : 0 ≤ (i : Int) ∧ (i : Int) < l.length := by omega
   have e3 := wrap_next (n := l.length) (i := i) (by omega) (by omega)
   rw [badT_is]
   cases c1 : decide (rd l i = 1) <;> cases c2 : decide (rd l i = 2) <;> simp +decide -implicitDefEqProofs only [k80b0,go_sem,e1,e2,e3,set_new,c1,c2,h0]⟩)
  (fun g hg => ⟨h,rfl,by rw [hg]; simp +decide -implicitDefEqProofs only [k80b0,go_sem,Int.lt_irrefl,decide_false,h0]⟩) l.length 0 m h (by omega) hm rfl
 rw [e] at L
 simp only [show ((0 : Nat) : Int) = 0 from rfl] at L
 rw [any_ints] at L
 exact L
set_option maxHeartbeats 2000000 in
theorem forms_l1 {vals : FuncId → Bool} {call : CallF} {n : Nat} (u v w : C) (l : List Extern) (hl2 : l.length < 2 ^ 50) (hb : ∀ f ∈ l,f.params.length < n ∧ f.params.length < 2 ^ 50) (I : Heap → Prop) (hp : ∀ h x,I h → I (h ++ [x])) (hg : ∀ h,I h → h[0]? = some (.row 0 [externs l,u,v,w])) (m : Nat) (hm : l.length < m) (h : Heap) (hI : I h) : ∃ h1,I h1 ∧ Tm.Loop Try.prog vals call n [1,3] k80b1 m ⟨[(1,.op 0 0),(3,int 0)],h⟩ = some (if l.any badX = true then (.ret,⟨[(2,bool false)],h1⟩) else (.exit 0,⟨[(1,.op 0 0),(3,int l.length),(15,bool false)],h1⟩)) := by
 obtain ⟨h1,J,L⟩ := Loop_any (P := Try.prog) (vals := vals) (call := call) (n := n) (ks := [1,3]) (K := k80b1) (id := 0) l.length (fun i => badX (extAt l i)) (fun i => [(1,.op 0 0),(3,int i)]) [(2,bool false)] [(1,.op 0 0),(3,int l.length),(15,bool false)] I
  (fun i h hi hI => by
   have e1 : decide ((i : Int) < l.length) = true := by simp; omega
   have e2 : 0 ≤ (i : Int) ∧ (i : Int) < l.length := by omega
   have e3 := wrap_next (n := l.length) (i := i) (by omega) (by omega)
   have hx : extAt l i ∈ l := getD_mem hi
   have hb1 := hb _ hx
   have g0 := hg h hI
   have I1 := hp _ (.row 0 (encExtern (extAt l i))) hI
   have g1 := hg _ I1
   generalize hf : extAt l i = f at hx hb1 I1 g1 ⊢
   have L1 := forms_l0 (vals := vals) (call := call) (n := n) (.op 0 0) (int i) h.length (str f.name) (int f.result) f.params hb1.2 (h ++ [.row 0 (encExtern f)]) (by rw [get_new]; rfl) n hb1.1
   simp only [encExtern] at L1 g1
   unfold badX
   rw [badR_is]
   obtain ⟨r1,q1⟩ : ∃ q,decide (f.result < 0) = q := ⟨_,rfl⟩
   obtain ⟨r2,q2⟩ : ∃ q,decide (f.result > 2) = q := ⟨_,rfl⟩
   rw [q1,q2]
   refine ⟨_,I1,?_⟩
   cases c1 : f.params.any badT with
   | true =>
    rw [c1,if_pos rfl] at L1
    cases r1 <;> cases r2 <;> simp +decide -implicitDefEqProofs only [k80b1,go_sem,e1,e2,e3,set_new,g0,g1,encExtern,hf,q1,q2,L1]
   | false =>
    rw [c1,if_neg (by decide)] at L1
    cases r1 <;> cases r2 <;> simp +decide -implicitDefEqProofs only [k80b1,go_sem,e1,e2,e3,set_new,g0,g1,encExtern,hf,q1,q2,L1])
  (fun h hI => by
   have g0 := hg h hI
   exact ⟨h,hI,by simp +decide -implicitDefEqProofs only [k80b1,go_sem,Int.lt_irrefl,decide_false,g0]⟩) l.length 0 m h (by omega) hm hI
 simp only [show ((0 : Nat) : Int) = 0 from rfl] at L
 rw [any_exts] at L
 exact ⟨h1,J,L⟩
set_option maxHeartbeats 2000000 in
theorem formed_l1 {vals : FuncId → Bool} {call : CallF} {n : Nat} (a : C) (l : List Extern) (hl2 : l.length < 2 ^ 50) (hb : ∀ f ∈ l,f.params.length < n ∧ f.params.length < 2 ^ 50) (I : Heap → Prop) (hp : ∀ h x,I h → I (h ++ [x])) (ht : ∀ t h,call 108 [int t] h = some (bool (scalB t),h)) (m : Nat) (hm : l.length < m) (h : Heap) (hI : I h) : ∃ h1,I h1 ∧ Tm.Loop Try.prog vals call n [1,16,17,18] k88b1 m ⟨[(1,a),(16,externs l),(17,int l.length),(18,int 0)],h⟩ = some (if l.any badX = true then (.ret,⟨[(2,bool false)],h1⟩) else (.exit 0,⟨[(1,a),(16,externs l),(17,int l.length),(18,int l.length),(19,bool false)],h1⟩)) := by
 obtain ⟨h1,J,L⟩ := Loop_any (P := Try.prog) (vals := vals) (call := call) (n := n) (ks := [1,16,17,18]) (K := k88b1) (id := 0) l.length (fun i => badX (extAt l i)) (fun i => [(1,a),(16,externs l),(17,int l.length),(18,int i)]) [(2,bool false)] [(1,a),(16,externs l),(17,int l.length),(18,int l.length),(19,bool false)] I
  (fun i h hi hI => by
   have e1 : decide ((i : Int) < l.length) = true := by simp; omega
   have e2 : 0 ≤ (i : Int) ∧ (i : Int) < l.length := by omega
   have e3 := wrap_next (n := l.length) (i := i) (by omega) (by omega)
   have hx : extAt l i ∈ l := getD_mem hi
   have hb1 := hb _ hx
   have I1 := hp _ (.row 0 (encExtern (extAt l i))) hI
   generalize hf : extAt l i = f at hx hb1 I1 ⊢
   have L1 := formed_l0 (vals := vals) (call := call) (n := n) a (.op h.length 0) (externs l) (int l.length) (int i) f.params hb1.2 (h ++ [.row 0 (encExtern f)]) ht n hb1.1
   simp only [encExtern] at L1
   unfold badX badR badT
   obtain ⟨r1,q1⟩ : ∃ q,decide (f.result = 0) = q := ⟨_,rfl⟩
   obtain ⟨r2,q2⟩ : ∃ q,scalB f.result = q := ⟨_,rfl⟩
   rw [q1,q2]
   refine ⟨_,I1,?_⟩
   change _ = some (if (f.params.any badT || _) = true then _ else _)
   cases c1 : f.params.any badT with
   | true =>
    rw [c1,if_pos rfl] at L1
    cases r1 <;> cases r2 <;> simp +decide -implicitDefEqProofs only [k88b1,go_sem,e1,e2,e3,set_new,encExtern,hf,ht,q1,q2,L1]
   | false =>
    rw [c1,if_neg (by decide)] at L1
    cases r1 <;> cases r2 <;> simp +decide -implicitDefEqProofs only [k88b1,go_sem,e1,e2,e3,set_new,encExtern,hf,ht,q1,q2,L1])
  (fun h hI => by
   exact ⟨h,hI,by simp +decide -implicitDefEqProofs only [k88b1,go_sem,Int.lt_irrefl,decide_false]⟩) l.length 0 m h (by omega) hm hI
 simp only [show ((0 : Nat) : Int) = 0 from rfl] at L
 rw [any_exts] at L
 exact ⟨h1,J,L⟩
theorem view_ins (h : Heap) (n : Nat) (x : Ins) : view false h (n + 2) (.agg (encIns x)) = some (.agg (encIns x)) := by simp [encIns,go_sem]
set_option maxHeartbeats 2000000 in
theorem wformed_runs (m : Tm.Module) (F : FineM m) : Runs Try.prog tab 200 88 [.agg (encModule m)] (bool (formedB m)) := by
 refine Runs.by (rs := [.tmp 2]) (N := 111) rfl Try.func88 rfl rfl (by simp) fun k hk => ?_
 have b1 := F.externs
 have b4 := F.funcs
 have hs : ∀ f ∈ m.funcs,∀ b ∈ f.blocks,∀ x ∈ b.ins,∀ h,callAt Try.prog tab k 109 [.agg (encIns x)] h = some (bool (shapeB x),h) := fun f hf b hb x hx h => wshaped_runs x (by have := (F.fn f hf).1.into b hb x hx; omega) k (by omega) _ h (by simp only [mapC_cons,mapC_nil,depth,view_ins,Option.bind_some])
 have ht : ∀ t h,callAt Try.prog tab k 108 [int t] h = some (bool (scalB t),h) := fun t h => scalar_runs t k (by omega) _ h (by simp only [mapC_cons,mapC_nil,depth,view_int,Option.bind_some])
 generalize hc : callAt Try.prog tab k = call at hs ht
 generalize hv : valsOf tab = vals
 rw [enc_module]
 generalize hI : Has 0 (.row 0 [externs m.externs,globals m.globals,tables m.tables,funcs m.funcs]) = I
 have hp : ∀ h x,I h → I (h ++ [x]) := by rw [← hI]; exact fun h x H => H.push
 have hg : ∀ h,I h → h[0]? = some (.row 0 [externs m.externs,globals m.globals,tables m.tables,funcs m.funcs]) := by rw [← hI]; exact fun h H => H
 have i0 : I [.row 0 [externs m.externs,globals m.globals,tables m.tables,funcs m.funcs]] := by rw [← hI]; rfl
 have hbx : ∀ f ∈ m.externs,f.params.length < k ∧ f.params.length < 2 ^ 50 := fun x hx => by have := (F.ext x hx).2; omega
 have hbf : ∀ f ∈ m.funcs,(f.params.length < k ∧ f.params.length < 2 ^ 50) ∧ (f.blocks.length < k ∧ f.blocks.length < 2 ^ 50) ∧ ∀ x ∈ f.blocks,x.ins.length < k ∧ x.ins.length < 2 ^ 50 := fun f hf => by
  have := (F.fn f hf).2.2; have := (F.fn f hf).1.blocks
  exact ⟨by omega,by omega,fun b hb => by have := (F.fn f hf).1.ins b hb; omega⟩
 obtain ⟨h1,I1,L1⟩ := formed_l1 (vals := vals) (call := call) (n := k) (.op 0 0) m.externs (by omega) hbx I hp ht k (by omega) _ i0
 obtain ⟨h2,I2,L2⟩ := formed_l5 (vals := vals) (call := call) (n := k) m.funcs (by omega) (by omega) hbf I hp hs ht k (by omega) _ I1
 have g1 := hg h1 I1
 have g2 := hg h2 I2
 unfold formedB
 cases x1 : m.externs.any badX with
 | true =>
  rw [x1,if_pos rfl] at L1
  simp +decide -implicitDefEqProofs only [k88,go_sem,L1]; exact ⟨_,_,rfl,rfl⟩
 | false =>
  rw [x1,if_neg (by decide)] at L1
  cases x2 : m.funcs.any badF with
  | true =>
   rw [x2,if_pos rfl] at L2
   simp +decide -implicitDefEqProofs only [k88,go_sem,L1,L2,g1,g2]; exact ⟨_,_,rfl,rfl⟩
  | false =>
   rw [x2,if_neg (by decide)] at L2
   simp +decide -implicitDefEqProofs only [k88,go_sem,L1,L2,g1,g2]; exact ⟨_,_,rfl,rfl⟩
end Go.Proofs.Ytkcimaibaicdcaa.Tk
namespace Go.Proofs.Ytkcimaibaicdcaa.Tk
open Go.Tm Go.Tm.Tab
set_option maxRecDepth 100000
theorem ints_differ {a b : List Int} (hl : a.length = b.length) : (!(List.range' 0 a.length).any fun i => !decide (rd a i = rd b i)) = decide (a = b) := by
  by_cases e : a = b
  · subst e
    rw [decide_eq_true rfl]
    have : ((List.range' 0 a.length).any fun i => !decide (rd a i = rd a i)) = false := by
      rw [List.any_eq_false]; intro x _; simp
    rw [this]; rfl
  · rw [decide_eq_false e]
    have : ((List.range' 0 a.length).any fun i => !decide (rd a i = rd b i)) = true := by
      refine Classical.byContradiction fun h => e ?_
      rw [Bool.not_eq_true,List.any_eq_false] at h
      refine List.ext_getElem hl fun j h1 h2 => ?_
      have := h j (by simp; omega)
      simpa [rd,List.getD_eq_getElem?_getD,List.getElem?_eq_getElem h1,List.getElem?_eq_getElem h2] using this
    rw [this]; rfl
theorem requal_loop {vals : FuncId → Bool} {call : CallF} {n : Nat} (a b : List Int) (hl : a.length = b.length) (hx : a.length < 2 ^ 50) (h : Heap) (m : Nat) (hm : a.length < m) : Tm.Loop Try.prog vals call n [0,1,5] k18b0 m ⟨[(0,ints a),(1,ints b),(5,int 0)],h⟩ = some (if decide (a = b) = true then (.exit 0,⟨[(0,ints a),(1,ints b),(5,int a.length),(14,bool false)],h⟩) else (.ret,⟨[(4,bool false)],h⟩)) := by
 obtain ⟨h1,e,L⟩ := Loop_any (P := Try.prog) (vals := vals) (call := call) (n := n) (ks := [0,1,5]) (K := k18b0) (id := 0) a.length (fun i => !decide (rd a i = rd b i)) (fun i => [(0,ints a),(1,ints b),(5,int i)]) [(4,bool false)] [(0,ints a),(1,ints b),(5,int a.length),(14,bool false)] (fun g => g = h)
  (fun i g hi hg => ⟨h,rfl,by
   rw [hg]
   have e1 : decide ((i : Int) < a.length) = true := by simp; omega
   have e2 : 0 ≤ (i : Int) ∧ (i : Int) < a.length := by omega
   have e2b : 0 ≤ (i : Int) ∧ (i : Int) < b.length := by omega
   have e3 := wrap_next (n := a.length) (i := i) (by omega) (by omega)
   cases c1 : decide (rd a i = rd b i) <;> simp +decide -implicitDefEqProofs only [k18b0,go_sem,e1,e2,e2b,e3,c1]⟩)
  (fun g hg => ⟨h,rfl,by rw [hg]; simp +decide -implicitDefEqProofs only [k18b0,go_sem,Int.lt_irrefl,decide_false]⟩) a.length 0 m h (by omega) hm rfl
 rw [e] at L
 simp only [show ((0 : Nat) : Int) = 0 from rfl] at L
 rw [L,← ints_differ hl]
 cases (List.range' 0 a.length).any fun i => !decide (rd a i = rd b i) <;> rfl
theorem requal_runs (a b : List Int) (hx : a.length < 2 ^ 50) : Runs Try.prog tab (a.length + 3) 18 [ints a,ints b] (bool (decide (a = b))) := by
  refine Runs.by (rs := [.tmp 4]) (N := 26) rfl Try.func18 rfl rfl (by simp) fun k hk => ?_
  by_cases hl : a.length = b.length
  · have L := requal_loop (vals := valsOf tab) (call := callAt Try.prog tab k) (n := k) a b hl hx [] k (by omega)
    have d : decide ((a.length : Int) = b.length) = true := by simp [hl]
    cases c : decide (a = b) with
    | true =>
      rw [c,if_pos rfl] at L
      simp +decide -implicitDefEqProofs only [k18,go_sem,d,L]; exact ⟨_,_,rfl,rfl⟩
    | false =>
      rw [c,if_neg (by decide)] at L
      simp +decide -implicitDefEqProofs only [k18,go_sem,d,L]; exact ⟨_,_,rfl,rfl⟩
  · have d : decide ((a.length : Int) = b.length) = false := by simp; omega
    rw [decide_eq_false (fun e => hl (by rw [e]))]
    simp +decide -implicitDefEqProofs only [k18,go_sem,d]; exact ⟨_,_,rfl,rfl⟩
theorem wequal_loop {vals : FuncId → Bool} {call : CallF} {n : Nat} (a b : List Int) (hl : a.length = b.length) (hx : a.length < 2 ^ 50) (h : Heap) (m : Nat) (hm : a.length < m) : Tm.Loop Try.prog vals call n [0,1,12,13] k111b0 m ⟨[(0,ints a),(1,ints b),(12,int a.length),(13,int 0)],h⟩ = some (if decide (a = b) = true then (.exit 0,⟨[(0,ints a),(1,ints b),(12,int a.length),(13,int a.length),(14,bool false)],h⟩) else (.ret,⟨[(4,bool false)],h⟩)) := by
 obtain ⟨h1,e,L⟩ := Loop_any (P := Try.prog) (vals := vals) (call := call) (n := n) (ks := [0,1,12,13]) (K := k111b0) (id := 0) a.length (fun i => !decide (rd a i = rd b i)) (fun i => [(0,ints a),(1,ints b),(12,int a.length),(13,int i)]) [(4,bool false)] [(0,ints a),(1,ints b),(12,int a.length),(13,int a.length),(14,bool false)] (fun g => g = h)
  (fun i g hi hg => ⟨h,rfl,by
   rw [hg]
   have e1 : decide ((i : Int) < a.length) = true := by simp; omega
   have e2 : 0 ≤ (i : Int) ∧ (i : Int) < a.length := by omega
   have e2b : 0 ≤ (i : Int) ∧ (i : Int) < b.length := by omega
   have e3 := wrap_next (n := a.length) (i := i) (by omega) (by omega)
   cases c1 : decide (rd a i = rd b i) <;> simp +decide -implicitDefEqProofs only [k111b0,go_sem,e1,e2,e2b,e3,c1]⟩)
  (fun g hg => ⟨h,rfl,by rw [hg]; simp +decide -implicitDefEqProofs only [k111b0,go_sem,Int.lt_irrefl,decide_false]⟩) a.length 0 m h (by omega) hm rfl
 rw [e] at L
 simp only [show ((0 : Nat) : Int) = 0 from rfl] at L
 rw [L,← ints_differ hl]
 cases (List.range' 0 a.length).any fun i => !decide (rd a i = rd b i) <;> rfl
theorem wequal_runs (a b : List Int) (hx : a.length < 2 ^ 50) : Runs Try.prog tab (a.length + 3) 111 [ints a,ints b] (bool (decide (a = b))) := by
  refine Runs.by (rs := [.tmp 4]) (N := 26) rfl Try.func111 rfl rfl (by simp) fun k hk => ?_
  by_cases hl : a.length = b.length
  · have L := wequal_loop (vals := valsOf tab) (call := callAt Try.prog tab k) (n := k) a b hl hx [] k (by omega)
    have d : decide ((a.length : Int) = b.length) = true := by simp [hl]
    cases c : decide (a = b) with
    | true =>
      rw [c,if_pos rfl] at L
      simp +decide -implicitDefEqProofs only [k111,go_sem,d,L]; exact ⟨_,_,rfl,rfl⟩
    | false =>
      rw [c,if_neg (by decide)] at L
      simp +decide -implicitDefEqProofs only [k111,go_sem,d,L]; exact ⟨_,_,rfl,rfl⟩
  · have d : decide ((a.length : Int) = b.length) = false := by simp; omega
    rw [decide_eq_false (fun e => hl (by rw [e]))]
    simp +decide -implicitDefEqProofs only [k111,go_sem,d]; exact ⟨_,_,rfl,rfl⟩
theorem drop_rdb {xs : List Bool} {i : Nat} (h : i < xs.length) : xs.drop i = rdOf false xs i :: xs.drop (i + 1) := by
 rw [List.drop_eq_getElem_cons h]; unfold rdOf; rw [Int.toNat_natCast,List.getD_eq_getElem?_getD,List.getElem?_eq_getElem h]; rfl
theorem indexB_loop {vals : FuncId → Bool} {call : CallF} {n : Nat} (xs : List Bool) (v : Bool) (hx : xs.length < 2 ^ 62) : ∀ (d i m : Nat),i + d = xs.length → d < m →
    Tm.Loop Try.prog vals call n [0,1,7,8] k117b0 m ⟨[(0,bools xs),(1,bool v),(7,int xs.length),(8,int i)],[]⟩ = some (if v ∈ xs.drop i then (.ret,⟨[(4,int (i + (xs.drop i).idxOf v : Nat))],[]⟩) else (.exit 0,⟨[(0,bools xs),(1,bool v),(7,int xs.length),(8,int xs.length),(9,bool false)],[]⟩))
  | 0,i,m,hi,hm => by
    obtain ⟨m,rfl⟩ : ∃ p,m = p + 1 := ⟨m - 1,by omega⟩
    obtain rfl : i = xs.length := by omega
    rw [Tm.Loop_succ]
    simp +decide -implicitDefEqProofs only [bind_ite,andThen_ite,leaves_ite,k117b0,go_sem]
    simp
  | d + 1,i,m,hi,hm => by
    obtain ⟨m,rfl⟩ : ∃ p,m = p + 1 := ⟨m - 1,by omega⟩
    have ih := indexB_loop (vals := vals) (call := call) (n := n) xs v hx d (i + 1) m (by omega) (by omega)
    rw [Tm.Loop_succ]
    generalize Tm.Loop Try.prog vals call n [0,1,7,8] k117b0 m = L at ih ⊢
    have e1 : decide ((i : Int) < xs.length) = true := by simp; omega
    have e2 : 0 ≤ (i : Int) ∧ (i : Int) < xs.length := by omega
    have e3 := wrap_next (n := xs.length) (i := i) (by omega) (by omega)
    rw [drop_rdb (xs := xs) (i := i) (by omega)]
    by_cases e : v = rdOf false xs i
    · have c1 : decide (v = rdOf false xs i) = true := by simp [e]
      simp +decide -implicitDefEqProofs only [k117b0,go_sem,e1,e2,e3,c1]
      simp [e]
    · have c1 : decide (v = rdOf false xs i) = false := by simp [e]
      simp +decide -implicitDefEqProofs only [k117b0,go_sem,e1,e2,e3,c1]
      rw [ih]
      by_cases hv : v ∈ xs.drop (i + 1)
      · have e' : (rdOf false xs i == v) = false := by simpa using Ne.symm e
        simp [e,hv,List.idxOf_cons,e']; omega
      · simp [e,hv]
theorem indexB_runs (xs : List Bool) (v : Bool) (hx : xs.length < 2 ^ 62) : Runs Try.prog tab (xs.length + 2) 117 [bools xs,bool v] (int (if v ∈ xs then (xs.idxOf v : Nat) else -1)) := by
  refine Runs.by (rs := [.tmp 4]) (N := 19) rfl Try.func117 rfl rfl (by simp) fun k hk => ?_
  have h := indexB_loop (vals := valsOf tab) (call := callAt Try.prog tab k) (n := k) xs v hx xs.length 0 k (by omega) (by omega)
  rw [show ((0 : Nat) : Int) = 0 from rfl,List.drop_zero,Nat.zero_add] at h
  by_cases hv : v ∈ xs
  · rw [if_pos hv] at h ⊢
    simp +decide -implicitDefEqProofs only [k117,go_sem,h]
    exact ⟨_,_,rfl,rfl⟩
  · rw [if_neg hv] at h ⊢
    simp +decide -implicitDefEqProofs only [k117,go_sem,h]
    exact ⟨_,_,rfl,rfl⟩
theorem containsB_runs (xs : List Bool) (v : Bool) (hx : xs.length < 2 ^ 50) : Runs Try.prog tab (xs.length + 3) 110 [bools xs,bool v] (bool (decide (v ∈ xs))) := by
  refine Runs.by (rs := [.tmp 4]) (N := 9) rfl Try.func110 rfl rfl (by simp) fun k hk => ?_
  have hc : ∀ h,callAt Try.prog tab k 117 [bools xs,bool v] h = some (int (if v ∈ xs then (xs.idxOf v : Nat) else -1),h) := fun h => indexB_runs xs v (by omega) k hk _ h (by simp +decide -implicitDefEqProofs only [depth,go_sem])
  by_cases hv : v ∈ xs
  · simp only [if_pos hv] at hc
    have d : decide ((xs.idxOf v : Int) ≥ 0) = true := by simp
    rw [decide_eq_true hv]
    simp +decide -implicitDefEqProofs only [k110,go_sem,hc,d]; exact ⟨_,_,rfl,rfl⟩
  · simp only [if_neg hv] at hc
    rw [decide_eq_false hv]
    simp +decide -implicitDefEqProofs only [k110,go_sem,hc]; exact ⟨_,_,rfl,rfl⟩
end Go.Proofs.Ytkcimaibaicdcaa.Tk
namespace Go.Proofs.Ytkcimaibaicdcaa.Tk
open Go.Tm Go.Tm.Tab
set_option maxRecDepth 100000
def phiB (x : Ins) : Bool := decide (x.op = 26)
def beh (l : List Ins) (k : Nat) : Bool := (l.take k).any fun x => !phiB x
def badE (z : Bool) (l : List Ins) (k : Nat) : Bool := (!decide (endsB (insAt l k).op = decide ((k : Int) = (l.length : Int) - 1))) || (phiB (insAt l k) && (beh l k || z))
def badTo (n : Nat) (t : Int) : Bool := decide (t < 1) || decide (t ≥ (n : Int))
def lastOf (l : List Ins) : Ins := insAt l ((l.length : Int) - 1)
def twiceB (into : List Int) : Bool := decide ((into.length : Int) = 2) && decide (rd into 0 = rd into 1)
def badW (n : Nat) (z : Bool) (l : List Ins) : Bool := decide ((l.length : Int) = 0) || ((List.range' 0 l.length).any (badE z l) || ((lastOf l).into.any (badTo n) || twiceB (lastOf l).into))
def badPhi (p : List Int) (x : Ins) : Bool := phiB x && !decide (x.into = p)
def badBW (l : List Block) (b : Nat) : Bool := badW l.length (decide ((b : Int) = 0)) (blkAt l b).ins
def badBP (l : List Block) (pv : List (List Int)) (b : Nat) : Bool := (blkAt l b).ins.any (badPhi (rowOfL pv b))
noncomputable def flowsB (l : List Block) : Bool := !(List.range' 0 l.length).any (badBW l) && (!decide (false ∈ reachOf l) && !(List.range' 0 l.length).any (badBP l (prevOf l)))
theorem any_eta (f : Nat → Bool) (n : Nat) : (List.range' 0 n).any (fun i => f i) = (List.range' 0 n).any f := rfl
theorem beh_next {l : List Ins} {k : Nat} (h : k < l.length) : beh l (k + 1) = (beh l k || !decide ((insAt l k).op = 26)) := by
 unfold beh
 rw [List.take_add_one,List.any_append,List.getElem?_eq_getElem h]
 simp [insAt,phiB,List.getD_eq_getElem?_getD,List.getElem?_eq_getElem h]
theorem wrap_last {n : Nat} (h : n < 2 ^ 60) : IntKind.i64.wrap ((n : Int) - 1) = (n : Int) - 1 := wrap_in (by omega) (by omega)
set_option maxHeartbeats 4000000 in
theorem flows_l0 {vals : FuncId → Bool} {call : CallF} {n : Nat} (b : Int) (z : Bool) (hz : decide (b = 0) = z) (p : Nat) (c d e : C) (l : List Ins) (hl : l.length < 2 ^ 50) (I : Heap → Prop) (hp : ∀ h x,I h → I (h ++ [x])) (hb0 : ∀ h,I h → h[p]? = some (.row 0 [inss l])) (hv : vals 56 = true) (he : ∀ op h,call 56 [int op] h = some (bool (endsB op),h)) (m : Nat) (hm : l.length < m) (h : Heap) (hI : I h) : ∃ h1,I h1 ∧ Tm.Loop Try.prog vals call n [1,3,4,5,17,18,19,29,30,31] k91b0 m ⟨[(1,.op 0 0),(3,int b),(4,.op p 0),(5,bool (beh l 0)),(17,c),(18,d),(19,e),(29,inss l),(30,int l.length),(31,int 0)],h⟩ = some (if (List.range' 0 l.length).any (badE z l) = true then (.ret,⟨[(2,bool false)],h1⟩) else (.exit 2,⟨[(1,.op 0 0),(3,int b),(4,.op p 0),(5,bool (beh l l.length)),(17,c),(18,d),(19,e),(29,inss l),(30,int l.length),(31,int l.length),(32,bool false)],h1⟩)) := by
 obtain ⟨h1,J,L⟩ := Loop_any (P := Try.prog) (vals := vals) (call := call) (n := n) (ks := [1,3,4,5,17,18,19,29,30,31]) (K := k91b0) (id := 2) l.length (fun i => badE z l i) (fun i => [(1,.op 0 0),(3,int b),(4,.op p 0),(5,bool (beh l i)),(17,c),(18,d),(19,e),(29,inss l),(30,int l.length),(31,int i)]) [(2,bool false)] [(1,.op 0 0),(3,int b),(4,.op p 0),(5,bool (beh l l.length)),(17,c),(18,d),(19,e),(29,inss l),(30,int l.length),(31,int l.length),(32,bool false)] I
  (fun i h hi hI => by
   have e1 : decide ((i : Int) < l.length) = true := by simp; omega
   have e2 : 0 ≤ (i : Int) ∧ (i : Int) < l.length := by omega
   have e3 := wrap_next (n := l.length) (i := i) (by omega) (by omega)
   have I1 := hp _ (.row 0 (encIns (insAt l i))) hI
   have g1 := hb0 _ I1
   have hbn := beh_next hi
   have w1 := wrap_last (n := l.length) (by omega)
   refine ⟨_,I1,?_⟩
   simp only [encIns] at g1
   obtain ⟨x1,q1⟩ : ∃ q,endsB (insAt l i).op = q := ⟨_,rfl⟩
   obtain ⟨x2,q2⟩ : ∃ q,decide ((i : Int) = (l.length : Int) - 1) = q := ⟨_,rfl⟩
   obtain ⟨x3,q3⟩ : ∃ q,decide ((insAt l i).op = 26) = q := ⟨_,rfl⟩
   obtain ⟨x4,q4⟩ : ∃ q,beh l i = q := ⟨_,rfl⟩
   unfold badE phiB
   rw [q1,q2,q3,q4]
   have g2 : (h ++ [.row 0 (encIns (insAt l i))])[h.length]? = some (.row 0 (encIns (insAt l i))) := by rw [get_new]
   simp only [encIns] at g2
   cases x1 <;> cases x2 <;> cases x3 <;> cases x4 <;> cases z <;> simp +decide -implicitDefEqProofs only [k91b0,go_sem,e1,e2,e3,set_new,encIns,g1,g2,hbn,w1,q1,q2,q3,q4,hz,he,hv])
  (fun h hI => by
   exact ⟨h,hI,by simp +decide -implicitDefEqProofs only [k91b0,go_sem,Int.lt_irrefl,decide_false]⟩) l.length 0 m h (by omega) hm hI
 simp only [show ((0 : Nat) : Int) = 0 from rfl] at L
 rw [any_eta] at L
 exact ⟨h1,J,L⟩
theorem flows_l1 {vals : FuncId → Bool} {call : CallF} {n : Nat} (a c d e : C) (u v w x : C) (nb : List Block) (l : List Int) (hl : l.length < 2 ^ 50) (h : Heap) (h0 : h[0]? = some (.row 0 [u,v,w,x,blocks nb])) (m : Nat) (hm : l.length < m) : Tm.Loop Try.prog vals call n [1,8,17,18,19,74,75,76] k91b1 m ⟨[(1,.op 0 0),(8,a),(17,c),(18,d),(19,e),(74,ints l),(75,int l.length),(76,int 0)],h⟩ = some (if l.any (badTo nb.length) = true then (.ret,⟨[(2,bool false)],h⟩) else (.exit 4,⟨[(1,.op 0 0),(8,a),(17,c),(18,d),(19,e),(74,ints l),(75,int l.length),(76,int l.length),(77,bool false)],h⟩)) := by
 obtain ⟨h1,e,L⟩ := Loop_any (P := Try.prog) (vals := vals) (call := call) (n := n) (ks := [1,8,17,18,19,74,75,76]) (K := k91b1) (id := 4) l.length (fun i => badTo nb.length (rd l i)) (fun i => [(1,.op 0 0),(8,a),(17,c),(18,d),(19,e),(74,ints l),(75,int l.length),(76,int i)]) [(2,bool false)] [(1,.op 0 0),(8,a),(17,c),(18,d),(19,e),(74,ints l),(75,int l.length),(76,int l.length),(77,bool false)] (fun g => g = h)
  (fun i g hi hg => ⟨h,rfl,by
   rw [hg]
   have e1 : decide ((i : Int) < l.length) = true := by simp; omega
   have e2 : 0 ≤ (i : Int) ∧ (i : Int) < l.length := by omega
   have e3 := wrap_next (n := l.length) (i := i) (by omega) (by omega)
   unfold badTo
   cases c1 : decide (rd l i < 1) <;> cases c2 : decide (rd l i ≥ (nb.length : Int)) <;> simp +decide -implicitDefEqProofs only [k91b1,go_sem,e1,e2,e3,set_new,c1,c2,h0]⟩)
  (fun g hg => ⟨h,rfl,by rw [hg]; simp +decide -implicitDefEqProofs only [k91b1,go_sem,Int.lt_irrefl,decide_false]⟩) l.length 0 m h (by omega) hm rfl
 rw [e] at L
 simp only [show ((0 : Nat) : Int) = 0 from rfl] at L
 rw [any_ints] at L
 exact L
set_option maxHeartbeats 4000000 in
theorem flows_l2 {vals : FuncId → Bool} {call : CallF} {n : Nat} (u v w x : C) (l : List Block) (hl2 : l.length < 2 ^ 50) (hb : ∀ b ∈ l,(b.ins.length < n ∧ b.ins.length < 2 ^ 50) ∧ ∀ y ∈ b.ins,y.into.length < n ∧ y.into.length < 2 ^ 50) (I : Heap → Prop) (hp : ∀ h x,I h → I (h ++ [x])) (hg : ∀ h,I h → h[0]? = some (.row 0 [u,v,w,x,blocks l])) (hv : vals 56 = true) (he : ∀ op h,call 56 [int op] h = some (bool (endsB op),h)) (m : Nat) (hm : l.length < m) (h : Heap) (hI : I h) : ∃ h1,I h1 ∧ Tm.Loop Try.prog vals call n [1,17,18,19] k91b2 m ⟨[(1,.op 0 0),(17,blocks l),(18,int l.length),(19,int 0)],h⟩ = some (if (List.range' 0 l.length).any (badBW l) = true then (.ret,⟨[(2,bool false)],h1⟩) else (.exit 0,⟨[(1,.op 0 0),(17,blocks l),(18,int l.length),(19,int l.length),(20,bool false)],h1⟩)) := by
 obtain ⟨h1,J,L⟩ := Loop_any (P := Try.prog) (vals := vals) (call := call) (n := n) (ks := [1,17,18,19]) (K := k91b2) (id := 0) l.length (fun i => badBW l i) (fun i => [(1,.op 0 0),(17,blocks l),(18,int l.length),(19,int i)]) [(2,bool false)] [(1,.op 0 0),(17,blocks l),(18,int l.length),(19,int l.length),(20,bool false)] I
  (fun i h hi hI => by
   have e1 : decide ((i : Int) < l.length) = true := by simp; omega
   have e2 : 0 ≤ (i : Int) ∧ (i : Int) < l.length := by omega
   have e3 := wrap_next (n := l.length) (i := i) (by omega) (by omega)
   have hx := blkAt_mem e2
   obtain ⟨hb1,hb2⟩ := hb _ hx
   generalize hb : (blkAt l i).ins = ins at hb1 hb2
   have I1 := hp _ (.row 0 [inss ins]) hI
   have p1 : (h ++ [Tm.Node.row 0 [inss ins]])[h.length]? = some (.row 0 [inss ins]) := by rw [get_new]
   obtain ⟨z,hz⟩ : ∃ q,decide ((i : Int) = 0) = q := ⟨_,rfl⟩
   obtain ⟨h1,⟨J1,P1⟩,L0⟩ := flows_l0 (vals := vals) (call := call) (n := n) i z hz h.length (blocks l) (int l.length) (int i) ins hb1.2 (fun g => I g ∧ g[h.length]? = some (.row 0 [inss ins])) (fun g y hg => ⟨hp g y hg.1,by rw [List.getElem?_append_left (List.getElem?_eq_some_iff.1 hg.2).1]; exact hg.2⟩) (fun g hg => hg.2) hv he n hb1.1 _ ⟨I1,p1⟩
   have bh0 : beh ins 0 = false := rfl
   rw [bh0] at L0
   unfold badBW badW
   rw [hz,hb]
   cases d0 : decide ((ins.length : Int) = 0) with
   | true =>
    refine ⟨_,I1,?_⟩
    simp +decide -implicitDefEqProofs only [k91b2,go_sem,e1,e2,e3,set_new,hb,d0]
   | false =>
    have hpos : ¬ ((ins.length : Int) = 0) := of_decide_eq_false d0
    cases c0 : (List.range' 0 ins.length).any (badE z ins) with
    | true =>
     rw [c0,if_pos rfl] at L0
     refine ⟨h1,J1,?_⟩
     simp +decide -implicitDefEqProofs only [k91b2,go_sem,e1,e2,e3,set_new,hb,d0,L0]
    | false =>
     rw [c0,if_neg (by decide)] at L0
     have w1 := wrap_last (n := ins.length) (by omega)
     have el : 0 ≤ (ins.length : Int) - 1 ∧ (ins.length : Int) - 1 < ins.length := by omega
     have hm : lastOf ins ∈ ins := insAt_mem el
     obtain ⟨hi1,hi2⟩ := hb2 _ hm
     have g2 := hg h1 J1
     unfold lastOf at hi1 hi2 ⊢
     generalize hla : insAt ins ((ins.length : Int) - 1) = la at hi1 hi2 ⊢
     have L1 := flows_l1 (vals := vals) (call := call) (n := n) (ints la.into) (blocks l) (int l.length) (int i) u v w x l la.into hi2 h1 g2 n hi1
     refine ⟨h1,J1,?_⟩
     cases c1 : la.into.any (badTo l.length) with
     | true =>
      rw [c1,if_pos rfl] at L1
      simp +decide -implicitDefEqProofs only [k91b2,go_sem,e1,e2,e3,set_new,hb,d0,L0,P1,w1,el,hla,L1]
     | false =>
      rw [c1,if_neg (by decide)] at L1
      unfold twiceB
      cases c2 : decide ((la.into.length : Int) = 2) with
      | false => simp +decide -implicitDefEqProofs only [k91b2,go_sem,e1,e2,e3,set_new,hb,d0,L0,P1,w1,el,hla,L1,c2,Bool.false_and,Bool.false_eq_true,if_false]
      | true =>
       have f0 : (0 : Int) ≤ 0 ∧ (0 : Int) < la.into.length := by have := of_decide_eq_true c2; omega
       have f1 : (0 : Int) ≤ 1 ∧ (1 : Int) < la.into.length := by have := of_decide_eq_true c2; omega
       cases c3 : decide (rd la.into 0 = rd la.into 1) <;> simp +decide -implicitDefEqProofs only [k91b2,go_sem,e1,e2,e3,set_new,hb,d0,L0,P1,w1,el,hla,L1,c2,c3,f0,f1,Bool.true_and])
  (fun h hI => by
   exact ⟨h,hI,by simp +decide -implicitDefEqProofs only [k91b2,go_sem,Int.lt_irrefl,decide_false]⟩) l.length 0 m h (by omega) hm hI
 simp only [show ((0 : Nat) : Int) = 0 from rfl] at L
 rw [any_eta] at L
 exact ⟨h1,J,L⟩
set_option maxHeartbeats 4000000 in
theorem flows_l3 {vals : FuncId → Bool} {call : CallF} {n : Nat} (pv : List (List Int)) (b : Int) (hbb : 0 ≤ b ∧ b < pv.length) (a c d : C) (l : List Ins) (hl : l.length < 2 ^ 50) (I : Heap → Prop) (hp : ∀ h x,I h → I (h ++ [x])) (hv : vals 111 = true) (hq : ∀ x ∈ l,∀ h,call 111 [ints x.into,ints (rowOfL pv b)] h = some (bool (decide (x.into = rowOfL pv b)),h)) (m : Nat) (hm : l.length < m) (h : Heap) (hI : I h) : ∃ h1,I h1 ∧ Tm.Loop Try.prog vals call n [11,12,109,110,111,117,118,119] k91b3 m ⟨[(11,rows pv),(12,int b),(109,a),(110,c),(111,d),(117,inss l),(118,int l.length),(119,int 0)],h⟩ = some (if l.any (badPhi (rowOfL pv b)) = true then (.ret,⟨[(2,bool false)],h1⟩) else (.exit 8,⟨[(11,rows pv),(12,int b),(109,a),(110,c),(111,d),(117,inss l),(118,int l.length),(119,int l.length),(120,bool false)],h1⟩)) := by
 obtain ⟨h1,J,L⟩ := Loop_any (P := Try.prog) (vals := vals) (call := call) (n := n) (ks := [11,12,109,110,111,117,118,119]) (K := k91b3) (id := 8) l.length (fun i => badPhi (rowOfL pv b) (insAt l i)) (fun i => [(11,rows pv),(12,int b),(109,a),(110,c),(111,d),(117,inss l),(118,int l.length),(119,int i)]) [(2,bool false)] [(11,rows pv),(12,int b),(109,a),(110,c),(111,d),(117,inss l),(118,int l.length),(119,int l.length),(120,bool false)] I
  (fun i h hi hI => by
   have e1 : decide ((i : Int) < l.length) = true := by simp; omega
   have e2 : 0 ≤ (i : Int) ∧ (i : Int) < l.length := by omega
   have e3 := wrap_next (n := l.length) (i := i) (by omega) (by omega)
   have I1 := hp _ (.row 0 (encIns (insAt l i))) hI
   have hq1 := hq _ (insAt_mem e2)
   refine ⟨_,I1,?_⟩
   unfold badPhi phiB
   cases c1 : decide ((insAt l i).op = 26) <;> cases c2 : decide ((insAt l i).into = rowOfL pv b) <;> simp +decide -implicitDefEqProofs only [k91b3,go_sem,e1,e2,e3,set_new,encIns,hbb,hq1,hv,c1,c2])
  (fun h hI => by
   exact ⟨h,hI,by simp +decide -implicitDefEqProofs only [k91b3,go_sem,Int.lt_irrefl,decide_false]⟩) l.length 0 m h (by omega) hm hI
 simp only [show ((0 : Nat) : Int) = 0 from rfl] at L
 rw [any_inss] at L
 exact ⟨h1,J,L⟩
theorem flows_l4 {vals : FuncId → Bool} {call : CallF} {n : Nat} (pv : List (List Int)) (l : List Block) (hpv : pv.length = l.length) (hl2 : l.length < 2 ^ 50) (hb : ∀ b ∈ l,b.ins.length < n ∧ b.ins.length < 2 ^ 50) (I : Heap → Prop) (hp : ∀ h x,I h → I (h ++ [x])) (hv : vals 111 = true) (hq : ∀ (b : Int),0 ≤ b ∧ b < l.length → ∀ x ∈ (blkAt l b).ins,∀ h,call 111 [ints x.into,ints (rowOfL pv b)] h = some (bool (decide (x.into = rowOfL pv b)),h)) (m : Nat) (hm : l.length < m) (h : Heap) (hI : I h) : ∃ h1,I h1 ∧ Tm.Loop Try.prog vals call n [11,109,110,111] k91b4 m ⟨[(11,rows pv),(109,blocks l),(110,int l.length),(111,int 0)],h⟩ = some (if (List.range' 0 l.length).any (badBP l pv) = true then (.ret,⟨[(2,bool false)],h1⟩) else (.exit 6,⟨[(11,rows pv),(109,blocks l),(110,int l.length),(111,int l.length),(112,bool false)],h1⟩)) := by
 obtain ⟨h1,J,L⟩ := Loop_any (P := Try.prog) (vals := vals) (call := call) (n := n) (ks := [11,109,110,111]) (K := k91b4) (id := 6) l.length (fun i => badBP l pv i) (fun i => [(11,rows pv),(109,blocks l),(110,int l.length),(111,int i)]) [(2,bool false)] [(11,rows pv),(109,blocks l),(110,int l.length),(111,int l.length),(112,bool false)] I
  (fun i h hi hI => by
   have e1 : decide ((i : Int) < l.length) = true := by simp; omega
   have e2 : 0 ≤ (i : Int) ∧ (i : Int) < l.length := by omega
   have e3 := wrap_next (n := l.length) (i := i) (by omega) (by omega)
   have hx := blkAt_mem e2
   have hb1 := hb _ hx
   obtain ⟨h1,J1,L1⟩ := flows_l3 (vals := vals) (call := call) (n := n) pv i (by omega) (blocks l) (int l.length) (int i) (blkAt l i).ins hb1.2 I hp hv (hq i e2) n hb1.1 _ (hp _ (.row 0 [inss (blkAt l i).ins]) hI)
   unfold badBP
   refine ⟨h1,J1,?_⟩
   cases c1 : (blkAt l i).ins.any (badPhi (rowOfL pv i)) with
   | true =>
    rw [c1,if_pos rfl] at L1
    simp +decide -implicitDefEqProofs only [k91b4,go_sem,e1,e2,e3,set_new,L1]
   | false =>
    rw [c1,if_neg (by decide)] at L1
    simp +decide -implicitDefEqProofs only [k91b4,go_sem,e1,e2,e3,set_new,L1])
  (fun h hI => by
   exact ⟨h,hI,by simp +decide -implicitDefEqProofs only [k91b4,go_sem,Int.lt_irrefl,decide_false]⟩) l.length 0 m h (by omega) hm hI
 simp only [show ((0 : Nat) : Int) = 0 from rfl] at L
 rw [any_eta] at L
 exact ⟨h1,J,L⟩
set_option maxHeartbeats 2000000 in
theorem wflows_runs (f : Tm.Func) (F : Fine f) : Runs Try.prog tab (2 ^ 36 + 100) 91 [.agg (encFunc f)] (bool (flowsB f.blocks)) := by
 refine Runs.by (rs := [.tmp 2]) (N := 138) rfl Try.func91 rfl rfl (by simp) fun k hk => ?_
 have b1 := F.blocks
 have hrl := reach_len f.blocks
 have hpl := prev_len f.blocks
 have he : ∀ op h,callAt Try.prog tab k 56 [int op] h = some (bool (endsB op),h) := fun op h => ends_runs op k (by omega) _ h (by simp only [mapC_cons,mapC_nil,depth,view_int,Option.bind_some])
 have hr : ∀ h,callAt Try.prog tab k 25 [.agg (encFunc f)] h = some (bools (reachOf f.blocks),h) := fun h => reach_runs f F k (by omega) _ h (by simp only [mapC_cons,mapC_nil,depth,view_func,Option.bind_some])
 have hpr : ∀ h,callAt Try.prog tab k 22 [.agg (encFunc f)] h = some (rows (prevOf f.blocks),h) := fun h => prev_runs f F k (by omega) _ h (by simp only [mapC_cons,mapC_nil,depth,view_func,Option.bind_some])
 have hct : ∀ h,callAt Try.prog tab k 110 [bools (reachOf f.blocks),bool false] h = some (bool (decide (false ∈ reachOf f.blocks)),h) := fun h => containsB_runs (reachOf f.blocks) false (by omega) k (by omega) _ h (by simp +decide -implicitDefEqProofs only [depth,go_sem])
 have hq : ∀ (b : Int),0 ≤ b ∧ b < f.blocks.length → ∀ x ∈ (blkAt f.blocks b).ins,∀ h,callAt Try.prog tab k 111 [ints x.into,ints (rowOfL (prevOf f.blocks) b)] h = some (bool (decide (x.into = rowOfL (prevOf f.blocks) b)),h) := fun b hb x hx h => by
  have := (F.into _ (blkAt_mem hb) x hx).2
  exact wequal_runs x.into _ (by omega) k (by omega) _ h (by simp +decide -implicitDefEqProofs only [depth,go_sem])
 have v1 : valsOf tab 56 = true := by decide
 have v2 : valsOf tab 111 = true := by decide
 generalize hc : callAt Try.prog tab k = call at *
 generalize hv : valsOf tab = vals at *
 rw [enc_func] at *
 generalize hI : Has 0 (.row 0 [str f.name,bool f.out,ints f.params,int f.result,blocks f.blocks]) = I
 have hp : ∀ h x,I h → I (h ++ [x]) := by rw [← hI]; exact fun h x H => H.push
 have hg : ∀ h,I h → h[0]? = some (.row 0 [str f.name,bool f.out,ints f.params,int f.result,blocks f.blocks]) := by rw [← hI]; exact fun h H => H
 have i0 : I [.row 0 [str f.name,bool f.out,ints f.params,int f.result,blocks f.blocks]] := by rw [← hI]; rfl
 obtain ⟨h1,I1,L1⟩ := flows_l2 (vals := vals) (call := call) (n := k) _ _ _ _ f.blocks (by omega) (fun b hb => ⟨by have := F.ins b hb; omega,fun y hy => by have := (F.into b hb y hy).2; omega⟩) I hp hg v1 he k (by omega) _ i0
 obtain ⟨h2,I2,L2⟩ := flows_l4 (vals := vals) (call := call) (n := k) (prevOf f.blocks) f.blocks hpl (by omega) (fun b hb => by have := F.ins b hb; omega) I hp v2 hq k (by omega) _ I1
 have g1 := hg h1 I1
 unfold flowsB
 cases x1 : (List.range' 0 f.blocks.length).any (badBW f.blocks) with
 | true =>
  rw [x1,if_pos rfl] at L1
  simp +decide -implicitDefEqProofs only [k91,go_sem,L1]; exact ⟨_,_,rfl,rfl⟩
 | false =>
  rw [x1,if_neg (by decide)] at L1
  cases x2 : decide (false ∈ reachOf f.blocks) with
  | true => simp +decide -implicitDefEqProofs only [k91,go_sem,L1,g1,hr,hct,x2]; exact ⟨_,_,rfl,rfl⟩
  | false =>
   cases x3 : (List.range' 0 f.blocks.length).any (badBP f.blocks (prevOf f.blocks)) with
   | true =>
    rw [x3,if_pos rfl] at L2
    simp +decide -implicitDefEqProofs only [k91,go_sem,L1,g1,hr,hct,x2,hpr,L2]; exact ⟨_,_,rfl,rfl⟩
   | false =>
    rw [x3,if_neg (by decide)] at L2
    simp +decide -implicitDefEqProofs only [k91,go_sem,L1,g1,hr,hct,x2,hpr,L2]; exact ⟨_,_,rfl,rfl⟩
end Go.Proofs.Ytkcimaibaicdcaa.Tk
namespace Go.Proofs.Ytkcimaibaicdcaa.Tk
open Go.Tm Go.Tm.Tab
set_option maxRecDepth 100000
end Go.Proofs.Ytkcimaibaicdcaa.Tk
namespace Go.Proofs.Ytkcimaibaicdcaa.Tk
open Go.Tm Go.Tm.Tab
set_option maxRecDepth 100000
structure IntoOk (x : Ins) : Prop where
 br : x.op = 28 → x.into.length = 2
 two : endsB x.op = true → x.into.length = 2 → x.op = 28
theorem any_no {f : Nat → Bool} {n : Nat} : (List.range' 0 n).any f = false ↔ ∀ k,k < n → f k = false := by
  rw [List.any_eq_false]
  constructor
  · intro h k hk; have := h k (by simp; omega); simpa using this
  · intro h k hk; rw [h k (by simp at hk; omega)]; decide
theorem insAt_get {l : List Ins} {k : Nat} (h : k < l.length) : insAt l k = l[k] := by
 simp [insAt,List.getD_eq_getElem?_getD,List.getElem?_eq_getElem h]
theorem reach_all (l : List Block) : decide (false ∈ reachOf l) = false ↔ ∀ b : Nat,b < l.length → rdOf false (reachOf l) b = true := by
  have hl := reach_len l
  rw [decide_eq_false_iff_not]
  constructor
  · intro h b hb
    refine Classical.byContradiction fun hq => h ?_
    rw [Bool.not_eq_true] at hq
    unfold rdOf at hq
    rw [Int.toNat_natCast,List.getD_eq_getElem?_getD,List.getElem?_eq_getElem (by omega)] at hq
    rw [← hq]; exact List.getElem_mem _
  · intro h hm
    obtain ⟨b,hb,e⟩ := List.getElem_of_mem hm
    have := h b (by omega)
    unfold rdOf at this
    rw [Int.toNat_natCast,List.getD_eq_getElem?_getD,List.getElem?_eq_getElem hb,Option.getD_some,e] at this
    exact absurd this (by decide)
end Go.Proofs.Ytkcimaibaicdcaa.Tk
namespace Go.Tm
theorem Loop_run {P : Program} {vals : FuncId → Bool} {call : CallF} {n : Nat} {ks : List Nat} {K : K} {id : Nat} (N : Nat) (Φ : Nat → St → Prop) (Ψ : St → Prop)
  (hs : ∀ i e h,i < N → Φ i ⟨e,h⟩ → ∃ s,Φ (i + 1) s ∧ exec P vals call n K ⟨keepE e ks,h⟩ = some (.normal,s))
  (he : ∀ e h,Φ N ⟨e,h⟩ → ∃ s,Ψ s ∧ exec P vals call n K ⟨keepE e ks,h⟩ = some (.exit id,s)) :
  ∀ (d i m : Nat) (e : Env) (h : Heap),i + d = N → d < m → Φ i ⟨e,h⟩ → ∃ s,Ψ s ∧ Tm.Loop P vals call n ks K m ⟨e,h⟩ = some (.exit id,s)
 | 0,i,m,e,h,hi,hm,hI => by
  obtain ⟨m,rfl⟩ : ∃ p,m = p + 1 := ⟨m - 1,by omega⟩
  obtain rfl : i = N := by omega
  obtain ⟨s,h1,h2⟩ := he e h hI
  exact ⟨s,h1,by rw [Tm.Loop_succ,h2]; rfl⟩
 | d + 1,i,m,e,h,hi,hm,hI => by
  obtain ⟨m,rfl⟩ : ∃ p,m = p + 1 := ⟨m - 1,by omega⟩
  obtain ⟨s,h1,h2⟩ := hs i e h (by omega) hI
  rw [Tm.Loop_succ,h2]
  obtain ⟨e',h'⟩ := s
  obtain ⟨s',h3,h4⟩ := Loop_run N Φ Ψ hs he d (i + 1) m e' h' (by omega) (by omega) h1
  exact ⟨s',h3,h4⟩
def GrowG {α : Type} (f : α → C) (h : Heap) (c : C) (out : List α) : Prop := (out = [] ∧ c = .v (.slice none 0 0)) ∨ (∃ l,c = .os l 0 out.length none ∧ h[l]? = some (.row 1 (out.map f)))
theorem GrowG.mono {α : Type} {f : α → C} {h h' : Heap} {c : C} {out : List α} (H : GrowG f h c out) (hh : ∀ (l : Nat) (nd : Node),h[l]? = some nd → h'[l]? = some nd) : GrowG f h' c out := by
  rcases H with h | ⟨l,hc,hl⟩
  · exact .inl h
  · exact .inr ⟨l,hc,hh _ _ hl⟩
theorem GrowG.push {α : Type} {f : α → C} {h : Heap} {x : Node} {c : C} {out : List α} (H : GrowG f h c out) : GrowG f (h ++ [x]) c out := H.mono fun l nd hl => by rw [List.getElem?_append_left (List.getElem?_eq_some_iff.1 hl).1]; exact hl
theorem GrowG.append {α : Type} {f : α → C} {h : Heap} {c : C} {out : List α} (H : GrowG f h c out) (v : α) (hn : out.length < maxRow) :
    ∃ c' h',appendTo h none 1 1 [f v] c = some (c',h') ∧ GrowG f h' c' (out ++ [v]) ∧ c' = .os h.length 0 (out.length + 1) none ∧ ∀ (l : Nat) (nd : Node),h[l]? = some nd → (∀ o k,c ≠ .os l 0 o k) → h'[l]? = some nd := by
  rcases H with ⟨rfl,rfl⟩ | ⟨l,rfl,hl⟩
  · refine ⟨_,_,by simp only [appendTo]; rw [if_neg (by decide),if_pos (by decide)]; rfl,.inr ⟨_,rfl,?_⟩,rfl,fun l nd hl _ => ?_⟩
    · simp [newRow,new]
    · simp only [newRow,new]; rw [List.getElem?_append_left (List.getElem?_eq_some_iff.1 hl).1]; exact hl
  · have hlt := (List.getElem?_eq_some_iff.1 hl).1
    refine ⟨_,_,by simp only [appendTo,hl]; rw [if_pos ⟨trivial,hn⟩]; simp only [Nat.one_ne_zero,if_false,Nat.zero_add,Nat.mul_one,List.length_map]; rw [if_neg (by omega),if_true],.inr ⟨h.length,by simp [newRow,new],?_⟩,by simp [newRow,new],fun l' nd hl' hne => ?_⟩
    · simp [newRow,new]
    · simp only [newRow,new]
      have e : l ≠ l' := fun e => hne _ _ (by rw [e])
      rw [List.getElem?_append_left (by rw [List.length_set]; exact (List.getElem?_eq_some_iff.1 hl').1),List.getElem?_set_ne e]
      exact hl'
instance : LawfulBEq ByteArray where
 rfl := (MapKept.bytes_beq _ _).2 rfl
 eq_of_beq h := (MapKept.bytes_beq _ _).1 h
structure MapOk (es : List MapEntry) (L : List ByteArray) : Prop where
 ent : ∀ e ∈ es,∃ s,s ∈ L ∧ e.key = .string s ∧ e.val = .int .i64 (L.count s : Nat)
 mem : ∀ s ∈ L,∃ e ∈ es,e.key = .string s
 one : ∀ (i j : Nat) (e e' : MapEntry),es[i]? = some e → es[j]? = some e' → e.key = e'.key → i = j
theorem MapOk.nil : MapOk [] [] := ⟨fun e h => by simp at h,fun s h => by simp at h,fun i j e e' h => by simp at h⟩
theorem same_no {s t : ByteArray} (h : t ≠ s) : Instr.sameNow .string (.string s) (.string t) = some false := by
 simp only [Instr.sameNow]
 cases hq : (s == t) with
 | false => rfl
 | true => exact absurd (by simpa using hq : s = t).symm h
theorem same_yes (s : ByteArray) : Instr.sameNow .string (.string s) (.string s) = some true := by simp [Instr.sameNow]
theorem find_no {s : ByteArray} : ∀ (es : List MapEntry) (i : Nat),(∀ e ∈ es,∃ t,e.key = .string t ∧ t ≠ s) → Instr.findNow .string (.string s) es i = some none
 | [],_,_ => rfl
 | e :: es,i,h => by
  obtain ⟨t,h1,h2⟩ := h e (List.mem_cons_self ..)
  unfold Instr.findNow
  rw [h1,same_no h2]
  exact find_no es (i + 1) fun e he => h e (List.mem_cons_of_mem _ he)
theorem find_yes {s : ByteArray} : ∀ (es : List MapEntry) (i : Nat),(∀ e ∈ es,∃ t,e.key = .string t) → (∃ e ∈ es,e.key = .string s) → ∃ (j : Nat) (e : MapEntry),es[j]? = some e ∧ e.key = .string s ∧ Instr.findNow .string (.string s) es i = some (some (i + j,e.val))
  | [],_,_,h => by obtain ⟨e,h,_⟩ := h; simp at h
  | e :: es,i,h,h2 => by
    obtain ⟨t,h1⟩ := h e (List.mem_cons_self ..)
    unfold Instr.findNow
    by_cases ht : t = s
    · subst ht
      rw [h1,same_yes]
      exact ⟨0,e,rfl,h1,rfl⟩
    · rw [h1,same_no ht]
      obtain ⟨x,hx,hk⟩ := h2
      have hx' : x ∈ es := by
        rcases List.mem_cons.1 hx with e2 | e2
        · subst e2; rw [h1] at hk; injection hk with hk; exact absurd hk ht
        · exact e2
      obtain ⟨j,e',g1,g2,g3⟩ := find_yes es (i + 1) (fun e he => h e (List.mem_cons_of_mem _ he)) ⟨x,hx',hk⟩
      exact ⟨j + 1,e',by simpa using g1,g2,by simp only; rw [g3]; rw [Nat.add_assoc,Nat.add_comm 1 j]⟩
theorem MapOk.find {es : List MapEntry} {L : List ByteArray} (H : MapOk es L) (s : ByteArray) :
    (s ∉ L ∧ Instr.findNow .string (.string s) es 0 = some none) ∨ (s ∈ L ∧ ∃ (j : Nat) (e : MapEntry),es[j]? = some e ∧ e.key = .string s ∧ Instr.findNow .string (.string s) es 0 = some (some (j,.int .i64 (L.count s : Nat)))) := by
  by_cases hs : s ∈ L
  · obtain ⟨j,e,g1,g2,g3⟩ := find_yes es 0 (fun e he => by obtain ⟨t,_,h1,_⟩ := H.ent e he; exact ⟨t,h1⟩) (H.mem s hs)
    obtain ⟨t,_,h1,h2⟩ := H.ent e (List.mem_of_getElem? g1)
    rw [h1] at g2
    injection g2 with g2
    subst g2
    exact .inr ⟨hs,j,e,g1,h1,by rw [g3,h2,Nat.zero_add]⟩
  · refine .inl ⟨hs,find_no _ _ fun e he => ?_⟩
    obtain ⟨t,h0,h1,h2⟩ := H.ent e he
    exact ⟨t,h1,fun e2 => hs (e2 ▸ h0)⟩
theorem count_more {L : List ByteArray} (s t : ByteArray) : (L ++ [s]).count t = L.count t + if s = t then 1 else 0 := by
  rw [List.count_append,List.count_singleton]
  congr 1
  by_cases h : s = t
  · subst h; simp
  · rw [if_neg h,if_neg (by simpa using h)]
theorem MapOk.push {es : List MapEntry} {L : List ByteArray} (H : MapOk es L) {s : ByteArray} (hs : s ∉ L) (ck : Nat) :
    MapOk (es ++ [⟨.string s,.int .i64 (L.count s + 1 : Nat),ck⟩]) (L ++ [s]) := by
  refine ⟨fun e he => ?_,fun t ht => ?_,fun i j e e' hi hj hk => ?_⟩
  · rcases List.mem_append.1 he with h | h
    · obtain ⟨t,h1,h2,h3⟩ := H.ent e h
      refine ⟨t,List.mem_append_left _ h1,h2,?_⟩
      rw [h3,count_more,if_neg (fun e : s = t => hs (by rw [e]; exact h1)),Nat.add_zero]
    · obtain rfl : e = _ := List.mem_singleton.1 h
      exact ⟨s,by simp,rfl,by rw [count_more,if_pos rfl]⟩
  · rcases List.mem_append.1 ht with h | h
    · obtain ⟨e,h1,h2⟩ := H.mem t h
      exact ⟨e,List.mem_append_left _ h1,h2⟩
    · obtain rfl : t = s := List.mem_singleton.1 h
      exact ⟨_,List.mem_append_right _ (List.mem_singleton.2 rfl),rfl⟩
  · have old : ∀ (i : Nat) (e : MapEntry),es[i]? = some e → e.key ≠ .string s := fun i e h hk => by
      obtain ⟨t,h1,h2,_⟩ := H.ent e (List.mem_of_getElem? h)
      rw [h2] at hk; injection hk with hk; exact hs (hk ▸ h1)
    have lt : ∀ (i : Nat) (e : MapEntry),(es ++ [⟨.string s,.int .i64 (L.count s + 1 : Nat),ck⟩])[i]? = some e → (es[i]? = some e) ∨ (i = es.length ∧ e.key = .string s) := fun i e h => by
      rcases Nat.lt_or_ge i es.length with h1 | h1
      · rw [List.getElem?_append_left h1] at h; exact .inl h
      · rw [List.getElem?_append_right h1] at h
        have : i - es.length = 0 := by have := (List.getElem?_eq_some_iff.1 h).1; simp at this; omega
        rw [this] at h
        injection h with h
        exact .inr ⟨by omega,by rw [← h]⟩
    rcases lt i e hi with a | ⟨a,b⟩ <;> rcases lt j e' hj with c | ⟨c,d⟩
    · exact H.one i j e e' a c hk
    · exact absurd (hk.trans d) (old i e a)
    · exact absurd (hk.symm.trans b) (old j e' c)
    · omega
theorem MapOk.modify {es : List MapEntry} {L : List ByteArray} (H : MapOk es L) {s : ByteArray} (hs : s ∈ L) {j : Nat} {e0 : MapEntry} (hj : es[j]? = some e0) (hk : e0.key = .string s) :
    MapOk (es.modify j fun e => { e with key := .string s,val := .int .i64 (L.count s + 1 : Nat) }) (L ++ [s]) := by
  have at_ : ∀ (i : Nat) (e : MapEntry),(es.modify j fun e => { e with key := .string s,val := .int .i64 (L.count s + 1 : Nat) })[i]? = some e → ∃ e1,es[i]? = some e1 ∧ e.key = e1.key ∧ (j = i → e.val = .int .i64 (L.count s + 1 : Nat)) ∧ (j ≠ i → e.val = e1.val) := fun i e h => by
    rw [List.getElem?_modify] at h
    cases hq : es[i]? with
    | none => rw [hq] at h; exact absurd h (by simp)
    | some e1 =>
      rw [hq] at h
      simp only [Option.map_eq_map,Option.map_some,Option.some.injEq] at h
      subst h
      by_cases hji : j = i
      · subst hji
        rw [hq] at hj; injection hj with hj; subst hj
        exact ⟨e1,rfl,by rw [if_pos rfl]; exact hk.symm,fun _ => by rw [if_pos rfl],fun h => absurd rfl h⟩
      · exact ⟨e1,rfl,by rw [if_neg hji],fun h => absurd h hji,fun _ => by rw [if_neg hji]⟩
  refine ⟨fun e he => ?_,fun t ht => ?_,fun i k e e' hi hk' hkk => ?_⟩
  · obtain ⟨i,hi⟩ := List.getElem?_of_mem he
    obtain ⟨e1,h1,h2,h3,h4⟩ := at_ i e hi
    obtain ⟨t,g1,g2,g3⟩ := H.ent e1 (List.mem_of_getElem? h1)
    refine ⟨t,List.mem_append_left _ g1,h2.trans g2,?_⟩
    by_cases hji : j = i
    · subst hji
      rw [h1] at hj; injection hj with hj; subst hj
      rw [hk] at g2; injection g2 with g2; subst g2
      rw [h3 rfl,count_more,if_pos rfl]
    · have : s ≠ t := fun e2 => hji (H.one j i e0 e1 hj h1 (by rw [hk,g2,e2]))
      rw [h4 hji,g3,count_more,if_neg this,Nat.add_zero]
  · have ht' : t ∈ L := by
      rcases List.mem_append.1 ht with h | h
      · exact h
      · obtain rfl : t = s := List.mem_singleton.1 h
        exact hs
    obtain ⟨e,h1,h2⟩ := H.mem t ht'
    obtain ⟨i,hi⟩ := List.getElem?_of_mem h1
    have : (es.modify j fun e => { e with key := .string s,val := .int .i64 (L.count s + 1 : Nat) })[i]? = some (if j = i then { e with key := .string s,val := .int .i64 (L.count s + 1 : Nat) } else e) := by
      rw [List.getElem?_modify,hi]
      by_cases hji : j = i
      · simp [hji]
      · simp [hji]
    obtain ⟨e1,g1,g2,_⟩ := at_ i _ this
    rw [hi] at g1; injection g1 with g1; subst g1
    exact ⟨_,List.mem_of_getElem? this,g2.trans h2⟩
  · obtain ⟨e1,h1,h2,_⟩ := at_ i e hi
    obtain ⟨e2,g1,g2,_⟩ := at_ k e' hk'
    exact H.one i k e1 e2 h1 g1 (by rw [← h2,← g2,hkk])
@[go_sem] theorem op_lookup {P : Program} {call : CallF} {al : Option Nat} {e : Env} {h : Heap} (t : TypeId) (x i : Operand) (ok : Bool) : stepOp P call al e h (.lookup t x i ok) = (ev e x).bind fun a => (ev e i).bind fun b => (lookupC P h t a b ok).bind fun r => some (r,h) := rfl
@[go_sem] theorem op_mapUpdate {P : Program} {call : CallF} {al : Option Nat} {e : Env} {h : Heap} (t : TypeId) (m k v : Operand) : stepOp P call al e h (.mapUpdate t m k v) = (ev e m).bind fun a => (ev e k).bind fun b => (ev e v).bind fun c => (mapUpdC P h t a b c).bind fun h => some (undefC,h) := rfl
@[go_sem] theorem op_makeMap {P : Program} {call : CallF} {al : Option Nat} {e : Env} {h : Heap} (t : TypeId) : stepOp P call al e h (.makeMap t none) = some (.om (new h al (.map #[] 0)).1,(new h al (.map #[] 0)).2) := rfl
theorem lookup_at {P : Program} {h : Heap} {t kt et : TypeId} {l : Nat} {es : Array MapEntry} {ck : Nat} {L : List ByteArray} (hm : mapE P t = some (kt,et)) (hk : P.underlying kt = some .string) (hz : zeroV P et = some (.int .i64 0)) (hl : h[l]? = some (.map es ck)) (H : MapOk es.toList L) (s : ByteArray) :
    lookupC P h t (.om l) (str s) false = some (int (L.count s : Nat)) := by
  simp only [lookupC,hl,lookupN,hm,findM,hk,hz,Option.bind_eq_bind,Option.bind_some,scalar_v,str,plainKey,if_true]
  rcases H.find s with ⟨h1,h2⟩ | ⟨h1,j,e,h2,h3,h4⟩
  · rw [h2]
    rw [List.count_eq_zero_of_not_mem h1]
    rfl
  · rw [h4]; rfl
theorem update_at {P : Program} {h : Heap} {t kt et : TypeId} {l : Nat} {es : Array MapEntry} {ck : Nat} {L : List ByteArray} (hm : mapE P t = some (kt,et)) (hk : P.underlying kt = some .string) (hl : h[l]? = some (.map es ck)) (H : MapOk es.toList L) (s : ByteArray) :
    ∃ es' ck',mapUpdC P h t (.om l) (str s) (int (L.count s + 1 : Nat)) = some (h.set l (.map es' ck')) ∧ MapOk es'.toList (L ++ [s]) := by
  simp only [mapUpdC,hl,mapUpdN,hm,findM,hk,Option.bind_eq_bind,Option.bind_some,scalar_v,str,int,plainKey,if_true]
  rcases H.find s with ⟨h1,h2⟩ | ⟨h1,j,e,h2,h3,h4⟩
  · rw [h2]
    exact ⟨_,_,rfl,by rw [Array.toList_push]; exact H.push h1 ck⟩
  · rw [h4]
    exact ⟨_,_,rfl,by rw [Array.toList_modify]; exact H.modify h1 h2 h3⟩
@[go_sem] theorem head_strs (xs : List ByteArray) (k : Nat) : ((xs.map str).drop k).head? = if k < xs.length then some (str (xs.getD k ByteArray.empty)) else none := by
  rw [List.head?_drop,List.getElem?_map]
  split
  · rename_i h; rw [List.getD_eq_getElem?_getD,List.getElem?_eq_getElem h]; rfl
  · rename_i h; rw [List.getElem?_eq_none (by omega)]; rfl
theorem take_next {α β : Type} (f : α → β) (z : α) {l : List α} {i : Nat} (h : i < l.length) : (l.take (i + 1)).map f = (l.take i).map f ++ [f (l.getD i z)] := by
 rw [List.take_add_one,List.map_append,List.getElem?_eq_getElem h,List.getD_eq_getElem?_getD,List.getElem?_eq_getElem h]; rfl
theorem Loop_anyI {P : Program} {vals : FuncId → Bool} {call : CallF} {n : Nat} {ks : List Nat} {K : K} {id : Nat} (N : Nat) (bad : Nat → Bool) (S : Nat → Env) (R T : Env) (I : Nat → Heap → Prop)
  (hs : ∀ i h,i < N → I i h → ∃ h',I (i + 1) h' ∧ exec P vals call n K ⟨keepE (S i) ks,h⟩ = some (if bad i = true then (.ret,⟨R,h'⟩) else (.normal,⟨S (i + 1),h'⟩)))
  (he : ∀ h,I N h → ∃ h',I N h' ∧ exec P vals call n K ⟨keepE (S N) ks,h⟩ = some (.exit id,⟨T,h'⟩)) :
  ∀ (d i m : Nat) (h : Heap),i + d = N → d < m → I i h → ∃ h' j,I j h' ∧ Tm.Loop P vals call n ks K m ⟨S i,h⟩ = some (if (List.range' i d).any bad = true then (.ret,⟨R,h'⟩) else (.exit id,⟨T,h'⟩))
 | 0,i,m,h,hi,hm,hI => by
  obtain ⟨m,rfl⟩ : ∃ p,m = p + 1 := ⟨m - 1,by omega⟩
  obtain rfl : i = N := by omega
  obtain ⟨h',h1,h2⟩ := he h hI
  exact ⟨h',_,h1,by rw [Tm.Loop_succ,h2]; rfl⟩
 | d + 1,i,m,h,hi,hm,hI => by
  obtain ⟨m,rfl⟩ : ∃ p,m = p + 1 := ⟨m - 1,by omega⟩
  obtain ⟨h',h1,h2⟩ := hs i h (by omega) hI
  rw [List.range'_succ,List.any_cons,Tm.Loop_succ,h2]
  cases hb : bad i with
  | true => exact ⟨h',_,h1,by rw [Bool.true_or]; rfl⟩
  | false =>
   obtain ⟨h'',j,h3,h4⟩ := Loop_anyI N bad S R T I hs he d (i + 1) m h' (by omega) (by omega) h1
   exact ⟨h'',j,h3,by rw [Bool.false_or,← h4]; rfl⟩
def badN (nm : ByteArray → Bool) (L : List ByteArray) (i : Nat) : Bool := !nm (L.getD i ByteArray.empty) || decide (0 < (L.take i).count (L.getD i ByteArray.empty))
def namesOf (m : Module) : List ByteArray := ((m.externs.map (·.name) ++ m.globals.map (·.name)) ++ m.tables.map (·.name)) ++ m.funcs.map (·.name)
end Go.Tm
namespace Go.Proofs.Ytkcimaibaicdcaa.Tk
open Go.Tm Go.Tm.Tab
set_option maxRecDepth 100000
theorem map112 : mapE Try.prog 112 = some (9,3) := by kernel_rfl
theorem und9 : Try.prog.underlying 9 = some .string := by kernel_rfl
theorem zero3 : zeroV Try.prog 3 = some (.int .i64 0) := by kernel_rfl
theorem wrap1 {k : Nat} (h : k < 2 ^ 40) : IntKind.i64.wrap ((k : Int) + 1) = ((k + 1 : Nat) : Int) := by rw [wrap_in (by omega) (by omega)]; omega
theorem gt1 {k : Nat} : decide (((k + 1 : Nat) : Int) > 1) = decide (0 < k) := decide_eq_decide.2 (by omega)
theorem count_self (L : List ByteArray) (s : ByteArray) : (L ++ [s]).count s = L.count s + 1 := by rw [count_more,if_pos rfl]
theorem named_l0 {vals : FuncId → Bool} {call : CallF} {n : Nat} (l : List Extern) (hl : l.length < 2 ^ 20) (M : Tm.Node) (out0 : List ByteArray) (ho : out0.length < 2 ^ 20) (m : Nat) (hm : l.length < m) (c : C) (h : Heap) (hg : GrowG str h c out0) (h0 : h[0]? = some M) (hc : ∀ o k,c ≠ .os 0 0 o k) :
    ∃ c' h',Tm.Loop Try.prog vals call n [1,3,16,17,18] k89b0 m ⟨[(1,.op 0 0),(3,c),(16,externs l),(17,int l.length),(18,int 0)],h⟩ = some (.exit 0,⟨[(1,.op 0 0),(3,c'),(16,externs l),(17,int l.length),(18,int l.length),(19,bool false)],h'⟩) ∧ GrowG str h' c' (out0 ++ l.map (·.name)) ∧ h'[0]? = some M ∧ ∀ o k,c' ≠ .os 0 0 o k := by
  have hmr : (2 : Nat) ^ 22 < maxRow := by decide
  obtain ⟨s,⟨c',h',rfl,g1,g2,g3⟩,L⟩ := Loop_run (P := Try.prog) (vals := vals) (call := call) (n := n) (ks := [1,3,16,17,18]) (K := k89b0) (id := 0) l.length
    (fun i s => ∃ c h,s = ⟨[(1,.op 0 0),(3,c),(16,externs l),(17,int l.length),(18,int i)],h⟩ ∧ GrowG str h c (out0 ++ (l.take i).map (·.name)) ∧ h[0]? = some M ∧ ∀ o k,c ≠ .os 0 0 o k)
    (fun s => ∃ c h,s = ⟨[(1,.op 0 0),(3,c),(16,externs l),(17,int l.length),(18,int l.length),(19,bool false)],h⟩ ∧ GrowG str h c (out0 ++ l.map (·.name)) ∧ h[0]? = some M ∧ ∀ o k,c ≠ .os 0 0 o k)
    (fun i e h hi ⟨c,h2,hs,g1,g2,g3⟩ => by
      cases hs
      have e1 : decide ((i : Int) < l.length) = true := by simp; omega
      have e2 : 0 ≤ (i : Int) ∧ (i : Int) < l.length := by omega
      have e3 := wrap_next (n := l.length) (i := i) (by omega) (by omega)
      obtain ⟨c',h',a1,a2,a3,a4⟩ := ((g1.push (x := .row 0 (encExtern (extAt l i)))).push (x := .row 1 [str (extAt l i).name])).append (extAt l i).name (by simp; omega)
      refine ⟨_,⟨c',h',rfl,?_,?_,?_⟩,by simp only [encExtern] at a1; simp +decide -implicitDefEqProofs only [k89b0,go_sem,e1,e2,e3,set_new,encExtern,a1]⟩
      · rw [take_next (fun x : Extern => x.name) default hi,← List.append_assoc]; exact a2
      · refine a4 0 M ?_ g3
        rw [List.getElem?_append_left (by simp),List.getElem?_append_left (List.getElem?_eq_some_iff.1 g2).1]; exact g2
      · intro o k hq; rw [a3] at hq; simp at hq)
    (fun e h ⟨c,h2,hs,g1,g2,g3⟩ => by
      cases hs
      refine ⟨_,⟨c,_,rfl,?_,g2,g3⟩,by simp +decide -implicitDefEqProofs only [k89b0,go_sem,Int.lt_irrefl,decide_false]⟩
      rw [List.take_length] at g1; exact g1)
    l.length 0 m _ h (by omega) hm ⟨c,h,rfl,by simpa using hg,h0,hc⟩
  exact ⟨c',h',L,g1,g2,g3⟩
theorem named_l1 {vals : FuncId → Bool} {call : CallF} {n : Nat} (l : List Tm.Global) (hl : l.length < 2 ^ 20) (M : Tm.Node) (out0 : List ByteArray) (ho : out0.length < 2 ^ 20) (m : Nat) (hm : l.length < m) (c : C) (h : Heap) (hg : GrowG str h c out0) (h0 : h[0]? = some M) (hc : ∀ o k,c ≠ .os 0 0 o k) :
    ∃ c' h',Tm.Loop Try.prog vals call n [1,3,29,30,31] k89b1 m ⟨[(1,.op 0 0),(3,c),(29,globals l),(30,int l.length),(31,int 0)],h⟩ = some (.exit 2,⟨[(1,.op 0 0),(3,c'),(29,globals l),(30,int l.length),(31,int l.length),(32,bool false)],h'⟩) ∧ GrowG str h' c' (out0 ++ l.map (·.name)) ∧ h'[0]? = some M ∧ ∀ o k,c' ≠ .os 0 0 o k := by
  have hmr : (2 : Nat) ^ 22 < maxRow := by decide
  obtain ⟨s,⟨c',h',rfl,g1,g2,g3⟩,L⟩ := Loop_run (P := Try.prog) (vals := vals) (call := call) (n := n) (ks := [1,3,29,30,31]) (K := k89b1) (id := 2) l.length
    (fun i s => ∃ c h,s = ⟨[(1,.op 0 0),(3,c),(29,globals l),(30,int l.length),(31,int i)],h⟩ ∧ GrowG str h c (out0 ++ (l.take i).map (·.name)) ∧ h[0]? = some M ∧ ∀ o k,c ≠ .os 0 0 o k)
    (fun s => ∃ c h,s = ⟨[(1,.op 0 0),(3,c),(29,globals l),(30,int l.length),(31,int l.length),(32,bool false)],h⟩ ∧ GrowG str h c (out0 ++ l.map (·.name)) ∧ h[0]? = some M ∧ ∀ o k,c ≠ .os 0 0 o k)
    (fun i e h hi ⟨c,h2,hs,g1,g2,g3⟩ => by
      cases hs
      have e1 : decide ((i : Int) < l.length) = true := by simp; omega
      have e2 : 0 ≤ (i : Int) ∧ (i : Int) < l.length := by omega
      have e3 := wrap_next (n := l.length) (i := i) (by omega) (by omega)
      obtain ⟨c',h',a1,a2,a3,a4⟩ := ((g1.push (x := .row 0 (encGlobal (gloAt l i)))).push (x := .row 1 [str (gloAt l i).name])).append (gloAt l i).name (by simp; omega)
      refine ⟨_,⟨c',h',rfl,?_,?_,?_⟩,by simp only [encGlobal] at a1; simp +decide -implicitDefEqProofs only [k89b1,go_sem,e1,e2,e3,set_new,encGlobal,a1]⟩
      · rw [take_next (fun x : Tm.Global => x.name) default hi,← List.append_assoc]; exact a2
      · refine a4 0 M ?_ g3
        rw [List.getElem?_append_left (by simp),List.getElem?_append_left (List.getElem?_eq_some_iff.1 g2).1]; exact g2
      · intro o k hq; rw [a3] at hq; simp at hq)
    (fun e h ⟨c,h2,hs,g1,g2,g3⟩ => by
      cases hs
      refine ⟨_,⟨c,_,rfl,?_,g2,g3⟩,by simp +decide -implicitDefEqProofs only [k89b1,go_sem,Int.lt_irrefl,decide_false]⟩
      rw [List.take_length] at g1; exact g1)
    l.length 0 m _ h (by omega) hm ⟨c,h,rfl,by simpa using hg,h0,hc⟩
  exact ⟨c',h',L,g1,g2,g3⟩
theorem named_l2 {vals : FuncId → Bool} {call : CallF} {n : Nat} (l : List Table) (hl : l.length < 2 ^ 20) (M : Tm.Node) (out0 : List ByteArray) (ho : out0.length < 2 ^ 20) (m : Nat) (hm : l.length < m) (c : C) (h : Heap) (hg : GrowG str h c out0) (h0 : h[0]? = some M) (hc : ∀ o k,c ≠ .os 0 0 o k) :
    ∃ c' h',Tm.Loop Try.prog vals call n [1,3,42,43,44] k89b2 m ⟨[(1,.op 0 0),(3,c),(42,tables l),(43,int l.length),(44,int 0)],h⟩ = some (.exit 4,⟨[(1,.op 0 0),(3,c'),(42,tables l),(43,int l.length),(44,int l.length),(45,bool false)],h'⟩) ∧ GrowG str h' c' (out0 ++ l.map (·.name)) ∧ h'[0]? = some M ∧ ∀ o k,c' ≠ .os 0 0 o k := by
  have hmr : (2 : Nat) ^ 22 < maxRow := by decide
  obtain ⟨s,⟨c',h',rfl,g1,g2,g3⟩,L⟩ := Loop_run (P := Try.prog) (vals := vals) (call := call) (n := n) (ks := [1,3,42,43,44]) (K := k89b2) (id := 4) l.length
    (fun i s => ∃ c h,s = ⟨[(1,.op 0 0),(3,c),(42,tables l),(43,int l.length),(44,int i)],h⟩ ∧ GrowG str h c (out0 ++ (l.take i).map (·.name)) ∧ h[0]? = some M ∧ ∀ o k,c ≠ .os 0 0 o k)
    (fun s => ∃ c h,s = ⟨[(1,.op 0 0),(3,c),(42,tables l),(43,int l.length),(44,int l.length),(45,bool false)],h⟩ ∧ GrowG str h c (out0 ++ l.map (·.name)) ∧ h[0]? = some M ∧ ∀ o k,c ≠ .os 0 0 o k)
    (fun i e h hi ⟨c,h2,hs,g1,g2,g3⟩ => by
      cases hs
      have e1 : decide ((i : Int) < l.length) = true := by simp; omega
      have e2 : 0 ≤ (i : Int) ∧ (i : Int) < l.length := by omega
      have e3 := wrap_next (n := l.length) (i := i) (by omega) (by omega)
      obtain ⟨c',h',a1,a2,a3,a4⟩ := ((g1.push (x := .row 0 (encTable (tblAt l i)))).push (x := .row 1 [str (tblAt l i).name])).append (tblAt l i).name (by simp; omega)
      refine ⟨_,⟨c',h',rfl,?_,?_,?_⟩,by simp only [encTable] at a1; simp +decide -implicitDefEqProofs only [k89b2,go_sem,e1,e2,e3,set_new,encTable,a1]⟩
      · rw [take_next (fun x : Table => x.name) default hi,← List.append_assoc]; exact a2
      · refine a4 0 M ?_ g3
        rw [List.getElem?_append_left (by simp),List.getElem?_append_left (List.getElem?_eq_some_iff.1 g2).1]; exact g2
      · intro o k hq; rw [a3] at hq; simp at hq)
    (fun e h ⟨c,h2,hs,g1,g2,g3⟩ => by
      cases hs
      refine ⟨_,⟨c,_,rfl,?_,g2,g3⟩,by simp +decide -implicitDefEqProofs only [k89b2,go_sem,Int.lt_irrefl,decide_false]⟩
      rw [List.take_length] at g1; exact g1)
    l.length 0 m _ h (by omega) hm ⟨c,h,rfl,by simpa using hg,h0,hc⟩
  exact ⟨c',h',L,g1,g2,g3⟩
theorem named_l3 {vals : FuncId → Bool} {call : CallF} {n : Nat} (l : List Tm.Func) (hl : l.length < 2 ^ 20) (M : Tm.Node) (out0 : List ByteArray) (ho : out0.length < 2 ^ 20) (m : Nat) (hm : l.length < m) (c : C) (h : Heap) (hg : GrowG str h c out0) (h0 : h[0]? = some M) (hc : ∀ o k,c ≠ .os 0 0 o k) :
    ∃ c' h',Tm.Loop Try.prog vals call n [3,55,56,57] k89b3 m ⟨[(3,c),(55,funcs l),(56,int l.length),(57,int 0)],h⟩ = some (.exit 6,⟨[(3,c'),(55,funcs l),(56,int l.length),(57,int l.length),(58,bool false)],h'⟩) ∧ GrowG str h' c' (out0 ++ l.map (·.name)) ∧ h'[0]? = some M ∧ ∀ o k,c' ≠ .os 0 0 o k := by
  have hmr : (2 : Nat) ^ 22 < maxRow := by decide
  obtain ⟨s,⟨c',h',rfl,g1,g2,g3⟩,L⟩ := Loop_run (P := Try.prog) (vals := vals) (call := call) (n := n) (ks := [3,55,56,57]) (K := k89b3) (id := 6) l.length
    (fun i s => ∃ c h,s = ⟨[(3,c),(55,funcs l),(56,int l.length),(57,int i)],h⟩ ∧ GrowG str h c (out0 ++ (l.take i).map (·.name)) ∧ h[0]? = some M ∧ ∀ o k,c ≠ .os 0 0 o k)
    (fun s => ∃ c h,s = ⟨[(3,c),(55,funcs l),(56,int l.length),(57,int l.length),(58,bool false)],h⟩ ∧ GrowG str h c (out0 ++ l.map (·.name)) ∧ h[0]? = some M ∧ ∀ o k,c ≠ .os 0 0 o k)
    (fun i e h hi ⟨c,h2,hs,g1,g2,g3⟩ => by
      cases hs
      have e1 : decide ((i : Int) < l.length) = true := by simp; omega
      have e2 : 0 ≤ (i : Int) ∧ (i : Int) < l.length := by omega
      have e3 := wrap_next (n := l.length) (i := i) (by omega) (by omega)
      obtain ⟨c',h',a1,a2,a3,a4⟩ := ((g1.push (x := .row 0 (encFunc (fnAt l i)))).push (x := .row 1 [str (fnAt l i).name])).append (fnAt l i).name (by simp; omega)
      refine ⟨_,⟨c',h',rfl,?_,?_,?_⟩,by simp only [encFunc] at a1; simp +decide -implicitDefEqProofs only [k89b3,go_sem,e1,e2,e3,set_new,encFunc,a1]⟩
      · rw [take_next (fun x : Tm.Func => x.name) default hi,← List.append_assoc]; exact a2
      · refine a4 0 M ?_ g3
        rw [List.getElem?_append_left (by simp),List.getElem?_append_left (List.getElem?_eq_some_iff.1 g2).1]; exact g2
      · intro o k hq; rw [a3] at hq; simp at hq)
    (fun e h ⟨c,h2,hs,g1,g2,g3⟩ => by
      cases hs
      refine ⟨_,⟨c,_,rfl,?_,g2,g3⟩,by simp +decide -implicitDefEqProofs only [k89b3,go_sem,Int.lt_irrefl,decide_false]⟩
      rw [List.take_length] at g1; exact g1)
    l.length 0 m _ h (by omega) hm ⟨c,h,rfl,by simpa using hg,h0,hc⟩
  exact ⟨c',h',L,g1,g2,g3⟩
theorem take_strs {L : List ByteArray} {i : Nat} (h : i < L.length) : L.take (i + 1) = L.take i ++ [L.getD i ByteArray.empty] := by
 have := take_next id ByteArray.empty h
 simpa using this
theorem named_l4 {vals : FuncId → Bool} {k : Nat} (hk : 20 ≤ k) (L : List ByteArray) (hL : L.length < 2 ^ 20) (q : Nat) (c : C) (m : Nat) (hm : L.length < m) (h : Heap) (es : Array MapEntry) (ck : Nat) (hq : h[q]? = some (.map es ck)) (he : MapOk es.toList []) (hg : GrowG str h c L) :
    ∃ h',Tm.Loop Try.prog vals (callAt Try.prog tab k) k [12,68,69,70] k89b4 m ⟨[(12,.om q),(68,c),(69,int L.length),(70,int 0)],h⟩ = some (if (List.range' 0 L.length).any (badN nameB L) = true then (.ret,⟨[(2,bool false)],h'⟩) else (.exit 8,⟨[(12,.om q),(68,c),(69,int L.length),(70,int L.length),(71,bool false)],h'⟩)) := by
  have hn : ∀ s h,callAt Try.prog tab k 54 [str s] h = some (bool (nameB s),h) := fun s h => name_runs s k hk _ h (by simp only [mapC_cons,mapC_nil,depth,view_str,Option.bind_some])
  generalize callAt Try.prog tab k = call at hn ⊢
  obtain ⟨h',j,_,L1⟩ := Loop_anyI (P := Try.prog) (vals := vals) (call := call) (n := k) (ks := [12,68,69,70]) (K := k89b4) (id := 8) L.length (badN nameB L) (fun i => [(12,.om q),(68,c),(69,int L.length),(70,int i)]) [(2,bool false)] [(12,.om q),(68,c),(69,int L.length),(70,int L.length),(71,bool false)]
    (fun i h => ∃ es ck,h[q]? = some (.map es ck) ∧ MapOk es.toList (L.take i) ∧ GrowG str h c L)
    (fun i h hi ⟨es,ck,h1,h2,h3⟩ => by
      have e1 : decide ((i : Int) < L.length) = true := by simp; omega
      have e2 : 0 ≤ (i : Int) ∧ (i : Int) < L.length := by omega
      have e3 := wrap_next (n := L.length) (i := i) (by omega) (by omega)
      generalize hs : L.getD i ByteArray.empty = s
      have hcn : (L.take i).count s < 2 ^ 40 := Nat.lt_of_le_of_lt List.count_le_length (by rw [List.length_take]; omega)
      obtain ⟨es',ck',u1,u2⟩ := update_at map112 und9 h1 h2 s
      have l1 := lookup_at map112 und9 zero3 h1 h2 s
      have l2 := lookup_at (h := h.set q (.map es' ck')) map112 und9 zero3 (List.getElem?_set_self (List.getElem?_eq_some_iff.1 h1).1) u2 s
      rw [count_self] at l2
      rcases h3 with ⟨rfl,_⟩ | ⟨p,rfl,hp⟩
      · simp at hi
      · refine ⟨h.set q (.map es' ck'),⟨es',ck',List.getElem?_set_self (List.getElem?_eq_some_iff.1 h1).1,by rw [take_strs hi,hs]; exact u2,.inr ⟨p,rfl,?_⟩⟩,?_⟩
        · rw [List.getElem?_set_ne (fun e => by rw [e,hp] at h1; simp at h1)]; exact hp
        · unfold badN
          rw [hs]
          have hj : (i : Int).toNat * 1 < L.length := by omega
          have hs2 : L.getD ((i : Int).toNat * 1) ByteArray.empty = s := by rw [← hs]; simp
          cases c1 : nameB s <;> cases c2 : decide (0 < (L.take i).count s) <;> (rw [← gt1] at c2; simp +decide -implicitDefEqProofs only [k89b4,go_sem,e1,e2,e3,hp,hj,hs2,l1,wrap1 hcn,u1,l2,hn,c1,c2,Nat.zero_add,Int.toNat_natCast,Nat.mul_one,hi,hs]))
    (fun h ⟨es,ck,h1,h2,h3⟩ => ⟨h,⟨es,ck,h1,h2,h3⟩,by simp +decide -implicitDefEqProofs only [k89b4,go_sem,Int.lt_irrefl,decide_false]⟩)
    L.length 0 m h (by omega) hm ⟨es,ck,hq,he,hg⟩
  exact ⟨h',L1⟩
def namedB (m : Tm.Module) : Bool := !(List.range' 0 (namesOf m).length).any (badN nameB (namesOf m))
set_option maxHeartbeats 2000000 in
theorem wnamed_runs (m : Tm.Module) (F : FineM m) : Runs Try.prog tab 200 89 [.agg (encModule m)] (bool (namedB m)) := by
  refine Runs.by (rs := [.tmp 2]) (N := 88) rfl Try.func89 rfl rfl (by simp) fun k hk => ?_
  have b1 := F.externs
  have b2 := F.globals
  have b3 := F.tables
  have b4 := F.funcs
  have hlen : (namesOf m).length < 100 := by simp [namesOf]; omega
  obtain ⟨c1,h1,L1,g1,m1,n1⟩ := named_l0 (vals := valsOf tab) (call := callAt Try.prog tab k) (n := k) m.externs (by omega) (.row 0 [externs m.externs,globals m.globals,tables m.tables,funcs m.funcs]) [] (by simp) k (by omega) (.v (.slice none 0 0)) [.row 0 [externs m.externs,globals m.globals,tables m.tables,funcs m.funcs]] (.inl ⟨rfl,rfl⟩) rfl (by simp)
  obtain ⟨c2,h2,L2,g2,m2,n2⟩ := named_l1 (vals := valsOf tab) (call := callAt Try.prog tab k) (n := k) m.globals (by omega) (.row 0 [externs m.externs,globals m.globals,tables m.tables,funcs m.funcs]) _ (by simp; omega) k (by omega) c1 h1 g1 m1 n1
  obtain ⟨c3,h3,L3,g3,m3,n3⟩ := named_l2 (vals := valsOf tab) (call := callAt Try.prog tab k) (n := k) m.tables (by omega) (.row 0 [externs m.externs,globals m.globals,tables m.tables,funcs m.funcs]) _ (by simp; omega) k (by omega) c2 h2 g2 m2 n2
  obtain ⟨c4,h4,L4,g4,m4,n4⟩ := named_l3 (vals := valsOf tab) (call := callAt Try.prog tab k) (n := k) m.funcs (by omega) (.row 0 [externs m.externs,globals m.globals,tables m.tables,funcs m.funcs]) _ (by simp; omega) k (by omega) c3 h3 g3 m3 n3
  have g4 : GrowG str h4 c4 (namesOf m) := by simpa [namesOf] using g4
  obtain ⟨h5,L5⟩ := named_l4 (vals := valsOf tab) (k := k) (by omega) (namesOf m) (by omega) h4.length c4 k (by omega) (h4 ++ [.map #[] 0]) #[] 0 (by simp) MapOk.nil g4.push
  have hl : lenS c4 = some (int (namesOf m).length) := by
    rcases g4 with ⟨e1,rfl⟩ | ⟨p,rfl,_⟩
    · rw [e1]; rfl
    · rfl
  rw [enc_module]
  unfold namedB
  cases x : (List.range' 0 (namesOf m).length).any (badN nameB (namesOf m)) with
  | true =>
    rw [x,if_pos rfl] at L5
    simp +decide -implicitDefEqProofs only [k89,go_sem,L1,L2,L3,L4,L5,m1,m2,m3,hl]; exact ⟨_,_,rfl,rfl⟩
  | false =>
    rw [x,if_neg (by decide)] at L5
    simp +decide -implicitDefEqProofs only [k89,go_sem,L1,L2,L3,L4,L5,m1,m2,m3,hl]; exact ⟨_,_,rfl,rfl⟩
end Go.Proofs.Ytkcimaibaicdcaa.Tk
namespace Go.Tm
def GrowC (h : Heap) (c : C) (out : List Int) : Prop := ∃ l cap,c = .os l 0 out.length cap ∧ (cap = none ∨ cap = some out.length) ∧ h[l]? = some (.row 1 (out.map int))
theorem GrowC.mono {h h' : Heap} {c : C} {out : List Int} (H : GrowC h c out) (hh : ∀ (l : Nat) (nd : Node),h[l]? = some nd → h'[l]? = some nd) : GrowC h' c out := by
 obtain ⟨l,cap,e,e2,hl⟩ := H
 exact ⟨l,cap,e,e2,hh _ _ hl⟩
theorem GrowC.push {h : Heap} {x : Node} {c : C} {out : List Int} (H : GrowC h c out) : GrowC (h ++ [x]) c out := H.mono fun l nd hl => by rw [List.getElem?_append_left (List.getElem?_eq_some_iff.1 hl).1]; exact hl
theorem GrowC.len {h : Heap} {c : C} {out : List Int} (H : GrowC h c out) : lenS c = some (int out.length) := by
 obtain ⟨l,cap,rfl,_,_⟩ := H
 rfl
theorem GrowC.view {h : Heap} {c : C} {out : List Int} (H : GrowC h c out) {cl : Bool} {n : Nat} : view cl h (n + 2) c = some (ints out) := by
 obtain ⟨l,cap,rfl,_,hl⟩ := H
 exact view_os_ints hl
theorem takeN_all (xs : List C) : takeN xs.length xs = some xs := by simp [takeN]
theorem GrowC.append {h : Heap} {c : C} {out : List Int} (H : GrowC h c out) (v : Int) (hn : out.length < maxRow) :
    ∃ c' h',appendTo h none 1 1 [int v] c = some (c',h') ∧ GrowC h' c' (out ++ [v]) ∧ c' = .os h.length 0 (out.length + 1) none ∧ ∀ (l : Nat) (nd : Node),h[l]? = some nd → (∀ o cp,c ≠ .os l 0 o cp) → h'[l]? = some nd := by
  obtain ⟨l,cap,rfl,hcap,hl⟩ := H
  have hlt := (List.getElem?_eq_some_iff.1 hl).1
  rcases hcap with rfl | rfl
  · refine ⟨.os h.length 0 (out.length + 1) none,h.set l .dead ++ [.row 1 (out.map int ++ [int v])],?_,⟨h.length,none,by simp,.inl rfl,?_⟩,rfl,fun l' nd hl' hne => ?_⟩
    · simp only [appendTo,hl]
      rw [if_pos ⟨trivial,hn⟩]
      simp only [Nat.one_ne_zero,if_false,Nat.zero_add,Nat.mul_one,List.length_map]
      rw [if_neg (by omega),if_true]
      simp only [newRow,new_none_1,new_none_2,List.length_set,List.drop_zero]
    · rw [List.getElem?_append_right (by simp),List.length_set,Nat.sub_self,List.map_append]; rfl
    · have e : l ≠ l' := fun e => hne _ _ (by rw [e])
      rw [List.getElem?_append_left (by rw [List.length_set]; exact (List.getElem?_eq_some_iff.1 hl').1),List.getElem?_set_ne e]
      exact hl'
  · have ht : takeN (out.length * 1) ((out.map int).drop 0) = some (out.map int) := by
      rw [List.drop_zero,Nat.mul_one]; have := takeN_all (out.map int); rwa [List.length_map] at this
    refine ⟨.os h.length 0 (out.length + 1) none,h ++ [.row 1 (out.map int ++ [int v])],?_,⟨h.length,none,by simp,.inl rfl,?_⟩,rfl,fun l' nd hl' hne => ?_⟩
    · simp only [appendTo,hl]
      rw [if_pos ⟨trivial,hn⟩,if_neg (by omega),ht]
      simp only [newRow,new_none_1,new_none_2]
    · rw [List.getElem?_append_right (by simp),Nat.sub_self,List.map_append]; rfl
    · rw [List.getElem?_append_left (List.getElem?_eq_some_iff.1 hl').1]; exact hl'
theorem GrowC.first {h : Heap} {l : Nat} {z : Int} (xs : List Int) (hl : h[l]? = some (.row 1 [int z])) (hn : xs.length < 2 ^ 20) :
    ∃ c' h',appendTo h none 1 xs.length (xs.map int) (.os l 0 1 (some 1)) = some (c',h') ∧ GrowC h' c' (z :: xs) ∧ (∀ (k : Nat) (nd : Node),h[k]? = some nd → k ≠ l → h'[k]? = some nd) ∧ ∃ q o cp,c' = .os q 0 o cp ∧ l ≤ q := by
  have hmr : (2 : Nat) ^ 22 < maxRow := by decide
  have hlt := (List.getElem?_eq_some_iff.1 hl).1
  cases xs with
  | nil =>
    refine ⟨.os l 0 1 (some 1),h.set l (.row 1 [int z]),?_,⟨l,some 1,rfl,.inr rfl,?_⟩,fun k nd hk hne => by rw [List.getElem?_set_ne (Ne.symm hne)]; exact hk,l,_,_,rfl,Nat.le_refl _⟩
    · simp only [appendTo,hl]
      rw [if_pos ⟨trivial,by simp; omega⟩,if_pos (by simp),if_pos (by simp)]
      rfl
    · rw [List.getElem?_set_self hlt]; rfl
  | cons x xs =>
    simp only [List.length_cons] at hn
    refine ⟨.os h.length 0 (1 + (xs.length + 1)) none,h ++ [.row 1 (int z :: (x :: xs).map int)],?_,⟨h.length,none,by simp; omega,.inl rfl,?_⟩,fun k nd hk _ => ?_,h.length,_,_,rfl,by omega⟩
    · simp only [appendTo,hl,List.length_cons]
      rw [if_pos ⟨trivial,by omega⟩,if_neg (by omega),show takeN (1 * 1) (([int z] : List C).drop 0) = some [int z] from rfl]
      simp only [newRow,new_none_1,new_none_2]
      rfl
    · rw [List.getElem?_append_right (by simp),Nat.sub_self]; rfl
    · rw [List.getElem?_append_left (List.getElem?_eq_some_iff.1 hk).1]; exact hk
theorem srcOf_ints (h : Heap) (xs : List Int) : srcOf h 1 (ints xs) = some (xs.length,xs.map int) := by
 have h2 : takeN (xs.length * 1) (xs.map int) = some (xs.map int) := by rw [Nat.mul_one]; have := takeN_all (xs.map int); rwa [List.length_map] at this
 change ((takeN (xs.length * 1) (xs.map int)).map fun ys => (xs.length,ys)) = _
 rw [h2]; rfl
theorem takeN_map (xs : List Int) : takeN (xs.length * 1) (xs.map int) = some (xs.map int) := by
 rw [Nat.mul_one]; have := takeN_all (xs.map int); rwa [List.length_map] at this
def tyI (x : Ins) : Bool := !decide (x.type = 0)
def tsI (l : List Ins) : List Int := (l.filter tyI).map (·.type)
def tsB (l : List Block) : List Int := l.flatMap fun b => tsI b.ins
theorem take_ins {l : List Ins} {i : Nat} (h : i < l.length) : l.take (i + 1) = l.take i ++ [insAt l i] := by
 rw [List.take_add_one,List.getElem?_eq_getElem h]; simp [insAt,List.getD_eq_getElem?_getD,List.getElem?_eq_getElem h]
theorem take_blk {l : List Block} {i : Nat} (h : i < l.length) : l.take (i + 1) = l.take i ++ [blkAt l i] := by
 rw [List.take_add_one,List.getElem?_eq_getElem h]; simp [blkAt,List.getD_eq_getElem?_getD,List.getElem?_eq_getElem h]
theorem tsI_next {l : List Ins} {i : Nat} (h : i < l.length) : tsI (l.take (i + 1)) = tsI (l.take i) ++ if tyI (insAt l i) = true then [(insAt l i).type] else [] := by
 rw [take_ins h]
 unfold tsI
 rw [List.filter_append,List.map_append]
 cases hq : tyI (insAt l i) <;> simp [List.filter,hq]
theorem tsB_next {l : List Block} {i : Nat} (h : i < l.length) : tsB (l.take (i + 1)) = tsB (l.take i) ++ tsI (blkAt l i).ins := by
 rw [take_blk h]; simp [tsB]
theorem tsI_le (l : List Ins) : (tsI l).length ≤ l.length := by unfold tsI; rw [List.length_map]; exact List.length_filter_le _ _
theorem tsB_le (M : Nat) : ∀ (l : List Block),(∀ b ∈ l,b.ins.length ≤ M) → (tsB l).length ≤ l.length * M
 | [],_ => by simp [tsB]
 | b :: l,h => by
  have h1 := tsB_le M l fun b hb => h b (List.mem_cons_of_mem _ hb)
  have h2 := h b (List.mem_cons_self ..)
  have h3 := tsI_le b.ins
  simp only [tsB,List.flatMap_cons,List.length_append,List.length_cons,Nat.add_mul] at h1 ⊢
  omega
def typesOf (f : Func) : List Int := (0 :: f.params) ++ tsB f.blocks
end Go.Tm
namespace Go.Proofs.Ytkcimaibaicdcaa.Tk
open Go.Tm Go.Tm.Tab
set_option maxRecDepth 100000
theorem wtypes_l0 {vals : FuncId → Bool} {call : CallF} {n : Nat} (x y z : C) (l : List Ins) (hl : l.length < 2 ^ 20) (M : Tm.Node)  (out0 : List Int) (ho : out0.length < 2 ^ 20) (m : Nat) (hm : l.length < m) (c : C) (h : Heap) (hg : GrowC h c out0) (h0 : h[0]? = some M) (hc : (∀ o cp,c ≠ .os 0 0 o cp)) :
    ∃ c' h',Tm.Loop Try.prog vals call n [3,13,14,15,20,21,22] k113b0 m ⟨[(3,c),(13,x),(14,y),(15,z),(20,inss l),(21,int l.length),(22,int 0)],h⟩ = some (.exit 2,⟨[(3,c'),(13,x),(14,y),(15,z),(20,inss l),(21,int l.length),(22,int l.length),(23,bool false)],h'⟩) ∧ GrowC h' c' (out0 ++ tsI l) ∧ h'[0]? = some M ∧ ∀ o cp,c' ≠ .os 0 0 o cp := by
  have hmr : (2 : Nat) ^ 22 < maxRow := by decide
  obtain ⟨s,⟨c',h',rfl,g1,g2,g3⟩,L⟩ := Loop_run (P := Try.prog) (vals := vals) (call := call) (n := n) (ks := [3,13,14,15,20,21,22]) (K := k113b0) (id := 2) l.length
    (fun i s => ∃ c h,s = ⟨[(3,c),(13,x),(14,y),(15,z),(20,inss l),(21,int l.length),(22,int i)],h⟩ ∧ GrowC h c (out0 ++ tsI (l.take i)) ∧ h[0]? = some M ∧ (∀ o cp,c ≠ .os 0 0 o cp))
    (fun s => ∃ c h,s = ⟨[(3,c),(13,x),(14,y),(15,z),(20,inss l),(21,int l.length),(22,int l.length),(23,bool false)],h⟩ ∧ GrowC h c (out0 ++ tsI l) ∧ h[0]? = some M ∧ (∀ o cp,c ≠ .os 0 0 o cp))
    (fun i e h hi ⟨c,h2,hs,g1,g2,g3⟩ => by
      cases hs
      have e1 : decide ((i : Int) < l.length) = true := by simp; omega
      have e2 : 0 ≤ (i : Int) ∧ (i : Int) < l.length := by omega
      have e3 := wrap_next (n := l.length) (i := i) (by omega) (by omega)
      have hle := tsI_le (l.take i)
      have htl : (l.take i).length ≤ l.length := by rw [List.length_take]; omega
      cases c1 : decide ((insAt l i).type = 0) with
      | true =>
        refine ⟨_,⟨c,h ++ [.row 0 (encIns (insAt l i))],rfl,?_,?_,g3⟩,by simp +decide -implicitDefEqProofs only [k113b0,go_sem,e1,e2,e3,set_new,encIns,c1]⟩
        · rw [tsI_next hi]; unfold tyI; rw [c1]; simpa using g1.push
        · exact (by rw [List.getElem?_append_left (List.getElem?_eq_some_iff.1 g2).1]; exact g2)
      | false =>
        obtain ⟨c',h',a1,a2,a3,a4⟩ := ((g1.push (x := .row 0 (encIns (insAt l i)))).push (x := .row 1 [int (insAt l i).type])).append (insAt l i).type (by simp; omega)
        refine ⟨_,⟨c',h',rfl,?_,?_,?_⟩,by simp only [encIns] at a1; simp +decide -implicitDefEqProofs only [k113b0,go_sem,e1,e2,e3,set_new,encIns,c1,a1]⟩
        · rw [tsI_next hi]; unfold tyI; rw [c1,← List.append_assoc]; exact a2
        · refine a4 0 _ ?_ g3
          rw [List.getElem?_append_left (by simp),List.getElem?_append_left (List.getElem?_eq_some_iff.1 g2).1]; exact g2
        · intro o cp hq; rw [a3] at hq; simp at hq)
    (fun e h ⟨c,h2,hs,g1,g2,g3⟩ => by
      cases hs
      refine ⟨_,⟨c,_,rfl,?_,g2,g3⟩,by simp +decide -implicitDefEqProofs only [k113b0,go_sem,Int.lt_irrefl,decide_false]⟩
      rw [List.take_length] at g1; exact g1)
    l.length 0 m _ h (by omega) hm ⟨c,h,rfl,by simpa [tsI] using hg,h0,hc⟩
  exact ⟨c',h',L,g1,g2,g3⟩
theorem rtypes_l0 {vals : FuncId → Bool} {call : CallF} {n : Nat} (u v w x : C) (bl : List Block) (q : Int) (hq : 0 ≤ q ∧ q < bl.length) (hl : (blkAt bl q).ins.length < 2 ^ 20) (M : Tm.Node) (hM : M = .row 0 [u,v,w,x,blocks bl]) (out0 : List Int) (ho : out0.length < 2 ^ 20) (m : Nat) (hm : (blkAt bl q).ins.length < m) (c : C) (h : Heap) (hg : GrowC h c out0) (h0 : h[0]? = some M) (hc : (∀ o cp,c ≠ .os 0 0 o cp)) :
    ∃ c' h',Tm.Loop Try.prog vals call n [1,3,4,5] k94b0 m ⟨[(1,.op 0 0),(3,c),(4,int q),(5,int 0)],h⟩ = some (.exit 2,⟨[(1,.op 0 0),(3,c'),(4,int q),(5,int (blkAt bl q).ins.length),(26,bool false)],h'⟩) ∧ GrowC h' c' (out0 ++ tsI (blkAt bl q).ins) ∧ h'[0]? = some M ∧ ∀ o cp,c' ≠ .os 0 0 o cp := by
  have hmr : (2 : Nat) ^ 22 < maxRow := by decide
  obtain ⟨s,⟨c',h',rfl,g1,g2,g3⟩,L⟩ := Loop_run (P := Try.prog) (vals := vals) (call := call) (n := n) (ks := [1,3,4,5]) (K := k94b0) (id := 2) (blkAt bl q).ins.length
    (fun i s => ∃ c h,s = ⟨[(1,.op 0 0),(3,c),(4,int q),(5,int i)],h⟩ ∧ GrowC h c (out0 ++ tsI ((blkAt bl q).ins.take i)) ∧ h[0]? = some M ∧ (∀ o cp,c ≠ .os 0 0 o cp))
    (fun s => ∃ c h,s = ⟨[(1,.op 0 0),(3,c),(4,int q),(5,int (blkAt bl q).ins.length),(26,bool false)],h⟩ ∧ GrowC h c (out0 ++ tsI (blkAt bl q).ins) ∧ h[0]? = some M ∧ (∀ o cp,c ≠ .os 0 0 o cp))
    (fun i e h hi ⟨c,h2,hs,g1,g2,g3⟩ => by
      cases hs
      subst hM
      have e1 : decide ((i : Int) < (blkAt bl q).ins.length) = true := by simp; omega
      have e2 : 0 ≤ (i : Int) ∧ (i : Int) < (blkAt bl q).ins.length := by omega
      have e3 := wrap_next (n := (blkAt bl q).ins.length) (i := i) (by omega) (by omega)
      have hle := tsI_le ((blkAt bl q).ins.take i)
      have htl : ((blkAt bl q).ins.take i).length ≤ (blkAt bl q).ins.length := by rw [List.length_take]; omega
      cases c1 : decide ((insAt (blkAt bl q).ins i).type = 0) with
      | true =>
        refine ⟨_,⟨c,h,rfl,?_,?_,g3⟩,by simp +decide -implicitDefEqProofs only [k94b0,go_sem,e1,e2,e3,set_new,encIns,c1,hq,g2]⟩
        · rw [tsI_next hi]; unfold tyI; rw [c1]; simpa using g1
        · exact g2
      | false =>
        obtain ⟨c',h',a1,a2,a3,a4⟩ := (g1.push (x := .row 1 [int (insAt (blkAt bl q).ins i).type])).append (insAt (blkAt bl q).ins i).type (by simp; omega)
        refine ⟨_,⟨c',h',rfl,?_,?_,?_⟩,by simp +decide -implicitDefEqProofs only [k94b0,go_sem,e1,e2,e3,set_new,encIns,c1,a1,hq,g2]⟩
        · rw [tsI_next hi]; unfold tyI; rw [c1,← List.append_assoc]; exact a2
        · refine a4 0 _ ?_ g3
          rw [List.getElem?_append_left (List.getElem?_eq_some_iff.1 g2).1]; exact g2
        · intro o cp hq; rw [a3] at hq; simp at hq)
    (fun e h ⟨c,h2,hs,g1,g2,g3⟩ => by
      cases hs
      subst hM
      refine ⟨_,⟨c,_,rfl,?_,g2,g3⟩,by simp +decide -implicitDefEqProofs only [k94b0,go_sem,Int.lt_irrefl,decide_false,hq,g2]⟩
      rw [List.take_length] at g1; exact g1)
    (blkAt bl q).ins.length 0 m _ h (by omega) hm ⟨c,h,rfl,by simpa [tsI] using hg,h0,hc⟩
  exact ⟨c',h',L,g1,g2,g3⟩
theorem wtypes_l1 {vals : FuncId → Bool} {call : CallF} {n : Nat} (bl : List Block) (hl : bl.length ≤ 16) (hb : ∀ b ∈ bl,b.ins.length ≤ 90 ∧ b.ins.length < n) (M : Tm.Node)  (out0 : List Int) (ho : out0.length < 2 ^ 10) (m : Nat) (hm : bl.length < m) (c : C) (h : Heap) (hg : GrowC h c out0) (h0 : h[0]? = some M) (hc : (∀ o cp,c ≠ .os 0 0 o cp)) :
  ∃ c' h',Tm.Loop Try.prog vals call n [3,13,14,15] k113b1 m ⟨[(3,c),(13,blocks bl),(14,int bl.length),(15,int 0)],h⟩ = some (.exit 0,⟨[(3,c'),(13,blocks bl),(14,int bl.length),(15,int bl.length),(16,bool false)],h'⟩) ∧ GrowC h' c' (out0 ++ tsB bl) ∧ h'[0]? = some M ∧ ∀ o cp,c' ≠ .os 0 0 o cp := by
 obtain ⟨s,⟨c',h',rfl,g1,g2,g3⟩,L⟩ := Loop_run (P := Try.prog) (vals := vals) (call := call) (n := n) (ks := [3,13,14,15]) (K := k113b1) (id := 0) bl.length
  (fun i s => ∃ c h,s = ⟨[(3,c),(13,blocks bl),(14,int bl.length),(15,int i)],h⟩ ∧ GrowC h c (out0 ++ tsB (bl.take i)) ∧ h[0]? = some M ∧ (∀ o cp,c ≠ .os 0 0 o cp))
  (fun s => ∃ c h,s = ⟨[(3,c),(13,blocks bl),(14,int bl.length),(15,int bl.length),(16,bool false)],h⟩ ∧ GrowC h c (out0 ++ tsB bl) ∧ h[0]? = some M ∧ (∀ o cp,c ≠ .os 0 0 o cp))
  (fun i e h hi ⟨c,h2,hs,g1,g2,g3⟩ => by
   cases hs
   have e1 : decide ((i : Int) < bl.length) = true := by simp; omega
   have e2 : 0 ≤ (i : Int) ∧ (i : Int) < bl.length := by omega
   have e3 := wrap_next (n := bl.length) (i := i) (by omega) (by omega)
   obtain ⟨hb1,hb2⟩ := hb _ (blkAt_mem e2)
   have hle := tsB_le 90 (bl.take i) fun b hb' => (hb b (List.mem_of_mem_take hb')).1
   have htl : (bl.take i).length ≤ 16 := by rw [List.length_take]; omega
   have hle2 : (bl.take i).length * 90 ≤ 16 * 90 := Nat.mul_le_mul_right _ htl
   obtain ⟨c',h',a1,a2,a3,a4⟩ := wtypes_l0 (vals := vals) (call := call) (n := n) (blocks bl) (int bl.length) (int i) (blkAt bl i).ins (by omega) M (out0 ++ tsB (bl.take i)) (by simp; omega) n hb2 c (_ ++ [.row 0 [inss (blkAt bl i).ins]]) g1.push (by rw [List.getElem?_append_left (List.getElem?_eq_some_iff.1 g2).1]; exact g2) g3
   refine ⟨_,⟨c',h',rfl,?_,a3,a4⟩,by simp +decide -implicitDefEqProofs only [k113b1,go_sem,e1,e2,e3,set_new,a1]⟩
   rw [tsB_next hi,← List.append_assoc]; exact a2)
  (fun e h ⟨c,h2,hs,g1,g2,g3⟩ => by
   cases hs
   refine ⟨_,⟨c,_,rfl,?_,g2,g3⟩,by simp +decide -implicitDefEqProofs only [k113b1,go_sem,Int.lt_irrefl,decide_false]⟩
   rw [List.take_length] at g1; exact g1)
  bl.length 0 m _ h (by omega) hm ⟨c,h,rfl,by simpa [tsB] using hg,h0,hc⟩
 exact ⟨c',h',L,g1,g2,g3⟩
theorem rtypes_l1 {vals : FuncId → Bool} {call : CallF} {n : Nat} (u v w x : C) (bl : List Block) (hl : bl.length ≤ 16) (hb : ∀ b ∈ bl,b.ins.length ≤ 90 ∧ b.ins.length < n) (M : Tm.Node) (hM : M = .row 0 [u,v,w,x,blocks bl]) (out0 : List Int) (ho : out0.length < 2 ^ 10) (m : Nat) (hm : bl.length < m) (c : C) (h : Heap) (hg : GrowC h c out0) (h0 : h[0]? = some M) (hc : (∀ o cp,c ≠ .os 0 0 o cp)) :
  ∃ c' h',Tm.Loop Try.prog vals call n [1,3,4] k94b1 m ⟨[(1,.op 0 0),(3,c),(4,int 0)],h⟩ = some (.exit 0,⟨[(1,.op 0 0),(3,c'),(4,int bl.length),(15,bool false)],h'⟩) ∧ GrowC h' c' (out0 ++ tsB bl) ∧ h'[0]? = some M ∧ ∀ o cp,c' ≠ .os 0 0 o cp := by
 obtain ⟨s,⟨c',h',rfl,g1,g2,g3⟩,L⟩ := Loop_run (P := Try.prog) (vals := vals) (call := call) (n := n) (ks := [1,3,4]) (K := k94b1) (id := 0) bl.length
  (fun i s => ∃ c h,s = ⟨[(1,.op 0 0),(3,c),(4,int i)],h⟩ ∧ GrowC h c (out0 ++ tsB (bl.take i)) ∧ h[0]? = some M ∧ (∀ o cp,c ≠ .os 0 0 o cp))
  (fun s => ∃ c h,s = ⟨[(1,.op 0 0),(3,c),(4,int bl.length),(15,bool false)],h⟩ ∧ GrowC h c (out0 ++ tsB bl) ∧ h[0]? = some M ∧ (∀ o cp,c ≠ .os 0 0 o cp))
  (fun i e h hi ⟨c,h2,hs,g1,g2,g3⟩ => by
   cases hs
   subst hM
   have e1 : decide ((i : Int) < bl.length) = true := by simp; omega
   have e2 : 0 ≤ (i : Int) ∧ (i : Int) < bl.length := by omega
   have e3 := wrap_next (n := bl.length) (i := i) (by omega) (by omega)
   obtain ⟨hb1,hb2⟩ := hb _ (blkAt_mem e2)
   have hle := tsB_le 90 (bl.take i) fun b hb' => (hb b (List.mem_of_mem_take hb')).1
   have htl : (bl.take i).length ≤ 16 := by rw [List.length_take]; omega
   have hle2 : (bl.take i).length * 90 ≤ 16 * 90 := Nat.mul_le_mul_right _ htl
   obtain ⟨c',h',a1,a2,a3,a4⟩ := rtypes_l0 (vals := vals) (call := call) (n := n) u v w x bl i e2 (by omega) _ rfl (out0 ++ tsB (bl.take i)) (by simp; omega) n hb2 c _ g1 g2 g3
   refine ⟨_,⟨c',h',rfl,?_,a3,a4⟩,by simp +decide -implicitDefEqProofs only [k94b1,go_sem,e1,e2,e3,set_new,a1,g2]⟩
   rw [tsB_next hi,← List.append_assoc]; exact a2)
  (fun e h ⟨c,h2,hs,g1,g2,g3⟩ => by
   cases hs
   subst hM
   refine ⟨_,⟨c,_,rfl,?_,g2,g3⟩,by simp +decide -implicitDefEqProofs only [k94b1,go_sem,Int.lt_irrefl,decide_false,g2]⟩
   rw [List.take_length] at g1; exact g1)
  bl.length 0 m _ h (by omega) hm ⟨c,h,rfl,by simpa [tsB] using hg,h0,hc⟩
 exact ⟨c',h',L,g1,g2,g3⟩
set_option maxHeartbeats 2000000 in
theorem wtypes_runs (f : Tm.Func) (F : Fine f) (hp : f.params.length ≤ 20) : Runs Try.prog tab 200 113 [.agg (encFunc f)] (ints (typesOf f)) := by
 refine Runs.by (rs := [.tmp 2]) (N := 37) rfl Try.func113 rfl rfl (by simp) fun k hk => ?_
 have b1 := F.blocks
 rw [enc_func]
 obtain ⟨c1,h1,a1,a2,a3,q,o,cp,rfl,a4⟩ := GrowC.first (h := [.row 0 [str f.name,bool f.out,ints f.params,int f.result,blocks f.blocks],.row 1 [int 0]]) (l := 1) (z := 0) f.params rfl (by omega)
 obtain ⟨c2,h2,L1,g1,_,_⟩ := wtypes_l1 (vals := valsOf tab) (call := callAt Try.prog tab k) (n := k) f.blocks b1 (fun b hb => by have := F.ins b hb; omega) (.row 0 [str f.name,bool f.out,ints f.params,int f.result,blocks f.blocks]) (0 :: f.params) (by simp; omega) k (by omega) _ h1 a2 (a3 0 _ rfl (by decide)) (fun o cp e => by simp at e; omega)
 have ht := takeN_map f.params
 have hm1 := a3 0 _ rfl (by decide)
 simp +decide -implicitDefEqProofs only [k113,go_sem,srcOf_ints,a1,L1,hm1]
 exact ⟨_,_,rfl,g1.view⟩
set_option maxHeartbeats 2000000 in
theorem rtypes_runs (f : Tm.Func) (F : Fine f) (hp : f.params.length ≤ 20) : Runs Try.prog tab 200 94 [.agg (encFunc f)] (ints (typesOf f)) := by
 refine Runs.by (rs := [.tmp 2]) (N := 46) rfl Try.func94 rfl rfl (by simp) fun k hk => ?_
 have b1 := F.blocks
 rw [enc_func]
 obtain ⟨c1,h1,a1,a2,a3,q,o,cp,rfl,a4⟩ := GrowC.first (h := [.row 0 [str f.name,bool f.out,ints f.params,int f.result,blocks f.blocks],.row 1 [int 0]]) (l := 1) (z := 0) f.params rfl (by omega)
 obtain ⟨c2,h2,L1,g1,_,_⟩ := rtypes_l1 (vals := valsOf tab) (call := callAt Try.prog tab k) (n := k) _ _ _ _ f.blocks b1 (fun b hb => by have := F.ins b hb; omega) (.row 0 [str f.name,bool f.out,ints f.params,int f.result,blocks f.blocks]) rfl (0 :: f.params) (by simp; omega) k (by omega) _ h1 a2 (a3 0 _ rfl (by decide)) (fun o cp e => by simp at e; omega)
 have ht := takeN_map f.params
 have hm1 := a3 0 _ rfl (by decide)
 simp +decide -implicitDefEqProofs only [k94,go_sem,srcOf_ints,a1,L1,hm1]
 exact ⟨_,_,rfl,g1.view⟩
theorem values_runs (f : Tm.Func) (F : Fine f) (hp : f.params.length ≤ 20) : Runs Try.prog tab 201 59 [.agg (encFunc f)] (int ((typesOf f).length - 1 : Int)) := by
 refine Runs.by (rs := [.tmp 2]) (N := 7) rfl Try.func59 rfl rfl (by simp) fun k hk => ?_
 have b1 := F.blocks
 have hle := tsB_le 90 f.blocks fun b hb => F.ins b hb
 have hle2 : f.blocks.length * 90 ≤ 16 * 90 := Nat.mul_le_mul_right _ b1
 have hlen : (typesOf f).length < 2 ^ 20 := by simp [typesOf]; omega
 have ht : ∀ h,callAt Try.prog tab k 94 [.agg (encFunc f)] h = some (ints (typesOf f),h) := fun h => rtypes_runs f F hp k (by omega) _ h (by simp only [mapC_cons,mapC_nil,depth,view_func,Option.bind_some])
 have hw := wrap_last (n := (typesOf f).length) (by omega)
 rw [enc_func] at *
 simp +decide -implicitDefEqProofs only [k59,go_sem,ht,hw]
 exact ⟨_,_,rfl,rfl⟩
end Go.Proofs.Ytkcimaibaicdcaa.Tk
namespace Go.Tm
def posI (b : Nat) (l : List Ins) (k : Nat) : List (Nat × Nat) := ((List.range k).filter fun (j : Nat) => tyI (insAt l j)).map fun (j : Nat) => (b,j)
def posB (bl : List Block) (b : Nat) : List (Nat × Nat) := (List.range b).flatMap fun (c : Nat) => posI c (blkAt bl c).ins (blkAt bl c).ins.length
def posU (bl : List Block) (b k : Nat) : List (Nat × Nat) := posB bl b ++ posI b (blkAt bl b).ins k
def posOf (bl : List Block) : List (Nat × Nat) := posB bl bl.length
theorem posI_next (b : Nat) (l : List Ins) (k : Nat) : posI b l (k + 1) = posI b l k ++ if tyI (insAt l k) = true then [(b,k)] else [] := by
 unfold posI
 rw [List.range_succ,List.filter_append,List.map_append]
 cases hq : tyI (insAt l k) <;> simp [List.filter,hq]
theorem posU_next (bl : List Block) (b k : Nat) : posU bl b (k + 1) = posU bl b k ++ if tyI (insAt (blkAt bl b).ins k) = true then [(b,k)] else [] := by
 unfold posU; rw [posI_next,List.append_assoc]
theorem posU_zero (bl : List Block) (b : Nat) : posU bl b 0 = posB bl b := by simp [posU,posI]
theorem posB_next (bl : List Block) (b : Nat) : posB bl (b + 1) = posU bl b (blkAt bl b).ins.length := by
 unfold posU posB; rw [List.range_succ,List.flatMap_append]; simp
theorem posB_zero (bl : List Block) : posB bl 0 = [] := rfl
theorem posI_len (b : Nat) (l : List Ins) : ∀ k,k ≤ l.length → (posI b l k).length = (tsI (l.take k)).length
 | 0,_ => rfl
 | k + 1,h => by
  rw [posI_next,tsI_next (by omega),List.length_append,List.length_append,posI_len b l k (by omega)]
  cases tyI (insAt l k) <;> rfl
theorem posB_len (bl : List Block) : ∀ b,b ≤ bl.length → (posB bl b).length = (tsB (bl.take b)).length
 | 0,_ => rfl
 | b + 1,h => by
  have hp := posI_len b (blkAt bl b).ins (blkAt bl b).ins.length (Nat.le_refl _)
  rw [List.take_length] at hp
  rw [posB_next,tsB_next (by omega),List.length_append,posU,List.length_append,posB_len bl b (by omega),hp]
theorem posOf_len (bl : List Block) : (posOf bl).length = (tsB bl).length := by
 unfold posOf; rw [posB_len bl _ (Nat.le_refl _),List.take_length]
def ahead (b k : Nat) (q : Nat × Nat) : Prop := q.1 < b ∨ (q.1 = b ∧ q.2 < k)
theorem posI_in {b : Nat} {l : List Ins} {k : Nat} {q : Nat × Nat} (h : q ∈ posI b l k) : q.1 = b ∧ q.2 < k ∧ tyI (insAt l q.2) = true := by
 unfold posI at h
 obtain ⟨j,hj,rfl⟩ := List.mem_map.1 h
 obtain ⟨h1,h2⟩ := List.mem_filter.1 hj
 exact ⟨rfl,by simpa using h1,h2⟩
theorem posB_in {bl : List Block} {b : Nat} {q : Nat × Nat} (h : q ∈ posB bl b) : q.1 < b ∧ q.2 < (blkAt bl q.1).ins.length := by
 unfold posB at h
 obtain ⟨c,hc,hq⟩ := List.mem_flatMap.1 h
 obtain ⟨h1,h2,_⟩ := posI_in hq
 have : c < b := by simpa using hc
 rw [h1]
 exact ⟨this,h2⟩
theorem posU_ahead {bl : List Block} {b k : Nat} {q : Nat × Nat} (h : q ∈ posU bl b k) : ahead b k q := by
  rcases List.mem_append.1 h with h | h
  · exact .inl (posB_in h).1
  · exact .inr ⟨(posI_in h).1,(posI_in h).2.1⟩
theorem posI_rest (b : Nat) (l : List Ins) (k : Nat) : ∀ d,∃ R,posI b l (k + d) = posI b l k ++ R ∧ ∀ q ∈ R,q.1 = b ∧ k ≤ q.2
  | 0 => ⟨[],by simp,by simp⟩
  | d + 1 => by
    obtain ⟨R,h1,h2⟩ := posI_rest b l k d
    refine ⟨R ++ if tyI (insAt l (k + d : Nat)) = true then [(b,k + d)] else [],by rw [← Nat.add_assoc,posI_next,h1,List.append_assoc],fun q hq => ?_⟩
    rcases List.mem_append.1 hq with h | h
    · exact h2 q h
    · split at h
      · obtain rfl := List.mem_singleton.1 h; exact ⟨rfl,by simp⟩
      · simp at h
theorem posB_rest (bl : List Block) (b : Nat) : ∀ d,∃ R,posB bl (b + d) = posB bl b ++ R ∧ ∀ q ∈ R,b ≤ q.1
  | 0 => ⟨[],by simp,by simp⟩
  | d + 1 => by
    obtain ⟨R,h1,h2⟩ := posB_rest bl b d
    refine ⟨R ++ posI (b + d) (blkAt bl (b + d : Nat)).ins (blkAt bl (b + d : Nat)).ins.length,by rw [← Nat.add_assoc,posB_next,posU,h1,List.append_assoc],fun q hq => ?_⟩
    rcases List.mem_append.1 hq with h | h
    · exact h2 q h
    · rw [(posI_in h).1]; omega
theorem posU_rest {bl : List Block} {b k : Nat} (hb : b < bl.length) (hk : k ≤ (blkAt bl b).ins.length) : ∃ R,posOf bl = posU bl b k ++ R ∧ ∀ q ∈ R,¬ ahead b k q := by
  obtain ⟨R1,h1,h2⟩ := posB_rest bl (b + 1) (bl.length - (b + 1))
  obtain ⟨R2,h3,h4⟩ := posI_rest b (blkAt bl b).ins k ((blkAt bl b).ins.length - k)
  rw [show b + 1 + (bl.length - (b + 1)) = bl.length by omega] at h1
  rw [show k + ((blkAt bl b).ins.length - k) = (blkAt bl b).ins.length by omega] at h3
  refine ⟨R2 ++ R1,by unfold posOf; rw [h1,posB_next]; unfold posU; rw [h3]; simp,fun q hq => ?_⟩
  unfold ahead
  rcases List.mem_append.1 hq with h | h
  · have := h4 q h; omega
  · have := h2 q h; omega
theorem pos_ahead {bl : List Block} {b k j : Nat} {q : Nat × Nat} (hb : b < bl.length) (hk : k ≤ (blkAt bl b).ins.length) (hj : (posOf bl)[j]? = some q) : j < (posU bl b k).length ↔ ahead b k q := by
  obtain ⟨R,h1,h2⟩ := posU_rest hb hk
  rw [h1] at hj
  constructor
  · intro h
    rw [List.getElem?_append_left h] at hj
    exact posU_ahead (List.mem_of_getElem? hj)
  · intro h
    refine Classical.byContradiction fun hq => ?_
    rw [List.getElem?_append_right (by omega)] at hj
    exact h2 q (List.mem_of_getElem? hj) h
theorem posU_le {bl : List Block} {b k : Nat} (hb : b < bl.length) (hk : k ≤ (blkAt bl b).ins.length) : (posU bl b k).length ≤ (posOf bl).length := by
 obtain ⟨R,h1,_⟩ := posU_rest hb hk
 rw [h1,List.length_append]; omega
theorem posOf_in {bl : List Block} {q : Nat × Nat} (h : q ∈ posOf bl) : q.1 < bl.length ∧ q.2 < (blkAt bl q.1).ins.length := posB_in h
end Go.Tm
namespace Go.Proofs.Ytkcimaibaicdcaa.Tk
open Go.Tm Go.Tm.Tab
set_option maxRecDepth 100000
theorem slice23 {h : Heap} {l : List Block} {b : Nat} (hb : b ≤ l.length) : sliceC Try.prog h 23 (blocks l) none (some (int b)) none = some (blocks (l.take b)) := by
 rw [slice_fact (e := 54) (s := 1) (by kernel_rfl) (by kernel_rfl)]
 have h2 : min b l.length = b := by omega
 simp [blocks,bnds,bound,intOf,capLeft,hb,List.map_take,h2]
theorem ahead_l0 {vals : FuncId → Bool} {call : CallF} {n : Nat} (x y z : C) (l : List Ins) (hl : l.length < 2 ^ 20) (w : Nat) (hw : w < 2 ^ 20) (m : Nat) (hm : l.length < m) (h : Heap) :
  ∃ h',Tm.Loop Try.prog vals call n [5,16,17,18,23,24,25] k112b0 m ⟨[(5,int w),(16,x),(17,y),(18,z),(23,inss l),(24,int l.length),(25,int 0)],h⟩ = some (.exit 2,⟨[(5,int (w + (tsI l).length : Nat)),(16,x),(17,y),(18,z),(23,inss l),(24,int l.length),(25,int l.length),(26,bool false)],h'⟩) := by
 obtain ⟨s,⟨h',rfl⟩,L⟩ := Loop_run (P := Try.prog) (vals := vals) (call := call) (n := n) (ks := [5,16,17,18,23,24,25]) (K := k112b0) (id := 2) l.length
  (fun i s => ∃ h,s = ⟨[(5,int (w + (tsI (l.take i)).length : Nat)),(16,x),(17,y),(18,z),(23,inss l),(24,int l.length),(25,int i)],h⟩)
  (fun s => ∃ h,s = ⟨[(5,int (w + (tsI l).length : Nat)),(16,x),(17,y),(18,z),(23,inss l),(24,int l.length),(25,int l.length),(26,bool false)],h⟩)
  (fun i e h hi ⟨h2,hs⟩ => by
   cases hs
   have e1 : decide ((i : Int) < l.length) = true := by simp; omega
   have e2 : 0 ≤ (i : Int) ∧ (i : Int) < l.length := by omega
   have e3 := wrap_next (n := l.length) (i := i) (by omega) (by omega)
   have hle := tsI_le (l.take i)
   have htl : (l.take i).length ≤ l.length := by rw [List.length_take]; omega
   have hw := wrap1 (k := w + (tsI (l.take i)).length) (by omega)
   have ht := tsI_next hi
   unfold tyI at ht
   cases c1 : decide ((insAt l i).type = 0) with
   | true =>
    rw [c1] at ht
    refine ⟨_,⟨h ++ [.row 0 (encIns (insAt l i))],rfl⟩,?_⟩
    rw [ht]
    simp +decide -implicitDefEqProofs only [k112b0,go_sem,e1,e2,e3,set_new,encIns,c1,hw,Bool.not_true,Bool.false_eq_true,if_false,List.append_nil]
   | false =>
    rw [c1] at ht
    refine ⟨_,⟨h ++ [.row 0 (encIns (insAt l i))],rfl⟩,?_⟩
    rw [ht]
    simp +decide -implicitDefEqProofs only [k112b0,go_sem,e1,e2,e3,set_new,encIns,c1,hw]
    simp [Nat.add_assoc])
  (fun e h ⟨h2,hs⟩ => by
   cases hs
   refine ⟨_,⟨h,rfl⟩,?_⟩
   simp +decide -implicitDefEqProofs only [k112b0,go_sem,Int.lt_irrefl,decide_false,List.take_length])
  l.length 0 m [(5,int w),(16,x),(17,y),(18,z),(23,inss l),(24,int l.length),(25,int 0)] h (by omega) hm ⟨h,by simp [tsI]⟩
 exact ⟨h',L⟩
end Go.Proofs.Ytkcimaibaicdcaa.Tk
namespace Go.Proofs.Ytkcimaibaicdcaa.Tk
open Go.Tm Go.Tm.Tab
set_option maxRecDepth 100000
theorem ahead_l1 {vals : FuncId → Bool} {call : CallF} {n : Nat} (bl : List Block) (hl : bl.length ≤ 16) (hb : ∀ b ∈ bl,b.ins.length ≤ 90 ∧ b.ins.length < n) (w : Nat) (hw : w < 2 ^ 18) (m : Nat) (hm : bl.length < m) (h : Heap) :
  ∃ h',Tm.Loop Try.prog vals call n [5,16,17,18] k112b1 m ⟨[(5,int w),(16,blocks bl),(17,int bl.length),(18,int 0)],h⟩ = some (.exit 0,⟨[(5,int (w + (tsB bl).length : Nat)),(16,blocks bl),(17,int bl.length),(18,int bl.length),(19,bool false)],h'⟩) := by
 obtain ⟨s,⟨h',rfl⟩,L⟩ := Loop_run (P := Try.prog) (vals := vals) (call := call) (n := n) (ks := [5,16,17,18]) (K := k112b1) (id := 0) bl.length
  (fun i s => ∃ h,s = ⟨[(5,int (w + (tsB (bl.take i)).length : Nat)),(16,blocks bl),(17,int bl.length),(18,int i)],h⟩)
  (fun s => ∃ h,s = ⟨[(5,int (w + (tsB bl).length : Nat)),(16,blocks bl),(17,int bl.length),(18,int bl.length),(19,bool false)],h⟩)
  (fun i e h hi ⟨h2,hs⟩ => by
   cases hs
   have e1 : decide ((i : Int) < bl.length) = true := by simp; omega
   have e2 : 0 ≤ (i : Int) ∧ (i : Int) < bl.length := by omega
   have e3 := wrap_next (n := bl.length) (i := i) (by omega) (by omega)
   obtain ⟨hb1,hb2⟩ := hb _ (blkAt_mem e2)
   have hle := tsB_le 90 (bl.take i) fun b hb' => (hb b (List.mem_of_mem_take hb')).1
   have htl : (bl.take i).length ≤ 16 := by rw [List.length_take]; omega
   have hle2 : (bl.take i).length * 90 ≤ 16 * 90 := Nat.mul_le_mul_right _ htl
   obtain ⟨h',L0⟩ := ahead_l0 (vals := vals) (call := call) (n := n) (blocks bl) (int bl.length) (int i) (blkAt bl i).ins (by omega) (w + (tsB (bl.take i)).length) (by omega) n hb2 (h ++ [.row 0 [inss (blkAt bl i).ins]])
   refine ⟨_,⟨h',rfl⟩,?_⟩
   rw [tsB_next hi,List.length_append,← Nat.add_assoc]
   simp +decide -implicitDefEqProofs only [k112b1,go_sem,e1,e2,e3,set_new,L0])
  (fun e h ⟨h2,hs⟩ => by
   cases hs
   refine ⟨_,⟨h,rfl⟩,?_⟩
   simp +decide -implicitDefEqProofs only [k112b1,go_sem,Int.lt_irrefl,decide_false,List.take_length])
  bl.length 0 m [(5,int w),(16,blocks bl),(17,int bl.length),(18,int 0)] h (by omega) hm ⟨h,by simp [tsB]⟩
 exact ⟨h',L⟩
set_option maxHeartbeats 1000000 in
theorem ahead_runs (f : Tm.Func) (F : Fine f) (hp : f.params.length ≤ 20) (b : Nat) (hb : b ≤ f.blocks.length) : Runs Try.prog tab 200 112 [.agg (encFunc f),int b] (int (f.params.length + (posB f.blocks b).length : Nat)) := by
 refine Runs.by (rs := [.tmp 4]) (N := 37) rfl Try.func112 rfl rfl (by simp) fun k hk => ?_
 have b1 := F.blocks
 obtain ⟨h2,L1⟩ := ahead_l1 (vals := valsOf tab) (call := callAt Try.prog tab k) (n := k) (f.blocks.take b) (by rw [List.length_take]; omega) (fun x hx => by have := F.ins x (List.mem_of_mem_take hx); omega) f.params.length (by omega) k (by rw [List.length_take]; omega) [.row 0 [str f.name,bool f.out,ints f.params,int f.result,blocks f.blocks]]
 have hs := fun h => slice23 (h := h) hb
 rw [posB_len _ _ hb,enc_func]
 simp +decide -implicitDefEqProofs only [k112,go_sem,hs,L1]
 exact ⟨_,_,rfl,rfl⟩
end Go.Proofs.Ytkcimaibaicdcaa.Tk
