import Derived.Test.YtkcimaibaicdcaaS2
set_option linter.unusedSimpArgs false
namespace Go.Proofs.Ytkcimaibaicdcaa.Tk
open Go.Tm Go.Tm.Tab
set_option maxRecDepth 100000
theorem drop_ins {l : List Ins} {i : Nat} (h : i < l.length) : l.drop i = insAt l i :: l.drop (i + 1) := by
  rw [List.drop_eq_getElem_cons h]
  simp [insAt, List.getD_eq_getElem?_getD, List.getElem?_eq_getElem h]
theorem drop_blk {l : List Block} {i : Nat} (h : i < l.length) : l.drop i = blkAt l i :: l.drop (i + 1) := by
  rw [List.drop_eq_getElem_cons h]
  simp [blkAt, List.getD_eq_getElem?_getD, List.getElem?_eq_getElem h]
def lightI (x : Ins) : Bool := decide (x.args.length ≤ 20) && decide (x.into.length ≤ 20)
def lightB : List Block → Int → Bool
  | [], _ => true
  | b :: r, a => !decide (a + b.ins.length > 90) && (b.ins.all lightI && lightB r (a + b.ins.length))
section
variable {vals : FuncId → Bool} {call : CallF} {n : Nat}
theorem light_in (f : Tm.Func) (b : Int) (hb : 0 ≤ b ∧ b < f.blocks.length) (a : C) (hl : (blkAt f.blocks b).ins.length < 2 ^ 45) (d : Nat) : ∀ (i m : Nat), i + d = (blkAt f.blocks b).ins.length → d < m →
    Tm.Loop Try.prog vals call n [1, 3, 4, 5] k17b0 m ⟨[(1, .op 0 0), (3, a), (4, int b), (5, int i)], [.row 0 (encFunc f)]⟩ = some (if ((blkAt f.blocks b).ins.drop i).all lightI = true then (.exit 2, ⟨[(1, .op 0 0), (3, a), (4, int b), (5, int (blkAt f.blocks b).ins.length), (48, bool false)], [.row 0 (encFunc f)]⟩) else (.ret, ⟨[(2, bool false)], [.row 0 (encFunc f)]⟩)) := by
  induction d with
  | zero =>
    intro i m hi hm
    obtain ⟨m, rfl⟩ : ∃ p, m = p + 1 := ⟨m - 1, by omega⟩
    obtain rfl : i = (blkAt f.blocks b).ins.length := by omega
    rw [Tm.Loop_succ, enc_func]
    simp (decide := true) (implicitDefEqProofs := false) only [bind_ite, andThen_ite, leaves_ite, k17b0, go_sem, hb, Int.lt_irrefl, decide_false, List.drop_length]
  | succ d ih =>
    intro i m hi hm
    obtain ⟨m, rfl⟩ : ∃ p, m = p + 1 := ⟨m - 1, by omega⟩
    replace ih := ih (i + 1) m (by omega) (by omega)
    rw [Tm.Loop_succ]
    generalize Tm.Loop Try.prog vals call n [1, 3, 4, 5] k17b0 m = L at ih ⊢
    rw [enc_func] at ih ⊢
    have e1 : decide ((i : Int) < (blkAt f.blocks b).ins.length) = true := by simp; omega
    have e2 : 0 ≤ (i : Int) ∧ (i : Int) < (blkAt f.blocks b).ins.length := by omega
    have e3 := wrap_next (n := (blkAt f.blocks b).ins.length) (i := i) (by omega) (by omega)
    by_cases c1 : ((insAt (blkAt f.blocks b).ins i).args.length : Int) > 20
    · simp (decide := true) (implicitDefEqProofs := false) only [bind_ite, andThen_ite, leaves_ite, k17b0, go_sem, hb, e1, e2, e3, decide_eq_true c1]
      simp [drop_ins (l := (blkAt f.blocks b).ins) (i := i) (by omega), lightI, show ¬ (insAt (blkAt f.blocks b).ins i).args.length ≤ 20 by omega]
    · by_cases c2 : ((insAt (blkAt f.blocks b).ins i).into.length : Int) > 20
      · simp (decide := true) (implicitDefEqProofs := false) only [bind_ite, andThen_ite, leaves_ite, k17b0, go_sem, hb, e1, e2, e3, decide_eq_false c1, decide_eq_true c2]
        simp [drop_ins (l := (blkAt f.blocks b).ins) (i := i) (by omega), lightI, show ¬ (insAt (blkAt f.blocks b).ins i).into.length ≤ 20 by omega]
      · simp (decide := true) (implicitDefEqProofs := false) only [bind_ite, andThen_ite, leaves_ite, k17b0, go_sem, hb, e1, e2, e3, decide_eq_false c1, decide_eq_false c2]
        rw [ih, drop_ins (l := (blkAt f.blocks b).ins) (i := i) (by omega), List.all_cons, show lightI (insAt (blkAt f.blocks b).ins i) = true by simp [lightI]; omega, Bool.true_and]
theorem light_out (f : Tm.Func) (hn : f.blocks.length ≤ 16) (hl : ∀ b ∈ f.blocks, b.ins.length < 2 ^ 45) (hn2 : 2 ^ 36 ≤ n) (d : Nat) : ∀ (i m : Nat) (a : Int), i + d = f.blocks.length → d < m → 0 ≤ a ∧ a ≤ 90 →
    ∃ e, Tm.Loop Try.prog vals call n [1, 3, 4] k17b1 m ⟨[(1, .op 0 0), (3, int a), (4, int i)], [.row 0 (encFunc f)]⟩ = some (if lightB (f.blocks.drop i) a = true then (.exit 0, ⟨e, [.row 0 (encFunc f)]⟩) else (.ret, ⟨[(2, bool false)], [.row 0 (encFunc f)]⟩)) := by
  induction d with
  | zero =>
    intro i m a hi hm ha
    obtain ⟨m, rfl⟩ : ∃ p, m = p + 1 := ⟨m - 1, by omega⟩
    obtain rfl : i = f.blocks.length := by omega
    rw [Tm.Loop_succ, enc_func]
    simp (decide := true) (implicitDefEqProofs := false) only [bind_ite, andThen_ite, leaves_ite, k17b1, go_sem, Int.lt_irrefl, decide_false, List.drop_length, lightB]
    exact ⟨_, rfl⟩
  | succ d ih =>
    intro i m a hi hm ha
    obtain ⟨m, rfl⟩ : ∃ p, m = p + 1 := ⟨m - 1, by omega⟩
    have e1 : decide ((i : Int) < f.blocks.length) = true := by simp; omega
    have e2 : 0 ≤ (i : Int) ∧ (i : Int) < f.blocks.length := by omega
    have e3 := wrap_next (n := f.blocks.length) (i := i) (by omega) (by omega)
    have hlb := hl _ (blkAt_mem e2)
    have e4 : IntKind.i64.wrap (a + ((blkAt f.blocks i).ins.length : Int)) = a + ((blkAt f.blocks i).ins.length : Int) := wrap_in (by omega) (by omega)
    rw [Tm.Loop_succ]
    by_cases c1 : a + ((blkAt f.blocks i).ins.length : Int) > 90
    · generalize Tm.Loop Try.prog vals call n [1, 3, 4] k17b1 m = L
      rw [enc_func]
      simp (decide := true) (implicitDefEqProofs := false) only [bind_ite, andThen_ite, leaves_ite, k17b1, go_sem, e1, e2, e3, e4, decide_eq_true c1]
      rw [drop_blk (l := f.blocks) (i := i) (by omega), lightB, decide_eq_true c1]
      exact ⟨[], rfl⟩
    · replace ih := ih (i + 1) m (a + ((blkAt f.blocks i).ins.length : Int)) (by omega) (by omega) (by omega)
      have h1 := light_in (vals := vals) (call := call) (n := n) f i e2 (int (a + ((blkAt f.blocks i).ins.length : Int))) hlb (blkAt f.blocks i).ins.length 0 n (by omega) (by omega)
      rw [show ((0 : Nat) : Int) = 0 from rfl, List.drop_zero] at h1
      generalize Tm.Loop Try.prog vals call n [1, 3, 4] k17b1 m = L at ih ⊢
      rw [drop_blk (l := f.blocks) (i := i) (by omega), lightB, decide_eq_false c1]
      rw [enc_func] at *
      by_cases c2 : (blkAt f.blocks i).ins.all lightI = true
      · rw [if_pos c2] at h1
        simp (decide := true) (implicitDefEqProofs := false) only [bind_ite, andThen_ite, leaves_ite, k17b1, go_sem, e1, e2, e3, e4, decide_eq_false c1, h1, c2]
        exact ih
      · rw [if_neg c2] at h1
        simp (decide := true) (implicitDefEqProofs := false) only [bind_ite, andThen_ite, leaves_ite, k17b1, go_sem, e1, e2, e3, e4, decide_eq_false c1, h1, Bool.eq_false_iff.2 c2, Bool.false_and]
        exact ⟨[], trivial⟩
end
theorem lightB_ins : ∀ {l : List Block} {a : Int}, 0 ≤ a → lightB l a = true → ∀ b ∈ l, b.ins.length ≤ 90 ∧ ∀ i ∈ b.ins, i.args.length ≤ 20 ∧ i.into.length ≤ 20
  | [], _, _, _, b, hb => by simp at hb
  | c :: l, a, h0, h, b, hb => by
    simp only [lightB, Bool.and_eq_true, Bool.not_eq_true', decide_eq_false_iff_not, List.all_eq_true, lightI, decide_eq_true_eq] at h
    rcases List.mem_cons.1 hb with rfl | hb
    · exact ⟨by omega, h.2.1⟩
    · exact lightB_ins (by omega) h.2.2 b hb
theorem light_runs (f : Tm.Func) (hl : ∀ b ∈ f.blocks, b.ins.length < 2 ^ 45) : ∃ t, Runs Try.prog tab (2 ^ 36 + 1) 17 [.agg (encFunc f)] (bool t) ∧ (t = true → Fine f) := by
  by_cases c1 : (f.name.size : Int) > 40
  · refine ⟨false, Runs.by (rs := [.tmp 2]) (N := 77) rfl Try.func17 rfl rfl (by simp) fun k hk => ?_, fun h => by cases h⟩
    rw [enc_func]
    simp (decide := true) (implicitDefEqProofs := false) only [bind_ite, andThen_ite, leaves_ite, k17, go_sem, decide_eq_true c1]
    exact ⟨_, _, rfl, rfl⟩
  by_cases c2 : (f.params.length : Int) > 8
  · refine ⟨false, Runs.by (rs := [.tmp 2]) (N := 77) rfl Try.func17 rfl rfl (by simp) fun k hk => ?_, fun h => by cases h⟩
    rw [enc_func]
    simp (decide := true) (implicitDefEqProofs := false) only [bind_ite, andThen_ite, leaves_ite, k17, go_sem, decide_eq_false c1, decide_eq_true c2]
    exact ⟨_, _, rfl, rfl⟩
  by_cases c3 : (f.blocks.length : Int) > 16
  · refine ⟨false, Runs.by (rs := [.tmp 2]) (N := 77) rfl Try.func17 rfl rfl (by simp) fun k hk => ?_, fun h => by cases h⟩
    rw [enc_func]
    simp (decide := true) (implicitDefEqProofs := false) only [bind_ite, andThen_ite, leaves_ite, k17, go_sem, decide_eq_false c1, decide_eq_false c2, decide_eq_true c3]
    exact ⟨_, _, rfl, rfl⟩
  refine ⟨lightB f.blocks 0, Runs.by (rs := [.tmp 2]) (N := 77) rfl Try.func17 rfl rfl (by simp) fun k hk => ?_, fun ht => ⟨by omega, fun b hb => (lightB_ins (Int.le_refl 0) ht b hb).1, fun b hb => (lightB_ins (Int.le_refl 0) ht b hb).2⟩⟩
  obtain ⟨e, h⟩ := light_out (vals := valsOf tab) (call := callAt Try.prog tab k) (n := k) f (by omega) hl hk f.blocks.length 0 k 0 (by omega) (by omega) (by omega)
  rw [show ((0 : Nat) : Int) = 0 from rfl, List.drop_zero] at h
  rw [enc_func] at h ⊢
  cases hb : lightB f.blocks 0 with
  | true =>
    rw [if_pos hb] at h
    simp (decide := true) (implicitDefEqProofs := false) only [bind_ite, andThen_ite, leaves_ite, k17, go_sem, decide_eq_false c1, decide_eq_false c2, decide_eq_false c3, h]
    exact ⟨_, _, rfl, rfl⟩
  | false =>
    rw [if_neg (by rw [hb]; decide)] at h
    simp (decide := true) (implicitDefEqProofs := false) only [bind_ite, andThen_ite, leaves_ite, k17, go_sem, decide_eq_false c1, decide_eq_false c2, decide_eq_false c3, h]
    exact ⟨_, _, rfl, rfl⟩
end Go.Proofs.Ytkcimaibaicdcaa.Tk
