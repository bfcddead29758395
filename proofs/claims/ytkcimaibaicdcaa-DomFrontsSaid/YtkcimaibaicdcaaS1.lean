import Derived.Test.YtkcimaibaicdcaaTk
set_option linter.unusedSimpArgs false
namespace Go.Proofs.Ytkcimaibaicdcaa.Tk
open Go.Tm Go.Tm.Tab
set_option maxRecDepth 100000
section
variable {vals : FuncId → Bool} {call : CallF} {n : Nat}
/-- The loop of slices.Index, from a place on. -/
theorem index_loop (xs : List Int) (v : Int) (hx : xs.length < 2 ^ 62) : ∀ (d i m : Nat), i + d = xs.length → d < m →
    Tm.Loop Try.prog vals call n [0, 1, 7, 8] k96b0 m ⟨[(0, ints xs), (1, int v), (7, int xs.length), (8, int i)], []⟩ = some (if v ∈ xs.drop i then (.ret, ⟨[(4, int (i + (xs.drop i).idxOf v : Nat))], []⟩) else (.exit 0, ⟨[(0, ints xs), (1, int v), (7, int xs.length), (8, int xs.length), (9, bool false)], []⟩))
  | 0, i, m, hi, hm => by
    obtain ⟨m, rfl⟩ : ∃ p, m = p + 1 := ⟨m - 1, by omega⟩
    obtain rfl : i = xs.length := by omega
    rw [Tm.Loop_succ]
    simp (decide := true) (implicitDefEqProofs := false) only [bind_ite, andThen_ite, leaves_ite, k96b0, go_sem]
    simp
  | d + 1, i, m, hi, hm => by
    obtain ⟨m, rfl⟩ : ∃ p, m = p + 1 := ⟨m - 1, by omega⟩
    have ih := index_loop xs v hx d (i + 1) m (by omega) (by omega)
    rw [Tm.Loop_succ]
    generalize Tm.Loop Try.prog vals call n [0, 1, 7, 8] k96b0 m = L at ih ⊢
    simp (decide := true) (implicitDefEqProofs := false) only [bind_ite, andThen_ite, leaves_ite, k96b0, go_sem]
    rw [if_pos (by simp; omega), if_pos (by omega), wrap_next (n := xs.length) (by omega) hx, drop_rd (xs := xs) (i := i) (by omega)]
    by_cases e : v = rd xs i
    · simp [e]
    · rw [if_neg (by simpa using e), ih]
      by_cases hv : v ∈ xs.drop (i + 1)
      · have e' : (rd xs i == v) = false := by simpa using Ne.symm e
        simp [e, hv, List.idxOf_cons, e']; omega
      · simp [e, hv]
theorem index_runs (xs : List Int) (v : Int) (hx : xs.length < 2 ^ 62) : Runs Try.prog tab (xs.length + 2) 96 [ints xs, int v] (int (if v ∈ xs then (xs.idxOf v : Nat) else -1)) := by
  refine Runs.by (rs := [.tmp 4]) (N := 19) rfl Try.func96 rfl rfl (by simp) fun k hk => ?_
  have h := index_loop (vals := valsOf tab) (call := callAt Try.prog tab k) (n := k) xs v hx xs.length 0 k (by omega) (by omega)
  rw [show ((0 : Nat) : Int) = 0 from rfl, List.drop_zero, Nat.zero_add] at h
  simp (decide := true) (implicitDefEqProofs := false) only [bind_ite, andThen_ite, leaves_ite, k96, go_sem]
  rw [h]
  by_cases hv : v ∈ xs
  · simp (decide := true) (implicitDefEqProofs := false) only [bind_ite, andThen_ite, leaves_ite, go_sem, if_pos hv]
    exact ⟨_, _, rfl, rfl⟩
  · simp (decide := true) (implicitDefEqProofs := false) only [bind_ite, andThen_ite, leaves_ite, go_sem, if_neg hv]
    exact ⟨_, _, rfl, rfl⟩
theorem contains_runs (xs : List Int) (v : Int) (hx : xs.length < 2 ^ 62) : Runs Try.prog tab (xs.length + 3) 62 [ints xs, int v] (bool (decide (v ∈ xs))) := by
  refine Runs.by (rs := [.tmp 4]) (N := 9) rfl Try.func62 rfl rfl (by simp) fun k hk => ?_
  have h := index_runs xs v hx k hk [ints xs, int v] [] (by simp (decide := true) (implicitDefEqProofs := false) only [bind_ite, andThen_ite, leaves_ite, depth, go_sem])
  simp (decide := true) (implicitDefEqProofs := false) only [bind_ite, andThen_ite, leaves_ite, k62, go_sem]
  rw [h]
  by_cases hv : v ∈ xs
  · simp (decide := true) (implicitDefEqProofs := false) only [bind_ite, andThen_ite, leaves_ite, go_sem, if_pos hv]
    exact ⟨_, _, rfl, by simp [depth, go_sem, hv]⟩
  · simp (decide := true) (implicitDefEqProofs := false) only [bind_ite, andThen_ite, leaves_ite, go_sem, if_neg hv]
    exact ⟨_, _, rfl, by simp [depth, go_sem, hv]⟩
/-- The loop of plnref3.In. -/
theorem in_loop (xs : List Int) (v : Int) (hx : xs.length < 2 ^ 62) : ∀ (d i m : Nat), i + d = xs.length → d < m →
    Tm.Loop Try.prog vals call n [0, 1, 5] k31b0 m ⟨[(0, ints xs), (1, int v), (5, int i)], []⟩ = some (if v ∈ xs.drop i then (.ret, ⟨[(4, bool true)], []⟩) else (.exit 0, ⟨[(0, ints xs), (1, int v), (5, int xs.length), (9, bool false)], []⟩))
  | 0, i, m, hi, hm => by
    obtain ⟨m, rfl⟩ : ∃ p, m = p + 1 := ⟨m - 1, by omega⟩
    obtain rfl : i = xs.length := by omega
    rw [Tm.Loop_succ]
    simp (decide := true) (implicitDefEqProofs := false) only [bind_ite, andThen_ite, leaves_ite, k31b0, go_sem]
    simp
  | d + 1, i, m, hi, hm => by
    obtain ⟨m, rfl⟩ : ∃ p, m = p + 1 := ⟨m - 1, by omega⟩
    have ih := in_loop xs v hx d (i + 1) m (by omega) (by omega)
    rw [Tm.Loop_succ]
    generalize Tm.Loop Try.prog vals call n [0, 1, 5] k31b0 m = L at ih ⊢
    simp (decide := true) (implicitDefEqProofs := false) only [bind_ite, andThen_ite, leaves_ite, k31b0, go_sem]
    rw [if_pos (by simp; omega), if_pos (by omega), wrap_next (n := xs.length) (by omega) hx, drop_rd (xs := xs) (i := i) (by omega)]
    by_cases e : rd xs i = v
    · simp [e]
    · rw [if_neg (by simpa using e), ih]
      by_cases hv : v ∈ xs.drop (i + 1)
      · simp [Ne.symm e, hv]
      · simp [Ne.symm e, hv]
theorem in_runs (xs : List Int) (v : Int) (hx : xs.length < 2 ^ 62) : Runs Try.prog tab (xs.length + 2) 31 [ints xs, int v] (bool (decide (v ∈ xs))) := by
  refine Runs.by (rs := [.tmp 4]) (N := 18) rfl Try.func31 rfl rfl (by simp) fun k hk => ?_
  have h := in_loop (vals := valsOf tab) (call := callAt Try.prog tab k) (n := k) xs v hx xs.length 0 k (by omega) (by omega)
  rw [show ((0 : Nat) : Int) = 0 from rfl, List.drop_zero] at h
  simp (decide := true) (implicitDefEqProofs := false) only [bind_ite, andThen_ite, leaves_ite, k31, go_sem]
  rw [h]
  by_cases hv : v ∈ xs
  · simp (decide := true) (implicitDefEqProofs := false) only [bind_ite, andThen_ite, leaves_ite, go_sem, if_pos hv]
    exact ⟨_, _, rfl, by simp [depth, go_sem, hv]⟩
  · simp (decide := true) (implicitDefEqProofs := false) only [bind_ite, andThen_ite, leaves_ite, go_sem, if_neg hv]
    exact ⟨_, _, rfl, by simp [depth, go_sem, hv]⟩
end
end Go.Proofs.Ytkcimaibaicdcaa.Tk
