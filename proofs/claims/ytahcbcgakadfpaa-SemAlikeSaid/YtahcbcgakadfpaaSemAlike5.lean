import Derived.Test.YtahcbcgakadfpaaSemAlike4
import Derived.Test.YtahcbcgakadfpaaVs
set_option linter.unusedSimpArgs false
namespace Go.Proofs.Ytahcbcgakadfpaa.Ts
open Go.Tm Go.Tm.Tab
set_option maxRecDepth 100000
theorem first11 : callAt Try.prog tab 999 24 [] [] = some (bool true, []) := run_at (cs := []) (c := Go.Tm.V.W.b true) (by kernel_rfl)
section
variable {vals : FuncId → Bool} {call : CallF} {n : Nat}
/-- Are all the events small? -/
def small (l : List Evt) : Bool := l.all fun e => decide (¬ ((e.args.length : Int) > 10)) && decide (¬ ((e.name.size : Int) > 40))
theorem loop0 (hf : ∀ h, call 24 [] h = some (bool true, h)) (a b : Sto) (x : C) (h : Heap) (h0 : h[0]? = some (.row 0 (encTold a))) (hl : a.trace.length ≤ 20) : ∀ (d i m : Nat), i + d = a.trace.length → d < m →
    Tm.Loop Try.prog vals call n [2, 3, 4, 7] k8b0 m ⟨[(2, x), (3, .op 0 0), (4, .op 1 0), (7, int i)], h⟩ = some (if small (a.trace.drop i) = true then (.exit 0, ⟨[(2, x), (3, .op 0 0), (4, .op 1 0), (7, int a.trace.length), (26, bool false)], h⟩) else (.ret, ⟨[(6, bool true)], h⟩))
  | 0, i, m, hi, hm => by
    obtain ⟨m, rfl⟩ : ∃ p, m = p + 1 := ⟨m - 1, by omega⟩
    obtain rfl : i = a.trace.length := by omega
    rw [Tm.Loop_succ, if_pos (by rw [List.drop_eq_nil_of_le (Nat.le_refl _)]; rfl)]
    rw [enc_told] at *
    simp (implicitDefEqProofs := false) only [k8b0, go_sem, h0, len_events, Int.lt_irrefl, decide_false]
  | d + 1, i, m, hi, hm => by
    obtain ⟨m, rfl⟩ : ∃ p, m = p + 1 := ⟨m - 1, by omega⟩
    have ih := loop0 hf a b x h h0 hl d (i + 1) m (by omega) (by omega)
    rw [Tm.Loop_succ]
    generalize Tm.Loop Try.prog vals call n [2, 3, 4, 7] k8b0 m = L at ih ⊢
    have e1 : decide ((i : Int) < a.trace.length) = true := by simp; omega
    have e2 : 0 ≤ (i : Int) ∧ (i : Int) < a.trace.length := by omega
    have e4 := wrap_next (n := a.trace.length) (i := i) (by omega) (by omega)
    rw [drop_ev (l := a.trace) (i := i) (by omega), small, List.all_cons, ← small]
    rw [enc_told] at *
    by_cases c1 : ((evAt a.trace i).args.length : Int) > 10
    · rw [if_neg (by rw [decide_eq_false (fun q => q c1), Bool.false_and, Bool.false_and]; decide)]
      simp (decide := true) (implicitDefEqProofs := false) only [k8b0, go_sem, h0, len_events, idx_events, e1, e2, decide_eq_true c1, hf]
    · by_cases c2 : ((evAt a.trace i).name.size : Int) > 40
      · rw [if_neg (by rw [decide_eq_false (fun q : ¬ _ => q c2), Bool.and_false, Bool.false_and]; decide)]
        simp (decide := true) (implicitDefEqProofs := false) only [k8b0, go_sem, h0, len_events, idx_events, e1, e2, decide_eq_false c1, decide_eq_true c2, hf]
      · rw [decide_eq_true c1, decide_eq_true c2, Bool.true_and, Bool.true_and]
        simp (decide := true) (implicitDefEqProofs := false) only [k8b0, go_sem, h0, len_events, idx_events, e1, e2, e4, decide_eq_false c1, decide_eq_false c2]
        exact ih
theorem loop1 (hf : ∀ h, call 24 [] h = some (bool true, h)) (a b : Sto) (x : C) (h : Heap) (h1 : h[1]? = some (.row 0 (encTold b))) (hl : b.trace.length ≤ 20) : ∀ (d i m : Nat), i + d = b.trace.length → d < m →
    Tm.Loop Try.prog vals call n [2, 3, 4, 8] k8b1 m ⟨[(2, x), (3, .op 0 0), (4, .op 1 0), (8, int i)], h⟩ = some (if small (b.trace.drop i) = true then (.exit 2, ⟨[(2, x), (3, .op 0 0), (4, .op 1 0), (8, int b.trace.length), (52, bool false)], h⟩) else (.ret, ⟨[(6, bool true)], h⟩))
  | 0, i, m, hi, hm => by
    obtain ⟨m, rfl⟩ : ∃ p, m = p + 1 := ⟨m - 1, by omega⟩
    obtain rfl : i = b.trace.length := by omega
    rw [Tm.Loop_succ, if_pos (by rw [List.drop_eq_nil_of_le (Nat.le_refl _)]; rfl)]
    rw [enc_told] at *
    simp (implicitDefEqProofs := false) only [k8b1, go_sem, h1, len_events, Int.lt_irrefl, decide_false]
  | d + 1, i, m, hi, hm => by
    obtain ⟨m, rfl⟩ : ∃ p, m = p + 1 := ⟨m - 1, by omega⟩
    have ih := loop1 hf a b x h h1 hl d (i + 1) m (by omega) (by omega)
    rw [Tm.Loop_succ]
    generalize Tm.Loop Try.prog vals call n [2, 3, 4, 8] k8b1 m = L at ih ⊢
    have e1 : decide ((i : Int) < b.trace.length) = true := by simp; omega
    have e2 : 0 ≤ (i : Int) ∧ (i : Int) < b.trace.length := by omega
    have e4 := wrap_next (n := b.trace.length) (i := i) (by omega) (by omega)
    rw [drop_ev (l := b.trace) (i := i) (by omega), small, List.all_cons, ← small]
    rw [enc_told] at *
    by_cases c1 : ((evAt b.trace i).args.length : Int) > 10
    · rw [if_neg (by rw [decide_eq_false (fun q => q c1), Bool.false_and, Bool.false_and]; decide)]
      simp (decide := true) (implicitDefEqProofs := false) only [k8b1, go_sem, h1, len_events, idx_events, e1, e2, decide_eq_true c1, hf]
    · by_cases c2 : ((evAt b.trace i).name.size : Int) > 40
      · rw [if_neg (by rw [decide_eq_false (fun q : ¬ _ => q c2), Bool.and_false, Bool.false_and]; decide)]
        simp (decide := true) (implicitDefEqProofs := false) only [k8b1, go_sem, h1, len_events, idx_events, e1, e2, decide_eq_false c1, decide_eq_true c2, hf]
      · rw [decide_eq_true c1, decide_eq_true c2, Bool.true_and, Bool.true_and]
        simp (decide := true) (implicitDefEqProofs := false) only [k8b1, go_sem, h1, len_events, idx_events, e1, e2, e4, decide_eq_false c1, decide_eq_false c2]
        exact ih
end
theorem small_args {l : List Evt} (h : small l = true) : ∀ e ∈ l, e.args.length ≤ 10 := fun e he => by
  have := List.all_eq_true.1 h e he
  simp only [Bool.and_eq_true, decide_eq_true_eq] at this
  omega
theorem semAlike (a b : Sto) (bound : Int) : Runs Try.prog tab 1000 8 [.agg (encTold a), .agg (encTold b), int bound] (bool true) := by
  refine Runs.by (rs := [.tmp 6]) (N := 83) rfl Try.func8 rfl rfl (by simp) fun k hk => ?_
  have hf : ∀ h, callAt Try.prog tab k 24 [] h = some (bool true, h) := fun h => Runs.known rfl first11 k (by omega) [] h rfl
  by_cases l1 : (a.trace.length : Int) > 20
  · rw [enc_told, enc_told]
    simp (decide := true) (implicitDefEqProofs := false) only [k8, go_sem, hf, cells_events, isCell_events, len_events, decide_eq_true l1]
    exact ⟨_, _, rfl, rfl⟩
  · by_cases l2 : (b.trace.length : Int) > 20
    · rw [enc_told, enc_told]
      simp (decide := true) (implicitDefEqProofs := false) only [k8, go_sem, hf, cells_events, isCell_events, len_events, decide_eq_false l1, decide_eq_true l2]
      exact ⟨_, _, rfl, rfl⟩
    · have L0 := loop0 (vals := valsOf tab) (call := callAt Try.prog tab k) (n := k) hf a b (int bound) [.row 0 (encTold a), .row 0 (encTold b)] rfl (by omega) a.trace.length 0 k (by omega) (by omega)
      have L1 := loop1 (vals := valsOf tab) (call := callAt Try.prog tab k) (n := k) hf a b (int bound) [.row 0 (encTold a), .row 0 (encTold b)] rfl (by omega) b.trace.length 0 k (by omega) (by omega)
      rw [show ((0 : Nat) : Int) = 0 from rfl, List.drop_zero] at L0 L1
      cases sa : small a.trace with
      | false =>
        rw [sa, if_neg (by decide)] at L0
        rw [enc_told, enc_told] at *
        simp (decide := true) (implicitDefEqProofs := false) only [k8, go_sem, hf, cells_events, isCell_events, len_events, decide_eq_false l1, decide_eq_false l2, L0]
        exact ⟨_, _, rfl, rfl⟩
      | true =>
        rw [sa, if_pos rfl] at L0
        cases sb : small b.trace with
        | false =>
          rw [sb, if_neg (by decide)] at L1
          rw [enc_told, enc_told] at *
          simp (decide := true) (implicitDefEqProofs := false) only [k8, go_sem, hf, cells_events, isCell_events, len_events, decide_eq_false l1, decide_eq_false l2, L0, L1]
          exact ⟨_, _, rfl, rfl⟩
        | true =>
          rw [sb, if_pos rfl] at L1
          have ha := small_args sa
          have hb := small_args sb
          have R1 : ∀ h, callAt Try.prog tab k 26 [.agg (encTold a), .agg (encTold b), int bound] h = _ := fun h => sem_runs a b bound (by omega) (by omega) ha k (by omega) _ h (by simp only [mapC_cons, mapC_nil, depth, view_told, view_int, Option.bind_some])
          have R2 : ∀ h, callAt Try.prog tab k 27 [.agg (encTold a), .agg (encTold b), int bound] h = _ := fun h => ref_runs a b bound (by omega) (by omega) ha hb k (by omega) _ h (by simp only [mapC_cons, mapC_nil, depth, view_told, view_int, Option.bind_some])
          have key := sem_ref (decide (a.kind = 2)) (decide (a.trap = 6)) (decide (b.kind = 2)) (decide (b.trap = 6)) (decide (a.kind = 3)) (decide (b.kind = 3)) (decide (a.kind = b.kind)) (decide (a.trap = b.trap)) (decide (a.value = b.value)) (decide ((a.trace.length : Int) = b.trace.length)) (decide (b.steps < bound)) (begins a.trace b.trace) (begins b.trace a.trace) (fun h => by
            have := of_decide_eq_true h
            exact decide_eq_false (by omega))
          have hge : (!decide (b.steps < bound)) = decide (b.steps ≥ bound) := by
            rw [← decide_not]; exact decide_eq_decide.2 (by omega)
          have hbg : (begins a.trace b.trace || begins b.trace a.trace) = decide (a.trace.take (min a.trace.length b.trace.length) = b.trace.take (min a.trace.length b.trace.length)) := (take_begins _ _).symm
          rw [hge, hbg] at key
          rw [key] at R1
          generalize refB (decide (a.kind = 2)) (decide (a.trap = 6)) (decide (b.kind = 2)) (decide (b.trap = 6)) (decide (a.kind = 3)) (decide (b.kind = 3)) (decide (a.kind = b.kind)) (decide (a.trap = b.trap)) (decide (a.value = b.value)) (decide ((a.trace.length : Int) = b.trace.length)) (decide (b.steps ≥ bound)) (begins a.trace b.trace) (begins b.trace a.trace) = q at R1 R2
          have hv1 : valsOf tab 26 = true := rfl
          have hv2 : valsOf tab 27 = true := rfl
          rw [enc_told, enc_told] at *
          cases q <;> simp (decide := true) (implicitDefEqProofs := false) only [k8, go_sem, hf, cells_events, isCell_events, len_events, decide_eq_false l1, decide_eq_false l2, L0, L1, R1, R2, bin_eqb, hv1, hv2] <;> exact ⟨_, _, rfl, rfl⟩
end Go.Proofs.Ytahcbcgakadfpaa.Ts
