import Derived.Test.YtahcbcgakadfpaaSemAlike1
set_option linter.unusedSimpArgs false
namespace Go.Tm
section
variable {P : Program} {call : CallF} {e : Env} {h : Heap} {al : Option Nat}
theorem op_callv (t : Nat) (args : List Operand) (ats : Array TypeId) : stepOp P call al e h (.call ⟨.value (.tmp t), args.toArray, ats⟩) = (look e t).bind fun c => (fnOf c).bind fun q => (evs e args).bind fun cs => call q.1 (cs ++ q.2) h := by
  simp only [stepOp, calleeOf, ev, Option.bind_eq_bind]
  cases look e t with
  | none => rfl
  | some c => simp only [Option.bind_some]
theorem set_new (h : Heap) (a b : Node) : (h ++ [a]).set h.length b = h ++ [b] := by
  rw [List.set_append_right _ _ (Nat.le_refl _), Nat.sub_self]; rfl
theorem get_new2 (h : Heap) (a b : Node) : ((h ++ [a]) ++ [b])[h.length]? = some a := by
  rw [List.append_assoc, List.getElem?_append_right (Nat.le_refl _), Nat.sub_self]; rfl
end
end Go.Tm
namespace Go.Proofs.Ytahcbcgakadfpaa.Ts
open Go.Tm Go.Tm.Tab
set_option maxRecDepth 100000
section
variable {vals : FuncId → Bool} {call : CallF} {n : Nat}
theorem equal_loop (a b : List Int) (hl : a.length = b.length) (hx : a.length < 2 ^ 62) (h : Heap) : ∀ (d i m : Nat), i + d = a.length → d < m →
    Tm.Loop Try.prog vals call n [0, 1, 12, 13] k98b0 m ⟨[(0, ints a), (1, ints b), (12, int a.length), (13, int i)], h⟩ = some (if a.drop i = b.drop i then (.exit 0, ⟨[(0, ints a), (1, ints b), (12, int a.length), (13, int a.length), (14, bool false)], h⟩) else (.ret, ⟨[(4, bool false)], h⟩))
  | 0, i, m, hi, hm => by
    obtain ⟨m, rfl⟩ : ∃ p, m = p + 1 := ⟨m - 1, by omega⟩
    obtain rfl : i = a.length := by omega
    rw [Tm.Loop_succ, if_pos (by rw [List.drop_eq_nil_of_le (Nat.le_refl _), hl, List.drop_eq_nil_of_le (Nat.le_refl _)])]
    simp (implicitDefEqProofs := false) only [k98b0, go_sem, Int.lt_irrefl, decide_false]
  | d + 1, i, m, hi, hm => by
    obtain ⟨m, rfl⟩ : ∃ p, m = p + 1 := ⟨m - 1, by omega⟩
    have ih := equal_loop a b hl hx h d (i + 1) m (by omega) (by omega)
    rw [Tm.Loop_succ]
    generalize Tm.Loop Try.prog vals call n [0, 1, 12, 13] k98b0 m = L at ih ⊢
    have e1 : decide ((i : Int) < a.length) = true := by simp; omega
    have e2 : 0 ≤ (i : Int) ∧ (i : Int) < a.length := by omega
    have e3 : 0 ≤ (i : Int) ∧ (i : Int) < b.length := by omega
    have e4 := wrap_next (n := a.length) (i := i) (by omega) hx
    rw [drop_rd (xs := a) (i := i) (by omega), drop_rd (xs := b) (i := i) (by omega)]
    by_cases e : rd a i = rd b i
    · simp (decide := true) (implicitDefEqProofs := false) only [k98b0, go_sem, e1, e2, e3, e4, e, decide_true, Bool.not_true, List.cons.injEq, true_and]
      exact ih
    · simp (decide := true) (implicitDefEqProofs := false) only [k98b0, go_sem, e1, e2, e3, decide_eq_false e, Bool.not_false, List.cons.injEq, e, false_and, if_false]
end
theorem equal_runs (a b : List Int) (hx : a.length < 2 ^ 62) : Runs Try.prog tab (a.length + 3) 98 [ints a, ints b] (bool (decide (a = b))) := by
  refine Runs.by (rs := [.tmp 4]) (N := 26) rfl Try.func98 rfl rfl (by simp) fun k hk => ?_
  by_cases c3 : a.length = b.length
  · have h := equal_loop (vals := valsOf tab) (call := callAt Try.prog tab k) (n := k) a b c3 hx [] a.length 0 k (by omega) (by omega)
    rw [show ((0 : Nat) : Int) = 0 from rfl, List.drop_zero, List.drop_zero] at h
    have c3' : decide ((a.length : Int) = b.length) = true := by simp [c3]
    by_cases c4 : a = b
    · rw [if_pos c4] at h
      simp (decide := true) (implicitDefEqProofs := false) only [k98, go_sem, h, c3', Bool.not_true, decide_eq_true c4]
      exact ⟨_, _, rfl, rfl⟩
    · rw [if_neg c4] at h
      simp (decide := true) (implicitDefEqProofs := false) only [k98, go_sem, h, c3', Bool.not_true, decide_eq_false c4]
      exact ⟨_, _, rfl, rfl⟩
  · have c4 : ¬ a = b := fun e => c3 (by rw [e])
    have c3' : ¬ ((a.length : Int) = b.length) := by omega
    simp (decide := true) (implicitDefEqProofs := false) only [k98, go_sem, decide_eq_false c3', Bool.not_false, decide_eq_false c4]
    exact ⟨_, _, rfl, rfl⟩
theorem event_runs (a b : Evt) (hx : a.args.length < 2 ^ 62) : Runs Try.prog tab (a.args.length + 4) 57 [.agg (encEvent a), .agg (encEvent b)] (bool (decide (a = b))) := by
  refine Runs.by (rs := [.tmp 4]) (N := 24) rfl Try.func57 rfl rfl (by simp) fun k hk => ?_
  have hc : ∀ h, callAt Try.prog tab k 98 [ints a.args, ints b.args] h = some (bool (decide (a.args = b.args)), h) := fun h => equal_runs _ _ hx k (by omega) _ h (by simp only [mapC_cons, mapC_nil, depth, view_ints, Option.bind_some])
  rw [show decide (a = b) = (decide (a.name = b.name) && (decide (a.answer = b.answer) && decide (a.args = b.args))) by rw [← Bool.decide_and, ← Bool.decide_and]; exact decide_eq_decide.2 ev_ext]
  rw [enc_event, enc_event]
  generalize decide (a.args = b.args) = q3 at hc ⊢
  cases c1 : decide (a.name = b.name)
  · simp (decide := true) (implicitDefEqProofs := false) only [k57, go_sem, hc, bin_eqs, c1]
    exact ⟨_, _, rfl, rfl⟩
  · cases c2 : decide (a.answer = b.answer)
    · simp (decide := true) (implicitDefEqProofs := false) only [k57, go_sem, hc, bin_eqs, c1, c2]
      exact ⟨_, _, rfl, rfl⟩
    · simp (decide := true) (implicitDefEqProofs := false) only [k57, go_sem, hc, bin_eqs, c1, c2]
      exact ⟨_, _, rfl, rfl⟩
/-- The function value sem.sameEvent. -/
def F57 : C := .fn 57 []
theorem fnOf_57 : fnOf F57 = some (57, []) := rfl
theorem ev_57 (e : Env) : ev e (.func 57) = some F57 := rfl
section
variable {vals : FuncId → Bool} {call : CallF} {n : Nat}
theorem equalF_loop (hcall : ∀ (a b : Evt) (h : Heap), a.args.length ≤ 10 → call 57 [.agg (encEvent a), .agg (encEvent b)] h = some (bool (decide (a = b)), h)) (a b : List Evt) (ha : ∀ e ∈ a, e.args.length ≤ 10) (hl : a.length = b.length) (hx : a.length < 2 ^ 62) : ∀ (d i m : Nat) (h : Heap), i + d = a.length → d < m →
    ∃ h', Tm.Loop Try.prog vals call n [1, 2, 15, 16, 17] k56b0 m ⟨[(1, events b), (2, F57), (15, events a), (16, int a.length), (17, int i)], h⟩ = some (if a.drop i = b.drop i then (.exit 0, ⟨[(1, events b), (2, F57), (15, events a), (16, int a.length), (17, int a.length), (18, bool false)], h'⟩) else (.ret, ⟨[(6, bool false)], h'⟩))
  | 0, i, m, h, hi, hm => by
    obtain ⟨m, rfl⟩ : ∃ p, m = p + 1 := ⟨m - 1, by omega⟩
    obtain rfl : i = a.length := by omega
    refine ⟨h, ?_⟩
    rw [Tm.Loop_succ, if_pos (by rw [List.drop_eq_nil_of_le (Nat.le_refl _), hl, List.drop_eq_nil_of_le (Nat.le_refl _)])]
    simp (implicitDefEqProofs := false) only [k56b0, go_sem, Int.lt_irrefl, decide_false]
  | d + 1, i, m, h, hi, hm => by
    obtain ⟨m, rfl⟩ : ∃ p, m = p + 1 := ⟨m - 1, by omega⟩
    have ih := fun h => equalF_loop hcall a b ha hl hx d (i + 1) m h (by omega) (by omega)
    rw [Tm.Loop_succ]
    generalize Tm.Loop Try.prog vals call n [1, 2, 15, 16, 17] k56b0 m = L at ih ⊢
    have e1 : decide ((i : Int) < a.length) = true := by simp; omega
    have e2 : 0 ≤ (i : Int) ∧ (i : Int) < a.length := by omega
    have e3 : 0 ≤ (i : Int) ∧ (i : Int) < b.length := by omega
    have e4 := wrap_next (n := a.length) (i := i) (by omega) hx
    have hm1 : evAt a i ∈ a := by
      have := drop_ev (l := a) (i := i) (by omega)
      exact List.mem_of_mem_drop (i := i) (by rw [this]; exact List.mem_cons_self ..)
    have hc := fun h => hcall (evAt a i) (evAt b i) h (ha _ hm1)
    rw [enc_event, enc_event] at hc
    rw [drop_ev (l := a) (i := i) (by omega), drop_ev (l := b) (i := i) (by omega)]
    by_cases e : evAt a i = evAt b i
    · rw [decide_eq_true e] at hc
      simp (decide := true) (implicitDefEqProofs := false) only [k56b0, go_sem, idx_events, len_events, op_callv, fnOf_57, set_new, get_new2, e1, e2, e3, e4, hc, Bool.not_true]
      simp only [List.cons.injEq, e, true_and]
      exact ih _
    · rw [decide_eq_false e] at hc
      simp (decide := true) (implicitDefEqProofs := false) only [k56b0, go_sem, idx_events, len_events, op_callv, fnOf_57, set_new, get_new2, e1, e2, e3, hc, Bool.not_false]
      exact ⟨_, by rw [if_neg (fun q => e (List.cons.inj q).1)]⟩
end
theorem equalF_runs (a b : List Evt) (ha : ∀ e ∈ a, e.args.length ≤ 10) (hx : a.length ≤ 20) : Runs Try.prog tab 40 56 [events a, events b, F57] (bool (decide (a = b))) := by
  refine Runs.by (rs := [.tmp 6]) (N := 32) rfl Try.func56 rfl rfl (by simp) fun k hk => ?_
  by_cases c3 : a.length = b.length
  · obtain ⟨h', h⟩ := equalF_loop (vals := valsOf tab) (call := callAt Try.prog tab k) (n := k) (fun x y h hx => event_runs x y (by omega) k (by omega) _ h (by simp only [mapC_cons, mapC_nil, depth, view_event, Option.bind_some])) a b ha c3 (by omega) a.length 0 k [] (by omega) (by omega)
    rw [show ((0 : Nat) : Int) = 0 from rfl, List.drop_zero, List.drop_zero] at h
    have c3' : decide ((a.length : Int) = b.length) = true := by simp [c3]
    by_cases c4 : a = b
    · rw [if_pos c4] at h
      simp (decide := true) (implicitDefEqProofs := false) only [k56, go_sem, len_events, h, c3', Bool.not_true, decide_eq_true c4]
      exact ⟨_, _, rfl, rfl⟩
    · rw [if_neg c4] at h
      simp (decide := true) (implicitDefEqProofs := false) only [k56, go_sem, len_events, h, c3', Bool.not_true, decide_eq_false c4]
      exact ⟨_, _, rfl, rfl⟩
  · have c4 : ¬ a = b := fun e => c3 (by rw [e])
    have c3' : ¬ ((a.length : Int) = b.length) := by omega
    simp (decide := true) (implicitDefEqProofs := false) only [k56, go_sem, len_events, decide_eq_false c3', Bool.not_false, decide_eq_false c4]
    exact ⟨_, _, rfl, rfl⟩
end Go.Proofs.Ytahcbcgakadfpaa.Ts
