import Derived.Test.YtkcimaibaicdcaaSF
set_option linter.unusedSimpArgs false
namespace Go.Proofs.Ytkcimaibaicdcaa.Tk
open Go.Tm Go.Tm.Tab
set_option maxRecDepth 100000
/-- plnref3.Last, where there is none. -/
theorem last_none (f : Tm.Func) (b : Int) (hb : ¬ hasLast f.blocks b) : RunsF Try.prog tab 1 63 [.agg (encFunc f), int b] (.tup [.agg (encIns noIns), bool false]) := by
  refine RunsF.by (rs := [.cell 4 56, .tmp 5]) (N := 39) rfl Try.func63 rfl rfl (by simp) (by simp only [mapC_cons, mapC_nil, depth, view_func f, view_int, Option.bind_some]) fun k hk => ?_
  rw [enc_func]
  by_cases c1 : b < 0
  · simp (decide := true) (implicitDefEqProofs := false) only [k63, go_sem, decide_eq_true c1]
    exact ⟨_, _, rfl, rfl⟩
  by_cases c2 : b ≥ f.blocks.length
  · simp (decide := true) (implicitDefEqProofs := false) only [k63, go_sem, decide_eq_false c1, decide_eq_true c2]
    exact ⟨_, _, rfl, rfl⟩
  have e2 : 0 ≤ b ∧ b < f.blocks.length := by omega
  have c3 : ((blkAt f.blocks b).ins.length : Int) = 0 := by
    by_cases c3 : ((blkAt f.blocks b).ins.length : Int) = 0
    · exact c3
    · exact absurd ⟨e2.1, e2.2, ins_ne.2 c3⟩ hb
  simp (decide := true) (implicitDefEqProofs := false) only [k63, go_sem, decide_eq_false c1, decide_eq_false c2, e2, decide_eq_true c3]
  exact ⟨_, _, rfl, rfl⟩
section
variable {n : Nat}
theorem rnext_loop (f : Tm.Func) (a : Ins) (hx : a.into.length < 2 ^ 35) {k : Nat} (hk : 2 ^ 35 + 3 ≤ k) (d : Nat) : ∀ (i m : Nat), i + d = a.into.length → d < m → ∀ (h : Heap) (c : C) (out : List Int), h[0]? = some (.row 0 (encFunc f)) → h[1]? = some (.row 0 (encIns a)) → Grow h c out → (∀ o k, c ≠ .os 0 0 o k) → (∀ o k, c ≠ .os 1 0 o k) → out.length ≤ i →
    ∃ h' c', Tm.Loop Try.prog (valsOf tab) (callAt Try.prog tab k) n [2, 5, 7, 8] k20b0 m ⟨[(2, .op 0 0), (5, .op 1 0), (7, c), (8, int i)], h⟩ = some (.exit 0, ⟨[(2, .op 0 0), (5, .op 1 0), (7, c'), (8, int a.into.length), (32, bool false)], h'⟩) ∧ Grow h' c' ((a.into.drop i).foldl (addTo f.blocks.length) out)
 := by
  induction d with
  | zero =>
    intro i m hi hm h c out h0 h1 ho hne hne1 hl
    obtain ⟨m, rfl⟩ : ∃ p, m = p + 1 := ⟨m - 1, by omega⟩
    obtain rfl : i = a.into.length := by omega
    rw [Tm.Loop_succ]
    unfold encIns at h1
    simp (decide := true) (implicitDefEqProofs := false) only [k20b0, go_sem, h1, Int.lt_irrefl, decide_false]
    exact ⟨h, c, rfl, by simpa using ho⟩
  | succ d ih =>
    intro i m hi hm h c out h0 h1 ho hne hne1 hl
    obtain ⟨m, rfl⟩ : ∃ p, m = p + 1 := ⟨m - 1, by omega⟩
    replace ih := ih (i + 1) m (by omega) (by omega)
    rw [Tm.Loop_succ, drop_rd (xs := a.into) (i := i) (by omega), List.foldl_cons]
    generalize Tm.Loop Try.prog (valsOf tab) (callAt Try.prog tab k) n [2, 5, 7, 8] k20b0 m = L at ih ⊢
    have e1 : decide ((i : Int) < a.into.length) = true := by simp; omega
    have e2 : 0 ≤ (i : Int) ∧ (i : Int) < a.into.length := by omega
    have e3 := wrap_next (n := a.into.length) (i := i) (by omega) (by omega)
    have hcall := in_runs out (rd a.into i) (by omega) k (by omega) [c, int (rd a.into i)] h (by simp only [mapC_cons, mapC_nil, depth, ho.view, view_int, Option.bind_some])
    have h0' := h0
    have h1' := h1
    rw [enc_func] at h0
    unfold encIns at h1
    by_cases c1 : rd a.into i ≥ 0
    · by_cases c2 : rd a.into i < (f.blocks.length : Int)
      · by_cases c3 : rd a.into i ∈ out
        · have ha : addTo f.blocks.length out (rd a.into i) = out := if_neg (fun h => h.2.2 c3)
          rw [ha]
          simp (decide := true) (implicitDefEqProofs := false) only [k20b0, go_sem, e1, e2, e3, h0, h1, decide_eq_true c1, decide_eq_true c2, decide_eq_true c3, hcall]
          exact ih h c out h0' h1' ho hne hne1 (by omega)
        · have ha : addTo f.blocks.length out (rd a.into i) = out ++ [rd a.into i] := if_pos ⟨c1, c2, c3⟩
          rw [ha]
          have hlen := (List.getElem?_eq_some_iff.1 h0).1
          have hlen1 := (List.getElem?_eq_some_iff.1 h1).1
          have ho' : Grow (h ++ [.row 1 [int (rd a.into i)]]) c out := ho.mono fun l nd hl => by rw [List.getElem?_append_left (List.getElem?_eq_some_iff.1 hl).1]; exact hl
          obtain ⟨c', h', g1, g2, g4, g3⟩ := ho'.append (rd a.into i) (by unfold maxRow; omega)
          have g0 : (h ++ [Node.row 1 [int (rd a.into i)]])[h.length]? = some (.row 1 [int (rd a.into i)]) := by simp
          simp (decide := true) (implicitDefEqProofs := false) only [k20b0, go_sem, e1, e2, e3, h0, h1, decide_eq_true c1, decide_eq_true c2, decide_eq_false c3, hcall, g0, g1]
          refine ih h' c' (out ++ [rd a.into i]) (g3 0 _ (by rw [List.getElem?_append_left hlen]; exact h0') hne) (g3 1 _ (by rw [List.getElem?_append_left hlen1]; exact h1') hne1) g2 (fun o k e => ?_) (fun o k e => ?_) (by simp; omega)
          · rw [g4] at e
            simp at e
          · rw [g4] at e
            simp at e
            obtain ⟨rfl, _⟩ := e
            simp at hlen1
      · have ha : addTo f.blocks.length out (rd a.into i) = out := if_neg (fun h => c2 h.2.1)
        rw [ha]
        simp (decide := true) (implicitDefEqProofs := false) only [k20b0, go_sem, e1, e2, e3, h0, h1, decide_eq_true c1, decide_eq_false c2]
        exact ih h c out h0' h1' ho hne hne1 (by omega)
    · have ha : addTo f.blocks.length out (rd a.into i) = out := if_neg (fun h => c1 h.1)
      rw [ha]
      simp (decide := true) (implicitDefEqProofs := false) only [k20b0, go_sem, e1, e2, e3, h0, h1, decide_eq_false c1]
      exact ih h c out h0' h1' ho hne hne1 (by omega)
/-- plnref3.Next. -/
theorem rnext_runs (f : Tm.Func) (F : Fine f) (b : Int) : Runs Try.prog tab (2 ^ 36 + 1) 20 [.agg (encFunc f), int b] (ints (nextOf f.blocks b)) := by
  refine Runs.by (rs := [.tmp 4]) (N := 60) rfl Try.func20 rfl rfl (by simp) fun k hk => ?_
  by_cases hb : hasLast f.blocks b
  · have hl : ∀ h, callAt Try.prog tab k 63 [.agg (encFunc f), int b] h = some (.tup [.agg (encIns (lastI f.blocks b)), bool true], h) := last_runs f F b hb k (by omega)
    by_cases c4 : (lastI f.blocks b).op = 27 ∨ (lastI f.blocks b).op = 28
    · have e : nextOf f.blocks b = (lastI f.blocks b).into.foldl (addTo f.blocks.length) [] := if_pos ⟨hb.1, hb.2.1, hb.2.2, c4⟩
      rw [e]
      have e4 : 0 ≤ ((blkAt f.blocks b).ins.length : Int) - 1 ∧ ((blkAt f.blocks b).ins.length : Int) - 1 < ((blkAt f.blocks b).ins.length : Int) := by
        have := ins_ne.1 hb.2.2
        omega
      have hx : (lastI f.blocks b).into.length < 2 ^ 35 := Nat.lt_of_le_of_lt (F.into _ (blkAt_mem ⟨hb.1, hb.2.1⟩) _ (insAt_mem e4)).2 (by decide)
      generalize lastI f.blocks b = a at hl c4 hx ⊢
      obtain ⟨h', c', g1, g2⟩ := rnext_loop (n := k) f a hx (k := k) (by omega) a.into.length 0 k (by omega) (by omega) [.row 0 (encFunc f), .row 0 (encIns a)] (.v (.slice none 0 0)) [] rfl rfl (.inl ⟨rfl, rfl⟩) (fun o k h => by cases h) (fun o k h => by cases h) (Nat.le_refl _)
      rw [enc_func, show ((0 : Nat) : Int) = 0 from rfl] at g1
      rw [enc_func] at hl ⊢
      unfold encIns at g1 hl
      have hv := g2.view (cl := true) (n := 10)
      rw [List.drop_zero] at hv
      by_cases q : a.op = 27
      · simp (decide := true) (implicitDefEqProofs := false) only [k20, go_sem, hl, tupAt, decide_eq_true q, g1]
        exact ⟨_, _, rfl, hv⟩
      · have q2 := c4.resolve_left q
        simp (decide := true) (implicitDefEqProofs := false) only [k20, go_sem, hl, tupAt, decide_eq_false q, decide_eq_true q2, g1]
        exact ⟨_, _, rfl, hv⟩
    · have e : nextOf f.blocks b = [] := if_neg (fun h => c4 h.2.2.2)
      rw [e]
      generalize lastI f.blocks b = a at hl c4 ⊢
      have d1 : a.op ≠ 27 := fun h => c4 (.inl h)
      have d2 : a.op ≠ 28 := fun h => c4 (.inr h)
      rw [enc_func] at hl ⊢
      unfold encIns at hl
      simp (decide := true) (implicitDefEqProofs := false) only [k20, go_sem, hl, tupAt, decide_eq_false d1, decide_eq_false d2]
      exact ⟨_, _, rfl, rfl⟩
  · have e : nextOf f.blocks b = [] := if_neg (fun h => hb ⟨h.1, h.2.1, h.2.2.1⟩)
    rw [e]
    have hl : ∀ h, callAt Try.prog tab k 63 [.agg (encFunc f), int b] h = some (.tup [.agg (encIns noIns), bool false], h) := last_none f b hb k (by omega)
    rw [enc_func] at hl ⊢
    unfold encIns at hl
    simp (decide := true) (implicitDefEqProofs := false) only [k20, go_sem, hl, tupAt]
    exact ⟨_, _, rfl, rfl⟩
end
end Go.Proofs.Ytkcimaibaicdcaa.Tk
