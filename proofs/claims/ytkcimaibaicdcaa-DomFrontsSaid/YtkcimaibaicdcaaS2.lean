import Derived.Test.YtkcimaibaicdcaaS1
set_option linter.unusedSimpArgs false
namespace Go.Proofs.Ytkcimaibaicdcaa.Tk
open Go.Tm Go.Tm.Tab
set_option maxRecDepth 100000
section
variable {n : Nat}
theorem next_loop (f : Tm.Func) (x : List Int) (hx : x.length < 2 ^ 35) {k : Nat} (hk : 2 ^ 35 + 3 ≤ k) (d : Nat) : ∀ (i m : Nat), i + d = x.length → d < m → ∀ (h : Heap) (c : C) (out : List Int), h[0]? = some (.row 0 (encFunc f)) → Grow h c out → (∀ o k, c ≠ .os 0 0 o k) → out.length ≤ i →
    ∃ h' c', Tm.Loop Try.prog (valsOf tab) (callAt Try.prog tab k) n [2, 5, 55, 56, 57] k19b0 m ⟨[(2, .op 0 0), (5, c), (55, ints x), (56, int x.length), (57, int i)], h⟩ = some (.exit 0, ⟨[(2, .op 0 0), (5, c'), (55, ints x), (56, int x.length), (57, int x.length), (58, bool false)], h'⟩) ∧ Grow h' c' ((x.drop i).foldl (addTo f.blocks.length) out)
 := by
  induction d with
  | zero =>
    intro i m hi hm h c out h0 ho hne hl
    obtain ⟨m, rfl⟩ : ∃ p, m = p + 1 := ⟨m - 1, by omega⟩
    obtain rfl : i = x.length := by omega
    rw [Tm.Loop_succ]
    simp (decide := true) (implicitDefEqProofs := false) only [bind_ite, andThen_ite, leaves_ite, k19b0, go_sem, Int.lt_irrefl, decide_false]
    exact ⟨h, c, rfl, by simpa using ho⟩
  | succ d ih =>
    intro i m hi hm h c out h0 ho hne hl
    obtain ⟨m, rfl⟩ : ∃ p, m = p + 1 := ⟨m - 1, by omega⟩
    replace ih := ih (i + 1) m (by omega) (by omega)
    rw [Tm.Loop_succ, drop_rd (xs := x) (i := i) (by omega), List.foldl_cons]
    generalize Tm.Loop Try.prog (valsOf tab) (callAt Try.prog tab k) n [2, 5, 55, 56, 57] k19b0 m = L at ih ⊢
    have e1 : decide ((i : Int) < x.length) = true := by simp; omega
    have e2 : 0 ≤ (i : Int) ∧ (i : Int) < x.length := by omega
    have e3 := wrap_next (n := x.length) (i := i) (by omega) (by omega)
    have hcall := contains_runs out (rd x i) (by omega) k (by omega) [c, int (rd x i)] h (by simp only [mapC_cons, mapC_nil, depth, ho.view, view_int, Option.bind_some])
    rw [enc_func] at h0
    by_cases c1 : rd x i ≥ 0
    · by_cases c2 : rd x i < (f.blocks.length : Int)
      · by_cases c3 : rd x i ∈ out
        · have ha : addTo f.blocks.length out (rd x i) = out := if_neg (fun h => h.2.2 c3)
          rw [ha]
          simp (decide := true) (implicitDefEqProofs := false) only [bind_ite, andThen_ite, leaves_ite, k19b0, go_sem, e1, e2, e3, h0, decide_eq_true c1, decide_eq_true c2, decide_eq_true c3, hcall]
          exact ih h c out h0 ho hne (by omega)
        · have ha : addTo f.blocks.length out (rd x i) = out ++ [rd x i] := if_pos ⟨c1, c2, c3⟩
          rw [ha]
          have hlen := (List.getElem?_eq_some_iff.1 h0).1
          have ho' : Grow (h ++ [.row 1 [int (rd x i)]]) c out := ho.mono fun l nd hl => by rw [List.getElem?_append_left (List.getElem?_eq_some_iff.1 hl).1]; exact hl
          obtain ⟨c', h', g1, g2, g4, g3⟩ := ho'.append (rd x i) (by unfold maxRow; omega)
          have g0 : (h ++ [Node.row 1 [int (rd x i)]])[h.length]? = some (.row 1 [int (rd x i)]) := by simp
          simp (decide := true) (implicitDefEqProofs := false) only [bind_ite, andThen_ite, leaves_ite, k19b0, go_sem, e1, e2, e3, h0, decide_eq_true c1, decide_eq_true c2, decide_eq_false c3, hcall, g0, g1]
          refine ih h' c' (out ++ [rd x i]) (g3 0 _ (by rw [List.getElem?_append_left hlen]; exact h0) hne) g2 (fun o k e => ?_) (by simp; omega)
          rw [g4] at e
          simp at e
      · have ha : addTo f.blocks.length out (rd x i) = out := if_neg (fun h => c2 h.2.1)
        rw [ha]
        simp (decide := true) (implicitDefEqProofs := false) only [bind_ite, andThen_ite, leaves_ite, k19b0, go_sem, e1, e2, e3, h0, decide_eq_true c1, decide_eq_false c2]
        exact ih h c out h0 ho hne (by omega)
    · have ha : addTo f.blocks.length out (rd x i) = out := if_neg (fun h => c1 h.1)
      rw [ha]
      simp (decide := true) (implicitDefEqProofs := false) only [bind_ite, andThen_ite, leaves_ite, k19b0, go_sem, e1, e2, e3, h0, decide_eq_false c1]
      exact ih h c out h0 ho hne (by omega)
theorem ins_ne {l : List Ins} : l ≠ [] ↔ ¬ ((l.length : Int) = 0) := by cases l <;> simp; omega
/-- A function that can be gone over: its rows are not too long. -/
structure Fine (f : Tm.Func) : Prop where
  blocks : f.blocks.length ≤ 16
  ins : ∀ b ∈ f.blocks, b.ins.length ≤ 90
  into : ∀ b ∈ f.blocks, ∀ i ∈ b.ins, i.args.length ≤ 20 ∧ i.into.length ≤ 20
theorem blkAt_mem {l : List Block} {b : Int} (h : 0 ≤ b ∧ b < l.length) : blkAt l b ∈ l := by
  unfold blkAt; rw [List.getD_eq_getElem?_getD, List.getElem?_eq_getElem (by omega)]; exact List.getElem_mem _
theorem insAt_mem {l : List Ins} {b : Int} (h : 0 ≤ b ∧ b < l.length) : insAt l b ∈ l := by
  unfold insAt; rw [List.getD_eq_getElem?_getD, List.getElem?_eq_getElem (by omega)]; exact List.getElem_mem _
theorem fold_len {n : Nat} : ∀ {x out : List Int}, (x.foldl (addTo n) out).length ≤ out.length + x.length
  | [], out => by simp
  | t :: x, out => by
    have := fold_len (n := n) (x := x) (out := addTo n out t)
    have := addTo_len (n := n) (out := out) (t := t)
    simp only [List.foldl_cons, List.length_cons]; omega
theorem addTo_in {n : Nat} {out : List Int} {t v : Int} (h : ∀ v ∈ out, 0 ≤ v ∧ v < (n : Int)) (hv : v ∈ addTo n out t) : 0 ≤ v ∧ v < (n : Int) := by
  unfold addTo at hv
  split at hv
  · rename_i c
    rcases List.mem_append.1 hv with hv | hv
    · exact h v hv
    · rw [List.mem_singleton.1 hv]; exact ⟨c.1, c.2.1⟩
  · exact h v hv
theorem fold_in {n : Nat} : ∀ {x out : List Int}, (∀ v ∈ out, 0 ≤ v ∧ v < (n : Int)) → ∀ v ∈ x.foldl (addTo n) out, 0 ≤ v ∧ v < (n : Int)
  | [], out, h => h
  | t :: x, out, h => fold_in (x := x) fun _ hv => addTo_in h hv
theorem next_in {l : List Block} {b v : Int} (h : v ∈ nextOf l b) : 0 ≤ v ∧ v < (l.length : Int) := by
  unfold nextOf at h
  split at h
  · exact fold_in (by simp) _ h
  · simp at h
theorem next_len {f : Tm.Func} (F : Fine f) (b : Int) : (nextOf f.blocks b).length ≤ 20 := by
  unfold nextOf
  split
  · rename_i g
    have hb := blkAt_mem ⟨g.1, g.2.1⟩
    have hp := List.length_pos_iff.2 g.2.2.1
    have := (F.into _ hb _ (insAt_mem (l := (blkAt f.blocks b).ins) (b := ((blkAt f.blocks b).ins.length : Int) - 1) (by omega))).2
    have := fold_len (n := f.blocks.length) (x := (lastI f.blocks b).into) (out := [])
    unfold lastI at *
    simp at *
    omega
  · simp
theorem next_runs (f : Tm.Func) (F : Fine f) (b : Int) : Runs Try.prog tab (2 ^ 36 + 1) 19 [.agg (encFunc f), int b] (ints (nextOf f.blocks b)) := by
  refine Runs.by (rs := [.tmp 4]) (N := 82) rfl Try.func19 rfl rfl (by simp) fun k hk => ?_
  rw [enc_func]
  by_cases c1 : b < 0
  · have e : nextOf f.blocks b = [] := if_neg (fun h => by have := h.1; omega)
    rw [e]
    simp (decide := true) (implicitDefEqProofs := false) only [bind_ite, andThen_ite, leaves_ite, k19, go_sem, decide_eq_true c1]
    exact ⟨_, _, rfl, rfl⟩
  by_cases c2 : b ≥ f.blocks.length
  · have e : nextOf f.blocks b = [] := if_neg (fun h => by have := h.2.1; omega)
    rw [e]
    simp (decide := true) (implicitDefEqProofs := false) only [bind_ite, andThen_ite, leaves_ite, k19, go_sem, decide_eq_false c1, decide_eq_true c2]
    exact ⟨_, _, rfl, rfl⟩
  have e2 : 0 ≤ b ∧ b < f.blocks.length := by omega
  by_cases c3 : ((blkAt f.blocks b).ins.length : Int) = 0
  · have e : nextOf f.blocks b = [] := if_neg (fun h => by have := ins_ne.1 h.2.2.1; omega)
    rw [e]
    simp (decide := true) (implicitDefEqProofs := false) only [bind_ite, andThen_ite, leaves_ite, k19, go_sem, decide_eq_false c1, decide_eq_false c2, e2, decide_eq_true c3]
    exact ⟨_, _, rfl, rfl⟩
  have hb := blkAt_mem e2
  have hlen := F.ins _ hb
  have e3 : IntKind.i64.wrap (((blkAt f.blocks b).ins.length : Int) - 1) = ((blkAt f.blocks b).ins.length : Int) - 1 := wrap_in (by omega) (by omega)
  have e4 : 0 ≤ ((blkAt f.blocks b).ins.length : Int) - 1 ∧ ((blkAt f.blocks b).ins.length : Int) - 1 < ((blkAt f.blocks b).ins.length : Int) := by omega
  have hx : (insAt (blkAt f.blocks b).ins (((blkAt f.blocks b).ins.length : Int) - 1)).into.length < 2 ^ 35 := Nat.lt_of_le_of_lt (F.into _ hb _ (insAt_mem e4)).2 (by decide)
  by_cases c4 : (lastI f.blocks b).op = 27 ∨ (lastI f.blocks b).op = 28
  · have e : nextOf f.blocks b = (lastI f.blocks b).into.foldl (addTo f.blocks.length) [] := if_pos ⟨e2.1, e2.2, ins_ne.2 c3, c4⟩
    rw [e]
    unfold lastI at c4 ⊢
    obtain ⟨h', c', g1, g2⟩ := next_loop (n := k) f _ hx (k := k) (by omega) (insAt (blkAt f.blocks b).ins (((blkAt f.blocks b).ins.length : Int) - 1)).into.length 0 k (by omega) (by omega) [.row 0 (encFunc f), .row 0 (encIns (insAt (blkAt f.blocks b).ins (((blkAt f.blocks b).ins.length : Int) - 1)))] (.v (.slice none 0 0)) [] rfl (.inl ⟨rfl, rfl⟩) (fun o k h => by cases h) (Nat.le_refl _)
    rw [enc_func, show ((0 : Nat) : Int) = 0 from rfl] at g1
    unfold encIns at g1
    have hv := g2.view (cl := true) (n := 10)
    rw [List.drop_zero] at hv
    by_cases q : (insAt (blkAt f.blocks b).ins (((blkAt f.blocks b).ins.length : Int) - 1)).op = 27
    · simp (decide := true) (implicitDefEqProofs := false) only [bind_ite, andThen_ite, leaves_ite, k19, go_sem, decide_eq_false c1, decide_eq_false c2, e2, decide_eq_false c3, e3, e4, decide_eq_true q, g1]
      exact ⟨_, _, rfl, hv⟩
    · have q2 := c4.resolve_left q
      simp (decide := true) (implicitDefEqProofs := false) only [bind_ite, andThen_ite, leaves_ite, k19, go_sem, decide_eq_false c1, decide_eq_false c2, e2, decide_eq_false c3, e3, e4, decide_eq_false q, decide_eq_true q2, g1]
      exact ⟨_, _, rfl, hv⟩
  · have e : nextOf f.blocks b = [] := if_neg (fun h => c4 h.2.2.2)
    rw [e]
    unfold lastI at c4
    have d1 : (insAt (blkAt f.blocks b).ins (((blkAt f.blocks b).ins.length : Int) - 1)).op ≠ 27 := fun h => c4 (.inl h)
    have d2 : (insAt (blkAt f.blocks b).ins (((blkAt f.blocks b).ins.length : Int) - 1)).op ≠ 28 := fun h => c4 (.inr h)
    simp (decide := true) (implicitDefEqProofs := false) only [bind_ite, andThen_ite, leaves_ite, k19, go_sem, decide_eq_false c1, decide_eq_false c2, e2, decide_eq_false c3, e3, e4, decide_eq_false d1, decide_eq_false d2]
    exact ⟨_, _, rfl, rfl⟩
end
end Go.Proofs.Ytkcimaibaicdcaa.Tk
