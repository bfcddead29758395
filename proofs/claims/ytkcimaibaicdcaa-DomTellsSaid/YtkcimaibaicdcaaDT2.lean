import Derived.Test.YtkcimaibaicdcaaDT1
set_option linter.unusedSimpArgs false
namespace Go.Tm
@[go_sem] theorem resC_cell {P : Program} {e : Env} {h : Heap} (x : Nat) (t : TypeId) (r : List ResultVar) : resC P e h (.cell x t :: r) = (look e x).bind fun p => (loadC P h t p).bind fun c => (resC P e h r).bind fun cs => some (c :: cs) := rfl
theorem view_tup {cl : Bool} {h : Heap} {n : Nat} (cs : List C) : view cl h (n + 1) (.tup cs) = (mapC (view cl h n) cs).map .tup := rfl
end Go.Tm
namespace Go.Proofs.Ytkcimaibaicdcaa.Tk
open Go.Tm Go.Tm.Tab
set_option maxRecDepth 100000
def noIns : Ins := ⟨0, 0, 0, 0, 0, [], []⟩
def hasLast (l : List Block) (b : Int) : Prop := 0 ≤ b ∧ b < (l.length : Int) ∧ (blkAt l b).ins ≠ []
/-- plnref3.Last. -/
theorem last_runs (f : Tm.Func) (F : Fine f) (b : Int) (hb : hasLast f.blocks b) : RunsF Try.prog tab 1 63 [.agg (encFunc f), int b] (.tup [.agg (encIns (lastI f.blocks b)), bool true]) := by
  refine RunsF.by (rs := [.cell 4 56, .tmp 5]) (N := 39) rfl Try.func63 rfl rfl (by simp) (by simp only [mapC_cons, mapC_nil, depth, view_func f, view_int, Option.bind_some]) fun k hk => ?_
  obtain ⟨b0, b1, b2⟩ := hb
  have hlen := F.ins _ (blkAt_mem ⟨b0, b1⟩)
  have c3 := ins_ne.1 b2
  have e2 : 0 ≤ b ∧ b < (f.blocks.length : Int) := ⟨b0, b1⟩
  have c1 : decide (b < 0) = false := decide_eq_false (by omega)
  have c2 : decide (b ≥ (f.blocks.length : Int)) = false := decide_eq_false (by omega)
  have e3 : IntKind.i64.wrap (((blkAt f.blocks b).ins.length : Int) - 1) = ((blkAt f.blocks b).ins.length : Int) - 1 := wrap_in (by omega) (by omega)
  have e4 : 0 ≤ ((blkAt f.blocks b).ins.length : Int) - 1 ∧ ((blkAt f.blocks b).ins.length : Int) - 1 < ((blkAt f.blocks b).ins.length : Int) := by omega
  rw [enc_func]
  simp (decide := true) (implicitDefEqProofs := false) only [k63, go_sem, c1, c2, e2, decide_eq_false c3, e3, e4]
  refine ⟨_, _, rfl, ?_⟩
  unfold lastI encIns
  simp only [depth, view_tup, view_agg, mapC_cons, mapC_nil, view_int, view_ints, view_bool, Option.bind_some, Option.map_some]
end Go.Proofs.Ytkcimaibaicdcaa.Tk
set_option linter.unusedSimpArgs false
namespace Go.Proofs.Ytkcimaibaicdcaa.Tk
open Go.Tm Go.Tm.Tab
set_option maxRecDepth 100000
/-- plnref3.Last, where there is none. -/
theorem last_none (f : Tm.Func) (b : Int) (hb : ¬ hasLast f.blocks b) : RunsF Try.prog tab 1 63 [.agg (encFunc f), int b] (.tup [.agg (encIns noIns), bool false]) := by
  refine RunsF.by (rs := [.cell 4 56, .tmp 5]) (N := 39) rfl Try.func63 rfl rfl (by simp) (by simp only [mapC_cons, mapC_nil, depth, view_func f, view_int, Option.bind_some]) fun k hk => ?_
  rw [enc_func]
  by_cases c1 : b < 0
  · simp (decide := true) (implicitDefEqProofs := false) only [k63, go_sem, decide_eq_true c1]
    exact ⟨_, _, rfl, rfl⟩
  by_cases c2 : b ≥ f.blocks.length
  · simp (decide := true) (implicitDefEqProofs := false) only [k63, go_sem, decide_eq_false c1, decide_eq_true c2]
    exact ⟨_, _, rfl, rfl⟩
  have e2 : 0 ≤ b ∧ b < f.blocks.length := by omega
  have c3 : ((blkAt f.blocks b).ins.length : Int) = 0 := by
    by_cases c3 : ((blkAt f.blocks b).ins.length : Int) = 0
    · exact c3
    · exact absurd ⟨e2.1, e2.2, ins_ne.2 c3⟩ hb
  simp (decide := true) (implicitDefEqProofs := false) only [k63, go_sem, decide_eq_false c1, decide_eq_false c2, e2, decide_eq_true c3]
  exact ⟨_, _, rfl, rfl⟩
section
variable {n : Nat}
theorem rnext_loop (f : Tm.Func) (a : Ins) (hx : a.into.length < 2 ^ 35) {k : Nat} (hk : 2 ^ 35 + 3 ≤ k) (d : Nat) : ∀ (i m : Nat), i + d = a.into.length → d < m → ∀ (h : Heap) (c : C) (out : List Int), h[0]? = some (.row 0 (encFunc f)) → h[1]? = some (.row 0 (encIns a)) → Grow h c out → (∀ o k, c ≠ .os 0 0 o k) → (∀ o k, c ≠ .os 1 0 o k) → out.length ≤ i →
    ∃ h' c', Tm.Loop Try.prog (valsOf tab) (callAt Try.prog tab k) n [2, 5, 7, 8] k20b0 m ⟨[(2, .op 0 0), (5, .op 1 0), (7, c), (8, int i)], h⟩ = some (.exit 0, ⟨[(2, .op 0 0), (5, .op 1 0), (7, c'), (8, int a.into.length), (32, bool false)], h'⟩) ∧ Grow h' c' ((a.into.drop i).foldl (addTo f.blocks.length) out)
 := by
  induction d with
  | zero =>
    intro i m hi hm h c out h0 h1 ho hne hne1 hl
    obtain ⟨m, rfl⟩ : ∃ p, m = p + 1 := ⟨m - 1, by omega⟩
    obtain rfl : i = a.into.length := by omega
    rw [Tm.Loop_succ]
    unfold encIns at h1
    simp (decide := true) (implicitDefEqProofs := false) only [k20b0, go_sem, h1, Int.lt_irrefl, decide_false]
    exact ⟨h, c, rfl, by simpa using ho⟩
  | succ d ih =>
    intro i m hi hm h c out h0 h1 ho hne hne1 hl
    obtain ⟨m, rfl⟩ : ∃ p, m = p + 1 := ⟨m - 1, by omega⟩
    replace ih := ih (i + 1) m (by omega) (by omega)
    rw [Tm.Loop_succ, drop_rd (xs := a.into) (i := i) (by omega), List.foldl_cons]
    generalize Tm.Loop Try.prog (valsOf tab) (callAt Try.prog tab k) n [2, 5, 7, 8] k20b0 m = L at ih ⊢
    have e1 : decide ((i : Int) < a.into.length) = true := by simp; omega
    have e2 : 0 ≤ (i : Int) ∧ (i : Int) < a.into.length := by omega
    have e3 := wrap_next (n := a.into.length) (i := i) (by omega) (by omega)
    have hcall := in_runs out (rd a.into i) (by omega) k (by omega) [c, int (rd a.into i)] h (by simp only [mapC_cons, mapC_nil, depth, ho.view, view_int, Option.bind_some])
    have h0' := h0
    have h1' := h1
    rw [enc_func] at h0
    unfold encIns at h1
    by_cases c1 : rd a.into i ≥ 0
    · by_cases c2 : rd a.into i < (f.blocks.length : Int)
      · by_cases c3 : rd a.into i ∈ out
        · have ha : addTo f.blocks.length out (rd a.into i) = out := if_neg (fun h => h.2.2 c3)
          rw [ha]
          simp (decide := true) (implicitDefEqProofs := false) only [k20b0, go_sem, e1, e2, e3, h0, h1, decide_eq_true c1, decide_eq_true c2, decide_eq_true c3, hcall]
          exact ih h c out h0' h1' ho hne hne1 (by omega)
        · have ha : addTo f.blocks.length out (rd a.into i) = out ++ [rd a.into i] := if_pos ⟨c1, c2, c3⟩
          rw [ha]
          have hlen := (List.getElem?_eq_some_iff.1 h0).1
          have hlen1 := (List.getElem?_eq_some_iff.1 h1).1
          have ho' : Grow (h ++ [.row 1 [int (rd a.into i)]]) c out := ho.mono fun l nd hl => by rw [List.getElem?_append_left (List.getElem?_eq_some_iff.1 hl).1]; exact hl
          obtain ⟨c', h', g1, g2, g4, g3⟩ := ho'.append (rd a.into i) (by unfold maxRow; omega)
          have g0 : (h ++ [Node.row 1 [int (rd a.into i)]])[h.length]? = some (.row 1 [int (rd a.into i)]) := by simp
          simp (decide := true) (implicitDefEqProofs := false) only [k20b0, go_sem, e1, e2, e3, h0, h1, decide_eq_true c1, decide_eq_true c2, decide_eq_false c3, hcall, g0, g1]
          refine ih h' c' (out ++ [rd a.into i]) (g3 0 _ (by rw [List.getElem?_append_left hlen]; exact h0') hne) (g3 1 _ (by rw [List.getElem?_append_left hlen1]; exact h1') hne1) g2 (fun o k e => ?_) (fun o k e => ?_) (by simp; omega)
          · rw [g4] at e
            simp at e
          · rw [g4] at e
            simp at e
            obtain ⟨rfl, _⟩ := e
            simp at hlen1
      · have ha : addTo f.blocks.length out (rd a.into i) = out := if_neg (fun h => c2 h.2.1)
        rw [ha]
        simp (decide := true) (implicitDefEqProofs := false) only [k20b0, go_sem, e1, e2, e3, h0, h1, decide_eq_true c1, decide_eq_false c2]
        exact ih h c out h0' h1' ho hne hne1 (by omega)
    · have ha : addTo f.blocks.length out (rd a.into i) = out := if_neg (fun h => c1 h.1)
      rw [ha]
      simp (decide := true) (implicitDefEqProofs := false) only [k20b0, go_sem, e1, e2, e3, h0, h1, decide_eq_false c1]
      exact ih h c out h0' h1' ho hne hne1 (by omega)
/-- plnref3.Next. -/
theorem rnext_runs (f : Tm.Func) (F : Fine f) (b : Int) : Runs Try.prog tab (2 ^ 36 + 1) 20 [.agg (encFunc f), int b] (ints (nextOf f.blocks b)) := by
  refine Runs.by (rs := [.tmp 4]) (N := 60) rfl Try.func20 rfl rfl (by simp) fun k hk => ?_
  by_cases hb : hasLast f.blocks b
  · have hl : ∀ h, callAt Try.prog tab k 63 [.agg (encFunc f), int b] h = some (.tup [.agg (encIns (lastI f.blocks b)), bool true], h) := last_runs f F b hb k (by omega)
    by_cases c4 : (lastI f.blocks b).op = 27 ∨ (lastI f.blocks b).op = 28
    · have e : nextOf f.blocks b = (lastI f.blocks b).into.foldl (addTo f.blocks.length) [] := if_pos ⟨hb.1, hb.2.1, hb.2.2, c4⟩
      rw [e]
      have e4 : 0 ≤ ((blkAt f.blocks b).ins.length : Int) - 1 ∧ ((blkAt f.blocks b).ins.length : Int) - 1 < ((blkAt f.blocks b).ins.length : Int) := by
        have := ins_ne.1 hb.2.2
        omega
      have hx : (lastI f.blocks b).into.length < 2 ^ 35 := Nat.lt_of_le_of_lt (F.into _ (blkAt_mem ⟨hb.1, hb.2.1⟩) _ (insAt_mem e4)).2 (by decide)
      generalize lastI f.blocks b = a at hl c4 hx ⊢
      obtain ⟨h', c', g1, g2⟩ := rnext_loop (n := k) f a hx (k := k) (by omega) a.into.length 0 k (by omega) (by omega) [.row 0 (encFunc f), .row 0 (encIns a)] (.v (.slice none 0 0)) [] rfl rfl (.inl ⟨rfl, rfl⟩) (fun o k h => by cases h) (fun o k h => by cases h) (Nat.le_refl _)
      rw [enc_func, show ((0 : Nat) : Int) = 0 from rfl] at g1
      rw [enc_func] at hl ⊢
      unfold encIns at g1 hl
      have hv := g2.view (cl := true) (n := 10)
      rw [List.drop_zero] at hv
      by_cases q : a.op = 27
      · simp (decide := true) (implicitDefEqProofs := false) only [k20, go_sem, hl, tupAt, decide_eq_true q, g1]
        exact ⟨_, _, rfl, hv⟩
      · have q2 := c4.resolve_left q
        simp (decide := true) (implicitDefEqProofs := false) only [k20, go_sem, hl, tupAt, decide_eq_false q, decide_eq_true q2, g1]
        exact ⟨_, _, rfl, hv⟩
    · have e : nextOf f.blocks b = [] := if_neg (fun h => c4 h.2.2.2)
      rw [e]
      generalize lastI f.blocks b = a at hl c4 ⊢
      have d1 : a.op ≠ 27 := fun h => c4 (.inl h)
      have d2 : a.op ≠ 28 := fun h => c4 (.inr h)
      rw [enc_func] at hl ⊢
      unfold encIns at hl
      simp (decide := true) (implicitDefEqProofs := false) only [k20, go_sem, hl, tupAt, decide_eq_false d1, decide_eq_false d2]
      exact ⟨_, _, rfl, rfl⟩
  · have e : nextOf f.blocks b = [] := if_neg (fun h => hb ⟨h.1, h.2.1, h.2.2.1⟩)
    rw [e]
    have hl : ∀ h, callAt Try.prog tab k 63 [.agg (encFunc f), int b] h = some (.tup [.agg (encIns noIns), bool false], h) := last_none f b hb k (by omega)
    rw [enc_func] at hl ⊢
    unfold encIns at hl
    simp (decide := true) (implicitDefEqProofs := false) only [k20, go_sem, hl, tupAt]
    exact ⟨_, _, rfl, rfl⟩
end
end Go.Proofs.Ytkcimaibaicdcaa.Tk
set_option linter.unusedSimpArgs false
namespace Go.Proofs.Ytkcimaibaicdcaa.Tk
open Go.Tm Go.Tm.Tab
set_option maxRecDepth 100000
theorem rprev_in (f : Tm.Func) {vals : FuncId → Bool} {call : CallF} {n : Nat} (b : Int) (x : List Int) (hx : ∀ v ∈ x, 0 ≤ v ∧ v < (f.blocks.length : Int)) (hx2 : x.length ≤ 20) (d : Nat) : ∀ (i m : Nat), i + d = x.length → d < m → ∀ (h : Heap) (cells : List C) (acc : List (List Int)) (M : Nat), h[0]? = some (.row 0 (encFunc f)) → Tm.Rows h 1 cells acc → acc.length = f.blocks.length → (∀ j, (acc.getD j []).length ≤ M) → M + d < 2 ^ 30 →
    ∃ h' cells', Tm.Loop Try.prog vals call n [1, 3, 4, 5, 6] k23b0 m ⟨[(1, .op 0 0), (3, .os 1 0 f.blocks.length (some f.blocks.length)), (4, int b), (5, ints x), (6, int i)], h⟩ = some (.exit 2, ⟨[(1, .op 0 0), (3, .os 1 0 f.blocks.length (some f.blocks.length)), (4, int b), (5, ints x), (6, int x.length), (24, bool false)], h'⟩) ∧
      h'[0]? = some (.row 0 (encFunc f)) ∧ Tm.Rows h' 1 cells' ((x.drop i).foldl (push b) acc) ∧ ((x.drop i).foldl (push b) acc).length = f.blocks.length ∧ (∀ j, (((x.drop i).foldl (push b) acc).getD j []).length ≤ M + d) := by
  induction d with
  | zero =>
    intro i m hi hm h cells acc M h0 hR hL hM _
    obtain ⟨m, rfl⟩ : ∃ p, m = p + 1 := ⟨m - 1, by omega⟩
    obtain rfl : i = x.length := by omega
    rw [Tm.Loop_succ]
    simp (decide := true) (implicitDefEqProofs := false) only [k23b0, go_sem, Int.lt_irrefl, decide_false]
    exact ⟨h, cells, rfl, h0, by simpa using hR, by simpa using hL, by simpa using hM⟩
  | succ d ih =>
    intro i m hi hm h cells acc M h0 hR hL hM hMd
    obtain ⟨m, rfl⟩ : ∃ p, m = p + 1 := ⟨m - 1, by omega⟩
    replace ih := ih (i + 1) m (by omega) (by omega)
    rw [Tm.Loop_succ, drop_rd (xs := x) (i := i) (by omega), List.foldl_cons]
    generalize Tm.Loop Try.prog vals call n [1, 3, 4, 5, 6] k23b0 m = L at ih ⊢
    have e1 : decide ((i : Int) < x.length) = true := by simp; omega
    have e2 : 0 ≤ (i : Int) ∧ (i : Int) < x.length := by omega
    have e3 := wrap_next (n := x.length) (i := i) (by omega) (by omega)
    have e4 := hx _ (rd_mem e2.1 e2.2)
    have e5 : (rd x i).toNat < acc.length := by omega
    obtain ⟨c, c', h', g1, g2, g3, g4, g5, g6, g7, g8⟩ := hR.append e5 b (by have := hM (rd x i).toNat; unfold maxRow; omega)
    have g1' := get_isSome g1
    have g3' : storeR h' 1 (rd x i).toNat 1 (some (.row 1 cells)) [c'] = some (h'.set 1 (.row 1 (cells.set (rd x i).toNat c'))) := by
      rw [storeR_row, if_pos ⟨rfl, by simp; omega, by simp [g5]⟩]
      have := put_map (f := id) (v := c') g6
      simp only [List.map_id, id] at this
      rw [this]
    have hat := hR.at_
    simp (decide := true) (implicitDefEqProofs := false) only [k23b0, go_sem, e1, e2, e3, e4, hat, g1', g2, g3, g3', g4]
    obtain ⟨h2, cells2, q1, q2, q3, q4, q5⟩ := ih _ _ _ (M + 1) (g8 0 _ (by omega) h0) g7 (by simp [hL]) (fun j => push_row (t := rd x i) (b := b) j M hM) (by omega)
    exact ⟨h2, cells2, q1, q2, q3, q4, fun j => by have := q5 j; unfold push at this ⊢; omega⟩
theorem rnext_call (f : Tm.Func) (F : Fine f) (b : Int) {k : Nat} (hk : 2 ^ 36 + 1 ≤ k) (h : Heap) : callAt Try.prog tab k 20 [.agg [str f.name, bool f.out, ints f.params, int f.result, blocks f.blocks], int b] h = some (ints (nextOf f.blocks b), h) := by
  have := rnext_runs f F b k hk [.agg (encFunc f), int b] h (by simp only [mapC_cons, mapC_nil, depth, view_func f, view_int, Option.bind_some])
  exact this
theorem rprev_out (f : Tm.Func) (F : Fine f) {vals : FuncId → Bool} {k n : Nat} (hk : 2 ^ 36 + 1 ≤ k) (hn : 30 ≤ n) (d : Nat) : ∀ (i m : Nat), i + d = f.blocks.length → d < m → ∀ (h : Heap) (cells : List C) (acc : List (List Int)), h[0]? = some (.row 0 (encFunc f)) → Tm.Rows h 1 cells acc → acc.length = f.blocks.length → (∀ j, (acc.getD j []).length ≤ 20 * i) →
    ∃ h' cells', Tm.Loop Try.prog vals (callAt Try.prog tab k) n [1, 3, 4] k23b1 m ⟨[(1, .op 0 0), (3, .os 1 0 f.blocks.length (some f.blocks.length)), (4, int i)], h⟩ = some (.exit 0, ⟨[(1, .op 0 0), (3, .os 1 0 f.blocks.length (some f.blocks.length)), (4, int f.blocks.length), (15, bool false)], h'⟩) ∧
      Tm.Rows h' 1 cells' (prevFrom f.blocks d i acc) ∧ (prevFrom f.blocks d i acc).length = f.blocks.length := by
  have hb := F.blocks
  induction d with
  | zero =>
    intro i m hi hm h cells acc h0 hR hL hM
    obtain ⟨m, rfl⟩ : ∃ p, m = p + 1 := ⟨m - 1, by omega⟩
    obtain rfl : i = f.blocks.length := by omega
    rw [Tm.Loop_succ]
    rw [enc_func] at h0
    simp (decide := true) (implicitDefEqProofs := false) only [k23b1, go_sem, h0, Int.lt_irrefl, decide_false, prevFrom]
    exact ⟨h, cells, rfl, hR, hL⟩
  | succ d ih =>
    intro i m hi hm h cells acc h0 hR hL hM
    obtain ⟨m, rfl⟩ : ∃ p, m = p + 1 := ⟨m - 1, by omega⟩
    replace ih := ih (i + 1) m (by omega) (by omega)
    rw [Tm.Loop_succ]
    generalize Tm.Loop Try.prog vals (callAt Try.prog tab k) n [1, 3, 4] k23b1 m = L at ih ⊢
    have e1 : decide ((i : Int) < f.blocks.length) = true := by simp; omega
    have e3 := wrap_next (n := f.blocks.length) (i := i) (by omega) (by omega)
    have hx := next_len F i
    obtain ⟨h', cells', g1, g2, g3, g4, g5⟩ := rprev_in (vals := vals) (call := callAt Try.prog tab k) (n := n) f i (nextOf f.blocks i) (fun v hv => next_in hv) hx (nextOf f.blocks i).length 0 n (by omega) (by omega) h cells acc (20 * i) h0 hR hL hM (by omega)
    rw [show ((0 : Nat) : Int) = 0 from rfl] at g1
    rw [List.drop_zero] at g3 g4 g5
    have hcall := rnext_call f F i hk h
    rw [enc_func] at h0
    simp (decide := true) (implicitDefEqProofs := false) only [k23b1, go_sem, e1, e3, h0, hcall, g1]
    rw [enc_func] at g2
    exact ih h' cells' _ (by rw [enc_func]; exact g2) g3 g4 (fun j => by have := g5 j; omega)
/-- plnref3.Prev. -/
theorem rprev_runs (f : Tm.Func) (F : Fine f) : Runs Try.prog tab (2 ^ 36 + 2) 23 [.agg (encFunc f)] (rows (prevOf f.blocks)) := by
  have hb := F.blocks
  refine Runs.by (rs := [.tmp 2]) (N := 44) rfl Try.func23 rfl rfl (by simp) fun k hk => ?_
  have R0 : Tm.Rows [.row 0 (encFunc f), .row 1 (List.replicate f.blocks.length (.v (.slice none 0 0)))] 1 (List.replicate f.blocks.length (.v (.slice none 0 0))) (List.replicate f.blocks.length []) := by
    refine ⟨rfl, by simp, fun j c hc => ?_, fun j l hl => ?_, fun j k l hj => ?_⟩
    · obtain ⟨hj, rfl⟩ := List.getElem?_eq_some_iff.1 hc
      refine .inl ⟨?_, by simp⟩
      simp only [List.getD_eq_getElem?_getD, List.getElem?_replicate]; split <;> rfl
    · rw [List.getElem?_replicate] at hl; split at hl <;> cases hl
    · rw [List.getElem?_replicate] at hj; split at hj <;> cases hj
  obtain ⟨h', cells', g1, g2, g3⟩ := rprev_out f F (vals := valsOf tab) (k := k) (n := k) (by omega) (by omega) f.blocks.length 0 k (by omega) (by omega) _ _ _ rfl R0 (by simp) (fun j => by rw [List.getD_eq_getElem?_getD, List.getElem?_replicate]; split <;> simp)
  rw [show ((0 : Nat) : Int) = 0 from rfl, enc_func] at g1
  rw [enc_func]
  have eM : 0 ≤ (f.blocks.length : Int) ∧ (f.blocks.length : Int) ≤ (f.blocks.length : Int) ∧ (f.blocks.length : Int) ≤ (maxRow : Nat) := ⟨by omega, by omega, by unfold maxRow; omega⟩
  simp (decide := true) (implicitDefEqProofs := false) only [k23, go_sem, eM, Int.toNat_natCast, rep_one, g1]
  refine ⟨_, _, rfl, ?_⟩
  have := g2.view (cl := true) (n := 9) (cap := some f.blocks.length)
  rw [g3] at this
  exact this
end Go.Proofs.Ytkcimaibaicdcaa.Tk
set_option linter.unusedSimpArgs false
namespace Go.Proofs.Ytkcimaibaicdcaa.Tk
open Go.Tm Go.Tm.Tab
set_option maxRecDepth 100000
/-- What a pass does to the marks: it adds some, and says so. -/
structure Up (o : List Bool) (ag : Bool) (o' : List Bool) (ag' : Bool) : Prop where
  len : o'.length = o.length
  mono : ∀ v : Int, rdOf false o v = true → rdOf false o' v = true
  le : o'.count false ≤ o.count false
  quiet : ag' = false → o' = o ∧ ag = false
  loud : ag = false → ag' = true → o'.count false < o.count false
theorem Up.refl (o : List Bool) (ag : Bool) : Up o ag o ag := ⟨rfl, fun _ h => h, Nat.le_refl _, fun h => ⟨rfl, h⟩, fun h h2 => by rw [h] at h2; cases h2⟩
theorem Up.trans {o o1 o2 : List Bool} {a a1 a2 : Bool} (h : Up o a o1 a1) (k : Up o1 a1 o2 a2) : Up o a o2 a2 := by
  refine ⟨k.len.trans h.len, fun v hv => k.mono v (h.mono v hv), Nat.le_trans k.le h.le, fun e => ?_, fun e e2 => ?_⟩
  · obtain ⟨e1, e2⟩ := k.quiet e
    obtain ⟨e3, e4⟩ := h.quiet e2
    exact ⟨e1.trans e3, e4⟩
  · cases a1 with
    | true => exact Nat.lt_of_le_of_lt k.le (h.loud e rfl)
    | false => exact Nat.lt_of_lt_of_le (k.loud rfl e2) h.le
theorem Up.mark {o : List Bool} {i : Nat} {ag : Bool} (h : i < o.length) (hf : o.getD i false = false) : Up o ag (o.set i true) true := by
  have hc := countf_put h hf
  exact ⟨by simp, fun v hv => rdb_up hv, by omega, (fun e => by cases e), (fun _ _ => by omega)⟩
/-- All that is marked is met. -/
def Met (l : List Block) (less : Int) (o : List Bool) : Prop := ∀ v : Int, 0 ≤ v → v < (l.length : Int) → rdOf false o v = true → Rc (nextOf l) (· ≠ less) 0 v
theorem Met.mark {l : List Block} {less : Int} {o : List Bool} (h : Met l less o) (hl : o.length = l.length) {t : Int} (t0 : 0 ≤ t) (t1 : t < (l.length : Int)) (ht : Rc (nextOf l) (· ≠ less) 0 t) : Met l less (o.set t.toNat true) := fun v v0 v1 hv => by
  rw [rdb_set t0 (by omega) v0] at hv
  by_cases e : t = v
  · subst e; exact ht
  · rw [if_neg e] at hv; exact h v v0 v1 hv
theorem from_in (f : Tm.Func) (less : Int) {vals : FuncId → Bool} {call : CallF} {n : Nat} (b : Int) (x : List Int) (hx : ∀ v ∈ x, 0 ≤ v ∧ v < (f.blocks.length : Int)) (hx2 : x.length ≤ 20) (hR : ∀ v ∈ x, v ≠ less → Rc (nextOf f.blocks) (· ≠ less) 0 v) (d : Nat) : ∀ (i m : Nat), i + d = x.length → d < m → ∀ (h : Heap) (o : List Bool) (ag : Bool), h[0]? = some (.row 0 (encFunc f)) → h[1]? = some (.row 1 (o.map bool)) → o.length = f.blocks.length → Met f.blocks less o →
    ∃ h' o' ag', Tm.Loop Try.prog vals call n [2, 3, 7, 8, 9, 10, 11] k65b0 m ⟨[(2, int less), (3, .op 0 0), (7, .os 1 0 f.blocks.length (some f.blocks.length)), (8, bool ag), (9, int b), (10, ints x), (11, int i)], h⟩ = some (.exit 4, ⟨[(2, int less), (3, .op 0 0), (7, .os 1 0 f.blocks.length (some f.blocks.length)), (8, bool ag'), (9, int b), (10, ints x), (11, int x.length), (51, bool false)], h'⟩) ∧
      h'[0]? = some (.row 0 (encFunc f)) ∧ h'[1]? = some (.row 1 (o'.map bool)) ∧ Up o ag o' ag' ∧ Met f.blocks less o' ∧ (∀ t ∈ x.drop i, t ≠ less → rdOf false o' t = true) := by
  induction d with
  | zero =>
    intro i m hi hm h o ag h0 h1 hL hM
    obtain ⟨m, rfl⟩ : ∃ p, m = p + 1 := ⟨m - 1, by omega⟩
    obtain rfl : i = x.length := by omega
    rw [Tm.Loop_succ]
    simp (decide := true) (implicitDefEqProofs := false) only [k65b0, go_sem, Int.lt_irrefl, decide_false]
    exact ⟨h, o, ag, rfl, h0, h1, Up.refl _ _, hM, fun t ht => by simp at ht⟩
  | succ d ih =>
    intro i m hi hm h o ag h0 h1 hL hM
    obtain ⟨m, rfl⟩ : ∃ p, m = p + 1 := ⟨m - 1, by omega⟩
    replace ih := ih (i + 1) m (by omega) (by omega)
    rw [Tm.Loop_succ, drop_rd (xs := x) (i := i) (by omega)]
    generalize Tm.Loop Try.prog vals call n [2, 3, 7, 8, 9, 10, 11] k65b0 m = L at ih ⊢
    have e1 : decide ((i : Int) < x.length) = true := by simp; omega
    have e2 : 0 ≤ (i : Int) ∧ (i : Int) < x.length := by omega
    have e3 := wrap_next (n := x.length) (i := i) (by omega) (by omega)
    have hmem := rd_mem e2.1 e2.2
    have e4 := hx _ hmem
    have e5 : (rd x i).toNat < o.length := by omega
    by_cases c1 : rd x i = less
    · simp (decide := true) (implicitDefEqProofs := false) only [k65b0, go_sem, e1, e2, e3, decide_eq_true c1]
      obtain ⟨h', o', ag', q1, q2, q3, q4, q5, q6⟩ := ih h o ag h0 h1 hL hM
      refine ⟨h', o', ag', q1, q2, q3, q4, q5, fun t ht hne => ?_⟩
      rcases List.mem_cons.1 ht with rfl | ht
      · exact absurd c1 hne
      · exact q6 t ht hne
    · cases c2 : rdOf false o (rd x i) with
      | true =>
        have c2' : o.getD (rd x i).toNat false = true := c2
        simp (decide := true) (implicitDefEqProofs := false) only [k65b0, go_sem, e1, e2, e3, e4, e5, h1, decide_eq_false c1, c2']
        obtain ⟨h', o', ag', q1, q2, q3, q4, q5, q6⟩ := ih h o ag h0 h1 hL hM
        refine ⟨h', o', ag', q1, q2, q3, q4, q5, fun t ht hne => ?_⟩
        rcases List.mem_cons.1 ht with rfl | ht
        · exact q4.mono _ c2
        · exact q6 t ht hne
      | false =>
        have c2' : o.getD (rd x i).toNat false = false := c2
        have hlen := (List.getElem?_eq_some_iff.1 h1).1
        have a1 : storeR h 1 (rd x i).toNat 1 (some (.row 1 (o.map bool))) [bool true] = some (h.set 1 (.row 1 ((o.set (rd x i).toNat true).map bool))) := by
          rw [storeR_row, if_pos ⟨rfl, by simp; omega, rfl⟩, put_map (f := bool) e5]
        simp (decide := true) (implicitDefEqProofs := false) only [k65b0, go_sem, e1, e2, e3, e4, e5, h1, decide_eq_false c1, c2', a1]
        have hm1 := hM.mark hL e4.1 e4.2 (hR _ hmem c1)
        have hset : rdOf false (o.set (rd x i).toNat true) (rd x i) = true := by rw [rdb_set e4.1 (by omega) e4.1, if_pos rfl]
        obtain ⟨h', o', ag', q1, q2, q3, q4, q5, q6⟩ := ih (h.set 1 (.row 1 ((o.set (rd x i).toNat true).map bool))) (o.set (rd x i).toNat true) true (by rw [List.getElem?_set_ne (by decide)]; exact h0) (by rw [List.getElem?_set_self hlen]) (by simpa using hL) hm1
        refine ⟨h', o', ag', q1, q2, q3, (Up.mark e5 c2').trans q4, q5, fun t ht hne => ?_⟩
        rcases List.mem_cons.1 ht with rfl | ht
        · exact q4.mono _ hset
        · exact q6 t ht hne
theorem from_pass (f : Tm.Func) (F : Fine f) (less : Int) {vals : FuncId → Bool} {k n : Nat} (hk : 2 ^ 36 + 1 ≤ k) (hn : 30 ≤ n) (d : Nat) : ∀ (i m : Nat), i + d = f.blocks.length → d < m → ∀ (h : Heap) (o : List Bool) (ag : Bool), h[0]? = some (.row 0 (encFunc f)) → h[1]? = some (.row 1 (o.map bool)) → o.length = f.blocks.length → Met f.blocks less o →
    ∃ h' o' ag', Tm.Loop Try.prog vals (callAt Try.prog tab k) n [2, 3, 7, 8, 9] k65b1 m ⟨[(2, int less), (3, .op 0 0), (7, .os 1 0 f.blocks.length (some f.blocks.length)), (8, bool ag), (9, int i)], h⟩ = some (.exit 2, ⟨[(2, int less), (3, .op 0 0), (7, .os 1 0 f.blocks.length (some f.blocks.length)), (8, bool ag'), (9, int f.blocks.length), (37, bool false)], h'⟩) ∧
      h'[0]? = some (.row 0 (encFunc f)) ∧ h'[1]? = some (.row 1 (o'.map bool)) ∧ Up o ag o' ag' ∧ Met f.blocks less o' ∧ (ag' = false → ∀ b : Nat, i ≤ b → b < f.blocks.length → rdOf false o' b = true → ∀ t ∈ nextOf f.blocks b, t ≠ less → rdOf false o' t = true) := by
  have hb := F.blocks
  induction d with
  | zero =>
    intro i m hi hm h o ag h0 h1 hL hM
    obtain ⟨m, rfl⟩ : ∃ p, m = p + 1 := ⟨m - 1, by omega⟩
    obtain rfl : i = f.blocks.length := by omega
    rw [Tm.Loop_succ]
    simp (decide := true) (implicitDefEqProofs := false) only [k65b1, go_sem, Int.lt_irrefl, decide_false]
    exact ⟨h, o, ag, rfl, h0, h1, Up.refl _ _, hM, fun _ b h1 h2 => by omega⟩
  | succ d ih =>
    intro i m hi hm h o ag h0 h1 hL hM
    obtain ⟨m, rfl⟩ : ∃ p, m = p + 1 := ⟨m - 1, by omega⟩
    replace ih := ih (i + 1) m (by omega) (by omega)
    rw [Tm.Loop_succ]
    generalize Tm.Loop Try.prog vals (callAt Try.prog tab k) n [2, 3, 7, 8, 9] k65b1 m = L at ih ⊢
    have e1 : decide ((i : Int) < f.blocks.length) = true := by simp; omega
    have e3 := wrap_next (n := f.blocks.length) (i := i) (by omega) (by omega)
    have e4 : 0 ≤ (i : Int) ∧ (i : Int) < (f.blocks.length : Int) := by omega
    have e5 : i < o.length := by omega
    cases c2 : rdOf false o (i : Int) with
    | false =>
      have c2' : o.getD i false = false := by unfold rdOf at c2; rw [Int.toNat_natCast] at c2; exact c2
      simp (decide := true) (implicitDefEqProofs := false) only [k65b1, go_sem, e1, e3, e4, e5, h1, Int.toNat_natCast, c2']
      obtain ⟨h', o', ag', q1, q2, q3, q4, q5, q6⟩ := ih h o ag h0 h1 hL hM
      refine ⟨h', o', ag', q1, q2, q3, q4, q5, fun ea b hb1 hb2 hob => ?_⟩
      by_cases eb : b = i
      · subst eb
        rw [(q4.quiet ea).1, c2] at hob
        cases hob
      · exact q6 ea b (by omega) hb2 hob
    | true =>
      have c2' : o.getD i false = true := by unfold rdOf at c2; rw [Int.toNat_natCast] at c2; exact c2
      have hmi := hM i e4.1 e4.2 c2
      obtain ⟨h2, o2, ag2, g1, g2, g3, g4, g5, g6⟩ := from_in (vals := vals) (call := callAt Try.prog tab k) (n := n) f less i (nextOf f.blocks i) (fun v hv => next_in hv) (next_len F i) (fun v hv hne => .step hmi hv hne) (nextOf f.blocks i).length 0 n (by have := next_len F i; omega) (by have := next_len F i; omega) h o ag h0 h1 hL hM
      rw [show ((0 : Nat) : Int) = 0 from rfl] at g1
      rw [List.drop_zero] at g6
      have hcall := rnext_call f F i hk h
      have h0' := h0
      rw [enc_func] at h0'
      simp (decide := true) (implicitDefEqProofs := false) only [k65b1, go_sem, e1, e3, e4, e5, h0', h1, Int.toNat_natCast, c2', hcall, g1]
      obtain ⟨h', o', ag', q1, q2, q3, q4, q5, q6⟩ := ih h2 o2 ag2 g2 g3 (g4.len.trans hL) g5
      refine ⟨h', o', ag', q1, q2, q3, g4.trans q4, q5, fun ea b hb1 hb2 hob t ht hne => ?_⟩
      by_cases eb : b = i
      · subst eb
        exact q4.mono _ (g6 t ht hne)
      · exact q6 ea b (by omega) hb2 hob t ht hne
end Go.Proofs.Ytkcimaibaicdcaa.Tk
set_option linter.unusedSimpArgs false
namespace Go.Proofs.Ytkcimaibaicdcaa.Tk
open Go.Tm Go.Tm.Tab
set_option maxRecDepth 100000
open Classical in
/-- What is met from block 0 on without going through another one. -/
noncomputable def fromOf (l : List Block) (less : Int) : List Bool := (List.range l.length).map fun (v : Nat) => decide (Rc (nextOf l) (· ≠ less) 0 v)
theorem from_len (l : List Block) (less : Int) : (fromOf l less).length = l.length := by simp [fromOf]
theorem from_at {l : List Block} {less v : Int} (v0 : 0 ≤ v) (v1 : v < (l.length : Int)) : rdOf false (fromOf l less) v = true ↔ Rc (nextOf l) (· ≠ less) 0 v := by
  have h : v.toNat < l.length := by omega
  unfold rdOf fromOf
  rw [List.getD_eq_getElem?_getD, List.getElem?_map, List.getElem?_range h]
  simp only [Option.map_some, Option.getD_some, decide_eq_true_eq]
  rw [show ((v.toNat : Nat) : Int) = v by omega]
def Closed (l : List Block) (less : Int) (o : List Bool) : Prop := ∀ b : Nat, b < l.length → rdOf false o b = true → ∀ t ∈ nextOf l b, t ≠ less → rdOf false o t = true
theorem closed_from {l : List Block} {less : Int} {o : List Bool} (hL : o.length = l.length) (hM : Met l less o) (h0 : rdOf false o 0 = true) (hC : Closed l less o) : o = fromOf l less := by
  have hall : ∀ v : Int, Rc (nextOf l) (· ≠ less) 0 v → rdOf false o v = true ∧ 0 ≤ v := fun v hv => by
    generalize e : (0 : Int) = z at hv
    induction hv with
    | refl _ => subst e; exact ⟨h0, Int.le_refl _⟩
    | step _ hw hP ih =>
      subst e
      obtain ⟨i1, i2⟩ := ih
      rename_i u w _
      obtain ⟨r1, r2⟩ := next_in hw
      by_cases c : u < (l.length : Int)
      · have := hC u.toNat (by omega) (by rw [show ((u.toNat : Nat) : Int) = u by omega]; exact i1) w (by rw [show ((u.toNat : Nat) : Int) = u by omega]; exact hw) hP
        exact ⟨this, r1⟩
      · exfalso
        unfold rdOf at i1
        rw [List.getD_eq_getElem?_getD, List.getElem?_eq_none (by omega)] at i1
        cases i1
  refine List.ext_getElem? fun j => ?_
  by_cases hj : j < l.length
  · have h1 : o[j]? = some (rdOf false o j) := by
      unfold rdOf
      rw [Int.toNat_natCast, List.getD_eq_getElem?_getD, List.getElem?_eq_getElem (by omega)]; rfl
    have h2 : (fromOf l less)[j]? = some (rdOf false (fromOf l less) j) := by
      unfold rdOf
      rw [Int.toNat_natCast, List.getD_eq_getElem?_getD, List.getElem?_eq_getElem (by rw [from_len]; omega)]; rfl
    rw [h1, h2]
    congr 1
    rw [Bool.eq_iff_iff, from_at (by omega) (by omega)]
    exact ⟨fun h => hM j (by omega) (by omega) h, fun h => (hall _ h).1⟩
  · rw [List.getElem?_eq_none (by omega), List.getElem?_eq_none (by rw [from_len]; omega)]
theorem from_again (f : Tm.Func) (F : Fine f) (less : Int) {vals : FuncId → Bool} {k n : Nat} (hk : 2 ^ 36 + 1 ≤ k) (hn : 30 ≤ n) (c : Nat) : ∀ (m : Nat) (h : Heap) (o : List Bool) (ag : Bool), o.count false + (if ag = true then 1 else 0) ≤ c → c < m → h[0]? = some (.row 0 (encFunc f)) → h[1]? = some (.row 1 (o.map bool)) → o.length = f.blocks.length → Met f.blocks less o → rdOf false o 0 = true → (ag = false → Closed f.blocks less o) →
    ∃ h', Tm.Loop Try.prog vals (callAt Try.prog tab k) n [2, 3, 7, 8] k65b2 m ⟨[(2, int less), (3, .op 0 0), (7, .os 1 0 f.blocks.length (some f.blocks.length)), (8, bool ag)], h⟩ = some (.exit 0, ⟨[(2, int less), (3, .op 0 0), (7, .os 1 0 f.blocks.length (some f.blocks.length)), (33, bool false)], h'⟩) ∧ h'[1]? = some (.row 1 ((fromOf f.blocks less).map bool)) := by
  have hb := F.blocks
  induction c with
  | zero =>
    intro m h o ag hc hm h0 h1 hL hM hz hC
    obtain ⟨m, rfl⟩ : ∃ p, m = p + 1 := ⟨m - 1, by omega⟩
    cases ag with
    | true => rw [if_pos rfl] at hc; omega
    | false =>
      rw [Tm.Loop_succ]
      simp (decide := true) (implicitDefEqProofs := false) only [k65b2, go_sem]
      exact ⟨h, rfl, by rw [← closed_from hL hM hz (hC rfl)]; exact h1⟩
  | succ c ih =>
    intro m h o ag hc hm h0 h1 hL hM hz hC
    obtain ⟨m, rfl⟩ : ∃ p, m = p + 1 := ⟨m - 1, by omega⟩
    cases ag with
    | false =>
      rw [Tm.Loop_succ]
      simp (decide := true) (implicitDefEqProofs := false) only [k65b2, go_sem]
      exact ⟨h, rfl, by rw [← closed_from hL hM hz (hC rfl)]; exact h1⟩
    | true =>
      rw [if_pos rfl] at hc
      rw [Tm.Loop_succ]
      replace ih := ih m
      have hkeep : ∀ (w x y z : C) (u v : C) (q : Heap), Tm.Loop Try.prog vals (callAt Try.prog tab k) n [2, 3, 7, 8] k65b2 m ⟨[(2, w), (3, x), (7, y), (8, z), (9, u), (37, v)], q⟩ = Tm.Loop Try.prog vals (callAt Try.prog tab k) n [2, 3, 7, 8] k65b2 m ⟨[(2, w), (3, x), (7, y), (8, z)], q⟩ := fun w x y z u v q => by
        cases m with
        | zero => rfl
        | succ m => rw [Tm.Loop_succ, Tm.Loop_succ]; rfl
      generalize Tm.Loop Try.prog vals (callAt Try.prog tab k) n [2, 3, 7, 8] k65b2 m = L at ih hkeep ⊢
      obtain ⟨h2, o2, ag2, g1, g2, g3, g4, g5, g6⟩ := from_pass (vals := vals) (n := n) f F less hk hn f.blocks.length 0 n (by omega) (by omega) h o false h0 h1 hL hM
      rw [show ((0 : Nat) : Int) = 0 from rfl] at g1
      simp (decide := true) (implicitDefEqProofs := false) only [k65b2, go_sem, g1]
      rw [hkeep]
      refine ih h2 o2 ag2 ?_ (by omega) g2 g3 (g4.len.trans hL) g5 (g4.mono _ hz) (fun e b hb1 => g6 e b (Nat.zero_le _) hb1)
      cases ag2 with
      | true =>
        have := g4.loud rfl rfl
        rw [if_pos rfl]
        omega
      | false =>
        rw [(g4.quiet rfl).1, if_neg (by decide)]
        omega
theorem from_none {l : List Block} : fromOf l 0 = List.replicate l.length false := by
  refine List.ext_getElem? fun j => ?_
  unfold fromOf
  rw [List.getElem?_map, List.getElem?_replicate]
  by_cases hj : j < l.length
  · rw [List.getElem?_range hj, if_pos hj]
    simp only [Option.map_some, Option.some.injEq]
    rw [decide_eq_false_iff_not]
    exact fun h => h.left rfl
  · rw [List.getElem?_eq_none (by simpa using hj), if_neg hj]; rfl
theorem rep_bool (n : Nat) : List.replicate n (bool false) = (List.replicate n false).map bool := by rw [List.map_replicate]
theorem from_runs (f : Tm.Func) (F : Fine f) (hpos : 0 < f.blocks.length) (less : Int) : Runs Try.prog tab (2 ^ 36 + 2) 65 [.agg (encFunc f), int 0, int less] (bools (fromOf f.blocks less)) := by
  have hb := F.blocks
  refine Runs.by (rs := [.tmp 6]) (N := 77) rfl Try.func65 rfl rfl (by simp) fun k hk => ?_
  have eM : 0 ≤ (f.blocks.length : Int) ∧ (f.blocks.length : Int) ≤ (f.blocks.length : Int) ∧ (f.blocks.length : Int) ≤ (maxRow : Nat) := ⟨by omega, by omega, by unfold maxRow; omega⟩
  have c1 : decide ((0 : Int) ≥ (f.blocks.length : Int)) = false := decide_eq_false (by omega)
  have e0 : 0 ≤ (0 : Int) ∧ (0 : Int) < (f.blocks.length : Int) := by omega
  by_cases c2 : (0 : Int) = less
  · rw [enc_func, ← c2, from_none]
    simp (decide := true) (implicitDefEqProofs := false) only [k65, go_sem, eM, Int.toNat_natCast, rep_one, rep_bool, c1]
    refine ⟨_, _, rfl, ?_⟩
    have := view_os_bools (cl := true) (n := 10) (h := [.row 0 [str f.name, bool f.out, ints f.params, int f.result, blocks f.blocks], .row 1 ((List.replicate f.blocks.length false).map bool)]) (l := 1) (xs := List.replicate f.blocks.length false) (cap := some f.blocks.length) rfl
    rw [List.length_replicate] at this
    exact this
  · have hset : storeR [.row 0 (encFunc f), .row 1 ((List.replicate f.blocks.length false).map bool)] 1 0 1 (some (.row 1 ((List.replicate f.blocks.length false).map bool))) [bool true] = some [.row 0 (encFunc f), .row 1 (((List.replicate f.blocks.length false).set 0 true).map bool)] := by
      rw [storeR_row, if_pos ⟨rfl, by simp; omega, rfl⟩, put_map (f := bool) (by simp; omega)]
      rfl
    have hM : Met f.blocks less ((List.replicate f.blocks.length false).set 0 true) := fun v v0 v1 hv => by
      rw [show (0 : Nat) = ((0 : Int)).toNat from rfl, rdb_set (Int.le_refl 0) (by simp; omega) v0] at hv
      by_cases e : (0 : Int) = v
      · subst e; exact .refl c2
      · rw [if_neg e] at hv
        unfold rdOf at hv
        rw [List.getD_eq_getElem?_getD, List.getElem?_replicate] at hv
        split at hv <;> cases hv
    obtain ⟨h', g1, g2⟩ := from_again (vals := valsOf tab) (k := k) (n := k) f F less (by omega) (by omega) 40 k [.row 0 (encFunc f), .row 1 (((List.replicate f.blocks.length false).set 0 true).map bool)] ((List.replicate f.blocks.length false).set 0 true) true (by
      have : ((List.replicate f.blocks.length false).set 0 true).count false ≤ ((List.replicate f.blocks.length false).set 0 true).length := List.count_le_length
      rw [List.length_set, List.length_replicate] at this
      rw [if_pos rfl]; omega) (by omega) rfl rfl (by simp) hM (by
      rw [show (0 : Nat) = ((0 : Int)).toNat from rfl, rdb_set (Int.le_refl 0) (by simp; omega) (Int.le_refl 0), if_pos rfl]) (fun h => by cases h)
    rw [enc_func] at *
    simp (decide := true) (implicitDefEqProofs := false) only [k65, go_sem, eM, Int.toNat_natCast, rep_one, rep_bool, c1, decide_eq_false c2, e0, Int.toNat_zero, hset, g1]
    refine ⟨_, _, rfl, ?_⟩
    have := view_os_bools (cl := true) (n := 10) (cap := some f.blocks.length) g2
    rw [from_len] at this
    exact this
end Go.Proofs.Ytkcimaibaicdcaa.Tk
set_option linter.unusedSimpArgs false
namespace Go.Proofs.Ytkcimaibaicdcaa.Tk
open Go.Tm Go.Tm.Tab
set_option maxRecDepth 100000
theorem rc_any {l : List Block} {v : Int} : Rc (nextOf l) (· ≠ -1) 0 v ↔ Rc (nextOf l) (fun _ => True) 0 v := by
  constructor
  · intro h
    induction h with
    | refl _ => exact .refl trivial
    | step _ hw _ ih => exact .step ih hw trivial
  · intro h
    generalize e : (0 : Int) = z at h
    induction h with
    | refl _ => subst e; exact .refl (by decide)
    | step _ hw _ ih => exact .step ih hw (by have := (next_in hw).1; omega)
theorem reach_from (l : List Block) : fromOf l (-1) = reachOf l := by
  unfold fromOf reachOf
  refine List.map_congr_left fun v _ => ?_
  rw [decide_eq_decide]
  exact rc_any
/-- plnref3.Reach. -/
theorem rreach_runs (f : Tm.Func) (F : Fine f) (hpos : 0 < f.blocks.length) : RunsF Try.prog tab (2 ^ 36 + 3) 26 [.agg (encFunc f)] (bools (reachOf f.blocks)) := by
  refine RunsF.by (rs := [.tmp 2]) (N := 5) rfl Try.func26 rfl rfl (by simp) (by simp only [mapC_cons, mapC_nil, depth, view_func f, Option.bind_some]) fun k hk => ?_
  have hc : ∀ h, callAt Try.prog tab k 65 [.agg (encFunc f), int 0, int (-1)] h = some (bools (reachOf f.blocks), h) := fun h => by
    have := from_runs f F hpos (-1) k (by omega) [.agg (encFunc f), int 0, int (-1)] h (by simp only [mapC_cons, mapC_nil, depth, view_func f, view_int, Option.bind_some])
    rw [reach_from] at this
    exact this
  rw [enc_func] at *
  simp (decide := true) (implicitDefEqProofs := false) only [k26, go_sem, hc]
  exact ⟨_, _, rfl, by simp [depth, go_sem]⟩
/-- The blocks in front of block a, from i on. -/
noncomputable def frL (l : List Block) (a : Nat) (i d : Nat) : List Int := ((List.range' i d).filter fun (b : Nat) => fr l a b).map fun (b : Nat) => (b : Int)
theorem frFrom_row {l : List Block} {a : Nat} : ∀ (d i : Nat) (acc : List (List Int)), a < acc.length → (frFrom l a d i acc).getD a [] = acc.getD a [] ++ frL l a i d
  | 0, i, acc, _ => by simp [frFrom, frL]
  | d + 1, i, acc, h => by
    rw [frFrom]
    by_cases c : fr l a i = true
    · rw [if_pos c, frFrom_row d (i + 1) _ (by rw [push_len]; exact h)]
      have e : (push (i : Int) acc (a : Int)).getD a [] = acc.getD a [] ++ [(i : Int)] := by
        unfold push
        rw [Int.toNat_natCast, List.getD_eq_getElem?_getD, List.getElem?_set_self h]; rfl
      rw [e, List.append_assoc]
      congr 1
      unfold frL
      rw [List.range'_succ, List.filter_cons, if_pos c]
      rfl
    · rw [if_neg c, frFrom_row d (i + 1) acc h]
      congr 1
      unfold frL
      rw [List.range'_succ, List.filter_cons, if_neg c]
theorem frFrom_len {l : List Block} {a : Nat} : ∀ (d i : Nat) (acc : List (List Int)), (frFrom l a d i acc).length = acc.length
  | 0, i, acc => rfl
  | d + 1, i, acc => by
    rw [frFrom, frFrom_len d (i + 1)]
    split
    · rw [push_len]
    · rfl
theorem frontsFrom_row {l : List Block} {a : Nat} : ∀ (d i : Nat) (acc : List (List Int)), a < acc.length → (frontsFrom l d i acc).getD a [] = if i ≤ a ∧ a < i + d then acc.getD a [] ++ frL l a 0 l.length else acc.getD a []
  | 0, i, acc, h => by rw [if_neg (by omega)]; rfl
  | d + 1, i, acc, h => by
    rw [frontsFrom, frontsFrom_row d (i + 1) _ (by rw [frFrom_len]; exact h)]
    by_cases e : a = i
    · subst e
      rw [if_neg (by omega), if_pos (by omega), frFrom_row _ _ _ h]
    · rw [frFrom_other _ _ _ _ e]
      by_cases c : i + 1 ≤ a ∧ a < i + 1 + d
      · rw [if_pos c, if_pos (by omega)]
      · rw [if_neg c, if_neg (by omega)]
theorem fronts_row {l : List Block} {a : Int} (a0 : 0 ≤ a) (a1 : a < (l.length : Int)) : rowOfL (frontsOf l) a = frL l a.toNat 0 l.length := by
  unfold rowOfL frontsOf
  rw [frontsFrom_row _ _ _ (by simp; omega), if_pos (by omega)]
  rw [List.getD_eq_getElem?_getD, List.getElem?_replicate, if_pos (by omega)]
  rfl
theorem fronts_len (l : List Block) : (frontsOf l).length = l.length := by
  unfold frontsOf
  have : ∀ (d i : Nat) (acc : List (List Int)), (frontsFrom l d i acc).length = acc.length := by
    intro d
    induction d with
    | zero => intro i acc; rfl
    | succ d ih => intro i acc; rw [frontsFrom, ih, frFrom_len]
  rw [this, List.length_replicate]
theorem frL_mem {l : List Block} {a i d : Nat} {b : Int} : b ∈ frL l a i d ↔ ∃ j : Nat, i ≤ j ∧ j < i + d ∧ fr l a j = true ∧ (j : Int) = b := by
  unfold frL
  rw [List.mem_map]
  constructor
  · rintro ⟨j, hj, rfl⟩
    rw [List.mem_filter, List.mem_range'_1] at hj
    exact ⟨j, hj.1.1, hj.1.2, hj.2, rfl⟩
  · rintro ⟨j, h1, h2, h3, rfl⟩
    exact ⟨j, List.mem_filter.2 ⟨List.mem_range'_1.2 ⟨h1, h2⟩, h3⟩, rfl⟩
theorem fronts_mem {l : List Block} {a b : Int} (a0 : 0 ≤ a) (a1 : a < (l.length : Int)) (b0 : 0 ≤ b) (b1 : b < (l.length : Int)) : b ∈ rowOfL (frontsOf l) a ↔ fr l a b = true := by
  rw [fronts_row a0 a1, frL_mem]
  rw [show ((a.toNat : Nat) : Int) = a by omega]
  constructor
  · rintro ⟨j, _, _, h, rfl⟩; exact h
  · intro h; exact ⟨b.toNat, by omega, by omega, by rw [show ((b.toNat : Nat) : Int) = b by omega]; exact h, by omega⟩
theorem frL_asc {l : List Block} {a : Nat} : ∀ (d i : Nat), (frL l a i d).Pairwise (· < ·)
  | 0, i => by simp [frL]
  | d + 1, i => by
    have ih := frL_asc (l := l) (a := a) d (i + 1)
    have e : frL l a i (d + 1) = if fr l a i = true then (i : Int) :: frL l a (i + 1) d else frL l a (i + 1) d := by
      unfold frL
      rw [List.range'_succ, List.filter_cons]
      split <;> rfl
    rw [e]
    split
    · refine List.pairwise_cons.2 ⟨fun b hb => ?_, ih⟩
      obtain ⟨j, h1, _, _, rfl⟩ := frL_mem.1 hb
      omega
    · exact ih
theorem asc_rd {x : List Int} (h : x.Pairwise (· < ·)) {i : Nat} (h1 : 1 ≤ i) (h2 : i < x.length) : rd x ((i : Int) - 1) < rd x i := by
  have := List.pairwise_iff_getElem.1 h (i - 1) i (by omega) h2 (by omega)
  unfold rd
  rw [show ((i : Int) - 1).toNat = i - 1 by omega, Int.toNat_natCast, List.getD_eq_getElem?_getD, List.getD_eq_getElem?_getD, List.getElem?_eq_getElem (by omega), List.getElem?_eq_getElem h2]
  exact this
end Go.Proofs.Ytkcimaibaicdcaa.Tk
set_option linter.unusedSimpArgs false
namespace Go.Proofs.Ytkcimaibaicdcaa.Tk
open Go.Tm Go.Tm.Tab
set_option maxRecDepth 100000
theorem i64_and65535 (n : Int) : 0 ≤ Go.bits .and .i64 n 65535 ∧ Go.bits .and .i64 n 65535 ≤ 65535 := by
  have h : (BitVec.ofInt 64 65535).toNat = 2 ^ 16 - 1 := by decide
  have key : (BitVec.ofInt 64 n &&& BitVec.ofInt 64 65535).toNat = (n % ((2 ^ 64 : Nat) : Int)).toNat % 2 ^ 16 := by
    rw [BitVec.toNat_and, BitVec.toNat_ofInt, h, Nat.and_two_pow_sub_one_eq_mod]
  have e : Go.bits .and .i64 n 65535 = n % 65536 := by
    show IntKind.i64.wrap ((BitVec.ofInt 64 n &&& BitVec.ofInt 64 65535).toNat : Nat) = n % 65536
    rw [key, IntKind.wrap_i64]
    omega
  omega
theorem index_ok (x : Int) {n : Nat} (h : 0 < n) : 0 ≤ Int.tmod (Go.bits .and .i64 x 65535) (n : Int) ∧ Int.tmod (Go.bits .and .i64 x 65535) (n : Int) < (n : Int) :=
  ⟨Int.tmod_nonneg _ (i64_and65535 x).1, Int.tmod_lt_of_pos _ (by omega)⟩
/-- Some one that comes there is reached. -/
theorem ways_loop {vals : FuncId → Bool} {call : CallF} {n : Nat} (l : List Block) (b : Int) (b0 : 0 ≤ b ∧ b < ((prevOf l).length : Int)) (r : List Bool) (hr : r.length = l.length) (h : Heap) (hx2 : (rowOfL (prevOf l) b).length < 2 ^ 62) (hin : ∀ p ∈ rowOfL (prevOf l) b, 0 ≤ p ∧ p < (l.length : Int)) (d : Nat) : ∀ (i m : Nat), i + d = (rowOfL (prevOf l) b).length → d < m → (∃ j : Int, (i : Int) ≤ j ∧ j < ((rowOfL (prevOf l) b).length : Int) ∧ rdOf false r (rd (rowOfL (prevOf l) b) j) = true) →
    Tm.Loop Try.prog vals call n [2, 7, 8, 9, 10] k5b0 m ⟨[(2, int b), (7, int l.length), (8, rows (prevOf l)), (9, bools r), (10, int i)], h⟩ = some (.ret, ⟨[(6, bool true)], h⟩) := by
  induction d with
  | zero => rintro i m hi hm ⟨j, h1, h2, _⟩; omega
  | succ d ih =>
    intro i m hi hm hex
    obtain ⟨m, rfl⟩ : ∃ p, m = p + 1 := ⟨m - 1, by omega⟩
    replace ih := ih (i + 1) m (by omega) (by omega)
    rw [Tm.Loop_succ]
    generalize hx : rowOfL (prevOf l) b = x at *
    generalize Tm.Loop Try.prog vals call n [2, 7, 8, 9, 10] k5b0 m = L at ih ⊢
    have e1 : decide ((i : Int) < x.length) = true := by simp; omega
    have e2 : 0 ≤ (i : Int) ∧ (i : Int) < x.length := by omega
    have e3 := wrap_next (n := x.length) (i := i) (by omega) hx2
    have e4 := hin _ (rd_mem e2.1 e2.2)
    have e5 : 0 ≤ rd x i ∧ rd x i < (r.length : Int) := by omega
    have c1 : decide (rd x i ≥ 0) = true := decide_eq_true e4.1
    have c2 : decide (rd x i < (l.length : Int)) = true := decide_eq_true e4.2
    by_cases c : rdOf false r (rd x i) = true
    · simp (decide := true) (implicitDefEqProofs := false) only [k5b0, go_sem, b0, hx, e1, e2, e3, e5, c1, c2, c]
    · rw [Bool.not_eq_true] at c
      simp (decide := true) (implicitDefEqProofs := false) only [k5b0, go_sem, b0, hx, e1, e2, e3, e5, c1, c2, c]
      refine ih ?_
      obtain ⟨j, h1, h2, h3⟩ := hex
      by_cases q : j = i
      · subst q; rw [h3] at c; cases c
      · exact ⟨j, by omega, h2, h3⟩
theorem rc_last {N : Int → List Int} {u v : Int} (h : Rc N (fun _ => True) u v) : v = u ∨ ∃ p, Rc N (fun _ => True) u p ∧ v ∈ N p := by
  cases h with
  | refl _ => exact .inl rfl
  | step h1 h2 _ => exact .inr ⟨_, h1, h2⟩
theorem flowWays (f : Tm.Func) (hl : ∀ b ∈ f.blocks, b.ins.length < 2 ^ 45) (xa xb : Int) : Runs Try.prog tab (2 ^ 36 + 40) 5 [.agg (encFunc f), int xa, int xb] (bool true) := by
  refine Runs.by (rs := [.tmp 6]) (N := 128) rfl Try.func5 rfl rfl (by simp) fun k hk => ?_
  have hfirst : ∀ h, callAt Try.prog tab k 16 [] h = some (bool true, h) := fun h => first4 k (by omega) [] h rfl
  obtain ⟨t, ht, hF⟩ := light_runs f hl
  have hlight : ∀ h, callAt Try.prog tab k 17 [.agg (encFunc f)] h = some (bool t, h) := fun h => ht k (by omega) _ h (by simp only [mapC_cons, mapC_nil, depth, view_func f, Option.bind_some])
  cases t with
  | false =>
    rw [enc_func] at *
    simp (implicitDefEqProofs := false) only [k5, go_sem, hfirst, hlight]
    exact ⟨_, _, rfl, rfl⟩
  | true =>
    have F := hF rfl
    have hn := F.blocks
    by_cases c0 : (f.blocks.length : Int) = 0
    · rw [enc_func] at *
      simp (implicitDefEqProofs := false) only [k5, go_sem, hfirst, hlight, c0, decide_eq_true c0]
      exact ⟨_, _, rfl, rfl⟩
    · have hpos : 0 < f.blocks.length := by omega
      have ia := index_ok xa hpos
      have ib := index_ok xb hpos
      have ra := bin_rem (P := Try.prog) (t := 3) (x := .tmp 28) (y := .tmp 29) (a := Go.bits .and .i64 xa 65535) c0
      have rb := bin_rem (P := Try.prog) (t := 3) (x := .tmp 32) (y := .tmp 33) (a := Go.bits .and .i64 xb 65535) c0
      generalize Int.tmod (Go.bits .and .i64 xa 65535) (f.blocks.length : Int) = a at ia ra
      generalize Int.tmod (Go.bits .and .i64 xb 65535) (f.blocks.length : Int) = b at ib rb
      have hprev : ∀ h, callAt Try.prog tab k 22 [.agg (encFunc f)] h = some (rows (prevOf f.blocks), h) := fun h => prev_runs f F k (by omega) _ h (by simp only [mapC_cons, mapC_nil, depth, view_func f, Option.bind_some])
      have hreach : ∀ h, callAt Try.prog tab k 25 [.agg (encFunc f)] h = some (bools (reachOf f.blocks), h) := fun h => reach_runs f F k (by omega) _ h (by simp only [mapC_cons, mapC_nil, depth, view_func f, Option.bind_some])
      have hnext : ∀ h, callAt Try.prog tab k 19 [.agg (encFunc f), int a] h = some (ints (nextOf f.blocks a), h) := fun h => next_runs f F a k (by omega) _ h (by simp only [mapC_cons, mapC_nil, depth, view_func f, view_int, Option.bind_some])
      have hrow := prev_row F b
      have hin1 : ∀ h, callAt Try.prog tab k 31 [ints (rowOfL (prevOf f.blocks) b), int a] h = some (bool (decide (a ∈ rowOfL (prevOf f.blocks) b)), h) := fun h => in_runs _ a (by omega) k (by omega) _ h (by simp (decide := true) only [depth, go_sem])
      have hnl := next_len F a
      have hin2 : ∀ h, callAt Try.prog tab k 31 [ints (nextOf f.blocks a), int b] h = some (bool (decide (b ∈ nextOf f.blocks a)), h) := fun h => in_runs _ b (by omega) k (by omega) _ h (by simp (decide := true) only [depth, go_sem])
      have same : decide (a ∈ rowOfL (prevOf f.blocks) b) = decide (b ∈ nextOf f.blocks a) := by
        rw [decide_eq_decide, prev_mem ib.1]; exact ⟨fun h => h.2.2, fun h => ⟨ia.1, ia.2, h⟩⟩
      rw [same] at hin1
      have hpl := prev_len f.blocks
      have hrl := reach_len f.blocks
      have eb : 0 ≤ b ∧ b < ((prevOf f.blocks).length : Int) := by omega
      have ra2 : 0 ≤ a ∧ a < ((reachOf f.blocks).length : Int) := by omega
      have rb2 : 0 ≤ b ∧ b < ((reachOf f.blocks).length : Int) := by omega
      have r00 : (0 : Int) ≤ 0 ∧ (0 : Int) < ((reachOf f.blocks).length : Int) := by omega
      have d1 : decide (((prevOf f.blocks).length : Int) = (f.blocks.length : Int)) = true := by simp [hpl]
      have d2 : decide (((reachOf f.blocks).length : Int) = (f.blocks.length : Int)) = true := by simp [hrl]
      have r0 : rdOf false (reachOf f.blocks) 0 = true := (reach_at (by omega) (by omega)).2 (.refl trivial)
      have rA := reach_at (l := f.blocks) ia.1 ia.2
      have rB := reach_at (l := f.blocks) ib.1 ib.2
      rw [enc_func] at *
      have hways : b ≠ 0 → rdOf false (reachOf f.blocks) b = true → ∃ j : Int, ((0 : Nat) : Int) ≤ j ∧ j < ((rowOfL (prevOf f.blocks) b).length : Int) ∧ rdOf false (reachOf f.blocks) (rd (rowOfL (prevOf f.blocks) b) j) = true := fun hb0 hrb => by
        rcases rc_last (rB.1 hrb) with e | ⟨v, hv, hbv⟩
        · exact absurd e hb0
        · have v01 : 0 ≤ v ∧ v < (f.blocks.length : Int) := by
            rcases rc_last hv with rfl | ⟨p, _, hw⟩
            · omega
            · exact next_in hw
          obtain ⟨j, j0, j1, e⟩ := mem_rd ((prev_mem (l := f.blocks) ib.1).2 ⟨v01.1, v01.2, hbv⟩)
          exact ⟨j, by omega, j1, by rw [e]; exact (reach_at v01.1 v01.2).2 hv⟩
      have hloop : ∀ h, b ≠ 0 → rdOf false (reachOf f.blocks) b = true → Tm.Loop Try.prog (valsOf tab) (callAt Try.prog tab k) k [2, 7, 8, 9, 10] k5b0 k ⟨[(2, int b), (7, int f.blocks.length), (8, rows (prevOf f.blocks)), (9, bools (reachOf f.blocks)), (10, int 0)], h⟩ = some (.ret, ⟨[(6, bool true)], h⟩) := fun h hb0 hrb =>
        ways_loop f.blocks b eb (reachOf f.blocks) hrl h (by omega) (fun p hp => by obtain ⟨u, v, _⟩ := (prev_mem ib.1).1 hp; exact ⟨u, v⟩) (rowOfL (prevOf f.blocks) b).length 0 k (by omega) (by omega) (hways hb0 hrb)
      have hstep : rdOf false (reachOf f.blocks) a = true → b ∈ nextOf f.blocks a → rdOf false (reachOf f.blocks) b = true := fun h1 h2 => rB.2 (.step (rA.1 h1) h2 trivial)
      cases hrb : rdOf false (reachOf f.blocks) b with
      | false =>
        cases hra : rdOf false (reachOf f.blocks) a with
        | false =>
          simp (implicitDefEqProofs := false) only [k5, go_sem, hfirst, hlight, decide_eq_false c0, ra, rb, hprev, hreach, hnext, hin1, hin2, d1, d2, eb, ra2, rb2, r00, r0, hra, hrb]
          exact ⟨_, _, rfl, rfl⟩
        | true =>
          have hnot : decide (b ∈ nextOf f.blocks a) = false := decide_eq_false fun h => by rw [hstep hra h] at hrb; cases hrb
          rw [hnot] at hin1 hin2
          simp (implicitDefEqProofs := false) only [k5, go_sem, hfirst, hlight, decide_eq_false c0, ra, rb, hprev, hreach, hnext, hin1, hin2, d1, d2, eb, ra2, rb2, r00, r0, hra, hrb]
          exact ⟨_, _, rfl, rfl⟩
      | true =>
        generalize decide (b ∈ nextOf f.blocks a) = q at hin1 hin2
        by_cases hb0 : b = 0
        · cases hra : rdOf false (reachOf f.blocks) a <;> cases q <;> simp (implicitDefEqProofs := false) only [k5, go_sem, hfirst, hlight, decide_eq_false c0, ra, rb, hprev, hreach, hnext, hin1, hin2, d1, d2, eb, ra2, rb2, r00, r0, hra, hrb, decide_eq_true hb0] <;> exact ⟨_, _, rfl, rfl⟩
        · have hl0 := fun h => hloop h hb0 hrb
          cases hra : rdOf false (reachOf f.blocks) a <;> cases q <;> simp (implicitDefEqProofs := false) only [k5, go_sem, hfirst, hlight, decide_eq_false c0, ra, rb, hprev, hreach, hnext, hin1, hin2, d1, d2, eb, ra2, rb2, r00, r0, hra, hrb, decide_eq_false hb0, hl0] <;> exact ⟨_, _, rfl, rfl⟩
end Go.Proofs.Ytkcimaibaicdcaa.Tk
set_option linter.unusedSimpArgs false
namespace Go.Proofs.Ytkcimaibaicdcaa.Tk
open Go.Tm Go.Tm.Tab
set_option maxRecDepth 100000
section
variable {vals : FuncId → Bool} {call : CallF} {n : Nat}
theorem asc_loop (fs : List (List Int)) (a b : Int) (p : C) (h : Heap) (a01 : 0 ≤ a ∧ a < (fs.length : Int)) (hx : (rowOfL fs a).Pairwise (· < ·)) (hx2 : (rowOfL fs a).length < 2 ^ 20) : ∀ (d i m : Nat), (rowOfL fs a).length ≤ i + d → 1 ≤ i → i ≤ 2 ^ 20 → d < m →
    ∃ c, Tm.Loop Try.prog vals call n [1, 2, 3, 8, 9] k7b0 m ⟨[(1, int a), (2, int b), (3, p), (8, rows fs), (9, int i)], h⟩ = some (.exit 0, ⟨[(1, int a), (2, int b), (3, p), (8, rows fs), (9, c), (49, bool false)], h⟩)
  | 0, i, m, hi, h1, _, hm => by
    obtain ⟨m, rfl⟩ : ∃ p, m = p + 1 := ⟨m - 1, by omega⟩
    refine ⟨int i, ?_⟩
    rw [Tm.Loop_succ]
    have c : decide ((i : Int) < (rowOfL fs a).length) = false := by simp; omega
    simp (decide := true) (implicitDefEqProofs := false) only [k7b0, go_sem, a01, c]
  | d + 1, i, m, hi, h1, hi2, hm => by
    obtain ⟨m, rfl⟩ : ∃ p, m = p + 1 := ⟨m - 1, by omega⟩
    by_cases e : i < (rowOfL fs a).length
    · obtain ⟨c, ih⟩ := asc_loop fs a b p h a01 hx hx2 d (i + 1) m (by omega) (by omega) (by omega) (by omega)
      refine ⟨c, ?_⟩
      rw [Tm.Loop_succ]
      generalize Tm.Loop Try.prog vals call n [1, 2, 3, 8, 9] k7b0 m = L at ih ⊢
      have hlt := asc_rd hx h1 e
      generalize hX : rowOfL fs a = x at *
      have e1 : decide ((i : Int) < x.length) = true := by simp; omega
      have e2 : 0 ≤ (i : Int) ∧ (i : Int) < x.length := by omega
      have e3 := wrap_next (n := x.length) (i := i) (by omega) (by omega)
      have e4 : IntKind.i64.wrap ((i : Int) - 1) = (i : Int) - 1 := wrap_in (by omega) (by omega)
      have e5 : 0 ≤ (i : Int) - 1 ∧ (i : Int) - 1 < x.length := by omega
      have e6 : decide (rd x ((i : Int) - 1) ≥ rd x i) = false := decide_eq_false (by omega)
      simp (decide := true) (implicitDefEqProofs := false) only [k7b0, go_sem, a01, hX, e1, e2, e3, e4, e5, e6]
      exact ih
    · refine ⟨int i, ?_⟩
      rw [Tm.Loop_succ]
      have c : decide ((i : Int) < (rowOfL fs a).length) = false := by simp; omega
      simp (decide := true) (implicitDefEqProofs := false) only [k7b0, go_sem, a01, c]
theorem some_loop (f : Tm.Func) (a b : Int) (u v : C) (h : Heap) (h0 : h[0]? = some (.row 0 (encFunc f))) (ps : List (List Int)) (b01 : 0 ≤ b ∧ b < (ps.length : Int)) (hx2 : (rowOfL ps b).length < 2 ^ 20) (hv : vals 33 = true)
    (hc : ∀ p : Int, call 33 [.agg (encFunc f), int a, int p] h = some (bool (domB f.blocks a p), h)) : ∀ (d i m : Nat) (s : Bool), i + d = (rowOfL ps b).length → d < m →
    Tm.Loop Try.prog vals call n [1, 2, 3, 8, 10, 11, 12, 13] k7b1 m ⟨[(1, int a), (2, int b), (3, .op 0 0), (8, u), (10, rows ps), (11, v), (12, bool s), (13, int i)], h⟩ = some (.exit 2, ⟨[(1, int a), (2, int b), (3, .op 0 0), (8, u), (10, rows ps), (11, v), (12, bool (s || ((rowOfL ps b).drop i).any (domB f.blocks a))), (13, int (rowOfL ps b).length), (78, bool false)], h⟩)
  | 0, i, m, s, hi, hm => by
    obtain ⟨m, rfl⟩ : ∃ p, m = p + 1 := ⟨m - 1, by omega⟩
    obtain rfl : i = (rowOfL ps b).length := by omega
    rw [Tm.Loop_succ, List.drop_eq_nil_of_le (Nat.le_refl _), List.any_nil, Bool.or_false]
    simp (implicitDefEqProofs := false) only [k7b1, go_sem, b01, Int.lt_irrefl, decide_false]
  | d + 1, i, m, s, hi, hm => by
    obtain ⟨m, rfl⟩ : ∃ p, m = p + 1 := ⟨m - 1, by omega⟩
    have ih := fun s => some_loop f a b u v h h0 ps b01 hx2 hv hc d (i + 1) m s (by omega) (by omega)
    rw [Tm.Loop_succ, drop_rd (xs := rowOfL ps b) (i := i) (by omega), List.any_cons, ← Bool.or_assoc]
    generalize Tm.Loop Try.prog vals call n [1, 2, 3, 8, 10, 11, 12, 13] k7b1 m = L at ih ⊢
    generalize hX : rowOfL ps b = x at *
    have e1 : decide ((i : Int) < x.length) = true := by simp; omega
    have e2 : 0 ≤ (i : Int) ∧ (i : Int) < x.length := by omega
    have e3 := wrap_next (n := x.length) (i := i) (by omega) (by omega)
    have hcc := hc (rd x i)
    have ih' := ih (s || domB f.blocks a (rd x i))
    generalize domB f.blocks a (rd x i) = q at hcc ih' ⊢
    rw [enc_func] at *
    cases s with
    | true =>
      simp (decide := true) (implicitDefEqProofs := false) only [k7b1, go_sem, h0, b01, hX, e1, e2, e3, hv]
      exact ih'
    | false =>
      simp (decide := true) (implicitDefEqProofs := false) only [k7b1, go_sem, h0, b01, hX, e1, e2, e3, hcc, hv]
      exact ih'
end
/-- What is in front, told by Dom. -/
theorem fr_dom {l : List Block} {a b : Int} (a0 : 0 ≤ a ∧ a < (l.length : Int)) (b0 : 0 ≤ b ∧ b < (l.length : Int)) :
    fr l a b = (((rdOf false (reachOf l) a && rdOf false (reachOf l) b) && (rowOfL (prevOf l) b).any (domB l a)) && (decide (a = b) || !domB l a b)) := by
  have hany : ((rowOfL (prevOf l) b).any fun p => rdOf false (rowOv l a) p) = (rowOfL (prevOf l) b).any (domB l a) := by
    rw [Bool.eq_iff_iff, List.any_eq_true, List.any_eq_true]
    constructor
    · rintro ⟨p, hp, h⟩
      obtain ⟨p0, p1, _⟩ := (prev_mem b0.1).1 hp
      exact ⟨p, hp, domB_iff.2 ⟨a0, ⟨p0, p1⟩, (rowOv_at p0 p1).1 h⟩⟩
    · rintro ⟨p, hp, h⟩
      obtain ⟨p0, p1, _⟩ := (prev_mem b0.1).1 hp
      exact ⟨p, hp, (rowOv_at p0 p1).2 (domB_iff.1 h).2.2⟩
  have hab : rdOf false (rowOv l a) b = domB l a b := by
    rw [Bool.eq_iff_iff, rowOv_at b0.1 b0.2, domB_iff]
    exact ⟨fun h => ⟨a0, b0, h⟩, fun h => h.2.2⟩
  unfold fr
  rw [hany, hab]
  cases hs : (rowOfL (prevOf l) b).any (domB l a) with
  | false => simp
  | true =>
    obtain ⟨p, hp, h⟩ := List.any_eq_true.1 hs
    obtain ⟨p0, p1, hb⟩ := (prev_mem b0.1).1 hp
    obtain ⟨_, _, ho⟩ := domB_iff.1 h
    have h1 : rdOf false (reachOf l) a = true := (reach_at a0.1 a0.2).2 ho.1
    have h2 : rdOf false (reachOf l) b = true := (reach_at b0.1 b0.2).2 (.step ho.2.1 hb trivial)
    rw [h1, h2]
    cases decide (a = b) <;> cases domB l a b <;> rfl
set_option maxHeartbeats 1000000 in
theorem domFronts (f : Tm.Func) (hl : ∀ b ∈ f.blocks, b.ins.length < 2 ^ 45) (xa xb : Int) : Runs Try.prog tab (2 ^ 36 + 60) 7 [.agg (encFunc f), int xa, int xb] (bool true) := by
  refine Runs.by (rs := [.tmp 6]) (N := 126) rfl Try.func7 rfl rfl (by simp) fun k hk => ?_
  have hfirst : ∀ h, callAt Try.prog tab k 32 [] h = some (bool true, h) := fun h => first5 k (by omega) [] h rfl
  obtain ⟨t, ht, hF⟩ := light_runs f hl
  have hlight : ∀ h, callAt Try.prog tab k 17 [.agg (encFunc f)] h = some (bool t, h) := fun h => ht k (by omega) _ h (by simp only [mapC_cons, mapC_nil, depth, view_func f, Option.bind_some])
  cases t with
  | false =>
    rw [enc_func] at *
    simp (implicitDefEqProofs := false) only [k7, go_sem, hfirst, hlight]
    exact ⟨_, _, rfl, rfl⟩
  | true =>
    have F := hF rfl
    have hn := F.blocks
    by_cases c0 : (f.blocks.length : Int) = 0
    · rw [enc_func] at *
      simp (implicitDefEqProofs := false) only [k7, go_sem, hfirst, hlight, c0, decide_eq_true c0]
      exact ⟨_, _, rfl, rfl⟩
    · have hpos : 0 < f.blocks.length := by omega
      have ia := index_ok xa hpos
      have ib := index_ok xb hpos
      have ra := bin_rem (P := Try.prog) (t := 3) (x := .tmp 30) (y := .tmp 31) (a := Go.bits .and .i64 xa 65535) c0
      have rb := bin_rem (P := Try.prog) (t := 3) (x := .tmp 34) (y := .tmp 35) (a := Go.bits .and .i64 xb 65535) c0
      generalize Int.tmod (Go.bits .and .i64 xa 65535) (f.blocks.length : Int) = a at ia ra
      generalize Int.tmod (Go.bits .and .i64 xb 65535) (f.blocks.length : Int) = b at ib rb
      have hfront : ∀ h, callAt Try.prog tab k 34 [.agg (encFunc f)] h = some (rows (frontsOf f.blocks), h) := fun h => front_runs f F hpos k (by omega) _ h (by simp only [mapC_cons, mapC_nil, depth, view_func f, Option.bind_some])
      have hprev : ∀ h, callAt Try.prog tab k 23 [.agg (encFunc f)] h = some (rows (prevOf f.blocks), h) := fun h => rprev_runs f F k (by omega) _ h (by simp only [mapC_cons, mapC_nil, depth, view_func f, Option.bind_some])
      have hreach : ∀ h, callAt Try.prog tab k 26 [.agg (encFunc f)] h = some (bools (reachOf f.blocks), h) := fun h => rreach_runs f F hpos k (by omega) h
      have hdom : ∀ (p q : Int) h, callAt Try.prog tab k 33 [.agg (encFunc f), int p, int q] h = some (bool (domB f.blocks p q), h) := fun p q h => dom_runs f F p q k (by omega) _ h (by simp only [mapC_cons, mapC_nil, depth, view_func f, view_int, Option.bind_some])
      have hfl := fronts_len f.blocks
      have hpl := prev_len f.blocks
      have hrl := reach_len f.blocks
      have ea : 0 ≤ a ∧ a < ((frontsOf f.blocks).length : Int) := by omega
      have eb : 0 ≤ b ∧ b < ((prevOf f.blocks).length : Int) := by omega
      have ra2 : 0 ≤ a ∧ a < ((reachOf f.blocks).length : Int) := by omega
      have rb2 : 0 ≤ b ∧ b < ((reachOf f.blocks).length : Int) := by omega
      have hrow := fronts_row (l := f.blocks) ia.1 ia.2
      have hasc : (rowOfL (frontsOf f.blocks) a).Pairwise (· < ·) := by rw [hrow]; exact frL_asc _ _
      have hrl2 : (rowOfL (frontsOf f.blocks) a).length ≤ 16 := by
        rw [hrow]
        unfold frL
        rw [List.length_map]
        refine Nat.le_trans (List.length_filter_le _ _) ?_
        rw [List.length_range']; omega
      have hpr := prev_row F b
      have d1 : decide (((frontsOf f.blocks).length : Int) = (f.blocks.length : Int)) = true := by simp [hfl]
      have hin : ∀ h, callAt Try.prog tab k 31 [ints (rowOfL (frontsOf f.blocks) a), int b] h = some (bool (decide (b ∈ rowOfL (frontsOf f.blocks) a)), h) := fun h => in_runs _ b (by omega) k (by omega) _ h (by simp (decide := true) only [depth, go_sem])
      obtain ⟨c9, L0⟩ := asc_loop (vals := valsOf tab) (call := callAt Try.prog tab k) (n := k) (frontsOf f.blocks) a b (.op 0 0) [.row 0 (encFunc f)] ea hasc (by omega) 20 1 k (by omega) (by omega) (by omega) (by omega)
      have L1 := some_loop (vals := valsOf tab) (call := callAt Try.prog tab k) (n := k) f a b (rows (frontsOf f.blocks)) (bools (reachOf f.blocks)) [.row 0 (encFunc f)] rfl (prevOf f.blocks) eb (by omega) rfl (fun p => hdom a p _) (rowOfL (prevOf f.blocks) b).length 0 k false (by omega) (by omega)
      rw [show ((1 : Nat) : Int) = 1 from rfl] at L0
      rw [show ((0 : Nat) : Int) = 0 from rfl, List.drop_zero, Bool.false_or] at L1
      have key := fr_dom ia ib
      have hmem : decide (b ∈ rowOfL (frontsOf f.blocks) a) = fr f.blocks a b := by
        rw [Bool.eq_iff_iff, decide_eq_true_eq, fronts_mem ia.1 ia.2 ib.1 ib.2]
      rw [hmem, key] at hin
      have hdab := fun h => hdom a b h
      have hv33 : valsOf tab 33 = true := rfl
      have hv31 : valsOf tab 31 = true := rfl
      have hv23 : valsOf tab 23 = true := rfl
      have hv26 : valsOf tab 26 = true := rfl
      have hv34 : valsOf tab 34 = true := rfl
      generalize (rowOfL (prevOf f.blocks) b).any (domB f.blocks a) = q1 at L1 hin
      generalize domB f.blocks a b = q2 at hdab hin
      obtain ⟨q3, h3⟩ : ∃ q, decide (a = b) = q := ⟨_, rfl⟩
      obtain ⟨q4, h4⟩ : ∃ q, rdOf false (reachOf f.blocks) a = q := ⟨_, rfl⟩
      obtain ⟨q5, h5⟩ : ∃ q, rdOf false (reachOf f.blocks) b = q := ⟨_, rfl⟩
      rw [h3, h4, h5] at hin
      rw [enc_func] at *
      cases q4 with
      | false =>
        simp only [Bool.false_and, Bool.true_and, Bool.and_true, Bool.and_false, Bool.true_or, Bool.false_or, Bool.not_true, Bool.not_false] at hin
        simp (decide := true) (implicitDefEqProofs := false) only [k7, go_sem, hfirst, hlight, decide_eq_false c0, ra, rb, hfront, d1, L0, L1, hprev, hreach, ea, ra2, rb2, h3, h4, h5, hin, hdab, hv33, hv31, hv23, hv26, hv34]
        exact ⟨_, _, rfl, rfl⟩
      | true =>
        cases q5 with
        | false =>
          simp only [Bool.false_and, Bool.true_and, Bool.and_true, Bool.and_false, Bool.true_or, Bool.false_or, Bool.not_true, Bool.not_false] at hin
          simp (decide := true) (implicitDefEqProofs := false) only [k7, go_sem, hfirst, hlight, decide_eq_false c0, ra, rb, hfront, d1, L0, L1, hprev, hreach, ea, ra2, rb2, h3, h4, h5, hin, hdab, hv33, hv31, hv23, hv26, hv34]
          exact ⟨_, _, rfl, rfl⟩
        | true =>
          cases q1 with
          | false =>
            simp only [Bool.false_and, Bool.true_and, Bool.and_true, Bool.and_false, Bool.true_or, Bool.false_or, Bool.not_true, Bool.not_false] at hin
            simp (decide := true) (implicitDefEqProofs := false) only [k7, go_sem, hfirst, hlight, decide_eq_false c0, ra, rb, hfront, d1, L0, L1, hprev, hreach, ea, ra2, rb2, h3, h4, h5, hin, hdab, hv33, hv31, hv23, hv26, hv34]
            exact ⟨_, _, rfl, rfl⟩
          | true =>
            cases q3 with
            | true =>
              simp only [Bool.false_and, Bool.true_and, Bool.and_true, Bool.and_false, Bool.true_or, Bool.false_or, Bool.not_true, Bool.not_false] at hin
              simp (decide := true) (implicitDefEqProofs := false) only [k7, go_sem, hfirst, hlight, decide_eq_false c0, ra, rb, hfront, d1, L0, L1, hprev, hreach, ea, ra2, rb2, h3, h4, h5, hin, hdab, hv33, hv31, hv23, hv26, hv34]
              exact ⟨_, _, rfl, rfl⟩
            | false =>
              cases q2 with
              | false =>
                simp only [Bool.false_and, Bool.true_and, Bool.and_true, Bool.and_false, Bool.true_or, Bool.false_or, Bool.not_true, Bool.not_false] at hin
                simp (decide := true) (implicitDefEqProofs := false) only [k7, go_sem, hfirst, hlight, decide_eq_false c0, ra, rb, hfront, d1, L0, L1, hprev, hreach, ea, ra2, rb2, h3, h4, h5, hin, hdab, hv33, hv31, hv23, hv26, hv34]
                exact ⟨_, _, rfl, rfl⟩
              | true =>
                simp only [Bool.false_and, Bool.true_and, Bool.and_true, Bool.and_false, Bool.true_or, Bool.false_or, Bool.not_true, Bool.not_false] at hin
                simp (decide := true) (implicitDefEqProofs := false) only [k7, go_sem, hfirst, hlight, decide_eq_false c0, ra, rb, hfront, d1, L0, L1, hprev, hreach, ea, ra2, rb2, h3, h4, h5, hin, hdab, hv33, hv31, hv23, hv26, hv34]
                exact ⟨_, _, rfl, rfl⟩
end Go.Proofs.Ytkcimaibaicdcaa.Tk
set_option linter.unusedSimpArgs false
namespace Go.Proofs.Ytkcimaibaicdcaa.Tk
open Go.Tm Go.Tm.Tab
set_option maxRecDepth 100000
section
variable {vals : FuncId → Bool} {n : Nat}
theorem doms_in {call : CallF} (r w : List Bool) (nn i L : Nat) (hn : nn ≤ 16) (hi : i < nn) (hr : r.length = nn) (hw : w.length = nn) (hL : L ≠ 1) (cells : List C) (hci : (cells.drop i).head? = some (.os L 0 nn (some nn))) (p : C) (d : Nat) : ∀ (j m : Nat), j + d = nn → d < m → ∀ (h : Heap) (o : List Bool), h[1]? = some (.row 1 cells) → h[L]? = some (.row 1 (o.map bool)) → o.length = nn →
    ∃ (h' : Heap) (o' : List Bool), Tm.Loop Try.prog vals call n [1, 3, 4, 5, 6, 7] k35b0 m ⟨[(1, p), (3, .os 1 0 nn (some nn)), (4, bools r), (5, int i), (6, bools w), (7, int j)], h⟩ = some (.exit 2, ⟨[(1, p), (3, .os 1 0 nn (some nn)), (4, bools r), (5, int i), (6, bools w), (7, int nn), (37, bool false)], h'⟩) ∧
      h'[L]? = some (.row 1 (o'.map bool)) ∧ o'.length = nn ∧ (∀ j', j ≤ j' → j' < nn → o'[j']? = some (rdOf false r j' && (decide ((i : Int) = j') || !(rdOf false w j')))) ∧ (∀ j', j' < j → o'[j']? = o[j']?) ∧ (∀ (l : Nat) (nd : Tm.Node), l ≠ L → h[l]? = some nd → h'[l]? = some nd) := by
  induction d with
  | zero =>
    intro j m hj hm h o h2 hl ho
    obtain ⟨m, rfl⟩ : ∃ p, m = p + 1 := ⟨m - 1, by omega⟩
    obtain rfl : j = nn := by omega
    rw [Tm.Loop_succ]
    simp (implicitDefEqProofs := false) only [k35b0, go_sem, hr, Int.lt_irrefl, decide_false]
    exact ⟨h, o, rfl, hl, ho, fun j' a b => by omega, fun _ _ => rfl, fun _ _ _ e => e⟩
  | succ d ih =>
    intro j m hj hm h o h2 hl ho
    obtain ⟨m, rfl⟩ : ∃ p, m = p + 1 := ⟨m - 1, by omega⟩
    replace ih := ih (j + 1) m (by omega) (by omega)
    rw [Tm.Loop_succ]
    generalize Tm.Loop Try.prog vals call n [1, 3, 4, 5, 6, 7] k35b0 m = LL at ih ⊢
    have e1 : decide ((j : Int) < nn) = true := by simp; omega
    have ei : 0 ≤ (i : Int) ∧ (i : Int) < nn := by omega
    have ej : 0 ≤ (j : Int) ∧ (j : Int) < nn := by omega
    have e3 := wrap_next (n := nn) (i := j) (by omega) (by omega)
    have hjo : j < o.length := by omega
    have hLl := (List.getElem?_eq_some_iff.1 hl).1
    have a1 : ∀ v : Bool, storeR h L j 1 (some (.row 1 (o.map bool))) [bool v] = some (h.set L (.row 1 ((o.set j v).map bool))) := fun v => by
      rw [storeR_row, if_pos ⟨rfl, by simp; omega, rfl⟩, put_map (f := bool) hjo]
    obtain ⟨h', o', g1, g2, g3, g4, g5, g6⟩ := ih (h.set L (.row 1 ((o.set j (rdOf false r j && (decide ((i : Int) = j) || !(rdOf false w j)))).map bool))) (o.set j (rdOf false r j && (decide ((i : Int) = j) || !(rdOf false w j)))) (by rw [List.getElem?_set_ne hL]; exact h2) (by rw [List.getElem?_set_self hLl]) (by simp [ho])
    refine ⟨h', o', ?_, g2, g3, fun j' q1 q2 => ?_, fun j' q => by rw [g5 j' (by omega), List.getElem?_set_ne (by omega)], fun l nd q e => g6 l nd q (by rw [List.getElem?_set_ne (Ne.symm q)]; exact e)⟩
    · cases c1 : rdOf false r j with
      | true =>
        cases c2 : decide ((i : Int) = j) with
        | true =>
          rw [c1, c2, Bool.true_and, Bool.true_or] at g1
          simp (decide := true) (implicitDefEqProofs := false) only [k35b0, go_sem, hr, hw, e1, ei, ej, e3, Int.toNat_natCast, h2, hci, hl, c1, c2, a1]
          exact g1
        | false =>
          rw [c1, c2, Bool.true_and, Bool.false_or] at g1
          simp (decide := true) (implicitDefEqProofs := false) only [k35b0, go_sem, hr, hw, e1, ei, ej, e3, Int.toNat_natCast, h2, hci, hl, c1, c2, a1]
          exact g1
      | false =>
        rw [c1, Bool.false_and] at g1
        simp (decide := true) (implicitDefEqProofs := false) only [k35b0, go_sem, hr, hw, e1, ei, ej, e3, Int.toNat_natCast, h2, hci, hl, c1, a1]
        exact g1
    · by_cases e : j = j'
      · subst e
        rw [g5 j (by omega), List.getElem?_set_self hjo]
      · exact g4 j' (by omega) q2
end
structure OD (f : Tm.Func) (h : Heap) (cells : List C) (i : Nat) : Prop where
  f0 : h[0]? = some (.row 0 (encFunc f))
  at_ : h[1]? = some (.row 1 cells)
  len : cells.length = f.blocks.length
  each : ∀ j, j < i → ∃ lj, cells[j]? = some (.os lj 0 f.blocks.length (some f.blocks.length)) ∧ h[lj]? = some (.row 1 ((rowOv f.blocks j).map bool)) ∧ 1 < lj
theorem OD.put {f : Tm.Func} {h h' : Heap} {cells : List C} {i : Nat} (H : OD f h cells i) (hi : i < f.blocks.length) (h1 : h'[0]? = h[0]?) (h2 : h'[1]? = some (.row 1 (cells.set i (.os h.length 0 f.blocks.length (some f.blocks.length))))) (hL : h'[h.length]? = some (.row 1 ((rowOv f.blocks i).map bool))) (hh : ∀ (k : Nat) (nd : Tm.Node), 1 < k → h[k]? = some nd → h'[k]? = some nd) : OD f h' (cells.set i (.os h.length 0 f.blocks.length (some f.blocks.length))) (i + 1) := by
  have h2l := (List.getElem?_eq_some_iff.1 H.at_).1
  refine ⟨by rw [h1]; exact H.f0, h2, by simp [H.len], fun j hj => ?_⟩
  by_cases e : j = i
  · subst e
    exact ⟨_, List.getElem?_set_self (by rw [H.len]; exact hi), hL, h2l⟩
  · obtain ⟨lj, q1, q2, q3⟩ := H.each j (by omega)
    exact ⟨lj, by rw [List.getElem?_set_ne (Ne.symm e)]; exact q1, hh lj _ q3 q2, q3⟩
theorem doms_out (f : Tm.Func) (F : Fine f) (hpos : 0 < f.blocks.length) {k n : Nat} (hk : 2 ^ 36 + 2 ≤ k) (hn : 30 ≤ n) (d : Nat) : ∀ (i m : Nat), i + d = f.blocks.length → d < m → ∀ (h : Heap) (cells : List C), OD f h cells i →
    ∃ h' cells', Tm.Loop Try.prog (valsOf tab) (callAt Try.prog tab k) n [1, 3, 4, 5] k35b1 m ⟨[(1, .op 0 0), (3, .os 1 0 f.blocks.length (some f.blocks.length)), (4, bools (reachOf f.blocks)), (5, int i)], h⟩ = some (.exit 0, ⟨[(1, .op 0 0), (3, .os 1 0 f.blocks.length (some f.blocks.length)), (4, bools (reachOf f.blocks)), (5, int f.blocks.length), (17, bool false)], h'⟩) ∧ OD f h' cells' f.blocks.length := by
  have hb := F.blocks
  induction d with
  | zero =>
    intro i m hi hm h cells H
    obtain ⟨m, rfl⟩ : ∃ p, m = p + 1 := ⟨m - 1, by omega⟩
    obtain rfl : i = f.blocks.length := by omega
    rw [Tm.Loop_succ]
    simp (implicitDefEqProofs := false) only [k35b1, go_sem, Int.lt_irrefl, decide_false]
    exact ⟨h, cells, rfl, H⟩
  | succ d ih =>
    intro i m hi hm h cells H
    obtain ⟨m, rfl⟩ : ∃ p, m = p + 1 := ⟨m - 1, by omega⟩
    replace ih := ih (i + 1) m (by omega) (by omega)
    rw [Tm.Loop_succ]
    generalize Tm.Loop Try.prog (valsOf tab) (callAt Try.prog tab k) n [1, 3, 4, 5] k35b1 m = LL at ih ⊢
    have hil : i < f.blocks.length := by omega
    have e1 : decide ((i : Int) < f.blocks.length) = true := by simp; omega
    have ei : 0 ≤ (i : Int) ∧ (i : Int) < f.blocks.length := by omega
    have e3 := wrap_next (n := f.blocks.length) (i := i) (by omega) (by omega)
    have eM : 0 ≤ (f.blocks.length : Int) ∧ (f.blocks.length : Int) ≤ (f.blocks.length : Int) ∧ (f.blocks.length : Int) ≤ (maxRow : Nat) := ⟨by omega, by omega, by unfold maxRow; omega⟩
    have e7 := rep_map (f := bool) f.blocks.length false
    have hrl := reach_len f.blocks
    have h2l : 1 < h.length := (List.getElem?_eq_some_iff.1 H.at_).1
    have hic : i < cells.length := by rw [H.len]; exact hil
    have hat : (h ++ [Tm.Node.row 1 ((List.replicate f.blocks.length false).map bool)])[1]? = some (.row 1 cells) := by rw [List.getElem?_append_left h2l]; exact H.at_
    obtain ⟨h2, hh2⟩ : ∃ h2, h2 = (h ++ [Tm.Node.row 1 ((List.replicate f.blocks.length false).map bool)]).set 1 (.row 1 (cells.set i (.os h.length 0 f.blocks.length (some f.blocks.length)))) := ⟨_, rfl⟩
    have a1 : storeR (h ++ [Tm.Node.row 1 ((List.replicate f.blocks.length false).map bool)]) 1 i 1 (some (.row 1 cells)) [.os h.length 0 f.blocks.length (some f.blocks.length)] = some h2 := by
      rw [storeR_row, if_pos ⟨rfl, by simp; omega, rfl⟩, put_cell hic, hh2]
    have g1 : h2[0]? = h[0]? := by rw [hh2, List.getElem?_set_ne (by decide), List.getElem?_append_left (by omega)]
    have g2 : h2[1]? = some (.row 1 (cells.set i (.os h.length 0 f.blocks.length (some f.blocks.length)))) := by rw [hh2, List.getElem?_set_self (by simp; omega)]
    have gL : h2[h.length]? = some (.row 1 ((List.replicate f.blocks.length false).map bool)) := by rw [hh2, List.getElem?_set_ne (by omega)]; simp
    have gh : ∀ (k : Nat) (nd : Tm.Node), 1 < k → h[k]? = some nd → h2[k]? = some nd := fun k nd q e => by rw [hh2, List.getElem?_set_ne (by omega), List.getElem?_append_left (List.getElem?_eq_some_iff.1 e).1]; exact e
    cases hr : rdOf false (reachOf f.blocks) i with
    | false =>
      have hno : ¬ Rc (nextOf f.blocks) (fun _ => True) 0 (i : Int) := fun q => by rw [(reach_at ei.1 ei.2).2 q] at hr; cases hr
      obtain ⟨h', cells', q1, q2⟩ := ih h2 _ (H.put hil g1 g2 (by rw [rowOv_none hno]; exact gL) gh)
      refine ⟨h', cells', ?_, q2⟩
      simp (decide := true) (implicitDefEqProofs := false) only [k35b1, go_sem, hrl, e1, ei, e3, eM, e7, Int.toNat_natCast, hat, a1, hr]
      exact q1
    | true =>
      have hyes := (reach_at ei.1 ei.2).1 hr
      have hcall : ∀ h, callAt Try.prog tab k 65 [.agg (encFunc f), int 0, int i] h = some (bools (fromOf f.blocks i), h) := fun h => from_runs f F hpos i k hk _ h (by simp only [mapC_cons, mapC_nil, depth, view_func f, view_int, Option.bind_some])
      obtain ⟨h3, o, p1, p2, p3, p4, _, p6⟩ := doms_in (vals := valsOf tab) (n := n) (call := callAt Try.prog tab k) (reachOf f.blocks) (fromOf f.blocks i) f.blocks.length i h.length hb hil (reach_len _) (from_len _ _) (by omega) _ (get_isSome (List.getElem?_set_self hic)) (.op 0 0) f.blocks.length 0 n (by omega) (by omega) h2 (List.replicate f.blocks.length false) g2 gL (by simp)
      rw [show ((0 : Nat) : Int) = 0 from rfl] at p1
      have ho : o = rowOv f.blocks i := by
        refine bools_ext (by rw [p3, rowOv_len]) fun j j0 j1 => ?_
        have pj := p4 j.toNat (by omega) (by omega)
        rw [show ((j.toNat : Nat) : Int) = j by omega] at pj
        rw [Bool.eq_iff_iff, rowOv_at j0 (by omega)]
        have hw := from_at (l := f.blocks) (less := i) (v := j) j0 (by omega)
        have hrj := reach_at (l := f.blocks) (v := j) j0 (by omega)
        have hj : rdOf false o j = (rdOf false (reachOf f.blocks) j && (decide ((i : Int) = j) || !(rdOf false (fromOf f.blocks i) j))) := by
          unfold rdOf at pj ⊢
          rw [List.getD_eq_getElem?_getD, pj, Option.getD_some]
        rw [hj, Bool.and_eq_true, Bool.or_eq_true, decide_eq_true_eq, Bool.not_eq_true', hrj, ← Bool.not_eq_true, hw]
        constructor
        · rintro ⟨q1, q2 | q2⟩
          · subst q2
            exact Ov.self hyes
          · exact ⟨hyes, q1, q2⟩
        · exact fun q => ⟨q.2.1, .inr q.2.2⟩
      have hf0 : h2[0]? = some (.row 0 (encFunc f)) := g1.trans H.f0
      obtain ⟨h', cells', q1, q2⟩ := ih h3 _ (H.put (h' := h3) hil (by
          rw [p6 0 _ (by omega) hf0, H.f0]) (p6 1 _ (by omega) g2) (by rw [← ho]; exact p2) (fun k nd q e => p6 k nd (by have := (List.getElem?_eq_some_iff.1 e).1; omega) (gh k nd q e)))
      refine ⟨h', cells', ?_, q2⟩
      rw [enc_func] at hf0 hcall
      simp (decide := true) (implicitDefEqProofs := false) only [k35b1, go_sem, hrl, e1, ei, e3, eM, e7, Int.toNat_natCast, hat, a1, hr, hf0, hcall, p1]
      exact q1
/-- plnref3.Doms. -/
theorem doms_runs (f : Tm.Func) (F : Fine f) (hpos : 0 < f.blocks.length) : Runs Try.prog tab (2 ^ 36 + 5) 35 [.agg (encFunc f)] (rowsB (overOf f.blocks)) := by
  have hb := F.blocks
  refine Runs.by (rs := [.tmp 2]) (N := 63) rfl Try.func35 rfl rfl (by simp) fun k hk => ?_
  have eM : 0 ≤ (f.blocks.length : Int) ∧ (f.blocks.length : Int) ≤ (f.blocks.length : Int) ∧ (f.blocks.length : Int) ≤ (maxRow : Nat) := ⟨by omega, by omega, by unfold maxRow; omega⟩
  have hreach : ∀ h, callAt Try.prog tab k 26 [.agg (encFunc f)] h = some (bools (reachOf f.blocks), h) := fun h => rreach_runs f F hpos k (by omega) h
  obtain ⟨h', cells', p1, p2⟩ := doms_out f F hpos (k := k) (n := k) (by omega) (by omega) f.blocks.length 0 k (by omega) (by omega) [.row 0 (encFunc f), .row 1 (rep f.blocks.length [.v (.slice none 0 0)])] (rep f.blocks.length [.v (.slice none 0 0)]) ⟨rfl, rfl, by rw [rep_one]; simp, fun j hj => by omega⟩
  rw [show ((0 : Nat) : Int) = 0 from rfl] at p1
  rw [enc_func] at *
  simp (decide := true) (implicitDefEqProofs := false) only [k35, go_sem, eM, Int.toNat_natCast, hreach, p1]
  refine ⟨_, _, rfl, ?_⟩
  rw [show depth = 11 + 1 from rfl, view_os_eq, if_neg (by omega), p2.at_]
  simp only [viewRow, List.drop_zero, takeN, Nat.mul_one]
  rw [if_pos (by rw [p2.len]; exact Nat.le_refl _), List.take_of_length_le (by rw [p2.len]; exact Nat.le_refl _)]
  have hm : mapC (view true h' 11) cells' = some ((overOf f.blocks).map bools) := by
    have e : cells' = (List.range f.blocks.length).map fun j => cells'.getD j default := by
      refine List.ext_getElem (by simp [p2.len]) fun j h1 h2 => ?_
      simp [List.getD_eq_getElem?_getD, List.getElem?_eq_getElem h1]
    have hall : ∀ (js : List Nat), (∀ j ∈ js, j < f.blocks.length) → mapC (view true h' 11) (js.map fun j => cells'.getD j default) = some (js.map fun (j : Nat) => bools (rowOv f.blocks j)) := by
      intro js
      induction js with
      | nil => intro _; rfl
      | cons j js ih =>
        intro hj
        obtain ⟨lj, q1, q2, q3⟩ := p2.each j (hj j (by simp))
        have hv := view_os_bools (cl := true) (n := 9) (cap := some f.blocks.length) q2
        rw [rowOv_len] at hv
        simp only [List.map_cons, mapC, List.getD_eq_getElem?_getD, q1, Option.getD_some, hv, Option.bind_eq_bind, Option.bind_some]
        have := ih fun j h => hj j (by simp [h])
        simp only [List.getD_eq_getElem?_getD] at this
        rw [this]; rfl
    rw [e, hall _ (fun j hj => List.mem_range.1 hj)]
    simp [overOf]
  simp only [hm, Option.bind_some]
  rw [rowsB, over_len]
end Go.Proofs.Ytkcimaibaicdcaa.Tk
set_option linter.unusedSimpArgs false
namespace Go.Proofs.Ytkcimaibaicdcaa.Tk
open Go.Tm Go.Tm.Tab
set_option maxRecDepth 100000
/-- plnref3.Dom. -/
theorem rdom_runs (f : Tm.Func) (F : Fine f) (hpos : 0 < f.blocks.length) (a b : Int) : RunsF Try.prog tab (2 ^ 36 + 5) 36 [.agg (encFunc f), int a, int b] (bool (domB f.blocks a b)) := by
  refine RunsF.by (rs := [.tmp 6]) (N := 54) rfl Try.func36 rfl rfl (by simp) (by simp only [mapC_cons, mapC_nil, depth, view_func f, view_int, Option.bind_some]) fun k hk => ?_
  have hreach : ∀ h, callAt Try.prog tab k 26 [.agg (encFunc f)] h = some (bools (reachOf f.blocks), h) := fun h => rreach_runs f F hpos k (by omega) h
  have hfrom : ∀ h, callAt Try.prog tab k 65 [.agg (encFunc f), int 0, int a] h = some (bools (fromOf f.blocks a), h) := fun h => from_runs f F hpos a k (by omega) _ h (by simp only [mapC_cons, mapC_nil, depth, view_func f, view_int, Option.bind_some])
  have hrl := reach_len f.blocks
  have hfl := from_len f.blocks a
  rw [enc_func] at *
  by_cases c1 : a < 0
  · rw [domB_false (by omega)]
    simp (decide := true) (implicitDefEqProofs := false) only [k36, go_sem, hreach, decide_eq_true c1]
    exact ⟨_, _, rfl, rfl⟩
  by_cases c2 : b < 0
  · rw [domB_false (by omega)]
    simp (decide := true) (implicitDefEqProofs := false) only [k36, go_sem, hreach, decide_eq_false c1, decide_eq_true c2]
    exact ⟨_, _, rfl, rfl⟩
  by_cases c3 : a ≥ (f.blocks.length : Int)
  · rw [domB_false (by omega)]
    simp (decide := true) (implicitDefEqProofs := false) only [k36, go_sem, hreach, hrl, decide_eq_false c1, decide_eq_false c2, decide_eq_true c3]
    exact ⟨_, _, rfl, rfl⟩
  by_cases c4 : b ≥ (f.blocks.length : Int)
  · rw [domB_false (by omega)]
    simp (decide := true) (implicitDefEqProofs := false) only [k36, go_sem, hreach, hrl, decide_eq_false c1, decide_eq_false c2, decide_eq_false c3, decide_eq_true c4]
    exact ⟨_, _, rfl, rfl⟩
  have ea : 0 ≤ a ∧ a < (f.blocks.length : Int) := by omega
  have eb : 0 ≤ b ∧ b < (f.blocks.length : Int) := by omega
  have ra := reach_at (l := f.blocks) ea.1 ea.2
  have rb := reach_at (l := f.blocks) eb.1 eb.2
  have rw' := from_at (l := f.blocks) (less := a) eb.1 eb.2
  have key : domB f.blocks a b = (rdOf false (reachOf f.blocks) a && (rdOf false (reachOf f.blocks) b && (decide (a = b) || !rdOf false (fromOf f.blocks a) b))) := by
    rw [Bool.eq_iff_iff, domB_iff, Bool.and_eq_true, Bool.and_eq_true, Bool.or_eq_true, decide_eq_true_eq, Bool.not_eq_true', ra, rb, ← Bool.not_eq_true, rw']
    constructor
    · rintro ⟨_, _, h⟩
      exact ⟨h.1, h.2.1, .inr h.2.2⟩
    · rintro ⟨h1, h2, h3 | h3⟩
      · subst h3; exact ⟨ea, ea, Ov.self h1⟩
      · exact ⟨ea, eb, h1, h2, h3⟩
  rw [key]
  cases q1 : rdOf false (reachOf f.blocks) a with
  | false =>
    simp (decide := true) (implicitDefEqProofs := false) only [k36, go_sem, hreach, hrl, decide_eq_false c1, decide_eq_false c2, decide_eq_false c3, decide_eq_false c4, ea, eb, q1]
    exact ⟨_, _, rfl, rfl⟩
  | true =>
    cases q2 : rdOf false (reachOf f.blocks) b with
    | false =>
      simp (decide := true) (implicitDefEqProofs := false) only [k36, go_sem, hreach, hrl, decide_eq_false c1, decide_eq_false c2, decide_eq_false c3, decide_eq_false c4, ea, eb, q1, q2]
      exact ⟨_, _, rfl, rfl⟩
    | true =>
      cases q3 : decide (a = b) with
      | true =>
        simp (decide := true) (implicitDefEqProofs := false) only [k36, go_sem, hreach, hrl, decide_eq_false c1, decide_eq_false c2, decide_eq_false c3, decide_eq_false c4, ea, eb, q1, q2, q3]
        exact ⟨_, _, rfl, rfl⟩
      | false =>
        simp (decide := true) (implicitDefEqProofs := false) only [k36, go_sem, hreach, hrl, hfl, hfrom, decide_eq_false c1, decide_eq_false c2, decide_eq_false c3, decide_eq_false c4, ea, eb, q1, q2, q3]
        exact ⟨_, _, rfl, rfl⟩
section
variable {vals : FuncId → Bool} {call : CallF} {n : Nat}
theorem rnear_in (X : Tm.Node) (l : List Block) (hn : l.length ≤ 16) (b : Nat) (hb : b < l.length) (d : Nat) : ∀ (i m : Nat), i + d = l.length → d < m → ∀ (o : List Int), o.length = l.length → Near l b i (o.getD b 0) →
    ∃ o' : List Int, Tm.Loop Try.prog vals call n [3, 4, 5, 6] k38b0 m ⟨[(3, .os 1 0 l.length (some l.length)), (4, rowsB (overOf l)), (5, int b), (6, int i)], [X, .row 1 (o.map int)]⟩ = some (.exit 2, ⟨[(3, .os 1 0 l.length (some l.length)), (4, rowsB (overOf l)), (5, int b), (6, int l.length), (25, bool false)], [X, .row 1 (o'.map int)]⟩) ∧ o'.length = l.length ∧ (∀ j, j ≠ b → o'[j]? = o[j]?) ∧ Near l b l.length (o'.getD b 0) := by
  induction d with
  | zero =>
    intro i m hi hm o ho H
    obtain ⟨m, rfl⟩ : ∃ p, m = p + 1 := ⟨m - 1, by omega⟩
    obtain rfl : i = l.length := by omega
    rw [Tm.Loop_succ]
    simp (implicitDefEqProofs := false) only [k38b0, go_sem, Int.lt_irrefl, decide_false]
    exact ⟨o, rfl, ho, fun _ _ => rfl, H⟩
  | succ d ih =>
    intro i m hi hm o ho H
    obtain ⟨m, rfl⟩ : ∃ p, m = p + 1 := ⟨m - 1, by omega⟩
    replace ih := ih (i + 1) m (by omega) (by omega)
    rw [Tm.Loop_succ]
    generalize Tm.Loop Try.prog vals call n [3, 4, 5, 6] k38b0 m = L at ih ⊢
    have hil : i < l.length := by omega
    have e1 : decide ((i : Int) < l.length) = true := by simp; omega
    have e3 := wrap_next (n := l.length) (i := i) (by omega) (by omega)
    have ei : 0 ≤ (i : Int) ∧ (i : Int) < ((overOf l).length : Int) := by rw [over_len]; omega
    have hri := over_at (l := l) (a := i) (by omega) (by omega)
    have eb : 0 ≤ (b : Int) ∧ (b : Int) < ((rowOv l i).length : Int) := by rw [rowOv_len]; omega
    have ebn : 0 ≤ (b : Int) ∧ (b : Int) < (l.length : Int) := by omega
    have hbo : b < o.length := by omega
    have hib := rowOv_at (l := l) (a := i) (b := b) (by omega) (by omega)
    by_cases c1 : (i : Int) = b
    · obtain ⟨o', q⟩ := ih o ho (H.skip (.inl c1))
      refine ⟨o', ?_, q.2⟩
      simp (decide := true) (implicitDefEqProofs := false) only [k38b0, go_sem, e1, e3, decide_eq_true c1]
      exact q.1
    cases c2 : rdOf false (rowOv l i) b with
    | false =>
      have hno : ¬ Ov l i b := fun q => by rw [hib.2 q] at c2; cases c2
      obtain ⟨o', q⟩ := ih o ho (H.skip (.inr hno))
      refine ⟨o', ?_, q.2⟩
      simp (decide := true) (implicitDefEqProofs := false) only [k38b0, go_sem, e1, e3, decide_eq_false c1, ei, hri, eb, c2]
      exact q.1
    | true =>
      have hyes := hib.1 c2
      have a1 : storeR [X, .row 1 (o.map int)] 1 b 1 (some (.row 1 (o.map int))) [int i] = some [X, .row 1 ((o.set b i).map int)] := by
        rw [storeR_row, if_pos ⟨rfl, by simp; omega, rfl⟩, put_map (f := int) hbo]; rfl
      have set_at : (o.set b (i : Int)).getD b 0 = i := by rw [List.getD_eq_getElem?_getD, List.getElem?_set_self hbo]; rfl
      have takes : (o.getD b 0 < 0 ∨ Ov l (o.getD b 0) i) → ∃ o' : List Int, L ⟨[(3, .os 1 0 l.length (some l.length)), (4, rowsB (overOf l)), (5, int b), (6, int (i + 1 : Nat))], [X, .row 1 ((o.set b i).map int)]⟩ = some (.exit 2, ⟨[(3, .os 1 0 l.length (some l.length)), (4, rowsB (overOf l)), (5, int b), (6, int l.length), (25, bool false)], [X, .row 1 (o'.map int)]⟩) ∧ o'.length = l.length ∧ (∀ j, j ≠ b → o'[j]? = o[j]?) ∧ Near l b l.length (o'.getD b 0) := fun hc => by
        obtain ⟨o', q1, q2, q3, q4⟩ := ih (o.set b i) (by simp [ho]) (by rw [set_at]; exact H.take c1 hyes hc)
        exact ⟨o', q1, q2, fun j hj => by rw [q3 j hj, List.getElem?_set_ne (Ne.symm hj)], q4⟩
      by_cases c3 : o.getD b 0 < 0
      · obtain ⟨o', q⟩ := takes (.inl c3)
        refine ⟨o', ?_, q.2⟩
        simp (decide := true) (implicitDefEqProofs := false) only [k38b0, go_sem, e1, e3, decide_eq_false c1, ei, hri, eb, ebn, hbo, Int.toNat_natCast, c2, decide_eq_true c3, a1]
        exact q.1
      · have hcur : 0 ≤ o.getD b 0 ∧ o.getD b 0 < ((overOf l).length : Int) := by
          rw [over_len]
          rcases H with ⟨h1, _⟩ | ⟨h1, _⟩ <;> omega
        have hrc := over_at (l := l) (a := o.getD b 0) hcur.1 (by rw [over_len] at hcur; exact hcur.2)
        have eic : 0 ≤ (i : Int) ∧ (i : Int) < ((rowOv l (o.getD b 0)).length : Int) := by rw [rowOv_len]; omega
        have hci := rowOv_at (l := l) (a := o.getD b 0) (b := i) (by omega) (by omega)
        cases c4 : rdOf false (rowOv l (o.getD b 0)) i with
        | true =>
          obtain ⟨o', q⟩ := takes (.inr (hci.1 c4))
          refine ⟨o', ?_, q.2⟩
          simp (decide := true) (implicitDefEqProofs := false) only [k38b0, go_sem, e1, e3, decide_eq_false c1, ei, hri, eb, ebn, hbo, Int.toNat_natCast, c2, decide_eq_false c3, hcur, hrc, eic, c4, a1]
          exact q.1
        | false =>
          obtain ⟨o', q⟩ := ih o ho (H.stay hyes c3 (fun q => by rw [hci.2 q] at c4; cases c4))
          refine ⟨o', ?_, q.2⟩
          simp (decide := true) (implicitDefEqProofs := false) only [k38b0, go_sem, e1, e3, decide_eq_false c1, ei, hri, eb, ebn, hbo, Int.toNat_natCast, c2, decide_eq_false c3, hcur, hrc, eic, c4]
          exact q.1
theorem rnear_out (X : Tm.Node) (l : List Block) (hn : l.length ≤ 16) (hn2 : 30 ≤ n) (d : Nat) : ∀ (i m : Nat), i + d = l.length → d < m → ∀ (o : List Int), o.length = l.length → (∀ j, j < i → Near l j l.length (o.getD j 0)) →
    ∃ o' : List Int, Tm.Loop Try.prog vals call n [3, 4, 5] k38b1 m ⟨[(3, .os 1 0 l.length (some l.length)), (4, rowsB (overOf l)), (5, int i)], [X, .row 1 (o.map int)]⟩ = some (.exit 0, ⟨[(3, .os 1 0 l.length (some l.length)), (4, rowsB (overOf l)), (5, int l.length), (16, bool false)], [X, .row 1 (o'.map int)]⟩) ∧ o'.length = l.length ∧ (∀ j, j < l.length → Near l j l.length (o'.getD j 0)) := by
  induction d with
  | zero =>
    intro i m hi hm o ho H
    obtain ⟨m, rfl⟩ : ∃ p, m = p + 1 := ⟨m - 1, by omega⟩
    obtain rfl : i = l.length := by omega
    rw [Tm.Loop_succ]
    simp (implicitDefEqProofs := false) only [k38b1, go_sem, Int.lt_irrefl, decide_false]
    exact ⟨o, rfl, ho, H⟩
  | succ d ih =>
    intro i m hi hm o ho H
    obtain ⟨m, rfl⟩ : ∃ p, m = p + 1 := ⟨m - 1, by omega⟩
    replace ih := ih (i + 1) m (by omega) (by omega)
    rw [Tm.Loop_succ]
    generalize Tm.Loop Try.prog vals call n [3, 4, 5] k38b1 m = L at ih ⊢
    have hil : i < l.length := by omega
    have e1 : decide ((i : Int) < l.length) = true := by simp; omega
    have e3 := wrap_next (n := l.length) (i := i) (by omega) (by omega)
    have ebn : 0 ≤ (i : Int) ∧ (i : Int) < (l.length : Int) := by omega
    have hio : i < o.length := by omega
    have hol := over_len l
    have a1 : storeR [X, .row 1 (o.map int)] 1 i 1 (some (.row 1 (o.map int))) [int (-1)] = some [X, .row 1 ((o.set i (-1)).map int)] := by
      rw [storeR_row, if_pos ⟨rfl, by simp; omega, rfl⟩, put_map (f := int) hio]; rfl
    obtain ⟨o1, g1, g2, g3, g4⟩ := rnear_in (vals := vals) (call := call) (n := n) X l hn i hil l.length 0 n (by omega) (by omega) (o.set i (-1)) (by simp [ho]) (.inl ⟨by rw [List.getD_eq_getElem?_getD, List.getElem?_set_self hio]; rfl, fun a a0 a1 => by omega⟩)
    rw [show ((0 : Nat) : Int) = 0 from rfl] at g1
    obtain ⟨o2, q1, q2, q3⟩ := ih o1 g2 (fun j hj => by
      by_cases e : j = i
      · subst e; exact g4
      · have := H j (by omega)
        rw [List.getD_eq_getElem?_getD, g3 j e, List.getElem?_set_ne (Ne.symm e), ← List.getD_eq_getElem?_getD]; exact this)
    simp (decide := true) (implicitDefEqProofs := false) only [k38b1, go_sem, e1, e3, ebn, Int.toNat_natCast, a1, hol, g1]
    exact ⟨o2, q1, q2, q3⟩
end
/-- plnref3.Over. -/
theorem rover_runs (f : Tm.Func) (F : Fine f) (hpos : 0 < f.blocks.length) : Runs Try.prog tab (2 ^ 36 + 50) 38 [.agg (encFunc f)] (ints (overI f.blocks)) := by
  refine Runs.by (rs := [.tmp 2]) (N := 63) rfl Try.func38 rfl rfl (by simp) fun k hk => ?_
  have hb := F.blocks
  have hdoms : ∀ h, callAt Try.prog tab k 35 [.agg (encFunc f)] h = some (rowsB (overOf f.blocks), h) := fun h => doms_runs f F hpos k (by omega) _ h (by simp only [mapC_cons, mapC_nil, depth, view_func f, Option.bind_some])
  obtain ⟨o, g1, g2, g3⟩ := rnear_out (.row 0 (encFunc f)) f.blocks hb (vals := valsOf tab) (call := callAt Try.prog tab k) (n := k) (by omega) f.blocks.length 0 k (by omega) (by omega) (List.replicate f.blocks.length 0) (by simp) (fun j hj => by omega)
  rw [show ((0 : Nat) : Int) = 0 from rfl] at g1
  have eM : 0 ≤ (f.blocks.length : Int) ∧ (f.blocks.length : Int) ≤ (f.blocks.length : Int) ∧ (f.blocks.length : Int) ≤ (maxRow : Nat) := ⟨by omega, by omega, by unfold maxRow; omega⟩
  have e7 := rep_map (f := int) f.blocks.length 0
  rw [enc_func] at *
  simp (decide := true) (implicitDefEqProofs := false) only [k38, go_sem, eM, Int.toNat_natCast, e7, hdoms, g1]
  refine ⟨_, _, rfl, ?_⟩
  have := view_os_ints (cl := true) (n := 10) (h := [.row 0 [str f.name, bool f.out, ints f.params, int f.result, blocks f.blocks], .row 1 (o.map int)]) (l := 1) (cap := some f.blocks.length) (xs := o) rfl
  rw [g2] at this
  rw [← overI_of g2 g3]
  exact this
theorem runder_loop {vals : FuncId → Bool} {call : CallF} {n : Nat} (o : List Int) (hn : o.length ≤ 16) (ho : ∀ j, j < o.length → o.getD j 0 < (o.length : Int)) (d : Nat) : ∀ (i m : Nat), i + d = o.length → d < m → ∀ (h : Heap) (cells : List C) (acc : List (List Int)), Tm.Rows h 1 cells acc → acc.length = o.length → (∀ j, (acc.getD j []).length ≤ i) →
    ∃ h' cells', Tm.Loop Try.prog vals call n [3, 4, 5] k40b0 m ⟨[(3, .os 1 0 o.length (some o.length)), (4, ints o), (5, int i)], h⟩ = some (.exit 0, ⟨[(3, .os 1 0 o.length (some o.length)), (4, ints o), (5, int o.length), (15, bool false)], h'⟩) ∧ Tm.Rows h' 1 cells' (underFrom o d i acc) ∧ (underFrom o d i acc).length = o.length := by
  induction d with
  | zero =>
    intro i m hi hm h cells acc hR hL _
    obtain ⟨m, rfl⟩ : ∃ p, m = p + 1 := ⟨m - 1, by omega⟩
    obtain rfl : i = o.length := by omega
    rw [Tm.Loop_succ]
    simp (implicitDefEqProofs := false) only [k40b0, go_sem, Int.lt_irrefl, decide_false]
    exact ⟨h, cells, rfl, hR, hL⟩
  | succ d ih =>
    intro i m hi hm h cells acc hR hL hM
    obtain ⟨m, rfl⟩ : ∃ p, m = p + 1 := ⟨m - 1, by omega⟩
    replace ih := ih (i + 1) m (by omega) (by omega)
    rw [Tm.Loop_succ]
    generalize Tm.Loop Try.prog vals call n [3, 4, 5] k40b0 m = L at ih ⊢
    have e1 : decide ((i : Int) < o.length) = true := by simp; omega
    have e2 : 0 ≤ (i : Int) ∧ (i : Int) < o.length := by omega
    have e3 := wrap_next (n := o.length) (i := i) (by omega) (by omega)
    have hrd : rd o i = o.getD i 0 := rfl
    have hlt := ho i (by omega)
    by_cases c1 : 0 ≤ o.getD i 0
    · have c1' : rd o i ≥ 0 := c1
      have e4 : 0 ≤ rd o i ∧ rd o i < (o.length : Int) := ⟨c1, hlt⟩
      have e5 : (rd o i).toNat < acc.length := by omega
      obtain ⟨c, c', h', g1, g2, g3, g4, g5, g6, g7, g8⟩ := hR.append e5 i (by have := hM (rd o i).toNat; unfold maxRow; omega)
      have g1' := get_isSome g1
      have g3' : storeR h' 1 (rd o i).toNat 1 (some (.row 1 cells)) [c'] = some (h'.set 1 (.row 1 (cells.set (rd o i).toNat c'))) := by
        rw [storeR_row, if_pos ⟨rfl, by simp; omega, by simp [g5]⟩, put_cell g6]
      have hat := hR.at_
      obtain ⟨h2, cells2, q1, q2, q3⟩ := ih _ _ (push i acc (rd o i)) g7 (by rw [push_len]; exact hL) (fun j => push_row (t := rd o i) (b := i) j i hM)
      rw [underFrom, if_pos c1]
      simp (decide := true) (implicitDefEqProofs := false) only [k40b0, go_sem, e1, e2, e3, e4, decide_eq_true c1', hat, g1', g2, g3, g3', g4]
      exact ⟨h2, cells2, q1, q2, q3⟩
    · have c1' : ¬ rd o i ≥ 0 := c1
      obtain ⟨h2, cells2, q1, q2, q3⟩ := ih h cells acc hR hL (fun j => Nat.le_succ_of_le (hM j))
      rw [underFrom, if_neg c1]
      simp (decide := true) (implicitDefEqProofs := false) only [k40b0, go_sem, e1, e2, e3, decide_eq_false c1']
      exact ⟨h2, cells2, q1, q2, q3⟩
/-- plnref3.Under. -/
theorem runder_runs (f : Tm.Func) (F : Fine f) (hpos : 0 < f.blocks.length) : Runs Try.prog tab (2 ^ 36 + 52) 40 [.agg (encFunc f)] (rows (underOf f.blocks)) := by
  have hb := F.blocks
  refine Runs.by (rs := [.tmp 2]) (N := 40) rfl Try.func40 rfl rfl (by simp) fun k hk => ?_
  have hover : ∀ h, callAt Try.prog tab k 38 [.agg (encFunc f)] h = some (ints (overI f.blocks), h) := fun h => rover_runs f F hpos k (by omega) _ h (by simp only [mapC_cons, mapC_nil, depth, view_func f, Option.bind_some])
  have hl := overI_len f.blocks
  have R0 : Tm.Rows [.row 0 (encFunc f), .row 1 (List.replicate f.blocks.length (.v (.slice none 0 0)))] 1 (List.replicate f.blocks.length (.v (.slice none 0 0))) (List.replicate f.blocks.length []) := by
    refine ⟨rfl, by simp, fun j c hc => ?_, fun j l hl => ?_, fun j k l hj => ?_⟩
    · obtain ⟨hj, rfl⟩ := List.getElem?_eq_some_iff.1 hc
      refine .inl ⟨?_, by simp⟩
      simp only [List.getD_eq_getElem?_getD, List.getElem?_replicate]; split <;> rfl
    · rw [List.getElem?_replicate] at hl; split at hl <;> cases hl
    · rw [List.getElem?_replicate] at hj; split at hj <;> cases hj
  obtain ⟨h', cells', g1, g2, g3⟩ := runder_loop (vals := valsOf tab) (call := callAt Try.prog tab k) (n := k) (overI f.blocks) (by omega) (fun j hj => by rw [hl] at hj ⊢; exact (overI_range hb hj).2) (overI f.blocks).length 0 k (by omega) (by omega) _ _ _ R0 (by simp [hl]) (fun j => by rw [List.getD_eq_getElem?_getD, List.getElem?_replicate]; split <;> simp)
  rw [show ((0 : Nat) : Int) = 0 from rfl, hl] at g1
  rw [enc_func] at *
  have eM : 0 ≤ (f.blocks.length : Int) ∧ (f.blocks.length : Int) ≤ (f.blocks.length : Int) ∧ (f.blocks.length : Int) ≤ (maxRow : Nat) := ⟨by omega, by omega, by unfold maxRow; omega⟩
  simp (decide := true) (implicitDefEqProofs := false) only [k40, go_sem, eM, Int.toNat_natCast, rep_one, hover, hl, g1]
  refine ⟨_, _, rfl, ?_⟩
  have := g2.view (cl := true) (n := 9) (cap := some f.blocks.length)
  rw [g3, hl] at this
  unfold underOf
  exact this
end Go.Proofs.Ytkcimaibaicdcaa.Tk
set_option linter.unusedSimpArgs false
namespace Go.Proofs.Ytkcimaibaicdcaa.Tk
open Go.Tm Go.Tm.Tab
set_option maxRecDepth 100000
noncomputable def someIn (l : List Block) (a b : Int) (i : Nat) : Bool := ((rowOfL (prevOf l) b).drop i).any fun p => rdOf false (rowOv l a) p
theorem rfind {vals : FuncId → Bool} {call : CallF} {n : Nat} (f : Tm.Func) (F : Fine f) (a b : Nat) (ha : a < f.blocks.length) (hb : b < f.blocks.length) (d : Nat) : ∀ (i m : Nat), i + d = (rowOfL (prevOf f.blocks) b).length → d < m → ∀ (h : Heap) (cells : List C) (acc : List (List Int)), Tm.Rows h 1 cells acc → acc.length = f.blocks.length → (acc.getD a []).length ≤ 2 ^ 20 →
    ∃ h' cells' e, Tm.Loop Try.prog vals call n [3, 4, 5, 6, 7, 8, 9] k41b0 m ⟨[(3, .os 1 0 f.blocks.length (some f.blocks.length)), (4, rowsB (overOf f.blocks)), (5, bools (reachOf f.blocks)), (6, rows (prevOf f.blocks)), (7, int a), (8, int b), (9, int i)], h⟩ = some (.exit 4, ⟨(3, .os 1 0 f.blocks.length (some f.blocks.length)) :: (4, rowsB (overOf f.blocks)) :: (5, bools (reachOf f.blocks)) :: (6, rows (prevOf f.blocks)) :: (7, int a) :: (8, int b) :: e, h'⟩) ∧
      Tm.Rows h' 1 cells' (if someIn f.blocks a b i = true then push b acc a else acc) := by
  have hpl := prev_len f.blocks
  have hpr := prev_row F b
  have ebp : 0 ≤ (b : Int) ∧ (b : Int) < (f.blocks.length : Int) := by omega
  have ean : 0 ≤ (a : Int) ∧ (a : Int) < (f.blocks.length : Int) := by omega
  have hol := over_len f.blocks
  have hra := over_at (l := f.blocks) (a := a) ean.1 ean.2
  have hrl := rowOv_len f.blocks a
  induction d with
  | zero =>
    intro i m hi hm h cells acc hR hL hM
    obtain ⟨m, rfl⟩ : ∃ p, m = p + 1 := ⟨m - 1, by omega⟩
    obtain rfl : i = (rowOfL (prevOf f.blocks) b).length := by omega
    rw [Tm.Loop_succ]
    unfold someIn
    rw [List.drop_eq_nil_of_le (Nat.le_refl _), List.any_nil, if_neg (by decide)]
    simp (implicitDefEqProofs := false) only [k41b0, go_sem, hpl, ebp, Int.lt_irrefl, decide_false]
    exact ⟨h, cells, _, rfl, hR⟩
  | succ d ih =>
    intro i m hi hm h cells acc hR hL hM
    obtain ⟨m, rfl⟩ : ∃ p, m = p + 1 := ⟨m - 1, by omega⟩
    replace ih := ih (i + 1) m (by omega) (by omega)
    rw [Tm.Loop_succ]
    generalize Tm.Loop Try.prog vals call n [3, 4, 5, 6, 7, 8, 9] k41b0 m = L at ih ⊢
    have hdrop := drop_rd (xs := rowOfL (prevOf f.blocks) b) (i := i) (by omega)
    have hs : someIn f.blocks a b i = (rdOf false (rowOv f.blocks a) (rd (rowOfL (prevOf f.blocks) b) i) || someIn f.blocks a b (i + 1)) := by
      unfold someIn
      rw [hdrop, List.any_cons]
    have hmem := fun p (hp : p ∈ rowOfL (prevOf f.blocks) b) => (prev_mem (l := f.blocks) (b := b) ebp.1).1 hp
    generalize hX : rowOfL (prevOf f.blocks) b = x at *
    have e1 : decide ((i : Int) < x.length) = true := by simp; omega
    have e2 : 0 ≤ (i : Int) ∧ (i : Int) < x.length := by omega
    have e3 := wrap_next (n := x.length) (i := i) (by omega) (by omega)
    obtain ⟨p0, p1, _⟩ := hmem _ (rd_mem e2.1 e2.2)
    have ep : 0 ≤ rd x i ∧ rd x i < (f.blocks.length : Int) := ⟨p0, p1⟩
    rw [hs]
    cases c : rdOf false (rowOv f.blocks a) (rd x i) with
    | false =>
      obtain ⟨h', cells', e, q1, q2⟩ := ih h cells acc hR hL hM
      rw [Bool.false_or]
      refine ⟨h', cells', e, ?_, q2⟩
      simp (decide := true) (implicitDefEqProofs := false) only [k41b0, go_sem, hpl, hol, hrl, ebp, ean, hX, hra, e1, e2, e3, ep, c]
      exact q1
    | true =>
      rw [Bool.true_or, if_pos rfl]
      have e5 : a < acc.length := by omega
      obtain ⟨c', c2, h', g1, g2, g3, g4, g5, g6, g7, g8⟩ := hR.append e5 b (by unfold maxRow; omega)
      have g1' := get_isSome g1
      have g3' : storeR h' 1 a 1 (some (.row 1 cells)) [c2] = some (h'.set 1 (.row 1 (cells.set a c2))) := by
        rw [storeR_row, if_pos ⟨rfl, by simp; omega, by simp [g5]⟩, put_cell g6]
      have hat := hR.at_
      have hp : push (b : Int) acc (a : Int) = acc.set a (acc.getD a [] ++ [(b : Int)]) := by unfold push; rw [Int.toNat_natCast]
      rw [hp]
      simp (decide := true) (implicitDefEqProofs := false) only [k41b0, go_sem, hpl, hol, hrl, ebp, ean, hX, hra, e1, e2, ep, c, Int.toNat_natCast, hat, g1', g2, g3, g3', g4]
      exact ⟨_, _, _, rfl, g7⟩
theorem some_reach {l : List Block} {a b : Int} (a0 : 0 ≤ a ∧ a < (l.length : Int)) (b0 : 0 ≤ b ∧ b < (l.length : Int)) (h : someIn l a b 0 = true) : rdOf false (reachOf l) a = true ∧ rdOf false (reachOf l) b = true := by
  unfold someIn at h
  rw [List.drop_zero] at h
  obtain ⟨p, hp, h⟩ := List.any_eq_true.1 h
  obtain ⟨p0, p1, hb⟩ := (prev_mem b0.1).1 hp
  have ho := (rowOv_at p0 p1).1 h
  exact ⟨(reach_at a0.1 a0.2).2 ho.1, (reach_at b0.1 b0.2).2 (.step ho.2.1 hb trivial)⟩
theorem rfront_in {vals : FuncId → Bool} {call : CallF} {n : Nat} (hn : 1000 ≤ n) (f : Tm.Func) (F : Fine f) (a : Nat) (ha : a < f.blocks.length) (d : Nat) : ∀ (i m : Nat), i + d = f.blocks.length → d < m → ∀ (h : Heap) (cells : List C) (acc : List (List Int)), Tm.Rows h 1 cells acc → acc.length = f.blocks.length → (acc.getD a []).length ≤ i →
    ∃ h' cells', Tm.Loop Try.prog vals call n [3, 4, 5, 6, 7, 8] k41b1 m ⟨[(3, .os 1 0 f.blocks.length (some f.blocks.length)), (4, rowsB (overOf f.blocks)), (5, bools (reachOf f.blocks)), (6, rows (prevOf f.blocks)), (7, int a), (8, int i)], h⟩ = some (.exit 2, ⟨[(3, .os 1 0 f.blocks.length (some f.blocks.length)), (4, rowsB (overOf f.blocks)), (5, bools (reachOf f.blocks)), (6, rows (prevOf f.blocks)), (7, int a), (8, int f.blocks.length), (29, bool false)], h'⟩) ∧
      Tm.Rows h' 1 cells' (frFrom f.blocks a d i acc) := by
  have hb := F.blocks
  have ean : 0 ≤ (a : Int) ∧ (a : Int) < (f.blocks.length : Int) := by omega
  have hol := over_len f.blocks
  have hrel := reach_len f.blocks
  have hra := over_at (l := f.blocks) (a := a) ean.1 ean.2
  have hrl := rowOv_len f.blocks a
  induction d with
  | zero =>
    intro i m hi hm h cells acc hR hL _
    obtain ⟨m, rfl⟩ : ∃ p, m = p + 1 := ⟨m - 1, by omega⟩
    obtain rfl : i = f.blocks.length := by omega
    rw [Tm.Loop_succ]
    simp (implicitDefEqProofs := false) only [k41b1, go_sem, Int.lt_irrefl, decide_false]
    exact ⟨h, cells, rfl, hR⟩
  | succ d ih =>
    intro i m hi hm h cells acc hR hL hM
    obtain ⟨m, rfl⟩ : ∃ p, m = p + 1 := ⟨m - 1, by omega⟩
    replace ih := ih (i + 1) m (by omega) (by omega)
    rw [Tm.Loop_succ, frFrom]
    generalize Tm.Loop Try.prog vals call n [3, 4, 5, 6, 7, 8] k41b1 m = L at ih ⊢
    have hil : i < f.blocks.length := by omega
    have e1 : decide ((i : Int) < f.blocks.length) = true := by simp; omega
    have e3 := wrap_next (n := f.blocks.length) (i := i) (by omega) (by omega)
    have ei : 0 ≤ (i : Int) ∧ (i : Int) < (f.blocks.length : Int) := by omega
    have hfr : fr f.blocks a i = (!(!decide ((a : Int) = i) && rdOf false (rowOv f.blocks a) i) && someIn f.blocks a i 0) := by
      unfold fr someIn
      rw [List.drop_zero]
    have hno : ∀ q : Bool, (rdOf false (reachOf f.blocks) a = false ∨ rdOf false (reachOf f.blocks) i = false) → (q && someIn f.blocks a i 0) = false := fun q hq => by
      cases hs : someIn f.blocks a i 0 with
      | false => rw [Bool.and_false]
      | true =>
        obtain ⟨h1, h2⟩ := some_reach ean ei hs
        rcases hq with hq | hq
        · rw [h1] at hq; cases hq
        · rw [h2] at hq; cases hq
    cases c1 : rdOf false (reachOf f.blocks) a with
    | false =>
      have hf : fr f.blocks a i = false := by rw [hfr]; exact hno _ (.inl c1)
      rw [hf, if_neg (by decide)]
      obtain ⟨h', cells', q⟩ := ih h cells acc hR hL (by omega)
      refine ⟨h', cells', ?_, q.2⟩
      simp (decide := true) (implicitDefEqProofs := false) only [k41b1, go_sem, hrel, e1, e3, ean, ei, c1]
      exact q.1
    | true =>
      cases c2 : rdOf false (reachOf f.blocks) i with
      | false =>
        have hf : fr f.blocks a i = false := by rw [hfr]; exact hno _ (.inr c2)
        rw [hf, if_neg (by decide)]
        obtain ⟨h', cells', q⟩ := ih h cells acc hR hL (by omega)
        refine ⟨h', cells', ?_, q.2⟩
        simp (decide := true) (implicitDefEqProofs := false) only [k41b1, go_sem, hrel, e1, e3, ean, ei, c1, c2]
        exact q.1
      | true =>
        have hpr := prev_row F i
        obtain ⟨h2, cells2, e, r1, r2⟩ := rfind (vals := vals) (call := call) (n := n) f F a i ha hil (rowOfL (prevOf f.blocks) i).length 0 n (by omega) (by omega) h cells acc hR hL (by omega)
        rw [show ((0 : Nat) : Int) = 0 from rfl] at r1
        have hgo : (!(!decide ((a : Int) = i) && rdOf false (rowOv f.blocks a) i)) = true → ∃ h' cells', L ⟨[(3, .os 1 0 f.blocks.length (some f.blocks.length)), (4, rowsB (overOf f.blocks)), (5, bools (reachOf f.blocks)), (6, rows (prevOf f.blocks)), (7, int a), (8, int (i + 1 : Nat))], h2⟩ = some (.exit 2, ⟨[(3, .os 1 0 f.blocks.length (some f.blocks.length)), (4, rowsB (overOf f.blocks)), (5, bools (reachOf f.blocks)), (6, rows (prevOf f.blocks)), (7, int a), (8, int f.blocks.length), (29, bool false)], h'⟩) ∧ Tm.Rows h' 1 cells' (frFrom f.blocks a d (i + 1) (if fr f.blocks a i = true then push i acc a else acc)) := fun hq => by
          rw [hfr, hq, Bool.true_and]
          cases hs : someIn f.blocks a i 0 with
          | false =>
            rw [hs, if_neg (by decide)] at r2
            rw [if_neg (by decide)]
            exact ih h2 cells2 acc r2 hL (by omega)
          | true =>
            rw [hs, if_pos rfl] at r2
            rw [if_pos rfl]
            refine ih h2 cells2 _ r2 (by rw [push_len]; exact hL) ?_
            unfold push
            rw [Int.toNat_natCast, List.getD_eq_getElem?_getD, List.getElem?_set_self (by omega)]
            simp only [Option.getD_some, List.length_append, List.length_cons, List.length_nil]
            omega
        cases c3 : rdOf false (rowOv f.blocks a) i with
        | true =>
          cases c4 : decide ((a : Int) = i) with
          | false =>
            have hf : fr f.blocks a i = false := by rw [hfr, c3, c4]; rfl
            rw [hf, if_neg (by decide)]
            obtain ⟨h', cells', q⟩ := ih h cells acc hR hL (by omega)
            refine ⟨h', cells', ?_, q.2⟩
            simp (decide := true) (implicitDefEqProofs := false) only [k41b1, go_sem, hrel, hol, hrl, hra, e1, e3, ean, ei, c1, c2, c3, c4]
            exact q.1
          | true =>
            obtain ⟨h', cells', q⟩ := hgo (by rw [c3, c4]; rfl)
            refine ⟨h', cells', ?_, q.2⟩
            simp (decide := true) (implicitDefEqProofs := false) only [k41b1, go_sem, hrel, hol, hrl, hra, e1, e3, ean, ei, c1, c2, c3, c4, r1]
            exact q.1
        | false =>
          obtain ⟨h', cells', q⟩ := hgo (by rw [c3, Bool.and_false]; rfl)
          refine ⟨h', cells', ?_, q.2⟩
          simp (decide := true) (implicitDefEqProofs := false) only [k41b1, go_sem, hrel, hol, hrl, hra, e1, e3, ean, ei, c1, c2, c3, r1]
          exact q.1
theorem rfront_out {vals : FuncId → Bool} {call : CallF} {n : Nat} (hn : 1000 ≤ n) (f : Tm.Func) (F : Fine f) (d : Nat) : ∀ (i m : Nat), i + d = f.blocks.length → d < m → ∀ (h : Heap) (cells : List C) (acc : List (List Int)), Tm.Rows h 1 cells acc → acc.length = f.blocks.length → (∀ j, i ≤ j → acc.getD j [] = []) →
    ∃ h' cells', Tm.Loop Try.prog vals call n [3, 4, 5, 6, 7] k41b2 m ⟨[(3, .os 1 0 f.blocks.length (some f.blocks.length)), (4, rowsB (overOf f.blocks)), (5, bools (reachOf f.blocks)), (6, rows (prevOf f.blocks)), (7, int i)], h⟩ = some (.exit 0, ⟨[(3, .os 1 0 f.blocks.length (some f.blocks.length)), (4, rowsB (overOf f.blocks)), (5, bools (reachOf f.blocks)), (6, rows (prevOf f.blocks)), (7, int f.blocks.length), (23, bool false)], h'⟩) ∧
      Tm.Rows h' 1 cells' (frontsFrom f.blocks d i acc) := by
  have hb := F.blocks
  induction d with
  | zero =>
    intro i m hi hm h cells acc hR hL _
    obtain ⟨m, rfl⟩ : ∃ p, m = p + 1 := ⟨m - 1, by omega⟩
    obtain rfl : i = f.blocks.length := by omega
    rw [Tm.Loop_succ]
    simp (implicitDefEqProofs := false) only [k41b2, go_sem, Int.lt_irrefl, decide_false]
    exact ⟨h, cells, rfl, hR⟩
  | succ d ih =>
    intro i m hi hm h cells acc hR hL hE
    obtain ⟨m, rfl⟩ : ∃ p, m = p + 1 := ⟨m - 1, by omega⟩
    replace ih := ih (i + 1) m (by omega) (by omega)
    rw [Tm.Loop_succ, frontsFrom]
    generalize Tm.Loop Try.prog vals call n [3, 4, 5, 6, 7] k41b2 m = L at ih ⊢
    have e1 : decide ((i : Int) < f.blocks.length) = true := by simp; omega
    have e3 := wrap_next (n := f.blocks.length) (i := i) (by omega) (by omega)
    obtain ⟨h2, cells2, g1, g2⟩ := rfront_in (vals := vals) (call := call) (n := n) hn f F i (by omega) f.blocks.length 0 n (by omega) (by omega) h cells acc hR hL (by rw [hE i (Nat.le_refl _)]; exact Nat.le_refl _)
    rw [show ((0 : Nat) : Int) = 0 from rfl] at g1
    obtain ⟨h', cells', q1, q2⟩ := ih h2 cells2 _ g2 (by rw [frFrom_len]; exact hL) (fun j hj => by rw [frFrom_other _ _ _ _ (by omega)]; exact hE j (by omega))
    refine ⟨h', cells', ?_, q2⟩
    simp (decide := true) (implicitDefEqProofs := false) only [k41b2, go_sem, e1, e3, g1]
    exact q1
/-- plnref3.Front. -/
theorem rfront_runs (f : Tm.Func) (F : Fine f) (hpos : 0 < f.blocks.length) : Runs Try.prog tab (2 ^ 36 + 10) 41 [.agg (encFunc f)] (rows (frontsOf f.blocks)) := by
  have hb := F.blocks
  refine Runs.by (rs := [.tmp 2]) (N := 91) rfl Try.func41 rfl rfl (by simp) fun k hk => ?_
  have hdoms : ∀ h, callAt Try.prog tab k 35 [.agg (encFunc f)] h = some (rowsB (overOf f.blocks), h) := fun h => doms_runs f F hpos k (by omega) _ h (by simp only [mapC_cons, mapC_nil, depth, view_func f, Option.bind_some])
  have hreach : ∀ h, callAt Try.prog tab k 26 [.agg (encFunc f)] h = some (bools (reachOf f.blocks), h) := fun h => rreach_runs f F hpos k (by omega) h
  have hprev : ∀ h, callAt Try.prog tab k 23 [.agg (encFunc f)] h = some (rows (prevOf f.blocks), h) := fun h => rprev_runs f F k (by omega) _ h (by simp only [mapC_cons, mapC_nil, depth, view_func f, Option.bind_some])
  have R0 : Tm.Rows [.row 0 (encFunc f), .row 1 (List.replicate f.blocks.length (.v (.slice none 0 0)))] 1 (List.replicate f.blocks.length (.v (.slice none 0 0))) (List.replicate f.blocks.length []) := by
    refine ⟨rfl, by simp, fun j c hc => ?_, fun j l hl => ?_, fun j k l hj => ?_⟩
    · obtain ⟨hj, rfl⟩ := List.getElem?_eq_some_iff.1 hc
      refine .inl ⟨?_, by simp⟩
      simp only [List.getD_eq_getElem?_getD, List.getElem?_replicate]; split <;> rfl
    · rw [List.getElem?_replicate] at hl; split at hl <;> cases hl
    · rw [List.getElem?_replicate] at hj; split at hj <;> cases hj
  obtain ⟨h', cells', g1, g2⟩ := rfront_out (vals := valsOf tab) (call := callAt Try.prog tab k) (n := k) (by omega) f F f.blocks.length 0 k (by omega) (by omega) _ _ _ R0 (by simp) (fun j _ => by rw [List.getD_eq_getElem?_getD, List.getElem?_replicate]; split <;> rfl)
  rw [show ((0 : Nat) : Int) = 0 from rfl] at g1
  have eM : 0 ≤ (f.blocks.length : Int) ∧ (f.blocks.length : Int) ≤ (f.blocks.length : Int) ∧ (f.blocks.length : Int) ≤ (maxRow : Nat) := ⟨by omega, by omega, by unfold maxRow; omega⟩
  have v1 : valsOf tab 35 = true := rfl
  have v2 : valsOf tab 26 = true := rfl
  have v3 : valsOf tab 23 = true := rfl
  rw [enc_func] at *
  simp (decide := true) (implicitDefEqProofs := false) only [k41, go_sem, eM, Int.toNat_natCast, rep_one, hdoms, hreach, hprev, v1, v2, v3, g1]
  refine ⟨_, _, rfl, ?_⟩
  have := g2.view (cl := true) (n := 9) (cap := some f.blocks.length)
  have hfl := fronts_len f.blocks
  unfold frontsOf at hfl ⊢
  rw [hfl] at this
  exact this
end Go.Proofs.Ytkcimaibaicdcaa.Tk
set_option linter.unusedSimpArgs false
namespace Go.Proofs.Ytkcimaibaicdcaa.Tk
open Go.Tm Go.Tm.Tab
set_option maxRecDepth 100000
section
variable {vals : FuncId → Bool} {call : CallF} {n : Nat}
theorem ints_loop (a : List Int) (hx : a.length < 2 ^ 62) (h : Heap) : ∀ (d i m : Nat), i + d = a.length → d < m →
    Tm.Loop Try.prog vals call n [0, 1, 5] k18b0 m ⟨[(0, ints a), (1, ints a), (5, int i)], h⟩ = some (.exit 0, ⟨[(0, ints a), (1, ints a), (5, int a.length), (14, bool false)], h⟩)
  | 0, i, m, hi, hm => by
    obtain ⟨m, rfl⟩ : ∃ p, m = p + 1 := ⟨m - 1, by omega⟩
    obtain rfl : i = a.length := by omega
    rw [Tm.Loop_succ]
    simp (implicitDefEqProofs := false) only [k18b0, go_sem, Int.lt_irrefl, decide_false]
  | d + 1, i, m, hi, hm => by
    obtain ⟨m, rfl⟩ : ∃ p, m = p + 1 := ⟨m - 1, by omega⟩
    have ih := ints_loop a hx h d (i + 1) m (by omega) (by omega)
    rw [Tm.Loop_succ]
    generalize Tm.Loop Try.prog vals call n [0, 1, 5] k18b0 m = L at ih ⊢
    have e1 : decide ((i : Int) < a.length) = true := by simp; omega
    have e2 : 0 ≤ (i : Int) ∧ (i : Int) < a.length := by omega
    have e3 := wrap_next (n := a.length) (i := i) (by omega) hx
    simp (decide := true) (implicitDefEqProofs := false) only [k18b0, go_sem, e1, e2, e3]
    exact ih
end
theorem ints_self (a : List Int) (hx : a.length < 2 ^ 62) : Runs Try.prog tab (a.length + 3) 18 [ints a, ints a] (bool true) := by
  refine Runs.by (rs := [.tmp 4]) (N := 26) rfl Try.func18 rfl rfl (by simp) fun k hk => ?_
  have h := ints_loop (vals := valsOf tab) (call := callAt Try.prog tab k) (n := k) a hx [] a.length 0 k (by omega) (by omega)
  rw [show ((0 : Nat) : Int) = 0 from rfl] at h
  simp (decide := true) (implicitDefEqProofs := false) only [k18, go_sem, h]
  exact ⟨_, _, rfl, rfl⟩
section
variable {vals : FuncId → Bool} {call : CallF} {n : Nat}
theorem rows_loop (a : List (List Int)) (hx : a.length < 2 ^ 20) (h : Heap) (hv : vals 18 = true) (hc : ∀ j : Nat, j < a.length → call 18 [ints (rowOfL a j), ints (rowOfL a j)] h = some (bool true, h)) : ∀ (d i m : Nat), i + d = a.length → d < m →
    Tm.Loop Try.prog vals call n [0, 1, 5] k21b0 m ⟨[(0, rows a), (1, rows a), (5, int i)], h⟩ = some (.exit 0, ⟨[(0, rows a), (1, rows a), (5, int a.length), (14, bool false)], h⟩)
  | 0, i, m, hi, hm => by
    obtain ⟨m, rfl⟩ : ∃ p, m = p + 1 := ⟨m - 1, by omega⟩
    obtain rfl : i = a.length := by omega
    rw [Tm.Loop_succ]
    simp (implicitDefEqProofs := false) only [k21b0, go_sem, Int.lt_irrefl, decide_false]
  | d + 1, i, m, hi, hm => by
    obtain ⟨m, rfl⟩ : ∃ p, m = p + 1 := ⟨m - 1, by omega⟩
    have ih := rows_loop a hx h hv hc d (i + 1) m (by omega) (by omega)
    rw [Tm.Loop_succ]
    generalize Tm.Loop Try.prog vals call n [0, 1, 5] k21b0 m = L at ih ⊢
    have e1 : decide ((i : Int) < a.length) = true := by simp; omega
    have e2 : 0 ≤ (i : Int) ∧ (i : Int) < a.length := by omega
    have e3 := wrap_next (n := a.length) (i := i) (by omega) (by omega)
    have hci := hc i (by omega)
    simp (decide := true) (implicitDefEqProofs := false) only [k21b0, go_sem, e1, e2, e3, hci, hv]
    exact ih
end
theorem rows_self (a : List (List Int)) (hx : a.length < 2 ^ 20) (hr : ∀ j : Nat, j < a.length → (rowOfL a j).length < 2 ^ 20) : Runs Try.prog tab (2 ^ 20 + 5) 21 [rows a, rows a] (bool true) := by
  refine Runs.by (rs := [.tmp 4]) (N := 27) rfl Try.func21 rfl rfl (by simp) fun k hk => ?_
  have h := rows_loop (vals := valsOf tab) (call := callAt Try.prog tab k) (n := k) a hx [] rfl (fun j hj => ints_self (rowOfL a j) (by have := hr j hj; omega) k (by have := hr j hj; omega) _ [] (by simp only [mapC_cons, mapC_nil, depth, view_ints, Option.bind_some])) a.length 0 k (by omega) (by omega)
  rw [show ((0 : Nat) : Int) = 0 from rfl] at h
  simp (decide := true) (implicitDefEqProofs := false) only [k21, go_sem, h]
  exact ⟨_, _, rfl, rfl⟩
theorem dom_row {l : List Block} {i j : Int} (i0 : 0 ≤ i ∧ i < (l.length : Int)) (j0 : 0 ≤ j ∧ j < (l.length : Int)) : domB l i j = rdOf false (rowOv l i) j := by
  rw [Bool.eq_iff_iff, rowOv_at j0.1 j0.2, domB_iff]
  exact ⟨fun h => h.2.2, fun h => ⟨i0, j0, h⟩⟩
section
variable {vals : FuncId → Bool} {call : CallF} {n : Nat}
theorem tells_in (f : Tm.Func) (F : Fine f) (u v : C) (h : Heap) (h0 : h[0]? = some (.row 0 (encFunc f))) (hv : vals 33 = true) (hc : ∀ p q : Int, call 33 [.agg (encFunc f), int p, int q] h = some (bool (domB f.blocks p q), h)) (i : Nat) (hi : i < f.blocks.length) : ∀ (d j m : Nat), j + d = f.blocks.length → d < m →
    Tm.Loop Try.prog vals call n [1, 2, 3, 7, 8, 9] k8b0 m ⟨[(1, u), (2, v), (3, .op 0 0), (7, rowsB (overOf f.blocks)), (8, int i), (9, int j)], h⟩ = some (.exit 2, ⟨[(1, u), (2, v), (3, .op 0 0), (7, rowsB (overOf f.blocks)), (8, int i), (9, int f.blocks.length), (27, bool false)], h⟩)
  | 0, j, m, hj, hm => by
    obtain ⟨m, rfl⟩ : ∃ p, m = p + 1 := ⟨m - 1, by omega⟩
    obtain rfl : j = f.blocks.length := by omega
    have hol := over_len f.blocks
    rw [Tm.Loop_succ]
    simp (implicitDefEqProofs := false) only [k8b0, go_sem, hol, Int.lt_irrefl, decide_false]
  | d + 1, j, m, hj, hm => by
    obtain ⟨m, rfl⟩ : ∃ p, m = p + 1 := ⟨m - 1, by omega⟩
    have ih := tells_in f F u v h h0 hv hc i hi d (j + 1) m (by omega) (by omega)
    have hb := F.blocks
    have hol := over_len f.blocks
    have hrl := rowOv_len f.blocks i
    rw [Tm.Loop_succ]
    generalize Tm.Loop Try.prog vals call n [1, 2, 3, 7, 8, 9] k8b0 m = L at ih ⊢
    have e1 : decide ((j : Int) < f.blocks.length) = true := by simp; omega
    have ej : 0 ≤ (j : Int) ∧ (j : Int) < f.blocks.length := by omega
    have ei : 0 ≤ (i : Int) ∧ (i : Int) < f.blocks.length := by omega
    have e3 := wrap_next (n := f.blocks.length) (i := j) (by omega) (by omega)
    have hra := over_at (l := f.blocks) (a := i) ei.1 ei.2
    have hcc := hc i j
    rw [dom_row ei ej] at hcc
    rw [enc_func] at *
    cases q : rdOf false (rowOv f.blocks i) j with
    | false =>
      rw [q] at hcc
      simp (decide := true) (implicitDefEqProofs := false) only [k8b0, go_sem, h0, hol, hrl, hra, e1, e3, ei, ej, hcc, hv, q, bin_neqb]
      exact ih
    | true =>
      rw [q] at hcc
      simp (decide := true) (implicitDefEqProofs := false) only [k8b0, go_sem, h0, hol, hrl, hra, e1, e3, ei, ej, hcc, hv, q, bin_neqb]
      exact ih
theorem tells_out (f : Tm.Func) (F : Fine f) (hn : 1000 ≤ n) (u v : C) (h : Heap) (h0 : h[0]? = some (.row 0 (encFunc f))) (hv : vals 33 = true) (hc : ∀ p q : Int, call 33 [.agg (encFunc f), int p, int q] h = some (bool (domB f.blocks p q), h)) : ∀ (d i m : Nat), i + d = f.blocks.length → d < m →
    Tm.Loop Try.prog vals call n [1, 2, 3, 7, 8] k8b1 m ⟨[(1, u), (2, v), (3, .op 0 0), (7, rowsB (overOf f.blocks)), (8, int i)], h⟩ = some (.exit 0, ⟨[(1, u), (2, v), (3, .op 0 0), (7, rowsB (overOf f.blocks)), (8, int f.blocks.length), (21, bool false)], h⟩)
  | 0, i, m, hi, hm => by
    obtain ⟨m, rfl⟩ : ∃ p, m = p + 1 := ⟨m - 1, by omega⟩
    obtain rfl : i = f.blocks.length := by omega
    have hol := over_len f.blocks
    rw [Tm.Loop_succ]
    simp (implicitDefEqProofs := false) only [k8b1, go_sem, hol, Int.lt_irrefl, decide_false]
  | d + 1, i, m, hi, hm => by
    obtain ⟨m, rfl⟩ : ∃ p, m = p + 1 := ⟨m - 1, by omega⟩
    have ih := tells_out f F hn u v h h0 hv hc d (i + 1) m (by omega) (by omega)
    have hb := F.blocks
    have hol := over_len f.blocks
    rw [Tm.Loop_succ]
    generalize Tm.Loop Try.prog vals call n [1, 2, 3, 7, 8] k8b1 m = L at ih ⊢
    have e1 : decide ((i : Int) < f.blocks.length) = true := by simp; omega
    have e3 := wrap_next (n := f.blocks.length) (i := i) (by omega) (by omega)
    have g := tells_in (vals := vals) (call := call) (n := n) f F u v h h0 hv hc i (by omega) f.blocks.length 0 n (by omega) (by omega)
    rw [show ((0 : Nat) : Int) = 0 from rfl] at g
    simp (decide := true) (implicitDefEqProofs := false) only [k8b1, go_sem, hol, e1, e3, g]
    exact ih
end
set_option maxHeartbeats 1000000 in
theorem tells_pos (f : Tm.Func) (F : Fine f) (hpos : 0 < f.blocks.length) (ht : Runs Try.prog tab (2 ^ 36 + 1) 17 [.agg (encFunc f)] (bool true)) (a b : Int) : Runs Try.prog tab (2 ^ 36 + 80) 8 [.agg (encFunc f), int a, int b] (bool true) := by
  refine Runs.by (rs := [.tmp 6]) (N := 72) rfl Try.func8 rfl rfl (by simp) fun k hk => ?_
  have hb := F.blocks
  have one : mapC (view false [] depth) [.agg (encFunc f)] = some [.agg (encFunc f)] := by simp only [mapC_cons, mapC_nil, depth, view_func f, Option.bind_some]
  have one' : ∀ h, mapC (view false h depth) [.agg (encFunc f)] = some [.agg (encFunc f)] := fun h => by simp only [mapC_cons, mapC_nil, depth, view_func f, Option.bind_some]
  have hfirst : ∀ h, callAt Try.prog tab k 32 [] h = some (bool true, h) := fun h => first5 k (by omega) [] h rfl
  have hlight : ∀ h, callAt Try.prog tab k 17 [.agg (encFunc f)] h = some (bool true, h) := fun h => ht k (by omega) _ h (one' h)
  have hdoms : ∀ h, callAt Try.prog tab k 35 [.agg (encFunc f)] h = some (rowsB (overOf f.blocks), h) := fun h => doms_runs f F hpos k (by omega) _ h (one' h)
  have hdom : ∀ (p q : Int) h, callAt Try.prog tab k 33 [.agg (encFunc f), int p, int q] h = some (bool (domB f.blocks p q), h) := fun p q h => dom_runs f F p q k (by omega) _ h (by simp only [mapC_cons, mapC_nil, depth, view_func f, view_int, Option.bind_some])
  have hrdom : ∀ h, callAt Try.prog tab k 36 [.agg (encFunc f), int a, int b] h = some (bool (domB f.blocks a b), h) := fun h => rdom_runs f F hpos a b k (by omega) h
  have hover : ∀ h, callAt Try.prog tab k 37 [.agg (encFunc f)] h = some (ints (overI f.blocks), h) := fun h => overRun f F hpos k (by omega) _ h (one' h)
  have hrover : ∀ h, callAt Try.prog tab k 38 [.agg (encFunc f)] h = some (ints (overI f.blocks), h) := fun h => rover_runs f F hpos k (by omega) _ h (one' h)
  have hunder : ∀ h, callAt Try.prog tab k 39 [.agg (encFunc f)] h = some (rows (underOf f.blocks), h) := fun h => under_runs f F hpos k (by omega) _ h (one' h)
  have hrunder : ∀ h, callAt Try.prog tab k 40 [.agg (encFunc f)] h = some (rows (underOf f.blocks), h) := fun h => runder_runs f F hpos k (by omega) _ h (one' h)
  have hfront : ∀ h, callAt Try.prog tab k 34 [.agg (encFunc f)] h = some (rows (frontsOf f.blocks), h) := fun h => front_runs f F hpos k (by omega) _ h (one' h)
  have hrfront : ∀ h, callAt Try.prog tab k 41 [.agg (encFunc f)] h = some (rows (frontsOf f.blocks), h) := fun h => rfront_runs f F hpos k (by omega) _ h (one' h)
  have i1 : ∀ h, callAt Try.prog tab k 18 [ints (overI f.blocks), ints (overI f.blocks)] h = some (bool true, h) := fun h => ints_self (overI f.blocks) (by rw [overI_len]; omega) k (by rw [overI_len]; omega) _ h (by simp only [mapC_cons, mapC_nil, depth, view_ints, Option.bind_some])
  have i2 : ∀ h, callAt Try.prog tab k 21 [rows (underOf f.blocks), rows (underOf f.blocks)] h = some (bool true, h) := fun h => rows_self (underOf f.blocks) (by rw [under_len]; omega) (fun j _ => by have := under_row f.blocks j; omega) k (by omega) _ h (by simp only [mapC_cons, mapC_nil, depth, view_rows, Option.bind_some])
  have i3 : ∀ h, callAt Try.prog tab k 21 [rows (frontsOf f.blocks), rows (frontsOf f.blocks)] h = some (bool true, h) := fun h => rows_self (frontsOf f.blocks) (by rw [fronts_len]; omega) (fun j hj => by
    rw [fronts_len] at hj
    rw [fronts_row (by omega) (by omega)]
    unfold frL
    rw [List.length_map]
    refine Nat.lt_of_le_of_lt (List.length_filter_le _ _) ?_
    rw [List.length_range']; omega) k (by omega) _ h (by simp only [mapC_cons, mapC_nil, depth, view_rows, Option.bind_some])
  have L0 := tells_out (vals := valsOf tab) (call := callAt Try.prog tab k) (n := k) f F (by omega) (int a) (int b) [.row 0 (encFunc f)] rfl rfl (fun p q => hdom p q _) f.blocks.length 0 k (by omega) (by omega)
  rw [show ((0 : Nat) : Int) = 0 from rfl] at L0
  have hdab := hdom a b
  generalize domB f.blocks a b = q at hdab hrdom
  have v1 : valsOf tab 33 = true := rfl
  have v2 : valsOf tab 36 = true := rfl
  have v3 : valsOf tab 37 = true := rfl
  have v4 : valsOf tab 38 = true := rfl
  have v5 : valsOf tab 39 = true := rfl
  have v6 : valsOf tab 40 = true := rfl
  have v7 : valsOf tab 34 = true := rfl
  have v8 : valsOf tab 41 = true := rfl
  have v9 : valsOf tab 18 = true := rfl
  have va : valsOf tab 21 = true := rfl
  rw [enc_func] at *
  cases q <;> simp (decide := true) (implicitDefEqProofs := false) only [k8, go_sem, hfirst, hlight, hdoms, L0, hdab, hrdom, bin_eqlb, hover, hrover, i1, hunder, hrunder, i2, hfront, hrfront, i3, v1, v2, v3, v4, v5, v6, v7, v8, v9, va] <;> exact ⟨_, _, rfl, rfl⟩
end Go.Proofs.Ytkcimaibaicdcaa.Tk
set_option linter.unusedSimpArgs false
namespace Go.Proofs.Ytkcimaibaicdcaa.Tk
open Go.Tm Go.Tm.Tab
set_option maxRecDepth 100000
/-! ### A function without blocks -/
/-- A function without blocks. -/
def noF (nm : ByteArray) (ou : Bool) (pa : List Int) (re : Int) : List C := [str nm, bool ou, ints pa, int re, blocks []]
theorem view_noF {h : Heap} (nm : ByteArray) (ou : Bool) (pa : List Int) (re : Int) : view false h 12 (.agg (noF nm ou pa re)) = some (.agg (noF nm ou pa re)) := view_func (h := h) (n := 10) ⟨nm, ou, pa, re, []⟩
theorem lenB : ((([] : List Block).length : Nat) : Int) = 0 := rfl
theorem lenR : ((([] : List (List Int)).length : Nat) : Int) = 0 := rfl
theorem lenI : ((([] : List Int).length : Nat) : Int) = 0 := rfl
theorem lenRB : ((([] : List (List Bool)).length : Nat) : Int) = 0 := rfl
theorem lenO : ((([] : List Bool).length : Nat) : Int) = 0 := rfl
theorem prev_nil : prevOf [] = [] := by simp [prevOf, prevFrom]
theorem reach_nil : reachOf [] = [] := by simp [reachOf]
theorem len0 : ((0 : Nat) : Int) = 0 := rfl
theorem maxR : ((0 : Int) ≤ 0 ∧ (0 : Int) ≤ 0 ∧ (0 : Int) ≤ (maxRow : Nat)) := ⟨by decide, by decide, by unfold maxRow; decide⟩
section
variable (nm : ByteArray) (ou : Bool) (pa : List Int) (re : Int)
theorem from_noF (less : Int) : RunsF Try.prog tab 20 65 [.agg (noF nm ou pa re), int 0, int less] (bools []) := by
  refine RunsF.by (rs := [.tmp 6]) (N := 77) rfl Try.func65 rfl rfl (by simp) (by simp only [mapC_cons, mapC_nil, depth, view_noF, view_int, Option.bind_some]) fun k hk => ?_
  unfold noF
  simp (decide := true) (implicitDefEqProofs := false) only [k65, go_sem, lenB, len0, maxR, Int.toNat_zero]
  exact ⟨_, _, rfl, rfl⟩
theorem fine_noF : Fine ⟨nm, ou, pa, re, []⟩ := ⟨by simp, by simp, by simp⟩
theorem reach_noF : RunsF Try.prog tab 30 26 [.agg (noF nm ou pa re)] (bools []) := by
  refine RunsF.by (rs := [.tmp 2]) (N := 5) rfl Try.func26 rfl rfl (by simp) (by simp only [mapC_cons, mapC_nil, depth, view_noF, view_int, Option.bind_some]) fun k hk => ?_
  obtain ⟨k, rfl⟩ : ∃ p, k = p + 1 := ⟨k - 1, by omega⟩
  have hc : ∀ h, callAt Try.prog tab (k + 1) 65 [.agg (noF nm ou pa re), int 0, int (-1)] h = some (bools [], h) := fun h => from_noF nm ou pa re (-1) (k + 1) (by omega) h
  unfold noF at *
  simp (decide := true) (implicitDefEqProofs := false) only [k26, go_sem, Tm.Loop_succ, lenB, lenR, lenI, lenRB, lenO, len0, maxR, Int.toNat_zero, hc]
  exact ⟨_, _, rfl, rfl⟩
theorem doms_noF : RunsF Try.prog tab 40 35 [.agg (noF nm ou pa re)] (rowsB []) := by
  refine RunsF.by (rs := [.tmp 2]) (N := 63) rfl Try.func35 rfl rfl (by simp) (by simp only [mapC_cons, mapC_nil, depth, view_noF, view_int, Option.bind_some]) fun k hk => ?_
  obtain ⟨k, rfl⟩ : ∃ p, k = p + 1 := ⟨k - 1, by omega⟩
  have hc : ∀ h, callAt Try.prog tab (k + 1) 26 [.agg (noF nm ou pa re)] h = some (bools [], h) := fun h => reach_noF nm ou pa re (k + 1) (by omega) h
  unfold noF at *
  simp (decide := true) (implicitDefEqProofs := false) only [k35, k35b1, go_sem, Tm.Loop_succ, lenB, lenR, lenI, lenRB, lenO, len0, maxR, Int.toNat_zero, hc]
  exact ⟨_, _, rfl, rfl⟩
theorem rdom_noF (a b : Int) : RunsF Try.prog tab 50 36 [.agg (noF nm ou pa re), int a, int b] (bool false) := by
  refine RunsF.by (rs := [.tmp 6]) (N := 54) rfl Try.func36 rfl rfl (by simp) (by simp only [mapC_cons, mapC_nil, depth, view_noF, view_int, Option.bind_some]) fun k hk => ?_
  have hc : ∀ h, callAt Try.prog tab k 26 [.agg (noF nm ou pa re)] h = some (bools [], h) := fun h => reach_noF nm ou pa re k (by omega) h
  unfold noF at *
  by_cases c1 : a < 0
  · simp (decide := true) (implicitDefEqProofs := false) only [k36, go_sem, hc, decide_eq_true c1]
    exact ⟨_, _, rfl, rfl⟩
  by_cases c2 : b < 0
  · simp (decide := true) (implicitDefEqProofs := false) only [k36, go_sem, hc, decide_eq_false c1, decide_eq_true c2]
    exact ⟨_, _, rfl, rfl⟩
  have c3 : decide (a ≥ 0) = true := decide_eq_true (by omega)
  simp (decide := true) (implicitDefEqProofs := false) only [k36, go_sem, lenO, len0, hc, decide_eq_false c1, decide_eq_false c2, c3]
  exact ⟨_, _, rfl, rfl⟩
theorem over_noF : RunsF Try.prog tab 68719476796 68 [.agg (noF nm ou pa re)] (rowsB []) := by
  refine RunsF.by (rs := [.tmp 2]) (N := 72) rfl Try.func68 rfl rfl (by simp) (by simp only [mapC_cons, mapC_nil, depth, view_noF, view_int, Option.bind_some]) fun k hk => ?_
  obtain ⟨k, rfl⟩ : ∃ p, k = p + 1 := ⟨k - 1, by omega⟩
  have hc : ∀ h, callAt Try.prog tab (k + 1) 25 [.agg (noF nm ou pa re)] h = some (bools [], h) := fun h => by
    have := reach_runs ⟨nm, ou, pa, re, []⟩ (fine_noF nm ou pa re) (k + 1) (by omega) [.agg (noF nm ou pa re)] h (by simp only [mapC_cons, mapC_nil, depth, view_noF, Option.bind_some]; rfl)
    rw [reach_nil] at this
    exact this
  unfold noF at *
  simp (decide := true) (implicitDefEqProofs := false) only [k68, k68b0, k68b2, go_sem, Tm.Loop_succ, lenB, lenR, lenI, lenRB, lenO, len0, maxR, Int.toNat_zero, hc]
  exact ⟨_, _, rfl, rfl⟩
theorem near_noF (k : Nat) (h : Heap) : callAt Try.prog tab (k + 2) 71 [rowsB []] h = some (.os h.length 0 0 (some 0), h ++ [.row 1 []]) := by
  rw [ref_call (rs := [.tmp 2]) (N := 59) rfl Try.func71 rfl rfl (by simp)]
  simp (decide := true) (implicitDefEqProofs := false) only [k71, k71b1, go_sem, Tm.Loop_succ, lenRB, len0, maxR, Int.toNat_zero]
theorem Over_noF : RunsF Try.prog tab 68719476806 37 [.agg (noF nm ou pa re)] (ints []) := by
  refine RunsF.by (rs := [.tmp 2]) (N := 6) rfl Try.func37 rfl rfl (by simp) (by simp only [mapC_cons, mapC_nil, depth, view_noF, view_int, Option.bind_some]) fun k hk => ?_
  obtain ⟨k, rfl⟩ : ∃ p, k = p + 1 := ⟨k - 1, by omega⟩
  have hc : ∀ h, callAt Try.prog tab (k + 1) 68 [.agg (noF nm ou pa re)] h = some (rowsB [], h) := fun h => over_noF nm ou pa re (k + 1) (by omega) h
  have hn : ∀ h, callAt Try.prog tab (k + 1) 71 [rowsB []] h = some (.os h.length 0 0 (some 0), h ++ [.row 1 []]) := fun h => by
    obtain ⟨k, rfl⟩ : ∃ p, k = p + 1 := ⟨k - 1, by omega⟩
    exact near_noF k h
  unfold noF at *
  simp (decide := true) (implicitDefEqProofs := false) only [k37, go_sem, Tm.Loop_succ, lenB, lenR, lenI, lenRB, lenO, len0, maxR, Int.toNat_zero, hc, hn]
  exact ⟨_, _, rfl, rfl⟩
theorem rover_noF : RunsF Try.prog tab 60 38 [.agg (noF nm ou pa re)] (ints []) := by
  refine RunsF.by (rs := [.tmp 2]) (N := 63) rfl Try.func38 rfl rfl (by simp) (by simp only [mapC_cons, mapC_nil, depth, view_noF, view_int, Option.bind_some]) fun k hk => ?_
  obtain ⟨k, rfl⟩ : ∃ p, k = p + 1 := ⟨k - 1, by omega⟩
  have hc : ∀ h, callAt Try.prog tab (k + 1) 35 [.agg (noF nm ou pa re)] h = some (rowsB [], h) := fun h => doms_noF nm ou pa re (k + 1) (by omega) h
  unfold noF at *
  simp (decide := true) (implicitDefEqProofs := false) only [k38, k38b1, go_sem, Tm.Loop_succ, lenB, lenR, lenI, lenRB, lenO, len0, maxR, Int.toNat_zero, hc]
  exact ⟨_, _, rfl, rfl⟩
theorem under_noF : RunsF Try.prog tab 68719476816 39 [.agg (noF nm ou pa re)] (rows []) := by
  refine RunsF.by (rs := [.tmp 2]) (N := 32) rfl Try.func39 rfl rfl (by simp) (by simp only [mapC_cons, mapC_nil, depth, view_noF, view_int, Option.bind_some]) fun k hk => ?_
  obtain ⟨k, rfl⟩ : ∃ p, k = p + 1 := ⟨k - 1, by omega⟩
  have hc : ∀ h, callAt Try.prog tab (k + 1) 37 [.agg (noF nm ou pa re)] h = some (ints [], h) := fun h => Over_noF nm ou pa re (k + 1) (by omega) h
  unfold noF at *
  simp (decide := true) (implicitDefEqProofs := false) only [k39, k39b0, go_sem, Tm.Loop_succ, lenB, lenR, lenI, lenRB, lenO, len0, maxR, Int.toNat_zero, hc]
  exact ⟨_, _, rfl, rfl⟩
theorem runder_noF : RunsF Try.prog tab 80 40 [.agg (noF nm ou pa re)] (rows []) := by
  refine RunsF.by (rs := [.tmp 2]) (N := 40) rfl Try.func40 rfl rfl (by simp) (by simp only [mapC_cons, mapC_nil, depth, view_noF, view_int, Option.bind_some]) fun k hk => ?_
  obtain ⟨k, rfl⟩ : ∃ p, k = p + 1 := ⟨k - 1, by omega⟩
  have hc : ∀ h, callAt Try.prog tab (k + 1) 38 [.agg (noF nm ou pa re)] h = some (ints [], h) := fun h => rover_noF nm ou pa re (k + 1) (by omega) h
  unfold noF at *
  simp (decide := true) (implicitDefEqProofs := false) only [k40, k40b0, go_sem, Tm.Loop_succ, lenB, lenR, lenI, lenRB, lenO, len0, maxR, Int.toNat_zero, hc]
  exact ⟨_, _, rfl, rfl⟩
theorem front_noF : RunsF Try.prog tab 68719476816 34 [.agg (noF nm ou pa re)] (rows []) := by
  refine RunsF.by (rs := [.tmp 2]) (N := 57) rfl Try.func34 rfl rfl (by simp) (by simp only [mapC_cons, mapC_nil, depth, view_noF, view_int, Option.bind_some]) fun k hk => ?_
  obtain ⟨k, rfl⟩ : ∃ p, k = p + 1 := ⟨k - 1, by omega⟩
  have hc : ∀ h, callAt Try.prog tab (k + 1) 68 [.agg (noF nm ou pa re)] h = some (rowsB [], h) := fun h => over_noF nm ou pa re (k + 1) (by omega) h
  have hp : ∀ h, callAt Try.prog tab (k + 1) 22 [.agg (noF nm ou pa re)] h = some (rows [], h) := fun h => by
    have := prev_runs ⟨nm, ou, pa, re, []⟩ (fine_noF nm ou pa re) (k + 1) (by omega) [.agg (noF nm ou pa re)] h (by simp only [mapC_cons, mapC_nil, depth, view_noF, Option.bind_some]; rfl)
    rw [prev_nil] at this
    exact this
  unfold noF at *
  simp (decide := true) (implicitDefEqProofs := false) only [k34, k34b1, go_sem, Tm.Loop_succ, lenB, lenR, lenI, lenRB, lenO, len0, maxR, Int.toNat_zero, hc, hp]
  exact ⟨_, _, rfl, rfl⟩
theorem rfront_noF : RunsF Try.prog tab 68719476816 41 [.agg (noF nm ou pa re)] (rows []) := by
  refine RunsF.by (rs := [.tmp 2]) (N := 91) rfl Try.func41 rfl rfl (by simp) (by simp only [mapC_cons, mapC_nil, depth, view_noF, view_int, Option.bind_some]) fun k hk => ?_
  obtain ⟨k, rfl⟩ : ∃ p, k = p + 1 := ⟨k - 1, by omega⟩
  have hc : ∀ h, callAt Try.prog tab (k + 1) 35 [.agg (noF nm ou pa re)] h = some (rowsB [], h) := fun h => doms_noF nm ou pa re (k + 1) (by omega) h
  have hr : ∀ h, callAt Try.prog tab (k + 1) 26 [.agg (noF nm ou pa re)] h = some (bools [], h) := fun h => reach_noF nm ou pa re (k + 1) (by omega) h
  have hp : ∀ h, callAt Try.prog tab (k + 1) 23 [.agg (noF nm ou pa re)] h = some (rows [], h) := fun h => by
    have := rprev_runs ⟨nm, ou, pa, re, []⟩ (fine_noF nm ou pa re) (k + 1) (by omega) [.agg (noF nm ou pa re)] h (by simp only [mapC_cons, mapC_nil, depth, view_noF, Option.bind_some]; rfl)
    rw [prev_nil] at this
    exact this
  have v1 : valsOf tab 35 = true := rfl
  have v2 : valsOf tab 26 = true := rfl
  have v3 : valsOf tab 23 = true := rfl
  unfold noF at *
  simp (decide := true) (implicitDefEqProofs := false) only [k41, k41b2, go_sem, Tm.Loop_succ, lenB, lenR, lenI, lenRB, lenO, len0, maxR, Int.toNat_zero, hc, hr, hp, v1, v2, v3]
  exact ⟨_, _, rfl, rfl⟩
end
set_option maxHeartbeats 1000000 in
theorem tells_none (nm : ByteArray) (ou : Bool) (pa : List Int) (re : Int) (t : Bool) (ht : Runs Try.prog tab (2 ^ 36 + 1) 17 [.agg (noF nm ou pa re)] (bool t)) (a b : Int) : Runs Try.prog tab (2 ^ 36 + 90) 8 [.agg (noF nm ou pa re), int a, int b] (bool true) := by
  refine Runs.by (rs := [.tmp 6]) (N := 72) rfl Try.func8 rfl rfl (by simp) fun k hk => ?_
  obtain ⟨k, rfl⟩ : ∃ p, k = p + 1 := ⟨k - 1, by omega⟩
  have hfirst : ∀ h, callAt Try.prog tab (k + 1) 32 [] h = some (bool true, h) := fun h => first5 (k + 1) (by omega) [] h rfl
  have hlight : ∀ h, callAt Try.prog tab (k + 1) 17 [.agg (noF nm ou pa re)] h = some (bool t, h) := fun h => ht (k + 1) (by omega) _ h (by simp only [mapC_cons, mapC_nil, depth, view_noF, Option.bind_some])
  have hdoms : ∀ h, callAt Try.prog tab (k + 1) 35 [.agg (noF nm ou pa re)] h = some (rowsB [], h) := fun h => doms_noF nm ou pa re (k + 1) (by omega) h
  have hdom : ∀ h, callAt Try.prog tab (k + 1) 33 [.agg (noF nm ou pa re), int a, int b] h = some (bool false, h) := fun h => by
    have := dom_runs ⟨nm, ou, pa, re, []⟩ (fine_noF nm ou pa re) a b (k + 1) (by omega) [.agg (noF nm ou pa re), int a, int b] h (by simp only [mapC_cons, mapC_nil, depth, view_noF, view_int, Option.bind_some]; rfl)
    rw [domB_false (by simp only [List.length_nil]; omega)] at this
    exact this
  have hrdom : ∀ h, callAt Try.prog tab (k + 1) 36 [.agg (noF nm ou pa re), int a, int b] h = some (bool false, h) := fun h => rdom_noF nm ou pa re a b (k + 1) (by omega) h
  have hover : ∀ h, callAt Try.prog tab (k + 1) 37 [.agg (noF nm ou pa re)] h = some (ints [], h) := fun h => Over_noF nm ou pa re (k + 1) (by omega) h
  have hrover : ∀ h, callAt Try.prog tab (k + 1) 38 [.agg (noF nm ou pa re)] h = some (ints [], h) := fun h => rover_noF nm ou pa re (k + 1) (by omega) h
  have hunder : ∀ h, callAt Try.prog tab (k + 1) 39 [.agg (noF nm ou pa re)] h = some (rows [], h) := fun h => under_noF nm ou pa re (k + 1) (by omega) h
  have hrunder : ∀ h, callAt Try.prog tab (k + 1) 40 [.agg (noF nm ou pa re)] h = some (rows [], h) := fun h => runder_noF nm ou pa re (k + 1) (by omega) h
  have hfront : ∀ h, callAt Try.prog tab (k + 1) 34 [.agg (noF nm ou pa re)] h = some (rows [], h) := fun h => front_noF nm ou pa re (k + 1) (by omega) h
  have hrfront : ∀ h, callAt Try.prog tab (k + 1) 41 [.agg (noF nm ou pa re)] h = some (rows [], h) := fun h => rfront_noF nm ou pa re (k + 1) (by omega) h
  have i1 : ∀ h, callAt Try.prog tab (k + 1) 18 [ints [], ints []] h = some (bool true, h) := fun h => ints_self [] (by decide) (k + 1) (by simp only [List.length_nil]; omega) _ h rfl
  have i2 : ∀ h, callAt Try.prog tab (k + 1) 21 [rows [], rows []] h = some (bool true, h) := fun h => rows_self [] (by decide) (fun j hj => by simp at hj) (k + 1) (by omega) _ h rfl
  have v1 : valsOf tab 33 = true := rfl
  have v2 : valsOf tab 36 = true := rfl
  have v3 : valsOf tab 37 = true := rfl
  have v4 : valsOf tab 38 = true := rfl
  have v5 : valsOf tab 39 = true := rfl
  have v6 : valsOf tab 40 = true := rfl
  have v7 : valsOf tab 34 = true := rfl
  have v8 : valsOf tab 41 = true := rfl
  have v9 : valsOf tab 18 = true := rfl
  have va : valsOf tab 21 = true := rfl
  unfold noF at *
  cases t <;> simp (decide := true) (implicitDefEqProofs := false) only [k8, k8b1, go_sem, Tm.Loop_succ, lenRB, len0, hfirst, hlight, hdoms, hdom, hrdom, bin_eqlb, hover, hrover, i1, hunder, hrunder, i2, hfront, hrfront, v1, v2, v3, v4, v5, v6, v7, v8, v9, va] <;> exact ⟨_, _, rfl, rfl⟩
theorem domTells (f : Tm.Func) (hl : ∀ b ∈ f.blocks, b.ins.length < 2 ^ 45) (xa xb : Int) : Runs Try.prog tab (2 ^ 36 + 90) 8 [.agg (encFunc f), int xa, int xb] (bool true) := by
  obtain ⟨t, ht, hF⟩ := light_runs f hl
  by_cases c0 : f.blocks.length = 0
  · obtain ⟨nm, ou, pa, re, bs⟩ := f
    obtain rfl : bs = [] := List.eq_nil_of_length_eq_zero c0
    exact tells_none nm ou pa re t ht xa xb
  · cases t with
    | true => exact fun k hk => tells_pos f (hF rfl) (by omega) ht xa xb k (by omega)
    | false =>
      refine Runs.by (rs := [.tmp 6]) (N := 72) rfl Try.func8 rfl rfl (by simp) fun k hk => ?_
      have hfirst : ∀ h, callAt Try.prog tab k 32 [] h = some (bool true, h) := fun h => first5 k (by omega) [] h rfl
      have hlight : ∀ h, callAt Try.prog tab k 17 [.agg (encFunc f)] h = some (bool false, h) := fun h => ht k (by omega) _ h (by simp only [mapC_cons, mapC_nil, depth, view_func f, Option.bind_some])
      rw [enc_func] at *
      simp (decide := true) (implicitDefEqProofs := false) only [k8, go_sem, hfirst, hlight]
      exact ⟨_, _, rfl, rfl⟩
end Go.Proofs.Ytkcimaibaicdcaa.Tk
