import Derived.Test.YtkcimaibaicdcaaS3
import Derived.Test.YtkcimaibaicdcaaTQ
set_option linter.unusedSimpArgs false
namespace Go.Proofs.Ytkcimaibaicdcaa.Tk
open Go.Tm Go.Tm.Tab
set_option maxRecDepth 100000
def push (b : Int) (acc : List (List Int)) (t : Int) : List (List Int) := acc.set t.toNat (acc.getD t.toNat [] ++ [b])
noncomputable def prevFrom (l : List Block) : Nat → Nat → List (List Int) → List (List Int)
  | 0, _, acc => acc
  | d + 1, i, acc => prevFrom l d (i + 1) ((nextOf l i).foldl (push i) acc)
noncomputable def prevOf (l : List Block) : List (List Int) := prevFrom l l.length 0 (List.replicate l.length [])
theorem push_len {b : Int} {acc : List (List Int)} {t : Int} : (push b acc t).length = acc.length := by simp [push]
theorem push_row {b : Int} {acc : List (List Int)} {t : Int} (j M : Nat) (h : ∀ j, (acc.getD j []).length ≤ M) : ((push b acc t).getD j []).length ≤ M + 1 := by
  unfold push
  rw [List.getD_eq_getElem?_getD, List.getElem?_set]
  split
  · split
    · have := h t.toNat; rw [List.getD_eq_getElem?_getD] at this; simp; omega
    · simp
  · have := h j; rw [List.getD_eq_getElem?_getD] at this; omega
theorem get_isSome {cells : List C} {c : C} {j : Nat} (h : cells[j]? = some c) : (cells.drop j).head? = some c := by rw [List.head?_drop]; exact h
section
variable {vals : FuncId → Bool} {call : CallF} {n : Nat}
theorem prev_in (f : Tm.Func) (hn : f.blocks.length ≤ 16) (b : Int) (x : List Int) (hx : ∀ v ∈ x, 0 ≤ v ∧ v < (f.blocks.length : Int)) (hx2 : x.length ≤ 20) (d : Nat) : ∀ (i m : Nat), i + d = x.length → d < m → ∀ (h : Heap) (cells : List C) (acc : List (List Int)) (M : Nat), h[0]? = some (.row 0 (encFunc f)) → Tm.Rows h 1 cells acc → acc.length = f.blocks.length → (∀ j, (acc.getD j []).length ≤ M) → M + d < 2 ^ 30 →
    ∃ h' cells', Tm.Loop Try.prog vals call n [1, 3, 4, 13, 14, 19, 20, 21] k22b0 m ⟨[(1, .op 0 0), (3, .os 1 0 f.blocks.length (some f.blocks.length)), (4, int b), (13, int f.blocks.length), (14, int b), (19, ints x), (20, int x.length), (21, int i)], h⟩ = some (.exit 2, ⟨[(1, .op 0 0), (3, .os 1 0 f.blocks.length (some f.blocks.length)), (4, int b), (13, int f.blocks.length), (14, int b), (19, ints x), (20, int x.length), (21, int x.length), (22, bool false)], h'⟩) ∧
      h'[0]? = some (.row 0 (encFunc f)) ∧ Tm.Rows h' 1 cells' ((x.drop i).foldl (push b) acc) ∧ ((x.drop i).foldl (push b) acc).length = f.blocks.length ∧ (∀ j, (((x.drop i).foldl (push b) acc).getD j []).length ≤ M + d) := by
  induction d with
  | zero =>
    intro i m hi hm h cells acc M h0 hR hL hM _
    obtain ⟨m, rfl⟩ : ∃ p, m = p + 1 := ⟨m - 1, by omega⟩
    obtain rfl : i = x.length := by omega
    rw [Tm.Loop_succ]
    simp (decide := true) (implicitDefEqProofs := false) only [bind_ite, andThen_ite, leaves_ite, k22b0, go_sem, Int.lt_irrefl, decide_false]
    exact ⟨h, cells, rfl, h0, by simpa using hR, by simpa using hL, by simpa using hM⟩
  | succ d ih =>
    intro i m hi hm h cells acc M h0 hR hL hM hMd
    obtain ⟨m, rfl⟩ : ∃ p, m = p + 1 := ⟨m - 1, by omega⟩
    replace ih := ih (i + 1) m (by omega) (by omega)
    rw [Tm.Loop_succ, drop_rd (xs := x) (i := i) (by omega), List.foldl_cons]
    generalize Tm.Loop Try.prog vals call n [1, 3, 4, 13, 14, 19, 20, 21] k22b0 m = L at ih ⊢
    have e1 : decide ((i : Int) < x.length) = true := by simp; omega
    have e2 : 0 ≤ (i : Int) ∧ (i : Int) < x.length := by omega
    have e3 := wrap_next (n := x.length) (i := i) (by omega) (by omega)
    have e4 := hx _ (rd_mem e2.1 e2.2)
    have e5 : (rd x i).toNat < acc.length := by omega
    obtain ⟨c, c', h', g1, g2, g3, g4, g5, g6, g7, g8⟩ := hR.append e5 b (by have := hM (rd x i).toNat; unfold maxRow; omega)
    have g1' := get_isSome g1
    have g3' : storeR h' 1 (rd x i).toNat 1 (some (.row 1 cells)) [c'] = some (h'.set 1 (.row 1 (cells.set (rd x i).toNat c'))) := by
      rw [storeR_row, if_pos ⟨rfl, by simp; omega, by simp [g5]⟩]
      have := put_map (f := id) (v := c') g6
      simp only [List.map_id, id] at this
      rw [this]
    have hat := hR.at_
    simp (decide := true) (implicitDefEqProofs := false) only [bind_ite, andThen_ite, leaves_ite, k22b0, go_sem, e1, e2, e3, e4, hat, g1', g2, g3, g3', g4]
    obtain ⟨h2, cells2, q1, q2, q3, q4, q5⟩ := ih _ _ _ (M + 1) (g8 0 _ (by omega) h0) g7 (by simp [hL]) (fun j => push_row (t := rd x i) (b := b) j M hM) (by omega)
    exact ⟨h2, cells2, q1, q2, q3, q4, fun j => by have := q5 j; unfold push at this ⊢; omega⟩
end
theorem func_view {f : Tm.Func} {h : Heap} {cl : Bool} : view false h 12 (.agg (encFunc f)) = some (.agg (encFunc f)) := view_func f
theorem next_call (f : Tm.Func) (F : Fine f) (b : Int) {k : Nat} (hk : 2 ^ 36 + 1 ≤ k) (h : Heap) : callAt Try.prog tab k 19 [.agg [str f.name, bool f.out, ints f.params, int f.result, blocks f.blocks], int b] h = some (ints (nextOf f.blocks b), h) := by
  rw [← enc_func]
  exact next_runs f F b k hk _ h (by simp only [mapC_cons, mapC_nil, depth, view_func f, view_int, Option.bind_some])
theorem prev_out (f : Tm.Func) (F : Fine f) {vals : FuncId → Bool} {k n : Nat} (hk : 2 ^ 36 + 1 ≤ k) (hn : 30 ≤ n) (d : Nat) : ∀ (i m : Nat), i + d = f.blocks.length → d < m → ∀ (h : Heap) (cells : List C) (acc : List (List Int)), h[0]? = some (.row 0 (encFunc f)) → Tm.Rows h 1 cells acc → acc.length = f.blocks.length → (∀ j, (acc.getD j []).length ≤ 20 * i) →
    ∃ h' cells', Tm.Loop Try.prog vals (callAt Try.prog tab k) n [1, 3, 13, 14] k22b1 m ⟨[(1, .op 0 0), (3, .os 1 0 f.blocks.length (some f.blocks.length)), (13, int f.blocks.length), (14, int i)], h⟩ = some (.exit 0, ⟨[(1, .op 0 0), (3, .os 1 0 f.blocks.length (some f.blocks.length)), (13, int f.blocks.length), (14, int f.blocks.length), (15, bool false)], h'⟩) ∧
      Tm.Rows h' 1 cells' (prevFrom f.blocks d i acc) ∧ (prevFrom f.blocks d i acc).length = f.blocks.length := by
  have hb := F.blocks
  induction d with
  | zero =>
    intro i m hi hm h cells acc h0 hR hL hM
    obtain ⟨m, rfl⟩ : ∃ p, m = p + 1 := ⟨m - 1, by omega⟩
    obtain rfl : i = f.blocks.length := by omega
    rw [Tm.Loop_succ]
    simp (decide := true) (implicitDefEqProofs := false) only [bind_ite, andThen_ite, leaves_ite, k22b1, go_sem, Int.lt_irrefl, decide_false, prevFrom]
    exact ⟨h, cells, rfl, hR, hL⟩
  | succ d ih =>
    intro i m hi hm h cells acc h0 hR hL hM
    obtain ⟨m, rfl⟩ : ∃ p, m = p + 1 := ⟨m - 1, by omega⟩
    replace ih := ih (i + 1) m (by omega) (by omega)
    rw [Tm.Loop_succ]
    generalize Tm.Loop Try.prog vals (callAt Try.prog tab k) n [1, 3, 13, 14] k22b1 m = L at ih ⊢
    have e1 : decide ((i : Int) < f.blocks.length) = true := by simp; omega
    have e3 := wrap_next (n := f.blocks.length) (i := i) (by omega) (by omega)
    have hx := next_len F i
    obtain ⟨h', cells', g1, g2, g3, g4, g5⟩ := prev_in (vals := vals) (call := callAt Try.prog tab k) (n := n) f F.blocks i (nextOf f.blocks i) (fun v hv => next_in hv) hx (nextOf f.blocks i).length 0 n (by omega) (by omega) h cells acc (20 * i) h0 hR hL hM (by omega)
    rw [show ((0 : Nat) : Int) = 0 from rfl] at g1
    rw [List.drop_zero] at g3 g4 g5
    have hcall := next_call f F i hk h
    rw [enc_func] at h0
    simp (decide := true) (implicitDefEqProofs := false) only [bind_ite, andThen_ite, leaves_ite, k22b1, go_sem, e1, e3, h0, hcall, g1]
    rw [enc_func] at g2
    exact ih h' cells' _ (by rw [enc_func]; exact g2) g3 g4 (fun j => by have := g5 j; omega)
theorem rep_one (n : Nat) (c : C) : rep n [c] = List.replicate n c := by
  induction n with
  | zero => rfl
  | succ n ih => rw [rep_succ, ih]; rfl
theorem prev_runs (f : Tm.Func) (F : Fine f) : Runs Try.prog tab (2 ^ 36 + 2) 22 [.agg (encFunc f)] (rows (prevOf f.blocks)) := by
  have hb := F.blocks
  refine Runs.by (rs := [.tmp 2]) (N := 38) rfl Try.func22 rfl rfl (by simp) fun k hk => ?_
  have R0 : Tm.Rows [.row 0 (encFunc f), .row 1 (List.replicate f.blocks.length (.v (.slice none 0 0)))] 1 (List.replicate f.blocks.length (.v (.slice none 0 0))) (List.replicate f.blocks.length []) := by
    refine ⟨rfl, by simp, fun j c hc => ?_, fun j l hl => ?_, fun j k l hj => ?_⟩
    · obtain ⟨hj, rfl⟩ := List.getElem?_eq_some_iff.1 hc
      refine .inl ⟨?_, by simp⟩
      simp only [List.getD_eq_getElem?_getD, List.getElem?_replicate]; split <;> rfl
    · rw [List.getElem?_replicate] at hl; split at hl <;> cases hl
    · rw [List.getElem?_replicate] at hj; split at hj <;> cases hj
  obtain ⟨h', cells', g1, g2, g3⟩ := prev_out f F (vals := valsOf tab) (k := k) (n := k) (by omega) (by omega) f.blocks.length 0 k (by omega) (by omega) _ _ _ rfl R0 (by simp) (fun j => by rw [List.getD_eq_getElem?_getD, List.getElem?_replicate]; split <;> simp)
  rw [show ((0 : Nat) : Int) = 0 from rfl, enc_func] at g1
  rw [enc_func]
  have eM : 0 ≤ (f.blocks.length : Int) ∧ (f.blocks.length : Int) ≤ (f.blocks.length : Int) ∧ (f.blocks.length : Int) ≤ (maxRow : Nat) := ⟨by omega, by omega, by unfold maxRow; omega⟩
  simp (decide := true) (implicitDefEqProofs := false) only [bind_ite, andThen_ite, leaves_ite, k22, go_sem, eM, Int.toNat_natCast, rep_one, g1]
  refine ⟨_, _, rfl, ?_⟩
  have := g2.view (cl := true) (n := 9) (cap := some f.blocks.length)
  rw [g3] at this
  exact this
end Go.Proofs.Ytkcimaibaicdcaa.Tk
