import Derived.Test.YtkcimaibaicdcaaSD
set_option linter.unusedSimpArgs false
namespace Go.Tm
theorem Rows.more {h : Heap} {r : Nat} {cells : List C} {acc : List (List Int)} (H : Rows h r cells acc) (nd : Node) : Rows (h ++ [nd]) r cells acc := by
  have up : ∀ (l : Nat) (x : Node), h[l]? = some x → (h ++ [nd])[l]? = some x := fun l x e => by rw [List.getElem?_append_left (List.getElem?_eq_some_iff.1 e).1]; exact e
  exact ⟨up _ _ H.at_, H.len, fun j c hc => (H.each j c hc).mono up, H.far, H.apart⟩
theorem Rows.fresh {h : Heap} {r : Nat} {cells : List C} {acc : List (List Int)} (H : Rows h r cells acc) (j : Nat) : cells[j]?.bind locC ≠ some h.length := fun e => by
  cases hc : cells[j]? with
  | none => rw [hc] at e; cases e
  | some c =>
    rw [hc] at e
    simp only [Option.bind_some] at e
    rcases H.each j c hc with ⟨_, rfl⟩ | ⟨l, rfl, hl⟩
    · cases e
    · have := (List.getElem?_eq_some_iff.1 hl).1
      simp only [locC, Option.some.injEq] at e
      omega
end Go.Tm
namespace Go.Proofs.Ytkcimaibaicdcaa.Tk
open Go.Tm Go.Tm.Tab
set_option maxRecDepth 100000
theorem frFrom_other {l : List Block} {a : Nat} : ∀ (d i : Nat) (acc : List (List Int)) (j : Nat), j ≠ a → (frFrom l a d i acc).getD j [] = acc.getD j []
  | 0, i, acc, j, _ => rfl
  | d + 1, i, acc, j, h => by
    rw [frFrom, frFrom_other d (i + 1) _ j h]
    split
    · unfold push
      rw [Int.toNat_natCast, List.getD_eq_getElem?_getD, List.getElem?_set_ne (Ne.symm h), ← List.getD_eq_getElem?_getD]
    · rfl
noncomputable def frontsFrom (l : List Block) : Nat → Nat → List (List Int) → List (List Int)
  | 0, _, acc => acc
  | d + 1, i, acc => frontsFrom l d (i + 1) (frFrom l i l.length 0 acc)
noncomputable def frontsOf (l : List Block) : List (List Int) := frontsFrom l l.length 0 (List.replicate l.length [])
theorem front_out (f : Tm.Func) (F : Fine f) {k n : Nat} (hk : 2 ^ 20 + 2 ≤ k) (hn : 30 ≤ n) (d : Nat) : ∀ (i m : Nat), i + d = f.blocks.length → d < m → ∀ (h : Heap) (cells : List C) (acc : List (List Int)), h[1]? = some (.row 0 [rowsB (overOf f.blocks)]) → Tm.Rows h 2 cells acc → acc.length = f.blocks.length → (∀ j, i ≤ j → acc.getD j [] = []) →
    ∃ h' cells', Tm.Loop Try.prog (valsOf tab) (callAt Try.prog tab k) n [3, 4, 5, 17, 18] k34b1 m ⟨[(3, .op 1 0), (4, rows (prevOf f.blocks)), (5, .os 2 0 f.blocks.length (some f.blocks.length)), (17, int f.blocks.length), (18, int i)], h⟩ = some (.exit 0, ⟨[(3, .op 1 0), (4, rows (prevOf f.blocks)), (5, .os 2 0 f.blocks.length (some f.blocks.length)), (17, int f.blocks.length), (18, int f.blocks.length), (19, bool false)], h'⟩) ∧
      Tm.Rows h' 2 cells' (frontsFrom f.blocks d i acc) ∧ (frontsFrom f.blocks d i acc).length = f.blocks.length := by
  have hb := F.blocks
  induction d with
  | zero =>
    intro i m hi hm h cells acc h1 hR hL _
    obtain ⟨m, rfl⟩ : ∃ p, m = p + 1 := ⟨m - 1, by omega⟩
    obtain rfl : i = f.blocks.length := by omega
    rw [Tm.Loop_succ]
    simp (implicitDefEqProofs := false) only [k34b1, go_sem, Int.lt_irrefl, decide_false]
    exact ⟨h, cells, rfl, hR, hL⟩
  | succ d ih =>
    intro i m hi hm h cells acc h1 hR hL hE
    obtain ⟨m, rfl⟩ : ∃ p, m = p + 1 := ⟨m - 1, by omega⟩
    replace ih := ih (i + 1) m (by omega) (by omega)
    rw [Tm.Loop_succ, frontsFrom]
    generalize Tm.Loop Try.prog (valsOf tab) (callAt Try.prog tab k) n [3, 4, 5, 17, 18] k34b1 m = L at ih ⊢
    have e1 : decide ((i : Int) < f.blocks.length) = true := by simp; omega
    have e3 := wrap_next (n := f.blocks.length) (i := i) (by omega) (by omega)
    have h2l : 2 < h.length := (List.getElem?_eq_some_iff.1 hR.at_).1
    have hpl := prev_len f.blocks
    obtain ⟨hh, ehh⟩ : ∃ hh : Heap, hh = h ++ [Tm.Node.row 0 [int i]] := ⟨_, rfl⟩
    have a1 : storeR (h ++ [Tm.Node.row 0 [int 0]]) h.length 0 1 (some (.row 0 [int 0])) [int i] = some hh := by
      rw [storeR_row, if_pos ⟨rfl, by simp, rfl⟩, ehh]; simp [put]
    obtain ⟨h', cells', g1, g2, g3, g4⟩ := front_in (n := n) f F i (by omega) h.length h2l hk f.blocks.length 0 n (by omega) (by omega) hh cells acc (by rw [ehh, List.getElem?_append_left (by omega)]; exact h1) (by rw [ehh]; simp) (by rw [ehh]; exact hR.more _) hL (fun j => hR.fresh j) (by rw [hE i (Nat.le_refl _)]; simp)
    rw [show ((0 : Nat) : Int) = 0 from rfl] at g1
    obtain ⟨h2, cells2, q1, q2⟩ := ih h' cells' _ g2 g3 g4 (fun j hj => by rw [frFrom_other _ _ _ j (by omega)]; exact hE j (by omega))
    refine ⟨h2, cells2, ?_, q2⟩
    simp (decide := true) (implicitDefEqProofs := false) only [k34b1, go_sem, e1, e3, a1, hpl, g1]
    exact q1
theorem front_runs (f : Tm.Func) (F : Fine f) (hpos : 0 < f.blocks.length) : Runs Try.prog tab (2 ^ 36 + 41) 34 [.agg (encFunc f)] (rows (frontsOf f.blocks)) := by
  have hb := F.blocks
  refine Runs.by (rs := [.tmp 2]) (N := 57) rfl Try.func34 rfl rfl (by simp) fun k hk => ?_
  have hover : ∀ h, callAt Try.prog tab k 68 [.agg (encFunc f)] h = some (rowsB (overOf f.blocks), h) := fun h => over_runs f F hpos k (by omega) _ h (by simp only [mapC_cons, mapC_nil, depth, view_func f, Option.bind_some])
  have hprev : ∀ h, callAt Try.prog tab k 22 [.agg (encFunc f)] h = some (rows (prevOf f.blocks), h) := fun h => prev_runs f F k (by omega) _ h (by simp only [mapC_cons, mapC_nil, depth, view_func f, Option.bind_some])
  have eM : 0 ≤ (f.blocks.length : Int) ∧ (f.blocks.length : Int) ≤ (f.blocks.length : Int) ∧ (f.blocks.length : Int) ≤ (maxRow : Nat) := ⟨by omega, by omega, by unfold maxRow; omega⟩
  have R0 : Tm.Rows [.row 0 (encFunc f), .row 0 [rowsB (overOf f.blocks)], .row 1 (List.replicate f.blocks.length (.v (.slice none 0 0)))] 2 (List.replicate f.blocks.length (.v (.slice none 0 0))) (List.replicate f.blocks.length []) := by
    refine ⟨rfl, by simp, fun j c hc => ?_, fun j l hl => ?_, fun j k l hj => ?_⟩
    · obtain ⟨hj, rfl⟩ := List.getElem?_eq_some_iff.1 hc
      refine .inl ⟨?_, by simp⟩
      simp only [List.getD_eq_getElem?_getD, List.getElem?_replicate]; split <;> rfl
    · rw [List.getElem?_replicate] at hl; split at hl <;> cases hl
    · rw [List.getElem?_replicate] at hj; split at hj <;> cases hj
  obtain ⟨h', cells', g1, g2, g3⟩ := front_out (n := k) f F (k := k) (by omega) (by omega) f.blocks.length 0 k (by omega) (by omega) _ _ _ rfl R0 (by simp) (fun j _ => by rw [List.getD_eq_getElem?_getD, List.getElem?_replicate]; split <;> rfl)
  rw [show ((0 : Nat) : Int) = 0 from rfl] at g1
  have a1 : ∀ x, storeR [.row 0 x, .row 0 [.v (.slice none 0 0)]] 1 0 1 (some (.row 0 [.v (.slice none 0 0)])) [rowsB (overOf f.blocks)] = some [.row 0 x, .row 0 [rowsB (overOf f.blocks)]] := fun x => by
    rw [storeR_row, if_pos ⟨rfl, by simp, rfl⟩]; rfl
  have hcr : (rowsB (overOf f.blocks)).cells = [rowsB (overOf f.blocks)] := rfl
  rw [enc_func] at *
  simp (decide := true) (implicitDefEqProofs := false) only [k34, go_sem, eM, Int.toNat_natCast, rep_one, hover, hprev, hcr, a1, g1]
  refine ⟨_, _, rfl, ?_⟩
  have e : ∀ (n : Nat), view true h' (n + 3) (.os 2 0 f.blocks.length (some f.blocks.length)) = some (rows (frontsOf f.blocks)) := fun n => by
    have := g2.view (cl := true) (n := n) (cap := some f.blocks.length)
    rw [g3] at this
    exact this
  exact e 9
end Go.Proofs.Ytkcimaibaicdcaa.Tk
