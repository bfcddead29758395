import Derived.Test.YtkcimaibaicdcaaS7
set_option linter.unusedSimpArgs false
namespace Go.Proofs.Ytkcimaibaicdcaa.Tk
open Go.Tm Go.Tm.Tab
set_option maxRecDepth 100000
/-- Block a is over block b. -/
def Ov (l : List Block) (a b : Int) : Prop := Rc (nextOf l) (fun _ => True) 0 a ∧ Rc (nextOf l) (fun _ => True) 0 b ∧ ¬ Rc (nextOf l) (· ≠ a) 0 b
open Classical in
noncomputable def rowOv (l : List Block) (a : Int) : List Bool := (List.range l.length).map fun (b : Nat) => decide (Ov l a b)
noncomputable def overOf (l : List Block) : List (List Bool) := (List.range l.length).map fun (a : Nat) => rowOv l a
theorem rowOv_len (l : List Block) (a : Int) : (rowOv l a).length = l.length := by simp [rowOv]
theorem over_len (l : List Block) : (overOf l).length = l.length := by simp [overOf]
theorem rowOv_at {l : List Block} {a b : Int} (b0 : 0 ≤ b) (b1 : b < (l.length : Int)) : rdOf false (rowOv l a) b = true ↔ Ov l a b := by
  have h : b.toNat < l.length := by omega
  unfold rdOf rowOv
  rw [List.getD_eq_getElem?_getD, List.getElem?_map, List.getElem?_range h]
  simp only [Option.map_some, Option.getD_some, decide_eq_true_eq]
  rw [show ((b.toNat : Nat) : Int) = b by omega]
def rowB (l : List (List Bool)) (i : Int) : List Bool := l.getD i.toNat []
@[go_sem] theorem idx_rowsB (l : List (List Bool)) (i : Int) : idxC 1 (rowsB l) i = if 0 ≤ i ∧ i < l.length then some (.fp (bools (rowB l i) :: restOf (fun x => [bools x]) l i)) else none := by
  simp only [rowsB, idxC]
  split
  · rename_i h; rw [at_map [] h]; rfl
  · rfl
@[go_sem] theorem len_rowsB (l : List (List Bool)) : lenS (rowsB l) = some (int l.length) := rfl
@[go_sem] theorem view_rowsB {h : Heap} {n : Nat} (l : List (List Bool)) : view false h (n + 1) (rowsB l) = some (rowsB l) := view_fs' _ l
theorem over_at {l : List Block} {a : Int} (a0 : 0 ≤ a) (a1 : a < (l.length : Int)) : rowB (overOf l) a = rowOv l a := by
  have h : a.toNat < l.length := by omega
  unfold rowB overOf
  rw [List.getD_eq_getElem?_getD, List.getElem?_map, List.getElem?_range h]
  simp only [Option.map_some, Option.getD_some]
  rw [show ((a.toNat : Nat) : Int) = a by omega]
theorem put_cell {cells : List C} {k : Nat} {c : C} (h : k < cells.length) : put cells k [c] = cells.set k c := by
  have := put_map (f := id) (v := c) h
  simpa using this
noncomputable def nxCells (l : List Block) (i : Nat) : List C := (List.range l.length).map fun j => if j < i then ints (nextOf l j) else .v (.slice none 0 0)
theorem nx_set (l : List Block) {i : Nat} (h : i < l.length) : (nxCells l i).set i (ints (nextOf l i)) = nxCells l (i + 1) := by
  refine List.ext_getElem (by simp [nxCells]) fun j h1 h2 => ?_
  rw [List.getElem_set]
  simp only [nxCells, List.getElem_map, List.getElem_range]
  by_cases e : i = j
  · subst e; rw [if_pos rfl, if_pos (by omega)]
  · rw [if_neg e]
    by_cases q : j < i
    · rw [if_pos q, if_pos (by omega)]
    · rw [if_neg q, if_neg (by omega)]
section
variable {vals : FuncId → Bool} {n : Nat}
theorem over_nx (f : Tm.Func) (F : Fine f) {k : Nat} (hk : 2 ^ 36 + 1 ≤ k) (d : Nat) : ∀ (i m : Nat), i + d = f.blocks.length → d < m →
    Tm.Loop Try.prog vals (callAt Try.prog tab k) n [1, 3, 4, 16, 17] k68b0 m ⟨[(1, .op 0 0), (3, int f.blocks.length), (4, .os 1 0 f.blocks.length (some f.blocks.length)), (16, int f.blocks.length), (17, int i)], [.row 0 (encFunc f), .row 1 (nxCells f.blocks i)]⟩ = some (.exit 0, ⟨[(1, .op 0 0), (3, int f.blocks.length), (4, .os 1 0 f.blocks.length (some f.blocks.length)), (16, int f.blocks.length), (17, int f.blocks.length), (18, bool false)], [.row 0 (encFunc f), .row 1 (nxCells f.blocks f.blocks.length)]⟩) := by
  have hb := F.blocks
  induction d with
  | zero =>
    intro i m hi hm
    obtain ⟨m, rfl⟩ : ∃ p, m = p + 1 := ⟨m - 1, by omega⟩
    obtain rfl : i = f.blocks.length := by omega
    rw [Tm.Loop_succ]
    simp (implicitDefEqProofs := false) only [k68b0, go_sem, Int.lt_irrefl, decide_false]
  | succ d ih =>
    intro i m hi hm
    obtain ⟨m, rfl⟩ : ∃ p, m = p + 1 := ⟨m - 1, by omega⟩
    replace ih := ih (i + 1) m (by omega) (by omega)
    rw [Tm.Loop_succ]
    generalize Tm.Loop Try.prog vals (callAt Try.prog tab k) n [1, 3, 4, 16, 17] k68b0 m = L at ih ⊢
    have e1 : decide ((i : Int) < f.blocks.length) = true := by simp; omega
    have e2 : 0 ≤ (i : Int) ∧ (i : Int) < f.blocks.length := by omega
    have e3 := wrap_next (n := f.blocks.length) (i := i) (by omega) (by omega)
    have hil : i < (nxCells f.blocks i).length := by simp [nxCells]; omega
    have a1 : ∀ x, storeR [.row 0 x, .row 1 (nxCells f.blocks i)] 1 i 1 (some (.row 1 (nxCells f.blocks i))) [ints (nextOf f.blocks i)] = some [.row 0 x, .row 1 (nxCells f.blocks (i + 1))] := fun x => by
      rw [storeR_row, if_pos ⟨rfl, by simp; omega, rfl⟩, put_cell hil, nx_set _ (by omega)]; rfl
    have hcall := next_call f F i hk
    rw [enc_func] at ih ⊢
    simp (implicitDefEqProofs := false) only [k68b0, go_sem, e1, e2, e3, hcall, Int.toNat_natCast, a1]
    exact ih
theorem over_in {call : CallF} (r w : List Bool) (nn i L : Nat) (hn : nn ≤ 16) (hi : i < nn) (hr : r.length = nn) (hw : w.length = nn) (hL : L ≠ 2) (cells : List C) (hcl : cells.length = nn) (hci : (cells.drop i).head? = some (.os L 0 nn (some nn))) (d : Nat) : ∀ (j m : Nat), j + d = nn → d < m → ∀ (h : Heap) (o : List Bool), h[2]? = some (.row 1 cells) → h[L]? = some (.row 1 (o.map bool)) → o.length = nn →
    ∃ (h' : Heap) (o' : List Bool), Tm.Loop Try.prog vals call n [3, 4, 6, 7, 8, 9, 31, 32, 48, 49] k68b1 m ⟨[(3, int nn), (4, .os 1 0 nn (some nn)), (6, bools r), (7, .os 2 0 nn (some nn)), (8, int i), (9, bools w), (31, int nn), (32, int i), (48, int nn), (49, int j)], h⟩ = some (.exit 4, ⟨[(3, int nn), (4, .os 1 0 nn (some nn)), (6, bools r), (7, .os 2 0 nn (some nn)), (8, int i), (9, bools w), (31, int nn), (32, int i), (48, int nn), (49, int nn), (50, bool false)], h'⟩) ∧
      h'[L]? = some (.row 1 (o'.map bool)) ∧ o'.length = nn ∧ (∀ j', j ≤ j' → j' < nn → o'[j']? = some (r.getD j' false && !(w.getD j' false))) ∧ (∀ j', j' < j → o'[j']? = o[j']?) ∧ (∀ (l : Nat) (nd : Tm.Node), l ≠ L → h[l]? = some nd → h'[l]? = some nd) := by
  induction d with
  | zero =>
    intro j m hj hm h o h2 hl ho
    obtain ⟨m, rfl⟩ : ∃ p, m = p + 1 := ⟨m - 1, by omega⟩
    obtain rfl : j = nn := by omega
    rw [Tm.Loop_succ]
    simp (implicitDefEqProofs := false) only [k68b1, go_sem, Int.lt_irrefl, decide_false]
    exact ⟨h, o, rfl, hl, ho, fun j' a b => by omega, fun _ _ => rfl, fun _ _ _ e => e⟩
  | succ d ih =>
    intro j m hj hm h o h2 hl ho
    obtain ⟨m, rfl⟩ : ∃ p, m = p + 1 := ⟨m - 1, by omega⟩
    replace ih := ih (j + 1) m (by omega) (by omega)
    rw [Tm.Loop_succ]
    generalize Tm.Loop Try.prog vals call n [3, 4, 6, 7, 8, 9, 31, 32, 48, 49] k68b1 m = LL at ih ⊢
    have e1 : decide ((j : Int) < nn) = true := by simp; omega
    have ei : 0 ≤ (i : Int) ∧ (i : Int) < nn := by omega
    have ej : 0 ≤ (j : Int) ∧ (j : Int) < nn := by omega
    have er : 0 ≤ (j : Int) ∧ (j : Int) < (r.length : Int) := by omega
    have ew : 0 ≤ (j : Int) ∧ (j : Int) < (w.length : Int) := by omega
    have e3 := wrap_next (n := nn) (i := j) (by omega) (by omega)
    have hjo : j < o.length := by omega
    have hLl := (List.getElem?_eq_some_iff.1 hl).1
    have a1 : ∀ v : Bool, storeR h L j 1 (some (.row 1 (o.map bool))) [bool v] = some (h.set L (.row 1 ((o.set j v).map bool))) := fun v => by
      rw [storeR_row, if_pos ⟨rfl, by simp; omega, rfl⟩, put_map (f := bool) hjo]
    obtain ⟨h', o', g1, g2, g3, g4, g5, g6⟩ := ih (h.set L (.row 1 ((o.set j (rdOf false r j && !(rdOf false w j))).map bool))) (o.set j (rdOf false r j && !(rdOf false w j))) (by rw [List.getElem?_set_ne hL]; exact h2) (by rw [List.getElem?_set_self hLl]) (by simp [ho])
    refine ⟨h', o', ?_, g2, g3, fun j' q1 q2 => ?_, fun j' q => by rw [g5 j' (by omega), List.getElem?_set_ne (by omega)], fun l nd q e => g6 l nd q (by rw [List.getElem?_set_ne (Ne.symm q)]; exact e)⟩
    · cases c1 : rdOf false r j with
      | true =>
        rw [c1, Bool.true_and] at g1
        simp (decide := true) (implicitDefEqProofs := false) only [k68b1, go_sem, e1, ei, ej, er, ew, e3, Int.toNat_natCast, h2, hci, hl, c1, a1]
        exact g1
      | false =>
        rw [c1, Bool.false_and] at g1
        simp (decide := true) (implicitDefEqProofs := false) only [k68b1, go_sem, e1, ei, ej, er, ew, e3, Int.toNat_natCast, h2, hci, hl, c1, a1]
        exact g1
    · by_cases e : j = j'
      · subst e
        rw [g5 j (by omega), List.getElem?_set_self hjo]
        rfl
      · exact g4 j' (by omega) q2
end
theorem nxCells_full (l : List Block) : nxCells l l.length = (nexts l).map ints := by
  refine List.ext_getElem (by simp [nxCells, nexts]) fun j h1 h2 => ?_
  have hj : j < l.length := by simpa [nxCells] using h1
  simp only [nxCells, nexts, List.getElem_map, List.getElem_range, if_pos hj]
theorem rowOv_none {l : List Block} {a : Int} (h : ¬ Rc (nextOf l) (fun _ => True) 0 a) : rowOv l a = List.replicate l.length false := by
  refine List.ext_getElem (by simp [rowOv]) fun j h1 h2 => ?_
  simp only [rowOv, List.getElem_map, List.getElem_range, List.getElem_replicate, decide_eq_false_iff_not]
  exact fun q => h q.1
structure OB (l : List Block) (h : Heap) (cells : List C) (i : Nat) : Prop where
  nx : h[1]? = some (.row 1 (nxCells l l.length))
  at_ : h[2]? = some (.row 1 cells)
  len : cells.length = l.length
  each : ∀ j, j < i → ∃ lj, cells[j]? = some (.os lj 0 l.length (some l.length)) ∧ h[lj]? = some (.row 1 ((rowOv l j).map bool)) ∧ 2 < lj
theorem OB.put {l : List Block} {h h' : Heap} {cells : List C} {i : Nat} (H : OB l h cells i) (hi : i < l.length) (h1 : h'[1]? = h[1]?) (h2 : h'[2]? = some (.row 1 (cells.set i (.os h.length 0 l.length (some l.length))))) (hL : h'[h.length]? = some (.row 1 ((rowOv l i).map bool))) (hh : ∀ (k : Nat) (nd : Tm.Node), 2 < k → h[k]? = some nd → h'[k]? = some nd) : OB l h' (cells.set i (.os h.length 0 l.length (some l.length))) (i + 1) := by
  have h2l := (List.getElem?_eq_some_iff.1 H.at_).1
  refine ⟨by rw [h1]; exact H.nx, h2, by simp [H.len], fun j hj => ?_⟩
  by_cases e : j = i
  · subst e
    exact ⟨_, List.getElem?_set_self (by rw [H.len]; exact hi), hL, h2l⟩
  · obtain ⟨lj, q1, q2, q3⟩ := H.each j (by omega)
    exact ⟨lj, by rw [List.getElem?_set_ne (Ne.symm e)]; exact q1, hh lj _ q3 q2, q3⟩
theorem over_mid (f : Tm.Func) (F : Fine f) (hpos : 0 < f.blocks.length) {k n : Nat} (hk : 2 ^ 20 + 2 ≤ k) (hn : 30 ≤ n) (d : Nat) : ∀ (i m : Nat), i + d = f.blocks.length → d < m → ∀ (h : Heap) (cells : List C), OB f.blocks h cells i →
    ∃ h' cells', Tm.Loop Try.prog (valsOf tab) (callAt Try.prog tab k) n [3, 4, 6, 7, 31, 32] k68b2 m ⟨[(3, int f.blocks.length), (4, .os 1 0 f.blocks.length (some f.blocks.length)), (6, bools (reachOf f.blocks)), (7, .os 2 0 f.blocks.length (some f.blocks.length)), (31, int f.blocks.length), (32, int i)], h⟩ = some (.exit 2, ⟨[(3, int f.blocks.length), (4, .os 1 0 f.blocks.length (some f.blocks.length)), (6, bools (reachOf f.blocks)), (7, .os 2 0 f.blocks.length (some f.blocks.length)), (31, int f.blocks.length), (32, int f.blocks.length), (33, bool false)], h'⟩) ∧ OB f.blocks h' cells' f.blocks.length := by
  have hb := F.blocks
  induction d with
  | zero =>
    intro i m hi hm h cells H
    obtain ⟨m, rfl⟩ : ∃ p, m = p + 1 := ⟨m - 1, by omega⟩
    obtain rfl : i = f.blocks.length := by omega
    rw [Tm.Loop_succ]
    simp (implicitDefEqProofs := false) only [k68b2, go_sem, Int.lt_irrefl, decide_false]
    exact ⟨h, cells, rfl, H⟩
  | succ d ih =>
    intro i m hi hm h cells H
    obtain ⟨m, rfl⟩ : ∃ p, m = p + 1 := ⟨m - 1, by omega⟩
    replace ih := ih (i + 1) m (by omega) (by omega)
    rw [Tm.Loop_succ]
    generalize Tm.Loop Try.prog (valsOf tab) (callAt Try.prog tab k) n [3, 4, 6, 7, 31, 32] k68b2 m = LL at ih ⊢
    have hil : i < f.blocks.length := by omega
    have e1 : decide ((i : Int) < f.blocks.length) = true := by simp; omega
    have ei : 0 ≤ (i : Int) ∧ (i : Int) < f.blocks.length := by omega
    have er : 0 ≤ (i : Int) ∧ (i : Int) < ((reachOf f.blocks).length : Int) := by rw [reach_len]; exact ei
    have e3 := wrap_next (n := f.blocks.length) (i := i) (by omega) (by omega)
    have eM : 0 ≤ (f.blocks.length : Int) ∧ (f.blocks.length : Int) ≤ (f.blocks.length : Int) ∧ (f.blocks.length : Int) ≤ (maxRow : Nat) := ⟨by omega, by omega, by unfold maxRow; omega⟩
    have e7 := rep_map (f := bool) f.blocks.length false
    have h2l : 2 < h.length := (List.getElem?_eq_some_iff.1 H.at_).1
    have hic : i < cells.length := by rw [H.len]; exact hil
    have hat : (h ++ [Tm.Node.row 1 ((List.replicate f.blocks.length false).map bool)])[2]? = some (.row 1 cells) := by rw [List.getElem?_append_left h2l]; exact H.at_
    obtain ⟨h2, hh2⟩ : ∃ h2, h2 = (h ++ [Tm.Node.row 1 ((List.replicate f.blocks.length false).map bool)]).set 2 (.row 1 (cells.set i (.os h.length 0 f.blocks.length (some f.blocks.length)))) := ⟨_, rfl⟩
    have a1 : storeR (h ++ [Tm.Node.row 1 ((List.replicate f.blocks.length false).map bool)]) 2 i 1 (some (.row 1 cells)) [.os h.length 0 f.blocks.length (some f.blocks.length)] = some h2 := by
      rw [storeR_row, if_pos ⟨rfl, by simp; omega, rfl⟩, put_cell hic, hh2]
    have g1 : h2[1]? = h[1]? := by rw [hh2, List.getElem?_set_ne (by decide), List.getElem?_append_left (by omega)]
    have g2 : h2[2]? = some (.row 1 (cells.set i (.os h.length 0 f.blocks.length (some f.blocks.length)))) := by rw [hh2, List.getElem?_set_self (by simp; omega)]
    have gL : h2[h.length]? = some (.row 1 ((List.replicate f.blocks.length false).map bool)) := by rw [hh2, List.getElem?_set_ne (by omega)]; simp
    have gh : ∀ (k : Nat) (nd : Tm.Node), 2 < k → h[k]? = some nd → h2[k]? = some nd := fun k nd q e => by rw [hh2, List.getElem?_set_ne (by omega), List.getElem?_append_left (List.getElem?_eq_some_iff.1 e).1]; exact e
    cases hr : rdOf false (reachOf f.blocks) i with
    | false =>
      have hno : ¬ Rc (nextOf f.blocks) (fun _ => True) 0 (i : Int) := fun q => by rw [(reach_at ei.1 ei.2).2 q] at hr; cases hr
      obtain ⟨h', cells', q1, q2⟩ := ih h2 _ (H.put hil g1 g2 (by rw [rowOv_none hno]; exact gL) gh)
      refine ⟨h', cells', ?_, q2⟩
      simp (decide := true) (implicitDefEqProofs := false) only [k68b2, go_sem, e1, ei, er, e3, eM, e7, Int.toNat_natCast, hat, a1, hr]
      exact q1
    | true =>
      have hyes := (reach_at ei.1 ei.2).1 hr
      have hview : view false h2 12 (.os 1 0 f.blocks.length (some f.blocks.length)) = some (rows (nexts f.blocks)) := by
        have := view_os (cl := false) (h := h2) (n := 11) (f := ints) (f' := ints) (l := 1) (xs := nexts f.blocks) (cap := some f.blocks.length) (fun x => view_ints x) (by rw [g1, H.nx, nxCells_full])
        rw [show (nexts f.blocks).length = f.blocks.length by simp [nexts]] at this
        rw [this]
        simp [rows, nexts]
      have hcall := without_runs f F i hpos k hk [.os 1 0 f.blocks.length (some f.blocks.length), int i] h2 (by simp only [mapC_cons, mapC_nil, depth, hview, view_int, Option.bind_some])
      obtain ⟨h3, o, p1, p2, p3, p4, _, p6⟩ := over_in (vals := valsOf tab) (n := n) (call := callAt Try.prog tab k) (reachOf f.blocks) (withoutOf f.blocks i) f.blocks.length i h.length hb hil (reach_len _) (by simp [withoutOf]) (by omega) _ (by simp [H.len]) (get_isSome (List.getElem?_set_self hic)) f.blocks.length 0 n (by omega) (by omega) h2 (List.replicate f.blocks.length false) g2 gL (by simp)
      rw [show ((0 : Nat) : Int) = 0 from rfl] at p1
      have ho : o = rowOv f.blocks i := by
        refine bools_ext (by rw [p3, rowOv_len]) fun j j0 j1 => ?_
        have pj := p4 j.toNat (by omega) (by omega)
        rw [Bool.eq_iff_iff, rowOv_at j0 (by omega)]
        have hw := without_at (l := f.blocks) (a := i) (v := j) j0 (by omega)
        have hrj := reach_at (l := f.blocks) (v := j) j0 (by omega)
        unfold rdOf at hw hrj ⊢
        rw [List.getD_eq_getElem?_getD, pj, Option.getD_some, Bool.and_eq_true, Bool.not_eq_true', hrj, ← Bool.not_eq_true, hw]
        exact ⟨fun q => ⟨hyes, q.1, q.2⟩, fun q => ⟨q.2.1, q.2.2⟩⟩
      obtain ⟨h', cells', q1, q2⟩ := ih h3 _ (H.put (h' := h3) hil (by
          have e : h[1]? = some (.row 1 (nxCells f.blocks f.blocks.length)) := H.nx
          rw [p6 1 _ (by omega) (g1.trans e), e]) (p6 2 _ (by omega) g2) (by rw [← ho]; exact p2) (fun k nd q e => p6 k nd (by have := (List.getElem?_eq_some_iff.1 e).1; omega) (gh k nd q e)))
      refine ⟨h', cells', ?_, q2⟩
      simp (decide := true) (implicitDefEqProofs := false) only [k68b2, go_sem, e1, ei, er, e3, eM, e7, Int.toNat_natCast, hat, a1, hr, hcall, p1]
      exact q1
theorem over_runs (f : Tm.Func) (F : Fine f) (hpos : 0 < f.blocks.length) : Runs Try.prog tab (2 ^ 36 + 32) 68 [.agg (encFunc f)] (rowsB (overOf f.blocks)) := by
  have hb := F.blocks
  refine Runs.by (rs := [.tmp 2]) (N := 72) rfl Try.func68 rfl rfl (by simp) fun k hk => ?_
  have eM : 0 ≤ (f.blocks.length : Int) ∧ (f.blocks.length : Int) ≤ (f.blocks.length : Int) ∧ (f.blocks.length : Int) ≤ (maxRow : Nat) := ⟨by omega, by omega, by unfold maxRow; omega⟩
  have g1 := over_nx f F (vals := valsOf tab) (n := k) (k := k) (by omega) f.blocks.length 0 k (by omega) (by omega)
  have hz : nxCells f.blocks 0 = rep f.blocks.length [.v (.slice none 0 0)] := by rw [rep_one]; refine List.ext_getElem (by simp [nxCells]) fun j h1 h2 => ?_; simp [nxCells]
  rw [show ((0 : Nat) : Int) = 0 from rfl, hz] at g1
  have hreach : ∀ h, callAt Try.prog tab k 25 [.agg (encFunc f)] h = some (bools (reachOf f.blocks), h) := fun h => reach_runs f F k (by omega) _ h (by simp only [mapC_cons, mapC_nil, depth, view_func f, Option.bind_some])
  obtain ⟨h', cells', p1, p2⟩ := over_mid f F hpos (k := k) (n := k) (by omega) (by omega) f.blocks.length 0 k (by omega) (by omega) [.row 0 (encFunc f), .row 1 (nxCells f.blocks f.blocks.length), .row 1 (rep f.blocks.length [.v (.slice none 0 0)])] (rep f.blocks.length [.v (.slice none 0 0)]) ⟨rfl, rfl, by rw [rep_one]; simp, fun j hj => by omega⟩
  rw [show ((0 : Nat) : Int) = 0 from rfl] at p1
  rw [enc_func] at *
  simp (decide := true) (implicitDefEqProofs := false) only [k68, go_sem, eM, Int.toNat_natCast, g1, hreach, p1]
  refine ⟨_, _, rfl, ?_⟩
  rw [show depth = 11 + 1 from rfl, view_os_eq, if_neg (by omega), p2.at_]
  simp only [viewRow, List.drop_zero, takeN, Nat.mul_one]
  rw [if_pos (by rw [p2.len]; exact Nat.le_refl _), List.take_of_length_le (by rw [p2.len]; exact Nat.le_refl _)]
  have hm : mapC (view true h' 11) cells' = some ((overOf f.blocks).map bools) := by
    have e : cells' = (List.range f.blocks.length).map fun j => cells'.getD j default := by
      refine List.ext_getElem (by simp [p2.len]) fun j h1 h2 => ?_
      simp [List.getD_eq_getElem?_getD, List.getElem?_eq_getElem h1]
    have hall : ∀ (js : List Nat), (∀ j ∈ js, j < f.blocks.length) → mapC (view true h' 11) (js.map fun j => cells'.getD j default) = some (js.map fun (j : Nat) => bools (rowOv f.blocks j)) := by
      intro js
      induction js with
      | nil => intro _; rfl
      | cons j js ih =>
        intro hj
        obtain ⟨lj, q1, q2, q3⟩ := p2.each j (hj j (by simp))
        have hv := view_os_bools (cl := true) (n := 9) (cap := some f.blocks.length) q2
        rw [rowOv_len] at hv
        simp only [List.map_cons, mapC, List.getD_eq_getElem?_getD, q1, Option.getD_some, hv, Option.bind_eq_bind, Option.bind_some]
        have := ih fun j h => hj j (by simp [h])
        simp only [List.getD_eq_getElem?_getD] at this
        rw [this]; rfl
    rw [e, hall _ (fun j hj => List.mem_range.1 hj)]
    simp [overOf]
  simp only [hm, Option.bind_some]
  rw [rowsB, over_len]
end Go.Proofs.Ytkcimaibaicdcaa.Tk
