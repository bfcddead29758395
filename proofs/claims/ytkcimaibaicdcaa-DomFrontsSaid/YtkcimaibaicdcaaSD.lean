import Derived.Test.YtkcimaibaicdcaaSC
import Derived.Test.YtkcimaibaicdcaaTV
set_option linter.unusedSimpArgs false
namespace Go.Proofs.Ytkcimaibaicdcaa.Tk
open Go.Tm Go.Tm.Tab
set_option maxRecDepth 100000
/-- Block b is in front of block a. -/
noncomputable def fr (l : List Block) (a b : Int) : Bool := !(!decide (a = b) && rdOf false (rowOv l a) b) && ((rowOfL (prevOf l) b).any fun p => rdOf false (rowOv l a) p)
noncomputable def frFrom (l : List Block) (a : Nat) : Nat → Nat → List (List Int) → List (List Int)
  | 0, _, acc => acc
  | d + 1, i, acc => frFrom l a d (i + 1) (if fr l a i = true then push i acc a else acc)
theorem front_in (f : Tm.Func) (F : Fine f) (a : Nat) (ha : a < f.blocks.length) (q : Nat) (hq2 : 2 < q) {k n : Nat} (hk : 2 ^ 20 + 2 ≤ k) (d : Nat) : ∀ (i m : Nat), i + d = f.blocks.length → d < m → ∀ (h : Heap) (cells : List C) (acc : List (List Int)), h[1]? = some (.row 0 [rowsB (overOf f.blocks)]) → h[q]? = some (.row 0 [int a]) → Tm.Rows h 2 cells acc → acc.length = f.blocks.length → (∀ (j : Nat), cells[j]?.bind locC ≠ some q) → (acc.getD a []).length ≤ i →
    ∃ h' cells', Tm.Loop Try.prog (valsOf tab) (callAt Try.prog tab k) n [3, 4, 5, 6, 17, 18, 22, 23] k34b0 m ⟨[(3, .op 1 0), (4, rows (prevOf f.blocks)), (5, .os 2 0 f.blocks.length (some f.blocks.length)), (6, .op q 0), (17, int f.blocks.length), (18, int a), (22, int f.blocks.length), (23, int i)], h⟩ = some (.exit 2, ⟨[(3, .op 1 0), (4, rows (prevOf f.blocks)), (5, .os 2 0 f.blocks.length (some f.blocks.length)), (6, .op q 0), (17, int f.blocks.length), (18, int a), (22, int f.blocks.length), (23, int f.blocks.length), (24, bool false)], h'⟩) ∧
      h'[1]? = some (.row 0 [rowsB (overOf f.blocks)]) ∧ Tm.Rows h' 2 cells' (frFrom f.blocks a d i acc) ∧ (frFrom f.blocks a d i acc).length = f.blocks.length := by
  have hb := F.blocks
  induction d with
  | zero =>
    intro i m hi hm h cells acc h1 hq hR hL _ _
    obtain ⟨m, rfl⟩ : ∃ p, m = p + 1 := ⟨m - 1, by omega⟩
    obtain rfl : i = f.blocks.length := by omega
    rw [Tm.Loop_succ]
    simp (implicitDefEqProofs := false) only [k34b0, go_sem, Int.lt_irrefl, decide_false]
    exact ⟨h, cells, rfl, h1, hR, hL⟩
  | succ d ih =>
    intro i m hi hm h cells acc h1 hq hR hL hno hM
    obtain ⟨m, rfl⟩ : ∃ p, m = p + 1 := ⟨m - 1, by omega⟩
    replace ih := ih (i + 1) m (by omega) (by omega)
    rw [Tm.Loop_succ, frFrom]
    generalize Tm.Loop Try.prog (valsOf tab) (callAt Try.prog tab k) n [3, 4, 5, 6, 17, 18, 22, 23] k34b0 m = L at ih ⊢
    have e1 : decide ((i : Int) < f.blocks.length) = true := by simp; omega
    have e3 := wrap_next (n := f.blocks.length) (i := i) (by omega) (by omega)
    have ean : 0 ≤ (a : Int) ∧ (a : Int) < (f.blocks.length : Int) := by omega
    have ea : 0 ≤ (a : Int) ∧ (a : Int) < ((overOf f.blocks).length : Int) := by rw [over_len]; exact ean
    have hra := over_at (l := f.blocks) (a := a) ean.1 ean.2
    have ei : 0 ≤ (i : Int) ∧ (i : Int) < ((rowOv f.blocks a).length : Int) := by rw [rowOv_len]; omega
    have eip : 0 ≤ (i : Int) ∧ (i : Int) < ((prevOf f.blocks).length : Int) := by rw [prev_len]; omega
    have hrow := prev_row F i
    have hview : mapC (view false h depth) [ints (rowOfL (prevOf f.blocks) i), .fn 70 [.op 1 0, .op q 0]] = some [ints (rowOfL (prevOf f.blocks) i), .fn 70 [.fp [rowsB (overOf f.blocks)], .fp [int a]]] := by
      simp only [mapC_cons, mapC_nil, depth, view_ints, view_fn, view_op, h1, hq, viewP, List.drop_zero, view_rowsB, view_int, Option.bind_some, Option.map_some]
    have hcall := containsF_runs f.blocks a ean (rowOfL (prevOf f.blocks) i) (by omega) (fun p hp => by obtain ⟨u, v, _⟩ := (prev_mem (by omega)).1 hp; exact ⟨u, v⟩) k hk _ h hview
    cases hc1 : (!decide ((a : Int) = i) && rdOf false (rowOv f.blocks a) i) with
    | true =>
      have hf : fr f.blocks a i = false := by unfold fr; rw [hc1]; rfl
      rw [hf, if_neg (by decide)]
      rw [Bool.and_eq_true, Bool.not_eq_true'] at hc1
      obtain ⟨h', cells', q1, q2⟩ := ih h cells acc h1 hq hR hL hno (by omega)
      refine ⟨h', cells', ?_, q2⟩
      simp (decide := true) (implicitDefEqProofs := false) only [k34b0, go_sem, e1, e3, h1, hq, hc1.1, hc1.2, ea, hra, ei]
      exact q1
    | false =>
      have hf : fr f.blocks a i = ((rowOfL (prevOf f.blocks) i).any fun p => rdOf false (rowOv f.blocks a) p) := by unfold fr; rw [hc1]; rfl
      rw [hf]
      have cond : (decide ((a : Int) = i) = true) ∨ (decide ((a : Int) = i) = false ∧ rdOf false (rowOv f.blocks a) i = false) := by
        cases hd : decide ((a : Int) = i) with
        | true => exact .inl rfl
        | false => rw [hd] at hc1; exact .inr ⟨rfl, by simpa using hc1⟩
      cases hany : ((rowOfL (prevOf f.blocks) i).any fun p => rdOf false (rowOv f.blocks a) p) with
      | false =>
        rw [hany] at hcall
        rw [if_neg (by decide)]
        obtain ⟨h', cells', q1, q2⟩ := ih h cells acc h1 hq hR hL hno (by omega)
        refine ⟨h', cells', ?_, q2⟩
        rcases cond with c1 | ⟨c1, c2⟩
        · simp (decide := true) (implicitDefEqProofs := false) only [k34b0, go_sem, op_makeFunc, e1, e3, h1, hq, c1, eip, hcall]
          exact q1
        · simp (decide := true) (implicitDefEqProofs := false) only [k34b0, go_sem, op_makeFunc, e1, e3, h1, hq, c1, c2, ea, hra, ei, eip, hcall]
          exact q1
      | true =>
        rw [hany] at hcall
        rw [if_pos rfl]
        have haL : a < acc.length := by omega
        have hpush : push i acc a = acc.set a (acc.getD a [] ++ [(i : Int)]) := by unfold push; rw [Int.toNat_natCast]
        rw [hpush]
        obtain ⟨c, c', h', g1, g2, g3, g4, g5, g6, g7, g8, g9⟩ := hR.append' (j := a) haL i (by unfold maxRow; omega)
        have g1' := get_isSome g1
        have hat := hR.at_
        have g3' : storeR h' 2 a 1 (some (.row 1 cells)) [c'] = some (h'.set 2 (.row 1 (cells.set a c'))) := by
          rw [storeR_row, if_pos ⟨rfl, by simp; omega, by simp [g5]⟩, put_cell g6]
        have hql := (List.getElem?_eq_some_iff.1 hq).1
        have nloc1 : ∀ (j : Nat), cells[j]?.bind locC ≠ some 1 := fun j e => by have := hR.far j 1 e; omega
        obtain ⟨h2, cells2, q1, q2⟩ := ih _ _ (acc.set a (acc.getD a [] ++ [(i : Int)])) (g8 1 _ (by omega) nloc1 h1) (g8 q _ (by omega) hno hq) g7 (by simp [hL]) (g9 q hql hno) (by
          rw [List.getD_eq_getElem?_getD, List.getElem?_set_self haL]
          simp only [Option.getD_some, List.length_append, List.length_cons, List.length_nil]; omega)
        refine ⟨h2, cells2, ?_, q2⟩
        rcases hR.each _ _ g1 with ⟨_, rfl⟩ | ⟨lc, rfl, _⟩
        · rcases cond with c1 | ⟨c1, c2⟩
          · simp (decide := true) (implicitDefEqProofs := false) only [k34b0, go_sem, op_makeFunc, e1, e3, h1, hq, c1, eip, hcall, ean, Int.toNat_natCast, hat, g1', g2, g3, g3', g4]
            exact q1
          · simp (decide := true) (implicitDefEqProofs := false) only [k34b0, go_sem, op_makeFunc, e1, e3, h1, hq, c1, c2, ea, hra, ei, eip, hcall, ean, Int.toNat_natCast, hat, g1', g2, g3, g3', g4]
            exact q1
        · have hlq : Nat.beq lc q = false := by
            cases e : Nat.beq lc q with
            | false => rfl
            | true => exact absurd (by rw [g1, Nat.eq_of_beq_eq_true e]; rfl) (hno a)
          rcases cond with c1 | ⟨c1, c2⟩
          · simp (decide := true) (implicitDefEqProofs := false) only [k34b0, go_sem, op_makeFunc, e1, e3, h1, hq, c1, eip, hcall, ean, Int.toNat_natCast, hat, g1', g2, g3, g3', g4, hlq]
            exact q1
          · simp (decide := true) (implicitDefEqProofs := false) only [k34b0, go_sem, op_makeFunc, e1, e3, h1, hq, c1, c2, ea, hra, ei, eip, hcall, ean, Int.toNat_natCast, hat, g1', g2, g3, g3', g4, hlq]
            exact q1
end Go.Proofs.Ytkcimaibaicdcaa.Tk
