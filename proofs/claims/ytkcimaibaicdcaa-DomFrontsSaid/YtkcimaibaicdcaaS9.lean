import Derived.Test.YtkcimaibaicdcaaS8
set_option linter.unusedSimpArgs false
namespace Go.Proofs.Ytkcimaibaicdcaa.Tk
open Go.Tm Go.Tm.Tab
set_option maxRecDepth 100000
section
variable {N : Int → List Int} {P : Int → Prop} {u v a b : Int}
theorem rc_via (b : Int) (h : Rc N P u v) : Rc N (· ≠ b) u v ∨ Rc N P u b := by
  induction h with
  | refl hp =>
    by_cases e : u = b
    · subst e; exact .inr (.refl hp)
    · exact .inl (.refl e)
  | @step y w h1 h2 h3 ih =>
    rcases ih with ih | ih
    · by_cases e : w = b
      · subst e; exact .inr (.step h1 h2 h3)
      · exact .inl (.step ih h2 e)
    · exact .inr ih
/-- The last one of a and b on a way, or neither. -/
theorem rc_last_of (hab : a ≠ b) (h : Rc N (fun _ => True) u v) : Rc N (fun x => x ≠ a ∧ x ≠ b) u v ∨ Rc N (· ≠ a) b v ∨ Rc N (· ≠ b) a v := by
  induction h with
  | refl _ =>
    by_cases e : u = a
    · subst e; exact .inr (.inr (.refl hab))
    · by_cases e2 : u = b
      · subst e2; exact .inr (.inl (.refl e))
      · exact .inl (.refl ⟨e, e2⟩)
  | @step y w h1 h2 h3 ih =>
    by_cases e : w = a
    · subst e; exact .inr (.inr (.refl hab))
    · by_cases e2 : w = b
      · subst e2; exact .inr (.inl (.refl e))
      · rcases ih with ih | ih | ih
        · exact .inl (.step ih h2 ⟨e, e2⟩)
        · exact .inr (.inl (.step ih h2 e))
        · exact .inr (.inr (.step ih h2 e2))
/-- The first one of a and b on a way, or neither. -/
theorem rc_first_of (hab : a ≠ b) (h : Rc N (fun _ => True) u v) : Rc N (fun x => x ≠ a ∧ x ≠ b) u v ∨ Rc N (· ≠ b) u a ∨ Rc N (· ≠ a) u b := by
  induction h with
  | refl _ =>
    by_cases e : u = a
    · subst e; exact .inr (.inl (.refl hab))
    · by_cases e2 : u = b
      · subst e2; exact .inr (.inr (.refl e))
      · exact .inl (.refl ⟨e, e2⟩)
  | @step y w h1 h2 h3 ih =>
    rcases ih with ih | ih | ih
    · by_cases e : w = a
      · subst e; exact .inr (.inl (.step (ih.mono fun _ q => q.2) h2 hab))
      · by_cases e2 : w = b
        · subst e2; exact .inr (.inr (.step (ih.mono fun _ q => q.1) h2 e))
        · exact .inl (.step ih h2 ⟨e, e2⟩)
    · exact .inr (.inl ih)
    · exact .inr (.inr ih)
end
section
variable {l : List Block} {a b c : Int}
theorem Ov.self (h : Rc (nextOf l) (fun _ => True) 0 a) : Ov l a a := ⟨h, h, fun q => q.right rfl⟩
theorem Ov.trans (h : Ov l a b) (k : Ov l b c) : Ov l a c := ⟨h.1, k.2.1, fun q => by
  rcases rc_via b q with r | r
  · exact k.2.2 r
  · exact h.2.2 r⟩
theorem Ov.either (h : Ov l a c) (k : Ov l b c) : Ov l a b ∨ Ov l b a := by
  by_cases hab : a = b
  · subst hab; exact .inl (Ov.self h.1)
  refine Classical.byContradiction fun hn => ?_
  rw [not_or] at hn
  have h1 : Rc (nextOf l) (· ≠ a) 0 b := Classical.byContradiction fun q => hn.1 ⟨h.1, k.1, q⟩
  have h2 : Rc (nextOf l) (· ≠ b) 0 a := Classical.byContradiction fun q => hn.2 ⟨k.1, h.1, q⟩
  rcases rc_last_of hab h.2.1 with q | q | q
  · exact h.2.2 (q.mono fun _ q => q.1)
  · exact h.2.2 (h1.trans q)
  · exact k.2.2 (h2.trans q)
theorem Ov.anti (hab : a ≠ b) (h : Ov l a b) (k : Ov l b a) : False := by
  rcases rc_first_of hab h.1 with q | q | q
  · exact (q.right).1 rfl
  · exact k.2.2 q
  · exact h.2.2 q
theorem Ov.root (h : Rc (nextOf l) (fun _ => True) 0 b) : Ov l 0 b := ⟨.refl trivial, h, fun q => q.left rfl⟩
end
theorem rc_range {l : List Block} {v : Int} (hl : 0 < l.length) (h : Rc (nextOf l) (fun _ => True) 0 v) : 0 ≤ v ∧ v < (l.length : Int) := by
  cases h with
  | refl _ => omega
  | step _ h2 _ => exact next_in h2
/-! ### dom.Dom -/
open Classical in
noncomputable def domB (l : List Block) (a b : Int) : Bool := decide ((0 ≤ a ∧ a < (l.length : Int)) ∧ (0 ≤ b ∧ b < (l.length : Int)) ∧ Ov l a b)
open Classical in
theorem domB_iff {l : List Block} {a b : Int} : domB l a b = true ↔ (0 ≤ a ∧ a < (l.length : Int)) ∧ (0 ≤ b ∧ b < (l.length : Int)) ∧ Ov l a b := by unfold domB; rw [decide_eq_true_eq]
theorem domB_false {l : List Block} {a b : Int} (h : ¬ ((0 ≤ a ∧ a < (l.length : Int)) ∧ (0 ≤ b ∧ b < (l.length : Int)))) : domB l a b = false := by
  rw [← Bool.not_eq_true, domB_iff]; exact fun q => h ⟨q.1, q.2.1⟩
theorem dom_runs (f : Tm.Func) (F : Fine f) (a b : Int) : Runs Try.prog tab (2 ^ 36 + 40) 33 [.agg (encFunc f), int a, int b] (bool (domB f.blocks a b)) := by
  have hn := F.blocks
  refine Runs.by (rs := [.tmp 6]) (N := 35) rfl Try.func33 rfl rfl (by simp) fun k hk => ?_
  by_cases c1 : a < 0
  · have e : domB f.blocks a b = false := domB_false (by omega)
    rw [enc_func, e]
    simp (implicitDefEqProofs := false) only [k33, go_sem, decide_eq_true c1]
    exact ⟨_, _, rfl, rfl⟩
  by_cases c2 : a ≥ (f.blocks.length : Int)
  · have e : domB f.blocks a b = false := domB_false (by omega)
    rw [enc_func, e]
    simp (implicitDefEqProofs := false) only [k33, go_sem, decide_eq_false c1, decide_eq_true c2]
    exact ⟨_, _, rfl, rfl⟩
  by_cases c3 : b < 0
  · have e : domB f.blocks a b = false := domB_false (by omega)
    rw [enc_func, e]
    simp (implicitDefEqProofs := false) only [k33, go_sem, decide_eq_false c1, decide_eq_false c2, decide_eq_true c3]
    exact ⟨_, _, rfl, rfl⟩
  by_cases c4 : b ≥ (f.blocks.length : Int)
  · have e : domB f.blocks a b = false := domB_false (by omega)
    rw [enc_func, e]
    simp (implicitDefEqProofs := false) only [k33, go_sem, decide_eq_false c1, decide_eq_false c2, decide_eq_false c3, decide_eq_true c4]
    exact ⟨_, _, rfl, rfl⟩
  have hpos : 0 < f.blocks.length := by omega
  have hover : ∀ h, callAt Try.prog tab k 68 [.agg (encFunc f)] h = some (rowsB (overOf f.blocks), h) := fun h => over_runs f F hpos k (by omega) _ h (by simp only [mapC_cons, mapC_nil, depth, view_func f, Option.bind_some])
  have ea : 0 ≤ a ∧ a < ((overOf f.blocks).length : Int) := by rw [over_len]; omega
  have eb : 0 ≤ b ∧ b < ((rowOv f.blocks a).length : Int) := by rw [rowOv_len]; omega
  have hrow := over_at (l := f.blocks) (a := a) (by omega) (by omega)
  have e : rdOf false (rowOv f.blocks a) b = domB f.blocks a b := by
    rw [Bool.eq_iff_iff, rowOv_at (by omega) (by omega), domB_iff]
    exact ⟨fun q => ⟨by omega, by omega, q⟩, fun q => q.2.2⟩
  rw [enc_func] at *
  simp (implicitDefEqProofs := false) only [k33, go_sem, decide_eq_false c1, decide_eq_false c2, decide_eq_false c3, decide_eq_false c4, hover, ea, hrow, eb, e]
  exact ⟨_, _, rfl, rfl⟩
end Go.Proofs.Ytkcimaibaicdcaa.Tk
