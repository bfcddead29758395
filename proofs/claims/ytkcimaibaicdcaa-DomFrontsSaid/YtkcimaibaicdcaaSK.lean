import Derived.Test.YtkcimaibaicdcaaSJ
import Derived.Test.YtkcimaibaicdcaaSE
set_option linter.unusedSimpArgs false
namespace Go.Proofs.Ytkcimaibaicdcaa.Tk
open Go.Tm Go.Tm.Tab
set_option maxRecDepth 100000
theorem rc_any {l : List Block} {v : Int} : Rc (nextOf l) (· ≠ -1) 0 v ↔ Rc (nextOf l) (fun _ => True) 0 v := by
  constructor
  · intro h
    induction h with
    | refl _ => exact .refl trivial
    | step _ hw _ ih => exact .step ih hw trivial
  · intro h
    generalize e : (0 : Int) = z at h
    induction h with
    | refl _ => subst e; exact .refl (by decide)
    | step _ hw _ ih => exact .step ih hw (by have := (next_in hw).1; omega)
theorem reach_from (l : List Block) : fromOf l (-1) = reachOf l := by
  unfold fromOf reachOf
  refine List.map_congr_left fun v _ => ?_
  rw [decide_eq_decide]
  exact rc_any
/-- plnref3.Reach. -/
theorem rreach_runs (f : Tm.Func) (F : Fine f) (hpos : 0 < f.blocks.length) : RunsF Try.prog tab (2 ^ 36 + 3) 26 [.agg (encFunc f)] (bools (reachOf f.blocks)) := by
  refine RunsF.by (rs := [.tmp 2]) (N := 5) rfl Try.func26 rfl rfl (by simp) (by simp only [mapC_cons, mapC_nil, depth, view_func f, Option.bind_some]) fun k hk => ?_
  have hc : ∀ h, callAt Try.prog tab k 65 [.agg (encFunc f), int 0, int (-1)] h = some (bools (reachOf f.blocks), h) := fun h => by
    have := from_runs f F hpos (-1) k (by omega) [.agg (encFunc f), int 0, int (-1)] h (by simp only [mapC_cons, mapC_nil, depth, view_func f, view_int, Option.bind_some])
    rw [reach_from] at this
    exact this
  rw [enc_func] at *
  simp (decide := true) (implicitDefEqProofs := false) only [k26, go_sem, hc]
  exact ⟨_, _, rfl, by simp [depth, go_sem]⟩
/-- The blocks in front of block a, from i on. -/
noncomputable def frL (l : List Block) (a : Nat) (i d : Nat) : List Int := ((List.range' i d).filter fun (b : Nat) => fr l a b).map fun (b : Nat) => (b : Int)
theorem frFrom_row {l : List Block} {a : Nat} : ∀ (d i : Nat) (acc : List (List Int)), a < acc.length → (frFrom l a d i acc).getD a [] = acc.getD a [] ++ frL l a i d
  | 0, i, acc, _ => by simp [frFrom, frL]
  | d + 1, i, acc, h => by
    rw [frFrom]
    by_cases c : fr l a i = true
    · rw [if_pos c, frFrom_row d (i + 1) _ (by rw [push_len]; exact h)]
      have e : (push (i : Int) acc (a : Int)).getD a [] = acc.getD a [] ++ [(i : Int)] := by
        unfold push
        rw [Int.toNat_natCast, List.getD_eq_getElem?_getD, List.getElem?_set_self h]; rfl
      rw [e, List.append_assoc]
      congr 1
      unfold frL
      rw [List.range'_succ, List.filter_cons, if_pos c]
      rfl
    · rw [if_neg c, frFrom_row d (i + 1) acc h]
      congr 1
      unfold frL
      rw [List.range'_succ, List.filter_cons, if_neg c]
theorem frFrom_len {l : List Block} {a : Nat} : ∀ (d i : Nat) (acc : List (List Int)), (frFrom l a d i acc).length = acc.length
  | 0, i, acc => rfl
  | d + 1, i, acc => by
    rw [frFrom, frFrom_len d (i + 1)]
    split
    · rw [push_len]
    · rfl
theorem frontsFrom_row {l : List Block} {a : Nat} : ∀ (d i : Nat) (acc : List (List Int)), a < acc.length → (frontsFrom l d i acc).getD a [] = if i ≤ a ∧ a < i + d then acc.getD a [] ++ frL l a 0 l.length else acc.getD a []
  | 0, i, acc, h => by rw [if_neg (by omega)]; rfl
  | d + 1, i, acc, h => by
    rw [frontsFrom, frontsFrom_row d (i + 1) _ (by rw [frFrom_len]; exact h)]
    by_cases e : a = i
    · subst e
      rw [if_neg (by omega), if_pos (by omega), frFrom_row _ _ _ h]
    · rw [frFrom_other _ _ _ _ e]
      by_cases c : i + 1 ≤ a ∧ a < i + 1 + d
      · rw [if_pos c, if_pos (by omega)]
      · rw [if_neg c, if_neg (by omega)]
theorem fronts_row {l : List Block} {a : Int} (a0 : 0 ≤ a) (a1 : a < (l.length : Int)) : rowOfL (frontsOf l) a = frL l a.toNat 0 l.length := by
  unfold rowOfL frontsOf
  rw [frontsFrom_row _ _ _ (by simp; omega), if_pos (by omega)]
  rw [List.getD_eq_getElem?_getD, List.getElem?_replicate, if_pos (by omega)]
  rfl
theorem fronts_len (l : List Block) : (frontsOf l).length = l.length := by
  unfold frontsOf
  have : ∀ (d i : Nat) (acc : List (List Int)), (frontsFrom l d i acc).length = acc.length := by
    intro d
    induction d with
    | zero => intro i acc; rfl
    | succ d ih => intro i acc; rw [frontsFrom, ih, frFrom_len]
  rw [this, List.length_replicate]
theorem frL_mem {l : List Block} {a i d : Nat} {b : Int} : b ∈ frL l a i d ↔ ∃ j : Nat, i ≤ j ∧ j < i + d ∧ fr l a j = true ∧ (j : Int) = b := by
  unfold frL
  rw [List.mem_map]
  constructor
  · rintro ⟨j, hj, rfl⟩
    rw [List.mem_filter, List.mem_range'_1] at hj
    exact ⟨j, hj.1.1, hj.1.2, hj.2, rfl⟩
  · rintro ⟨j, h1, h2, h3, rfl⟩
    exact ⟨j, List.mem_filter.2 ⟨List.mem_range'_1.2 ⟨h1, h2⟩, h3⟩, rfl⟩
theorem fronts_mem {l : List Block} {a b : Int} (a0 : 0 ≤ a) (a1 : a < (l.length : Int)) (b0 : 0 ≤ b) (b1 : b < (l.length : Int)) : b ∈ rowOfL (frontsOf l) a ↔ fr l a b = true := by
  rw [fronts_row a0 a1, frL_mem]
  rw [show ((a.toNat : Nat) : Int) = a by omega]
  constructor
  · rintro ⟨j, _, _, h, rfl⟩; exact h
  · intro h; exact ⟨b.toNat, by omega, by omega, by rw [show ((b.toNat : Nat) : Int) = b by omega]; exact h, by omega⟩
theorem frL_asc {l : List Block} {a : Nat} : ∀ (d i : Nat), (frL l a i d).Pairwise (· < ·)
  | 0, i => by simp [frL]
  | d + 1, i => by
    have ih := frL_asc (l := l) (a := a) d (i + 1)
    have e : frL l a i (d + 1) = if fr l a i = true then (i : Int) :: frL l a (i + 1) d else frL l a (i + 1) d := by
      unfold frL
      rw [List.range'_succ, List.filter_cons]
      split <;> rfl
    rw [e]
    split
    · refine List.pairwise_cons.2 ⟨fun b hb => ?_, ih⟩
      obtain ⟨j, h1, _, _, rfl⟩ := frL_mem.1 hb
      omega
    · exact ih
theorem asc_rd {x : List Int} (h : x.Pairwise (· < ·)) {i : Nat} (h1 : 1 ≤ i) (h2 : i < x.length) : rd x ((i : Int) - 1) < rd x i := by
  have := List.pairwise_iff_getElem.1 h (i - 1) i (by omega) h2 (by omega)
  unfold rd
  rw [show ((i : Int) - 1).toNat = i - 1 by omega, Int.toNat_natCast, List.getD_eq_getElem?_getD, List.getD_eq_getElem?_getD, List.getElem?_eq_getElem (by omega), List.getElem?_eq_getElem h2]
  exact this
end Go.Proofs.Ytkcimaibaicdcaa.Tk
