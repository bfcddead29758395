/- A part of the proof of the law of DomWays: lemmas and walks, out of this session's texts, with what the claim does not use struck out. -/
import Derived.Test.YtkcimaibaicdcaaD1
import Derived.Test.YtkcimaibaicdcaaD6
import Derived.Test.YtkcimaibaicdcaaD7
import Derived.Test.YtkcimaibaicdcaaD9
import Derived.Test.YtkcimaibaicdcaaD10
import Derived.Test.YtkcimaibaicdcaaD12
import Derived.Test.YtkcimaibaicdcaaD15
import Derived.Test.YtkcimaibaicdcaaD19
section
namespace Go.Proofs.Ytkcimaibaicdcaa.Gr
open Go.RowKit Go.Proofs.YtkcimaibaicdcaaW.PrintWords
theorem wrap_in {i : Int} (h0 : -9223372036854775808 ≤ i) (h1 : i ≤ 9223372036854775807) : wrap64 i = i := by unfold wrap64; omega
theorem rd_eq {xs : List Int} {i : Int} (h0 : 0 ≤ i) (h1 : i < (xs.length : Int)) : xs[i.toNat]? = some (rd xs i) := by
  have : i.toNat < xs.length := by omega
  simp [rd, List.getD_eq_getElem?_getD, List.getElem?_eq_getElem this]
theorem rd_mem {xs : List Int} {i : Int} (h0 : 0 ≤ i) (h1 : i < (xs.length : Int)) : rd xs i ∈ xs := List.mem_of_getElem? (rd_eq h0 h1)
theorem mem_rd {xs : List Int} {v : Int} (h : v ∈ xs) : ∃ i : Int, 0 ≤ i ∧ i < (xs.length : Int) ∧ rd xs i = v := by
  obtain ⟨i, hi, rfl⟩ := List.mem_iff_getElem.1 h
  refine ⟨(i : Int), by omega, by omega, ?_⟩
  have := rd_eq (xs := xs) (i := (i : Int)) (by omega) (by omega)
  simp [List.getElem?_eq_getElem hi] at this
  exact this.symm
theorem rd_set {xs : List Int} {i j x : Int} (h0 : 0 ≤ i) (h1 : i < (xs.length : Int)) (hj : 0 ≤ j) : rd (xs.set i.toNat x) j = if i = j then x else rd xs j := by
  unfold rd
  rw [List.getD_eq_getElem?_getD, List.getD_eq_getElem?_getD, List.getElem?_set]
  by_cases e : i = j
  · subst e
    have : i.toNat < xs.length := by omega
    simp [this]
  · have : ¬ i.toNat = j.toNat := by omega
    simp [e, this]
theorem rdb_set {xs : List Bool} {i j : Int} {x : Bool} (h0 : 0 ≤ i) (h1 : i < (xs.length : Int)) (hj : 0 ≤ j) : rdOf false (xs.set i.toNat x) j = if i = j then x else rdOf false xs j := by
  unfold rdOf
  rw [List.getD_eq_getElem?_getD, List.getD_eq_getElem?_getD, List.getElem?_set]
  by_cases e : i = j
  · subst e
    have : i.toNat < xs.length := by omega
    simp [this]
  · have : ¬ i.toNat = j.toNat := by omega
    simp [e, this]
theorem rd_replicate {n : Nat} {x j : Int} (h0 : 0 ≤ j) (h1 : j < (n : Int)) : rd (List.replicate n x) j = x := by
  have : j.toNat < n := by omega
  simp [rd, List.getD_eq_getElem?_getD, this]
theorem rdb_replicate {n : Nat} {j : Int} : rdOf false (List.replicate n false) j = false := by
  simp only [rdOf, List.getD_eq_getElem?_getD, List.getElem?_replicate]
  split <;> rfl
theorem idxOf_snoc_mem {l : List Int} {v b : Int} (h : v ∈ l) : (l ++ [b]).idxOf v = l.idxOf v := by rw [List.idxOf_append]; simp [h]
theorem idxOf_snoc_new {l : List Int} {b : Int} (h : b ∉ l) : (l ++ [b]).idxOf b = l.length := by rw [List.idxOf_append]; simp [h]
inductive Rc (N : Int → List Int) (P : Int → Prop) : Int → Int → Prop
  | refl {u : Int} : P u → Rc N P u u
  | step {u v w : Int} : Rc N P u v → w ∈ N v → P w → Rc N P u w
section
variable {N : Int → List Int} {P : Int → Prop} {u v w : Int}
theorem Rc.left (h : Rc N P u v) : P u := by induction h with | refl h => exact h | step _ _ _ ih => exact ih
theorem Rc.right (h : Rc N P u v) : P v := by cases h with | refl h => exact h | step _ _ h => exact h
theorem Rc.trans (h : Rc N P u v) (k : Rc N P v w) : Rc N P u w := by
  induction k with
  | refl _ => exact h
  | step _ h1 h2 ih => exact .step ih h1 h2
theorem Rc.cons (hu : P u) (hv : v ∈ N u) (k : Rc N P v w) : Rc N P u w := Rc.trans (.step (.refl hu) hv k.left) k
theorem Rc.mono {P' : Int → Prop} (h : Rc N P u v) (hP : ∀ x, P x → P' x) : Rc N P' u v := by
  induction h with
  | refl h => exact .refl (hP _ h)
  | step _ h1 h2 ih => exact .step ih h1 (hP _ h2)
theorem Rc.closed (h : Rc N P u v) {S : Int → Prop} (hu : S u) (hS : ∀ x, S x → ∀ y ∈ N x, P y → S y) : S v := by
  induction h with
  | refl _ => exact hu
  | step _ h1 h2 ih => exact hS _ ih _ h1 h2
end
structure Dfs (N : Int → List Int) (n : Nat) (root : Int) (ls lo : List Int) (lp : Bool) : Prop where
  len : ls.length = n
  three : ∀ v : Int, 0 ≤ v → v < n → rd ls v = 0 ∨ rd ls v = 1 ∨ rd ls v = 2
  nodup : lo.Nodup
  size : lo.length = ls.count 2
  mem : ∀ v, v ∈ lo ↔ 0 ≤ v ∧ v < n ∧ rd ls v = 2
  shut : ∀ v ∈ lo, ∀ w ∈ N v, rd ls w ≠ 0
  fore : lp = false → ∀ v ∈ lo, ∀ w ∈ N v, w ∈ lo ∧ lo.idxOf w < lo.idxOf v
  tree : ∀ v ∈ lo, v = root ∨ ∃ p : Int, 0 ≤ p ∧ p < n ∧ v ∈ N p ∧ (rd ls p = 1 ∨ p ∈ lo ∧ lo.idxOf v < lo.idxOf p)
  met : ∀ v : Int, 0 ≤ v → v < n → rd ls v ≠ 0 → Rc N (fun _ => True) root v
  round : lp = true → ∃ u w, Rc N (fun _ => True) root u ∧ w ∈ N u ∧ Rc N (fun _ => True) w u
structure Went (n : Nat) (ls lo ls' lo' : List Int) (lp lp' : Bool) : Prop where
  keep : ∀ v : Int, 0 ≤ v → v < n → rd ls v ≠ 0 → rd ls' v = rd ls v
  grey : ∀ v : Int, 0 ≤ v → v < n → rd ls' v = 1 → rd ls v = 1
  more : ∃ t, lo' = lo ++ t
  flag : lp = true → lp' = true
  zero : ls'.count 0 ≤ ls.count 0
theorem Went.refl (n : Nat) (ls lo : List Int) (lp : Bool) : Went n ls lo ls lo lp lp := ⟨fun _ _ _ _ => rfl, fun _ _ _ h => h, ⟨[], by simp⟩, id, Nat.le_refl _⟩
theorem Went.trans {n : Nat} {ls lo ls1 lo1 ls2 lo2 : List Int} {lp lp1 lp2 : Bool} (h : Went n ls lo ls1 lo1 lp lp1) (k : Went n ls1 lo1 ls2 lo2 lp1 lp2) : Went n ls lo ls2 lo2 lp lp2 := by
  obtain ⟨t, rfl⟩ := h.more
  obtain ⟨t', rfl⟩ := k.more
  exact ⟨fun v h0 h1 hv => by have e := h.keep v h0 h1 hv; rw [k.keep v h0 h1 (by rw [e]; exact hv), e], fun v h0 h1 hv => h.grey v h0 h1 (k.grey v h0 h1 hv), ⟨t ++ t', by simp⟩, fun e => k.flag (h.flag e), Nat.le_trans k.zero h.zero⟩
theorem count_put {xs : List Int} {i x y : Int} (h0 : 0 ≤ i) (h1 : i < (xs.length : Int)) : (xs.set i.toNat x).count y + (if rd xs i = y then 1 else 0) = xs.count y + (if x = y then 1 else 0) := by
  have hl : i.toNat < xs.length := by omega
  have he := rd_eq h0 h1
  rw [List.getElem?_eq_getElem hl] at he
  rw [List.count_set hl, Option.some.inj he]
  by_cases e : rd xs i = y
  · have hp : 0 < xs.count y := List.count_pos_iff.2 (e ▸ rd_mem h0 h1)
    simp [e]
    split <;> omega
  · simp [e]
section
variable {N : Int → List Int} {n : Nat} {root b : Int} {ls lo : List Int} {lp : Bool}
theorem Dfs.enter (h : Dfs N n root ls lo lp) (h0 : 0 ≤ b) (h1 : b < n) (hb : rd ls b = 0) (hr : Rc N (fun _ => True) root b) :
    Dfs N n root (ls.set b.toNat 1) lo lp := by
  have hl : b < (ls.length : Int) := by rw [h.len]; exact h1
  have rs : ∀ v : Int, 0 ≤ v → rd (ls.set b.toNat 1) v = if b = v then 1 else rd ls v := fun v hv => rd_set h0 hl hv
  refine ⟨by simp [h.len], fun v v0 v1 => ?_, h.nodup, by have := count_put (x := 1) (y := 2) h0 hl; rw [hb] at this; have := h.size; simp at *; omega, fun v => ?_, fun v hv w hw => ?_, h.fore, fun v hv => ?_, fun v v0 v1 hv => ?_, h.round⟩
  · rw [rs v v0]; split
    · exact .inr (.inl rfl)
    · exact h.three v v0 v1
  · rw [h.mem v]
    constructor
    · rintro ⟨v0, v1, v2⟩
      refine ⟨v0, v1, ?_⟩
      rw [rs v v0, if_neg (by rintro rfl; omega)]; exact v2
    · rintro ⟨v0, v1, v2⟩
      refine ⟨v0, v1, ?_⟩
      rw [rs v v0] at v2
      split at v2
      · omega
      · exact v2
  · have := h.shut v hv w hw
    by_cases w0 : 0 ≤ w
    · rw [rs w w0]; split
      · omega
      · exact this
    · intro e
      apply this
      have : w.toNat = 0 := by omega
      unfold rd at e ⊢
      rw [this] at e ⊢
      rw [List.getD_eq_getElem?_getD, List.getElem?_set] at e
      rw [List.getD_eq_getElem?_getD]
      by_cases eb : b.toNat = 0
      · rw [if_pos eb] at e; split at e <;> simp at e; omega
      · rw [if_neg eb] at e; exact e
  · rcases h.tree v hv with e | ⟨p, p0, p1, pv, hp⟩
    · exact .inl e
    · refine .inr ⟨p, p0, p1, pv, ?_⟩
      rcases hp with hp | hp
      · left; rw [rs p p0]; split
        · rfl
        · exact hp
      · exact .inr hp
  · rw [rs v v0] at hv
    by_cases e : b = v
    · subst e; exact hr
    · rw [if_neg e] at hv; exact h.met v v0 v1 hv
theorem Dfs.leave (h : Dfs N n root ls lo lp) (h0 : 0 ≤ b) (h1 : b < n) (hb : rd ls b = 1) (hin : ∀ w ∈ N b, 0 ≤ w ∧ w < n ∧ rd ls w ≠ 0 ∧ (lp = false → w ∈ lo))
    (htree : b = root ∨ ∃ p : Int, 0 ≤ p ∧ p < n ∧ b ∈ N p ∧ p ≠ b ∧ rd ls p = 1) : Dfs N n root (ls.set b.toNat 2) (lo ++ [b]) lp := by
  have hl : b < (ls.length : Int) := by rw [h.len]; exact h1
  have rs : ∀ v : Int, 0 ≤ v → rd (ls.set b.toNat 2) v = if b = v then 2 else rd ls v := fun v hv => rd_set h0 hl hv
  have hbn : b ∉ lo := fun hm => by have := ((h.mem b).1 hm).2.2; omega
  have ne : ∀ w, 0 ≤ w → rd ls w ≠ 0 → rd (ls.set b.toNat 2) w ≠ 0 := fun w w0 hw => by
    rw [rs w w0]; split
    · omega
    · exact hw
  refine ⟨by simp [h.len], fun v v0 v1 => ?_, ?_, by have := count_put (x := 2) (y := 2) h0 hl; rw [hb] at this; have := h.size; simp at *; omega, fun v => ?_, fun v hv w hw => ?_, fun hf v hv w hw => ?_, fun v hv => ?_, fun v v0 v1 hv => ?_, h.round⟩
  · rw [rs v v0]; split
    · exact .inr (.inr rfl)
    · exact h.three v v0 v1
  · rw [List.nodup_append]
    exact ⟨h.nodup, by simp, fun x hx y hy => by simp at hy; subst hy; rintro rfl; exact hbn hx⟩
  · rw [List.mem_append, List.mem_singleton, h.mem v]
    constructor
    · rintro (⟨v0, v1, v2⟩ | rfl)
      · refine ⟨v0, v1, ?_⟩
        rw [rs v v0]; split
        · rfl
        · exact v2
      · exact ⟨h0, h1, by rw [rs v h0, if_pos rfl]⟩
    · rintro ⟨v0, v1, v2⟩
      rw [rs v v0] at v2
      by_cases e : b = v
      · exact .inr e.symm
      · rw [if_neg e] at v2; exact .inl ⟨v0, v1, v2⟩
  · rcases List.mem_append.1 hv with hv | hv
    · by_cases w0 : 0 ≤ w
      · exact ne w w0 (h.shut v hv w hw)
      · have := h.shut v hv w hw
        intro e
        apply this
        have : w.toNat = 0 := by omega
        unfold rd at e ⊢
        rw [this] at e ⊢
        rw [List.getD_eq_getElem?_getD, List.getElem?_set] at e
        rw [List.getD_eq_getElem?_getD]
        by_cases eb : b.toNat = 0
        · rw [if_pos eb] at e; split at e <;> simp at e; omega
        · rw [if_neg eb] at e; exact e
    · obtain rfl := List.mem_singleton.1 hv
      obtain ⟨w0, _, w2, _⟩ := hin w hw
      exact ne w w0 w2
  · rcases List.mem_append.1 hv with hv | hv
    · obtain ⟨m1, m2⟩ := h.fore hf v hv w hw
      exact ⟨List.mem_append_left _ m1, by rw [idxOf_snoc_mem m1, idxOf_snoc_mem hv]; exact m2⟩
    · obtain rfl := List.mem_singleton.1 hv
      obtain ⟨_, _, _, w3⟩ := hin w hw
      have := w3 hf
      exact ⟨List.mem_append_left _ this, by rw [idxOf_snoc_mem this, idxOf_snoc_new hbn]; exact List.idxOf_lt_length_iff.2 this⟩
  · rcases List.mem_append.1 hv with hm | hv
    · rcases h.tree v hm with e | ⟨p, p0, p1, pv, hp⟩
      · exact .inl e
      · refine .inr ⟨p, p0, p1, pv, ?_⟩
        by_cases e : p = b
        · subst e
          exact .inr ⟨by simp, by rw [idxOf_snoc_mem hm, idxOf_snoc_new hbn]; exact List.idxOf_lt_length_iff.2 hm⟩
        · rcases hp with hp | ⟨hp, hi⟩
          · left; rw [rs p p0, if_neg (Ne.symm e)]; exact hp
          · exact .inr ⟨List.mem_append_left _ hp, by rw [idxOf_snoc_mem hm, idxOf_snoc_mem hp]; exact hi⟩
    · obtain rfl := List.mem_singleton.1 hv
      rcases htree with e | ⟨p, p0, p1, pv, pn, hp⟩
      · exact .inl e
      · exact .inr ⟨p, p0, p1, pv, .inl (by rw [rs p p0, if_neg (Ne.symm pn)]; exact hp)⟩
  · rw [rs v v0] at hv
    by_cases e : b = v
    · subst e; exact h.met b h0 h1 (by omega)
    · rw [if_neg e] at hv; exact h.met v v0 v1 hv
theorem Dfs.turn (h : Dfs N n root ls lo lp) {u w : Int} (hr : Rc N (fun _ => True) root u) (hw : w ∈ N u) (hc : Rc N (fun _ => True) w u) : Dfs N n root ls lo true :=
  ⟨h.len, h.three, h.nodup, h.size, h.mem, h.shut, (fun e => by cases e), h.tree, h.met, fun _ => ⟨u, w, hr, hw, hc⟩⟩
end
end Go.Proofs.Ytkcimaibaicdcaa.Gr
end
section
namespace Go.Proofs.Ytkcimaibaicdcaa.P
open Go.RowKit Go.Proofs.YtkcimaibaicdcaaW.PrintWords Go.Proofs.YtkcimaibaicdcaaW.PrintLast Go.Proofs.YtkcimaibaicdcaaW.PrintMore
attribute [local go_sem] max2_int min2_int max_two min_two max_three min_three max_four min_four   
set_option linter.unusedVariables false
set_option linter.unusedSimpArgs false
end Go.Proofs.Ytkcimaibaicdcaa.P
end
section
namespace Go.Proofs.Ytkcimaibaicdcaa.P
open Go.RowKit Go.Proofs.YtkcimaibaicdcaaW.PrintWords Go.Proofs.YtkcimaibaicdcaaW.PrintLast Go.Proofs.YtkcimaibaicdcaaW.PrintMore
attribute [local go_sem] max2_int min2_int max_two min_two max_three min_three max_four min_four   
set_option linter.unusedVariables false
set_option linter.unusedSimpArgs false
end Go.Proofs.Ytkcimaibaicdcaa.P
end
section
namespace Go.Proofs.Ytkcimaibaicdcaa.P
open Go.RowKit Go.Proofs.YtkcimaibaicdcaaW.PrintWords Go.Proofs.YtkcimaibaicdcaaW.PrintLast Go.Proofs.YtkcimaibaicdcaaW.PrintMore
attribute [local go_sem] max2_int min2_int max_two min_two max_three min_three max_four min_four   
set_option linter.unusedVariables false
set_option linter.unusedSimpArgs false
end Go.Proofs.Ytkcimaibaicdcaa.P
end
section
namespace Go.Proofs.Ytkcimaibaicdcaa.Gr
open Go.RowKit Go.Proofs.YtkcimaibaicdcaaW.PrintWords Go.Proofs.Ytkcimaibaicdcaa.P
theorem drop_rd {x : List Int} {i : Int} (h0 : 0 ≤ i) (h1 : i < (x.length : Int)) : x.drop i.toNat = rd x i :: x.drop (i + 1).toNat := by
  have hl : i.toNat < x.length := by omega
  have e : (i + 1).toNat = i.toNat + 1 := by omega
  rw [e, List.drop_eq_getElem_cons hl]
  have := rd_eq h0 h1
  rw [List.getElem?_eq_getElem hl] at this
  rw [Option.some.inj this]
theorem drop_end {x : List Int} {i : Int} (h1 : ¬ i < (x.length : Int)) : x.drop i.toNat = [] := List.drop_eq_nil_of_le (by omega)
theorem up_to (n : Int) (Q : Int → Prop) (hend : ∀ i, n ≤ i → Q i) (hstep : ∀ i, 0 ≤ i → i < n → Q (i + 1) → Q i) : ∀ i, 0 ≤ i → Q i := by
  have key : ∀ (d : Nat) (i : Int), 0 ≤ i → (n - i).toNat ≤ d → Q i := by
    intro d
    induction d with
    | zero => intro i _ hd; exact hend i (by omega)
    | succ d ih =>
      intro i h0 hd
      by_cases h : i < n
      · exact hstep i h0 h (ih (i + 1) (by omega) (by omega))
      · exact hend i (by omega)
  exact fun i h0 => key _ i h0 (Nat.le_refl _)
theorem in_ev (x : List Int) (v : Int) (hx : x.length ≤ 9223372036854775807) : Ev (fun k => plnref3_In.f k x v) (decide (v ∈ x)) := by
  have key := up_to (x.length : Int) (fun i => Ev (fun k => plnref3_In.l0 k x v i) (decide (v ∈ x.drop i.toNat))) ?_ ?_ 0 (by omega)
  · unfold plnref3_In.f
    simpa using key
  · intro i hi
    refine Ev.step (fun k => by simp only [plnref3_In.l0]; rw [if_neg (by omega)]) ?_
    rw [drop_end (by omega)]
    exact Ev.now _
  · intro i h0 h1 ih
    by_cases e : rd x i = v
    · refine Ev.step (fun k => by simp only [plnref3_In.l0]; rw [if_pos h1, if_pos h0, if_pos e]) ?_
      rw [drop_rd h0 h1, e]
      simp
      exact Ev.now _
    · refine Ev.step (fun k => by simp only [plnref3_In.l0]; rw [if_pos h1, if_pos h0, if_neg e, wrap_in (by omega) (by omega)]) ?_
      rw [drop_rd h0 h1]
      simpa [Ne.symm e] using ih
theorem contains_ev (x : List Int) (v : Int) (hx : x.length ≤ 9223372036854775807) : Ev (fun k => slices_Contains_int_int.f k x v) (decide (v ∈ x)) := by
  have key := up_to (x.length : Int) (fun i => ∃ r, Ev (fun k => slices_Index_int_int.l0 k x v x.length i) r ∧ decide (r ≥ 0) = decide (v ∈ x.drop i.toNat)) ?_ ?_ 0 (by omega)
  · obtain ⟨r, hr, h⟩ := key
    unfold slices_Contains_int_int.f slices_Index_int_int.f
    refine Ev.bind (a := r) hr ?_
    rw [h]
    simpa using Ev.now _
  · intro i hi
    refine ⟨-1, Ev.step (fun k => by simp only [slices_Index_int_int.l0]; rw [if_neg (by omega)]) (Ev.now _), ?_⟩
    rw [drop_end (by omega)]
    simp
  · intro i h0 h1 ⟨r, hr, h⟩
    by_cases e : v = rd x i
    · refine ⟨i, Ev.step (fun k => by simp only [slices_Index_int_int.l0]; rw [if_pos h1, if_pos h0, if_pos h1, if_pos e]) (Ev.now _), ?_⟩
      rw [drop_rd h0 h1, ← e]
      simp [h0]
    · refine ⟨r, Ev.step (fun k => by simp only [slices_Index_int_int.l0]; rw [if_pos h1, if_pos h0, if_pos h1, if_neg e, wrap_in (by omega) (by omega)]) hr, ?_⟩
      rw [drop_rd h0 h1, h]
      simp [e]
def addTo (n : Nat) (out : List Int) (t : Int) : List Int := if 0 ≤ t ∧ t < (n : Int) ∧ t ∉ out then out ++ [t] else out
def lastI (l : List S54) (b : Int) : S56 := rd_T56 (rd_T54 l b).f0 (((rd_T54 l b).f0.length : Int) - 1)
def goes (l : List S54) (b : Int) : Prop := 0 ≤ b ∧ b < (l.length : Int) ∧ (rd_T54 l b).f0 ≠ [] ∧ ((lastI l b).f0 = 27 ∨ (lastI l b).f0 = 28)
open Classical in
noncomputable def nextOf (l : List S54) (b : Int) : List Int := if goes l b then (lastI l b).f6.foldl (addTo l.length) [] else []
theorem addTo_mem {n : Nat} {out : List Int} {t v : Int} : v ∈ addTo n out t ↔ v ∈ out ∨ (v = t ∧ 0 ≤ t ∧ t < (n : Int)) := by
  unfold addTo
  split
  · rename_i h
    simp only [List.mem_append, List.mem_singleton]
    constructor
    · rintro (h1 | rfl)
      · exact .inl h1
      · exact .inr ⟨rfl, h.1, h.2.1⟩
    · rintro (h1 | ⟨rfl, _⟩)
      · exact .inl h1
      · exact .inr rfl
  · rename_i h
    constructor
    · exact .inl
    · rintro (h1 | ⟨rfl, h2, h3⟩)
      · exact h1
      · exact Decidable.byContradiction fun hn => h ⟨h2, h3, hn⟩
theorem fold_mem {n : Nat} {v : Int} : ∀ {x out : List Int}, v ∈ x.foldl (addTo n) out ↔ v ∈ out ∨ (v ∈ x ∧ 0 ≤ v ∧ v < (n : Int))
  | [], out => by simp
  | t :: x, out => by
    rw [List.foldl_cons, fold_mem, addTo_mem]
    constructor
    · rintro ((h | ⟨rfl, h⟩) | h)
      · exact .inl h
      · exact .inr ⟨by simp, h⟩
      · exact .inr ⟨List.mem_cons_of_mem _ h.1, h.2⟩
    · rintro (h | ⟨h, h2⟩)
      · exact .inl (.inl h)
      · rcases List.mem_cons.1 h with rfl | h
        · exact .inl (.inr ⟨rfl, h2⟩)
        · exact .inr ⟨h, h2⟩
theorem addTo_len {n : Nat} {out : List Int} {t : Int} : (addTo n out t).length ≤ out.length + 1 := by unfold addTo; split <;> simp
theorem fold_len {n : Nat} : ∀ {x out : List Int}, (x.foldl (addTo n) out).length ≤ out.length + x.length
  | [], _ => by simp
  | t :: x, out => by rw [List.foldl_cons]; have := fold_len (n := n) (x := x) (out := addTo n out t); have := addTo_len (n := n) (out := out) (t := t); simp; omega
theorem next_in {l : List S54} {b v : Int} (h : v ∈ nextOf l b) : 0 ≤ v ∧ v < (l.length : Int) := by
  unfold nextOf at h
  split at h
  · rcases fold_mem.1 h with h | h
    · cases h
    · exact h.2
  · cases h
def IntoOk (l : List S54) : Prop := l.length ≤ 5864062014634 ∧ ∀ b : Int, 0 ≤ b → b < (l.length : Int) → (rd_T54 l b).f0.length ≤ 1599289640354 ∧ ∀ i : Int, 0 ≤ i → i < ((rd_T54 l b).f0.length : Int) → (rd_T56 (rd_T54 l b).f0 i).f6.length ≤ 17592186043904 ∧ (rd_T56 (rd_T54 l b).f0 i).f5.length ≤ 17592186043904
theorem rdT54_mem {l : List S54} {b : Int} (h0 : 0 ≤ b) (h1 : b < (l.length : Int)) : rd_T54 l b ∈ l := by
  have : b.toNat < l.length := by omega
  unfold rd_T54
  rw [List.getD_eq_getElem?_getD, List.getElem?_eq_getElem this]
  exact List.getElem_mem _
theorem rdT56_mem {l : List S56} {b : Int} (h0 : 0 ≤ b) (h1 : b < (l.length : Int)) : rd_T56 l b ∈ l := by
  have : b.toNat < l.length := by omega
  unfold rd_T56
  rw [List.getD_eq_getElem?_getD, List.getElem?_eq_getElem this]
  exact List.getElem_mem _
theorem intoOk_of {a0 : ByteArray} {a1 : Bool} {l2 : List Int} {a3 : Int} {l4 : List S54} (h : B25 ⟨a0, a1, l2, a3, l4⟩) : IntoOk l4 := by
  obtain ⟨_, _, _, _, h4, h5⟩ := h
  have h4' : l4.length * 24 ≤ 140737488351232 := h4
  refine ⟨by omega, fun b h0 h1 => ?_⟩
  obtain ⟨k1, k2⟩ := h5 _ (rdT54_mem h0 h1)
  have k1' : (rd_T54 l4 b).f0.length * 88 ≤ 140737488351232 := k1
  refine ⟨by omega, fun i i0 i1 => ?_⟩
  obtain ⟨_, _, _, _, _, ⟨m1, _⟩, m2, _⟩ := k2 _ (rdT56_mem i0 i1)
  have m1' : (rd_T56 (rd_T54 l4 b).f0 i).f5.length * 8 ≤ 140737488351232 := m1
  have m2' : (rd_T56 (rd_T54 l4 b).f0 i).f6.length * 8 ≤ 140737488351232 := m2
  exact ⟨by omega, by omega⟩
section
variable {a0 : ByteArray} {a1 : Bool} {l2 : List Int} {a3 : Int} {l4 : List S54}
theorem next_l0 (x : List Int) (hx : x.length ≤ 17592186043904) : ∀ i, 0 ≤ i → ∀ out : List Int, (out.length : Int) ≤ i → Ev (fun k => flow_Next.l0 k out x x.length i a0 a1 l2 a3 l4) ((x.drop i.toNat).foldl (addTo l4.length) out) := by
  refine up_to (x.length : Int) _ ?_ ?_
  · intro i hi out _
    refine Ev.step (fun k => by simp only [flow_Next.l0]; rw [if_neg (by omega)]) ?_
    rw [drop_end (by omega)]
    exact Ev.now _
  · intro i h0 h1 ih out ho
    rw [drop_rd h0 h1, List.foldl_cons]
    by_cases c1 : rd x i ≥ 0
    · by_cases c2 : rd x i < (l4.length : Int)
      · refine Ev.step (fun k => by simp only [flow_Next.l0]; rw [if_pos h1, if_pos h0, if_pos h1, if_pos c1, if_pos c2, wrap_in (by omega) (by omega)]) ?_
        refine Ev.bind (contains_ev out (rd x i) (by omega)) ?_
        by_cases c3 : rd x i ∈ out
        · have e : addTo l4.length out (rd x i) = out := by unfold addTo; rw [if_neg (fun h => h.2.2 c3)]
          rw [e]
          simp only [c3, decide_true, if_true]
          exact ih out (by omega)
        · have e : addTo l4.length out (rd x i) = out ++ [rd x i] := by unfold addTo; rw [if_pos ⟨c1, c2, c3⟩]
          rw [e]
          simp only [c3, decide_false, Bool.false_eq_true, if_false]
          have hl : out.length < 17592186044416 := by omega
          simp only [hl, if_true]
          exact ih _ (by simp; omega)
      · have e : addTo l4.length out (rd x i) = out := by unfold addTo; rw [if_neg (fun h => c2 h.2.1)]
        rw [e]
        refine Ev.step (fun k => by simp only [flow_Next.l0]; rw [if_pos h1, if_pos h0, if_pos h1, if_pos c1, if_neg c2, wrap_in (by omega) (by omega)]) ?_
        exact ih out (by omega)
    · have e : addTo l4.length out (rd x i) = out := by unfold addTo; rw [if_neg (fun h => c1 h.1)]
      rw [e]
      refine Ev.step (fun k => by simp only [flow_Next.l0]; rw [if_pos h1, if_pos h0, if_pos h1, if_neg c1, wrap_in (by omega) (by omega)]) ?_
      exact ih out (by omega)
theorem next_ev (h : IntoOk l4) (b : Int) : Ev (fun k => flow_Next.f k a0 a1 l2 a3 l4 b) (nextOf l4 b) := by
  have stop : ∀ (b : Int) (r : List Int), Ev (fun k => flow_Next.j0 k b r true a0 a1 l2 a3 l4) r := fun b r => Ev.step (fun k => by simp only [flow_Next.j0]; rw [if_pos trivial]) (Ev.now _)
  by_cases c0 : b < 0
  · have e : nextOf l4 b = [] := by unfold nextOf; rw [if_neg (fun h => by have := h.1; omega)]
    rw [e]
    exact Ev.congr (fun k => by unfold flow_Next.f; rw [if_pos c0]) (stop _ _)
  by_cases c1 : b ≥ (l4.length : Int)
  · have e : nextOf l4 b = [] := by unfold nextOf; rw [if_neg (fun h => by have := h.2.1; omega)]
    rw [e]
    exact Ev.congr (fun k => by unfold flow_Next.f; rw [if_neg c0, if_pos c1]) (stop _ _)
  have b0 : 0 ≤ b := by omega
  have b1 : b < (l4.length : Int) := by omega
  obtain ⟨h2, h3⟩ := h.2 b b0 b1
  refine Ev.congr (fun k => by unfold flow_Next.f; rw [if_neg c0, if_neg c1, if_pos b0, if_pos b1]) ?_
  by_cases c2 : (rd_T54 l4 b).f0 = []
  · have e : nextOf l4 b = [] := by unfold nextOf; rw [if_neg (fun h => h.2.2.1 c2)]
    rw [e]
    have : ((((rd_T54 l4 b).f0).length : Int) == 0) = true := by rw [c2]; rfl
    rw [this]
    exact stop _ _
  have hp : 0 < (rd_T54 l4 b).f0.length := List.length_pos_iff.2 c2
  have : ((((rd_T54 l4 b).f0).length : Int) == 0) = false := by rw [beq_eq_false_iff_ne]; omega
  rw [this]
  have hw : wrap64 ((((rd_T54 l4 b).f0).length : Int) - 1) = ((rd_T54 l4 b).f0.length : Int) - 1 := wrap_in (by omega) (by omega)
  obtain ⟨h4, _⟩ := h3 (((rd_T54 l4 b).f0.length : Int) - 1) (by omega) (by omega)
  have run : Ev (fun k => flow_Next.l0 k [] (lastI l4 b).f6 (lastI l4 b).f6.length 0 a0 a1 l2 a3 l4) ((lastI l4 b).f6.foldl (addTo l4.length) []) := by
    have := next_l0 (a0 := a0) (a1 := a1) (l2 := l2) (a3 := a3) (l4 := l4) (lastI l4 b).f6 h4 0 (by omega) [] (by simp)
    simpa using this
  by_cases c3 : (lastI l4 b).f0 = 27
  · have e : nextOf l4 b = (lastI l4 b).f6.foldl (addTo l4.length) [] := by unfold nextOf; rw [if_pos ⟨b0, b1, c2, .inl c3⟩]
    rw [e]
    refine Ev.step (fun k => by simp only [flow_Next.j0]; rw [if_neg (by decide), if_pos b0, if_pos b1, hw, if_pos (by omega), if_pos (by omega), if_pos (show (rd_T56 ((rd_T54 l4 b).f0) (((rd_T54 l4 b).f0.length : Int) - 1)).f0 = 27 from c3)]) ?_
    refine Ev.step (fun k => by simp only [flow_Next.j1]; rw [if_neg (by decide)]) ?_
    exact run
  · refine Ev.step (fun k => by simp only [flow_Next.j0]; rw [if_neg (by decide), if_pos b0, if_pos b1, hw, if_pos (by omega), if_pos (by omega), if_neg (show ¬ (rd_T56 ((rd_T54 l4 b).f0) (((rd_T54 l4 b).f0.length : Int) - 1)).f0 = 27 from c3)]) ?_
    by_cases c4 : (lastI l4 b).f0 = 28
    · have e : nextOf l4 b = (lastI l4 b).f6.foldl (addTo l4.length) [] := by unfold nextOf; rw [if_pos ⟨b0, b1, c2, .inr c4⟩]
      rw [e]
      have : ((rd_T56 ((rd_T54 l4 b).f0) (((rd_T54 l4 b).f0.length : Int) - 1)).f0 != 28) = false := by unfold lastI at c4; rw [c4]; rfl
      rw [this]
      refine Ev.step (fun k => by simp only [flow_Next.j1]; rw [if_neg (by decide)]) ?_
      exact run
    · have e : nextOf l4 b = [] := by unfold nextOf; rw [if_neg (fun h => h.2.2.2.elim c3 c4)]
      rw [e]
      have : ((rd_T56 ((rd_T54 l4 b).f0) (((rd_T54 l4 b).f0.length : Int) - 1)).f0 != 28) = true := by unfold lastI at c4; rw [bne_iff_ne]; exact c4
      rw [this]
      exact Ev.step (fun k => by simp only [flow_Next.j1]; rw [if_pos trivial]) (Ev.now _)
end
end Go.Proofs.Ytkcimaibaicdcaa.Gr
end
section
namespace Go.Proofs.Ytkcimaibaicdcaa.P
open Go.RowKit Go.Proofs.YtkcimaibaicdcaaW.PrintWords Go.Proofs.YtkcimaibaicdcaaW.PrintLast Go.Proofs.YtkcimaibaicdcaaW.PrintMore
attribute [local go_sem] max2_int min2_int max_two min_two max_three min_three max_four min_four   
set_option linter.unusedVariables false
set_option linter.unusedSimpArgs false
end Go.Proofs.Ytkcimaibaicdcaa.P
end
section
namespace Go.Proofs.Ytkcimaibaicdcaa.P
open Go.RowKit Go.Proofs.YtkcimaibaicdcaaW.PrintWords Go.Proofs.YtkcimaibaicdcaaW.PrintLast Go.Proofs.YtkcimaibaicdcaaW.PrintMore
attribute [local go_sem] max2_int min2_int max_two min_two max_three min_three max_four min_four   
set_option linter.unusedVariables false
set_option linter.unusedSimpArgs false
end Go.Proofs.Ytkcimaibaicdcaa.P
end
section
namespace Go.Proofs.Ytkcimaibaicdcaa.Gr
open Go.RowKit Go.Proofs.YtkcimaibaicdcaaW.PrintWords Go.Proofs.Ytkcimaibaicdcaa.P
section
variable {a0 : ByteArray} {a1 : Bool} {l2 : List Int} {a3 : Int} {l4 : List S54}
theorem rnext_l0 {y0 y1 y2 y3 y4 : Int} {y5 : List Int} (x : List Int) (hx : x.length ≤ 17592186043904) : ∀ i, 0 ≤ i → ∀ out : List Int, (out.length : Int) ≤ i → Ev (fun k => plnref3_Next.l0 k out i a0 a1 l2 a3 l4 y0 y1 y2 y3 y4 y5 x) ((x.drop i.toNat).foldl (addTo l4.length) out) := by
  refine up_to (x.length : Int) _ ?_ ?_
  · intro i hi out _
    refine Ev.step (fun k => by simp only [plnref3_Next.l0]; rw [if_neg (by omega)]) ?_
    rw [drop_end (by omega)]
    exact Ev.now _
  · intro i h0 h1 ih out ho
    rw [drop_rd h0 h1, List.foldl_cons]
    by_cases c1 : rd x i ≥ 0
    · by_cases c2 : rd x i < (l4.length : Int)
      · refine Ev.step (fun k => by simp only [plnref3_Next.l0]; rw [if_pos h1, if_pos h0, if_pos c1, if_pos c2, wrap_in (by omega) (by omega)]) ?_
        refine Ev.bind (in_ev out (rd x i) (by omega)) ?_
        by_cases c3 : rd x i ∈ out
        · have e : addTo l4.length out (rd x i) = out := by unfold addTo; rw [if_neg (fun h => h.2.2 c3)]
          rw [e]
          simp only [c3, decide_true, if_true]
          exact ih out (by omega)
        · have e : addTo l4.length out (rd x i) = out ++ [rd x i] := by unfold addTo; rw [if_pos ⟨c1, c2, c3⟩]
          rw [e]
          simp only [c3, decide_false, Bool.false_eq_true, if_false]
          have hl : out.length < 17592186044416 := by omega
          simp only [hl, if_true]
          exact ih _ (by simp; omega)
      · have e : addTo l4.length out (rd x i) = out := by unfold addTo; rw [if_neg (fun h => c2 h.2.1)]
        rw [e]
        refine Ev.step (fun k => by simp only [plnref3_Next.l0]; rw [if_pos h1, if_pos h0, if_pos c1, if_neg c2, wrap_in (by omega) (by omega)]) ?_
        exact ih out (by omega)
    · have e : addTo l4.length out (rd x i) = out := by unfold addTo; rw [if_neg (fun h => c1 h.1)]
      rw [e]
      refine Ev.step (fun k => by simp only [plnref3_Next.l0]; rw [if_pos h1, if_pos h0, if_neg c1, wrap_in (by omega) (by omega)]) ?_
      exact ih out (by omega)
theorem rnext_ev (h : IntoOk l4) (b : Int) : Ev (fun k => plnref3_Next.f k a0 a1 l2 a3 l4 b) (nextOf l4 b) := by
  have stop : ∀ y0 y1 y2 y3 y4 (y5 y6 : List Int), Ev (fun k => plnref3_Next.j0 k true a0 a1 l2 a3 l4 y0 y1 y2 y3 y4 y5 y6) [] := fun _ _ _ _ _ _ _ => Ev.step (fun k => by simp only [plnref3_Next.j0]; rw [if_pos trivial]) (Ev.now _)
  have none_ : plnref3_Last.f a0 a1 l2 a3 l4 b = some (0, 0, 0, 0, 0, [], [], false) → nextOf l4 b = [] → Ev (fun k => plnref3_Next.f k a0 a1 l2 a3 l4 b) (nextOf l4 b) := fun h1 h2 => by
    rw [h2]
    refine Ev.congr (fun k => by unfold plnref3_Next.f; rw [h1, Option.bind_some, if_neg (by decide)]) (stop _ _ _ _ _ _ _)
  by_cases c0 : b < 0
  · exact none_ (by unfold plnref3_Last.f; rw [if_pos c0]) (by unfold nextOf; rw [if_neg (fun h => by have := h.1; omega)])
  by_cases c1 : b ≥ (l4.length : Int)
  · exact none_ (by unfold plnref3_Last.f; rw [if_neg c0, if_pos c1]) (by unfold nextOf; rw [if_neg (fun h => by have := h.2.1; omega)])
  have b0 : 0 ≤ b := by omega
  have b1 : b < (l4.length : Int) := by omega
  obtain ⟨h2, h3⟩ := h.2 b b0 b1
  by_cases c2 : (rd_T54 l4 b).f0 = []
  · exact none_ (by unfold plnref3_Last.f; rw [if_neg c0, if_neg c1, if_pos b0, if_pos b1, if_pos (by rw [c2]; rfl)]) (by unfold nextOf; rw [if_neg (fun h => h.2.2.1 c2)])
  have hp : 0 < (rd_T54 l4 b).f0.length := List.length_pos_iff.2 c2
  have hw : wrap64 ((((rd_T54 l4 b).f0).length : Int) - 1) = ((rd_T54 l4 b).f0.length : Int) - 1 := wrap_in (by omega) (by omega)
  obtain ⟨h4, _⟩ := h3 (((rd_T54 l4 b).f0.length : Int) - 1) (by omega) (by omega)
  have hL : plnref3_Last.f a0 a1 l2 a3 l4 b = some ((lastI l4 b).f0, (lastI l4 b).f1, (lastI l4 b).f2, (lastI l4 b).f3, (lastI l4 b).f4, (lastI l4 b).f5, (lastI l4 b).f6, true) := by
    unfold plnref3_Last.f lastI
    rw [if_neg c0, if_neg c1, if_pos b0, if_pos b1, if_neg (by omega), hw, if_pos (by omega), if_pos (by omega)]
  refine Ev.congr (fun k => by unfold plnref3_Next.f; rw [hL, Option.bind_some, if_pos rfl]) ?_
  have run : Ev (fun k => plnref3_Next.l0 k [] 0 a0 a1 l2 a3 l4 (lastI l4 b).f0 (lastI l4 b).f1 (lastI l4 b).f2 (lastI l4 b).f3 (lastI l4 b).f4 (lastI l4 b).f5 (lastI l4 b).f6) ((lastI l4 b).f6.foldl (addTo l4.length) []) := by
    have := rnext_l0 (a0 := a0) (a1 := a1) (l2 := l2) (a3 := a3) (l4 := l4) (y0 := (lastI l4 b).f0) (y1 := (lastI l4 b).f1) (y2 := (lastI l4 b).f2) (y3 := (lastI l4 b).f3) (y4 := (lastI l4 b).f4) (y5 := (lastI l4 b).f5) (lastI l4 b).f6 h4 0 (by omega) [] (by simp)
    simpa using this
  by_cases c3 : (lastI l4 b).f0 = 27
  · have e : nextOf l4 b = (lastI l4 b).f6.foldl (addTo l4.length) [] := by unfold nextOf; rw [if_pos ⟨b0, b1, c2, .inl c3⟩]
    rw [e]
    simp only [if_pos c3]
    refine Ev.step (fun k => by simp only [plnref3_Next.j0]; rw [if_neg (by decide)]) ?_
    exact run
  · simp only [if_neg c3]
    by_cases c4 : (lastI l4 b).f0 = 28
    · have e : nextOf l4 b = (lastI l4 b).f6.foldl (addTo l4.length) [] := by unfold nextOf; rw [if_pos ⟨b0, b1, c2, .inr c4⟩]
      rw [e]
      have : ((lastI l4 b).f0 != 28) = false := by rw [c4]; rfl
      rw [this]
      refine Ev.step (fun k => by simp only [plnref3_Next.j0]; rw [if_neg (by decide)]) ?_
      exact run
    · have e : nextOf l4 b = [] := by unfold nextOf; rw [if_neg (fun h => h.2.2.2.elim c3 c4)]
      rw [e]
      have : ((lastI l4 b).f0 != 28) = true := by rw [bne_iff_ne]; exact c4
      rw [this]
      exact stop _ _ _ _ _ _ _
theorem rdL_set {xs : List (List Int)} {i j : Int} {x : List Int} (h0 : 0 ≤ i) (h1 : i < (xs.length : Int)) (hj : 0 ≤ j) : rd_L1 (xs.set i.toNat x) j = if i = j then x else rd_L1 xs j := by
  unfold rd_L1
  rw [List.getD_eq_getElem?_getD, List.getD_eq_getElem?_getD, List.getElem?_set]
  by_cases e : i = j
  · subst e
    have : i.toNat < xs.length := by omega
    simp [this]
  · have : ¬ i.toNat = j.toNat := by omega
    simp [e, this]
end
end Go.Proofs.Ytkcimaibaicdcaa.Gr
end
section
namespace Go.Proofs.Ytkcimaibaicdcaa.P
open Go.RowKit Go.Proofs.YtkcimaibaicdcaaW.PrintWords Go.Proofs.YtkcimaibaicdcaaW.PrintLast Go.Proofs.YtkcimaibaicdcaaW.PrintMore
attribute [local go_sem] max2_int min2_int max_two min_two max_three min_three max_four min_four   
set_option linter.unusedVariables false
set_option linter.unusedSimpArgs false
end Go.Proofs.Ytkcimaibaicdcaa.P
end
section
namespace Go.Proofs.Ytkcimaibaicdcaa.Gr
open Go.RowKit Go.Proofs.YtkcimaibaicdcaaW.PrintWords Go.Proofs.Ytkcimaibaicdcaa.P
theorem rdb_eq {xs : List Bool} {i : Int} (h0 : 0 ≤ i) (h1 : i < (xs.length : Int)) : xs[i.toNat]? = some (rdOf false xs i) := by
  have : i.toNat < xs.length := by omega
  simp [rdOf, List.getD_eq_getElem?_getD, List.getElem?_eq_getElem this]
theorem count_set {xs : List Bool} {i : Int} (h0 : 0 ≤ i) (h1 : i < (xs.length : Int)) (h : rdOf false xs i = false) : (xs.set i.toNat true).count true = xs.count true + 1 := by
  have hl : i.toNat < xs.length := by omega
  have he := rdb_eq h0 h1
  rw [h, List.getElem?_eq_getElem hl] at he
  rw [List.count_set hl, Option.some.inj he]
  simp
section
variable {a0 : ByteArray} {a1 : Bool} {l2 : List Int} {a3 : Int} {l4 : List S54} {start less : Int}
def FromIs (l4 : List S54) (start less : Int) (r : List Bool) : Prop :=
  r.length = l4.length ∧ ∀ v : Int, 0 ≤ v → v < (l4.length : Int) → (rdOf false r v = true ↔ 0 ≤ start ∧ start < (l4.length : Int) ∧ Rc (nextOf l4) (· ≠ less) start v)
end
end Go.Proofs.Ytkcimaibaicdcaa.Gr
end
section
namespace Go.Proofs.Ytkcimaibaicdcaa.P
open Go.RowKit Go.Proofs.YtkcimaibaicdcaaW.PrintWords Go.Proofs.YtkcimaibaicdcaaW.PrintLast Go.Proofs.YtkcimaibaicdcaaW.PrintMore
attribute [local go_sem] max2_int min2_int max_two min_two max_three min_three max_four min_four   
set_option linter.unusedVariables false
set_option linter.unusedSimpArgs false
end Go.Proofs.Ytkcimaibaicdcaa.P
end
section
namespace Go.Proofs.Ytkcimaibaicdcaa.P
open Go.RowKit Go.Proofs.YtkcimaibaicdcaaW.PrintWords Go.Proofs.YtkcimaibaicdcaaW.PrintLast Go.Proofs.YtkcimaibaicdcaaW.PrintMore
attribute [local go_sem] max2_int min2_int max_two min_two max_three min_three max_four min_four   
set_option linter.unusedVariables false
set_option linter.unusedSimpArgs false
end Go.Proofs.Ytkcimaibaicdcaa.P
end
