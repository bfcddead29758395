/- A part of the proof of the law of FlowTells: lemmas and walks, out of this session's texts, with what the claim does not use struck out. -/
import Derived.Test.YtkcimaibaicdcaaF1
import Derived.Test.YtkcimaibaicdcaaF10
import Derived.Test.YtkcimaibaicdcaaF13
import Derived.Test.YtkcimaibaicdcaaF14
import Derived.Test.YtkcimaibaicdcaaF16
import Derived.Test.YtkcimaibaicdcaaF17
import Derived.Test.YtkcimaibaicdcaaF19
section
namespace Go.Proofs.Ytkcimaibaicdcaa.Gr
open Go.RowKit Go.Proofs.YtkcimaibaicdcaaW.PrintWords
theorem wrap_in {i : Int} (h0 : -9223372036854775808 ≤ i) (h1 : i ≤ 9223372036854775807) : wrap64 i = i := by unfold wrap64; omega
theorem rd_eq {xs : List Int} {i : Int} (h0 : 0 ≤ i) (h1 : i < (xs.length : Int)) : xs[i.toNat]? = some (rd xs i) := by
  have : i.toNat < xs.length := by omega
  simp [rd, List.getD_eq_getElem?_getD, List.getElem?_eq_getElem this]
theorem rd_mem {xs : List Int} {i : Int} (h0 : 0 ≤ i) (h1 : i < (xs.length : Int)) : rd xs i ∈ xs := List.mem_of_getElem? (rd_eq h0 h1)
theorem mem_rd {xs : List Int} {v : Int} (h : v ∈ xs) : ∃ i : Int, 0 ≤ i ∧ i < (xs.length : Int) ∧ rd xs i = v := by
  obtain ⟨i, hi, rfl⟩ := List.mem_iff_getElem.1 h
  refine ⟨(i : Int), by omega, by omega, ?_⟩
  have := rd_eq (xs := xs) (i := (i : Int)) (by omega) (by omega)
  simp [List.getElem?_eq_getElem hi] at this
  exact this.symm
theorem rd_set {xs : List Int} {i j x : Int} (h0 : 0 ≤ i) (h1 : i < (xs.length : Int)) (hj : 0 ≤ j) : rd (xs.set i.toNat x) j = if i = j then x else rd xs j := by
  unfold rd
  rw [List.getD_eq_getElem?_getD, List.getD_eq_getElem?_getD, List.getElem?_set]
  by_cases e : i = j
  · subst e
    have : i.toNat < xs.length := by omega
    simp [this]
  · have : ¬ i.toNat = j.toNat := by omega
    simp [e, this]
theorem rdb_set {xs : List Bool} {i j : Int} {x : Bool} (h0 : 0 ≤ i) (h1 : i < (xs.length : Int)) (hj : 0 ≤ j) : rdOf false (xs.set i.toNat x) j = if i = j then x else rdOf false xs j := by
  unfold rdOf
  rw [List.getD_eq_getElem?_getD, List.getD_eq_getElem?_getD, List.getElem?_set]
  by_cases e : i = j
  · subst e
    have : i.toNat < xs.length := by omega
    simp [this]
  · have : ¬ i.toNat = j.toNat := by omega
    simp [e, this]
theorem rd_replicate {n : Nat} {x j : Int} (h0 : 0 ≤ j) (h1 : j < (n : Int)) : rd (List.replicate n x) j = x := by
  have : j.toNat < n := by omega
  simp [rd, List.getD_eq_getElem?_getD, this]
theorem rdb_replicate {n : Nat} {j : Int} : rdOf false (List.replicate n false) j = false := by
  simp only [rdOf, List.getD_eq_getElem?_getD, List.getElem?_replicate]
  split <;> rfl
theorem bools_ext {xs ys : List Bool} (hl : xs.length = ys.length) (h : ∀ i : Int, 0 ≤ i → i < (xs.length : Int) → rdOf false xs i = rdOf false ys i) : xs = ys := by
  refine List.ext_getElem hl fun i h1 h2 => ?_
  have := h (i : Int) (by omega) (by omega)
  simpa [rdOf, List.getD_eq_getElem?_getD, List.getElem?_eq_getElem h1, List.getElem?_eq_getElem h2] using this
theorem idxOf_snoc_mem {l : List Int} {v b : Int} (h : v ∈ l) : (l ++ [b]).idxOf v = l.idxOf v := by rw [List.idxOf_append]; simp [h]
theorem idxOf_snoc_new {l : List Int} {b : Int} (h : b ∉ l) : (l ++ [b]).idxOf b = l.length := by rw [List.idxOf_append]; simp [h]
inductive Rc (N : Int → List Int) (P : Int → Prop) : Int → Int → Prop
  | refl {u : Int} : P u → Rc N P u u
  | step {u v w : Int} : Rc N P u v → w ∈ N v → P w → Rc N P u w
section
variable {N : Int → List Int} {P : Int → Prop} {u v w : Int}
theorem Rc.left (h : Rc N P u v) : P u := by induction h with | refl h => exact h | step _ _ _ ih => exact ih
theorem Rc.trans (h : Rc N P u v) (k : Rc N P v w) : Rc N P u w := by
  induction k with
  | refl _ => exact h
  | step _ h1 h2 ih => exact .step ih h1 h2
theorem Rc.cons (hu : P u) (hv : v ∈ N u) (k : Rc N P v w) : Rc N P u w := Rc.trans (.step (.refl hu) hv k.left) k
theorem Rc.mono {P' : Int → Prop} (h : Rc N P u v) (hP : ∀ x, P x → P' x) : Rc N P' u v := by
  induction h with
  | refl h => exact .refl (hP _ h)
  | step _ h1 h2 ih => exact .step ih h1 (hP _ h2)
theorem Rc.closed (h : Rc N P u v) {S : Int → Prop} (hu : S u) (hS : ∀ x, S x → ∀ y ∈ N x, P y → S y) : S v := by
  induction h with
  | refl _ => exact hu
  | step _ h1 h2 ih => exact hS _ ih _ h1 h2
end
structure Dfs (N : Int → List Int) (n : Nat) (root : Int) (ls lo : List Int) (lp : Bool) : Prop where
  len : ls.length = n
  three : ∀ v : Int, 0 ≤ v → v < n → rd ls v = 0 ∨ rd ls v = 1 ∨ rd ls v = 2
  nodup : lo.Nodup
  size : lo.length = ls.count 2
  mem : ∀ v, v ∈ lo ↔ 0 ≤ v ∧ v < n ∧ rd ls v = 2
  shut : ∀ v ∈ lo, ∀ w ∈ N v, rd ls w ≠ 0
  fore : lp = false → ∀ v ∈ lo, ∀ w ∈ N v, w ∈ lo ∧ lo.idxOf w < lo.idxOf v
  tree : ∀ v ∈ lo, v = root ∨ ∃ p : Int, 0 ≤ p ∧ p < n ∧ v ∈ N p ∧ (rd ls p = 1 ∨ p ∈ lo ∧ lo.idxOf v < lo.idxOf p)
  met : ∀ v : Int, 0 ≤ v → v < n → rd ls v ≠ 0 → Rc N (fun _ => True) root v
  round : lp = true → ∃ u w, Rc N (fun _ => True) root u ∧ w ∈ N u ∧ Rc N (fun _ => True) w u
structure Went (n : Nat) (ls lo ls' lo' : List Int) (lp lp' : Bool) : Prop where
  keep : ∀ v : Int, 0 ≤ v → v < n → rd ls v ≠ 0 → rd ls' v = rd ls v
  grey : ∀ v : Int, 0 ≤ v → v < n → rd ls' v = 1 → rd ls v = 1
  more : ∃ t, lo' = lo ++ t
  flag : lp = true → lp' = true
  zero : ls'.count 0 ≤ ls.count 0
theorem Went.refl (n : Nat) (ls lo : List Int) (lp : Bool) : Went n ls lo ls lo lp lp := ⟨fun _ _ _ _ => rfl, fun _ _ _ h => h, ⟨[], by simp⟩, id, Nat.le_refl _⟩
theorem Went.trans {n : Nat} {ls lo ls1 lo1 ls2 lo2 : List Int} {lp lp1 lp2 : Bool} (h : Went n ls lo ls1 lo1 lp lp1) (k : Went n ls1 lo1 ls2 lo2 lp1 lp2) : Went n ls lo ls2 lo2 lp lp2 := by
  obtain ⟨t, rfl⟩ := h.more
  obtain ⟨t', rfl⟩ := k.more
  exact ⟨fun v h0 h1 hv => by have e := h.keep v h0 h1 hv; rw [k.keep v h0 h1 (by rw [e]; exact hv), e], fun v h0 h1 hv => h.grey v h0 h1 (k.grey v h0 h1 hv), ⟨t ++ t', by simp⟩, fun e => k.flag (h.flag e), Nat.le_trans k.zero h.zero⟩
theorem count_put {xs : List Int} {i x y : Int} (h0 : 0 ≤ i) (h1 : i < (xs.length : Int)) : (xs.set i.toNat x).count y + (if rd xs i = y then 1 else 0) = xs.count y + (if x = y then 1 else 0) := by
  have hl : i.toNat < xs.length := by omega
  have he := rd_eq h0 h1
  rw [List.getElem?_eq_getElem hl] at he
  rw [List.count_set hl, Option.some.inj he]
  by_cases e : rd xs i = y
  · have hp : 0 < xs.count y := List.count_pos_iff.2 (e ▸ rd_mem h0 h1)
    simp [e]
    split <;> omega
  · simp [e]
section
variable {N : Int → List Int} {n : Nat} {root b : Int} {ls lo : List Int} {lp : Bool}
theorem Dfs.enter (h : Dfs N n root ls lo lp) (h0 : 0 ≤ b) (h1 : b < n) (hb : rd ls b = 0) (hr : Rc N (fun _ => True) root b) :
    Dfs N n root (ls.set b.toNat 1) lo lp := by
  have hl : b < (ls.length : Int) := by rw [h.len]; exact h1
  have rs : ∀ v : Int, 0 ≤ v → rd (ls.set b.toNat 1) v = if b = v then 1 else rd ls v := fun v hv => rd_set h0 hl hv
  refine ⟨by simp [h.len], fun v v0 v1 => ?_, h.nodup, by have := count_put (x := 1) (y := 2) h0 hl; rw [hb] at this; have := h.size; simp at *; omega, fun v => ?_, fun v hv w hw => ?_, h.fore, fun v hv => ?_, fun v v0 v1 hv => ?_, h.round⟩
  · rw [rs v v0]; split
    · exact .inr (.inl rfl)
    · exact h.three v v0 v1
  · rw [h.mem v]
    constructor
    · rintro ⟨v0, v1, v2⟩
      refine ⟨v0, v1, ?_⟩
      rw [rs v v0, if_neg (by rintro rfl; omega)]; exact v2
    · rintro ⟨v0, v1, v2⟩
      refine ⟨v0, v1, ?_⟩
      rw [rs v v0] at v2
      split at v2
      · omega
      · exact v2
  · have := h.shut v hv w hw
    by_cases w0 : 0 ≤ w
    · rw [rs w w0]; split
      · omega
      · exact this
    · intro e
      apply this
      have : w.toNat = 0 := by omega
      unfold rd at e ⊢
      rw [this] at e ⊢
      rw [List.getD_eq_getElem?_getD, List.getElem?_set] at e
      rw [List.getD_eq_getElem?_getD]
      by_cases eb : b.toNat = 0
      · rw [if_pos eb] at e; split at e <;> simp at e; omega
      · rw [if_neg eb] at e; exact e
  · rcases h.tree v hv with e | ⟨p, p0, p1, pv, hp⟩
    · exact .inl e
    · refine .inr ⟨p, p0, p1, pv, ?_⟩
      rcases hp with hp | hp
      · left; rw [rs p p0]; split
        · rfl
        · exact hp
      · exact .inr hp
  · rw [rs v v0] at hv
    by_cases e : b = v
    · subst e; exact hr
    · rw [if_neg e] at hv; exact h.met v v0 v1 hv
theorem Dfs.leave (h : Dfs N n root ls lo lp) (h0 : 0 ≤ b) (h1 : b < n) (hb : rd ls b = 1) (hin : ∀ w ∈ N b, 0 ≤ w ∧ w < n ∧ rd ls w ≠ 0 ∧ (lp = false → w ∈ lo))
    (htree : b = root ∨ ∃ p : Int, 0 ≤ p ∧ p < n ∧ b ∈ N p ∧ p ≠ b ∧ rd ls p = 1) : Dfs N n root (ls.set b.toNat 2) (lo ++ [b]) lp := by
  have hl : b < (ls.length : Int) := by rw [h.len]; exact h1
  have rs : ∀ v : Int, 0 ≤ v → rd (ls.set b.toNat 2) v = if b = v then 2 else rd ls v := fun v hv => rd_set h0 hl hv
  have hbn : b ∉ lo := fun hm => by have := ((h.mem b).1 hm).2.2; omega
  have ne : ∀ w, 0 ≤ w → rd ls w ≠ 0 → rd (ls.set b.toNat 2) w ≠ 0 := fun w w0 hw => by
    rw [rs w w0]; split
    · omega
    · exact hw
  refine ⟨by simp [h.len], fun v v0 v1 => ?_, ?_, by have := count_put (x := 2) (y := 2) h0 hl; rw [hb] at this; have := h.size; simp at *; omega, fun v => ?_, fun v hv w hw => ?_, fun hf v hv w hw => ?_, fun v hv => ?_, fun v v0 v1 hv => ?_, h.round⟩
  · rw [rs v v0]; split
    · exact .inr (.inr rfl)
    · exact h.three v v0 v1
  · rw [List.nodup_append]
    exact ⟨h.nodup, by simp, fun x hx y hy => by simp at hy; subst hy; rintro rfl; exact hbn hx⟩
  · rw [List.mem_append, List.mem_singleton, h.mem v]
    constructor
    · rintro (⟨v0, v1, v2⟩ | rfl)
      · refine ⟨v0, v1, ?_⟩
        rw [rs v v0]; split
        · rfl
        · exact v2
      · exact ⟨h0, h1, by rw [rs v h0, if_pos rfl]⟩
    · rintro ⟨v0, v1, v2⟩
      rw [rs v v0] at v2
      by_cases e : b = v
      · exact .inr e.symm
      · rw [if_neg e] at v2; exact .inl ⟨v0, v1, v2⟩
  · rcases List.mem_append.1 hv with hv | hv
    · by_cases w0 : 0 ≤ w
      · exact ne w w0 (h.shut v hv w hw)
      · have := h.shut v hv w hw
        intro e
        apply this
        have : w.toNat = 0 := by omega
        unfold rd at e ⊢
        rw [this] at e ⊢
        rw [List.getD_eq_getElem?_getD, List.getElem?_set] at e
        rw [List.getD_eq_getElem?_getD]
        by_cases eb : b.toNat = 0
        · rw [if_pos eb] at e; split at e <;> simp at e; omega
        · rw [if_neg eb] at e; exact e
    · obtain rfl := List.mem_singleton.1 hv
      obtain ⟨w0, _, w2, _⟩ := hin w hw
      exact ne w w0 w2
  · rcases List.mem_append.1 hv with hv | hv
    · obtain ⟨m1, m2⟩ := h.fore hf v hv w hw
      exact ⟨List.mem_append_left _ m1, by rw [idxOf_snoc_mem m1, idxOf_snoc_mem hv]; exact m2⟩
    · obtain rfl := List.mem_singleton.1 hv
      obtain ⟨_, _, _, w3⟩ := hin w hw
      have := w3 hf
      exact ⟨List.mem_append_left _ this, by rw [idxOf_snoc_mem this, idxOf_snoc_new hbn]; exact List.idxOf_lt_length_iff.2 this⟩
  · rcases List.mem_append.1 hv with hm | hv
    · rcases h.tree v hm with e | ⟨p, p0, p1, pv, hp⟩
      · exact .inl e
      · refine .inr ⟨p, p0, p1, pv, ?_⟩
        by_cases e : p = b
        · subst e
          exact .inr ⟨by simp, by rw [idxOf_snoc_mem hm, idxOf_snoc_new hbn]; exact List.idxOf_lt_length_iff.2 hm⟩
        · rcases hp with hp | ⟨hp, hi⟩
          · left; rw [rs p p0, if_neg (Ne.symm e)]; exact hp
          · exact .inr ⟨List.mem_append_left _ hp, by rw [idxOf_snoc_mem hm, idxOf_snoc_mem hp]; exact hi⟩
    · obtain rfl := List.mem_singleton.1 hv
      rcases htree with e | ⟨p, p0, p1, pv, pn, hp⟩
      · exact .inl e
      · exact .inr ⟨p, p0, p1, pv, .inl (by rw [rs p p0, if_neg (Ne.symm pn)]; exact hp)⟩
  · rw [rs v v0] at hv
    by_cases e : b = v
    · subst e; exact h.met b h0 h1 (by omega)
    · rw [if_neg e] at hv; exact h.met v v0 v1 hv
theorem Dfs.turn (h : Dfs N n root ls lo lp) {u w : Int} (hr : Rc N (fun _ => True) root u) (hw : w ∈ N u) (hc : Rc N (fun _ => True) w u) : Dfs N n root ls lo true :=
  ⟨h.len, h.three, h.nodup, h.size, h.mem, h.shut, (fun e => by cases e), h.tree, h.met, fun _ => ⟨u, w, hr, hw, hc⟩⟩
end
end Go.Proofs.Ytkcimaibaicdcaa.Gr
end
section
namespace Go.Proofs.Ytkcimaibaicdcaa.Gr
open Go.RowKit Go.Proofs.YtkcimaibaicdcaaW.PrintWords Go.Proofs.Ytkcimaibaicdcaa.P
theorem drop_rd {x : List Int} {i : Int} (h0 : 0 ≤ i) (h1 : i < (x.length : Int)) : x.drop i.toNat = rd x i :: x.drop (i + 1).toNat := by
  have hl : i.toNat < x.length := by omega
  have e : (i + 1).toNat = i.toNat + 1 := by omega
  rw [e, List.drop_eq_getElem_cons hl]
  have := rd_eq h0 h1
  rw [List.getElem?_eq_getElem hl] at this
  rw [Option.some.inj this]
theorem drop_end {x : List Int} {i : Int} (h1 : ¬ i < (x.length : Int)) : x.drop i.toNat = [] := List.drop_eq_nil_of_le (by omega)
theorem up_to (n : Int) (Q : Int → Prop) (hend : ∀ i, n ≤ i → Q i) (hstep : ∀ i, 0 ≤ i → i < n → Q (i + 1) → Q i) : ∀ i, 0 ≤ i → Q i := by
  have key : ∀ (d : Nat) (i : Int), 0 ≤ i → (n - i).toNat ≤ d → Q i := by
    intro d
    induction d with
    | zero => intro i _ hd; exact hend i (by omega)
    | succ d ih =>
      intro i h0 hd
      by_cases h : i < n
      · exact hstep i h0 h (ih (i + 1) (by omega) (by omega))
      · exact hend i (by omega)
  exact fun i h0 => key _ i h0 (Nat.le_refl _)
theorem ints_ev (x y : List Int) (hx : x.length ≤ 9223372036854775807) : Ev (fun k => plnref3_Ints.f k x y) (decide (x = y)) := by
  by_cases hl : (x.length : Int) = (y.length : Int)
  · refine Ev.congr (fun k => by unfold plnref3_Ints.f; rw [if_pos hl]) ?_
    have hl' : x.length = y.length := by omega
    have key := up_to (x.length : Int) (fun i => i ≤ x.length → Ev (fun k => plnref3_Ints.l0 k x y i) (decide (x.drop i.toNat = y.drop i.toNat))) ?_ ?_ 0 (by omega) (by omega)
    · simpa using key
    · intro i hi _
      refine Ev.step (fun k => by simp only [plnref3_Ints.l0]; rw [if_neg (by omega)]) ?_
      rw [drop_end (by omega), drop_end (by omega)]
      exact Ev.now _
    · intro i h0 h1 ih _
      by_cases e : rd x i = rd y i
      · refine Ev.step (fun k => by simp only [plnref3_Ints.l0]; rw [if_pos h1, if_pos h0, if_pos (by omega), if_pos e, wrap_in (by omega) (by omega)]) ?_
        rw [drop_rd h0 h1, drop_rd h0 (by omega), e]
        have := ih (by omega)
        simpa using this
      · refine Ev.step (fun k => by simp only [plnref3_Ints.l0]; rw [if_pos h1, if_pos h0, if_pos (by omega), if_neg e]) ?_
        rw [drop_rd h0 h1, drop_rd h0 (by omega)]
        simp [e]
        exact Ev.now _
  · refine Ev.congr (fun k => by unfold plnref3_Ints.f; rw [if_neg hl]) ?_
    have : ¬ x = y := fun e => hl (by rw [e])
    simp [this]
    exact Ev.now _
theorem in_ev (x : List Int) (v : Int) (hx : x.length ≤ 9223372036854775807) : Ev (fun k => plnref3_In.f k x v) (decide (v ∈ x)) := by
  have key := up_to (x.length : Int) (fun i => Ev (fun k => plnref3_In.l0 k x v i) (decide (v ∈ x.drop i.toNat))) ?_ ?_ 0 (by omega)
  · unfold plnref3_In.f
    simpa using key
  · intro i hi
    refine Ev.step (fun k => by simp only [plnref3_In.l0]; rw [if_neg (by omega)]) ?_
    rw [drop_end (by omega)]
    exact Ev.now _
  · intro i h0 h1 ih
    by_cases e : rd x i = v
    · refine Ev.step (fun k => by simp only [plnref3_In.l0]; rw [if_pos h1, if_pos h0, if_pos e]) ?_
      rw [drop_rd h0 h1, e]
      simp
      exact Ev.now _
    · refine Ev.step (fun k => by simp only [plnref3_In.l0]; rw [if_pos h1, if_pos h0, if_neg e, wrap_in (by omega) (by omega)]) ?_
      rw [drop_rd h0 h1]
      simpa [Ne.symm e] using ih
theorem contains_ev (x : List Int) (v : Int) (hx : x.length ≤ 9223372036854775807) : Ev (fun k => slices_Contains_int_int.f k x v) (decide (v ∈ x)) := by
  have key := up_to (x.length : Int) (fun i => ∃ r, Ev (fun k => slices_Index_int_int.l0 k x v x.length i) r ∧ decide (r ≥ 0) = decide (v ∈ x.drop i.toNat)) ?_ ?_ 0 (by omega)
  · obtain ⟨r, hr, h⟩ := key
    unfold slices_Contains_int_int.f slices_Index_int_int.f
    refine Ev.bind (a := r) hr ?_
    rw [h]
    simpa using Ev.now _
  · intro i hi
    refine ⟨-1, Ev.step (fun k => by simp only [slices_Index_int_int.l0]; rw [if_neg (by omega)]) (Ev.now _), ?_⟩
    rw [drop_end (by omega)]
    simp
  · intro i h0 h1 ⟨r, hr, h⟩
    by_cases e : v = rd x i
    · refine ⟨i, Ev.step (fun k => by simp only [slices_Index_int_int.l0]; rw [if_pos h1, if_pos h0, if_pos h1, if_pos e]) (Ev.now _), ?_⟩
      rw [drop_rd h0 h1, ← e]
      simp [h0]
    · refine ⟨r, Ev.step (fun k => by simp only [slices_Index_int_int.l0]; rw [if_pos h1, if_pos h0, if_pos h1, if_neg e, wrap_in (by omega) (by omega)]) hr, ?_⟩
      rw [drop_rd h0 h1, h]
      simp [e]
def addTo (n : Nat) (out : List Int) (t : Int) : List Int := if 0 ≤ t ∧ t < (n : Int) ∧ t ∉ out then out ++ [t] else out
def lastI (l : List S54) (b : Int) : S56 := rd_T56 (rd_T54 l b).f0 (((rd_T54 l b).f0.length : Int) - 1)
def goes (l : List S54) (b : Int) : Prop := 0 ≤ b ∧ b < (l.length : Int) ∧ (rd_T54 l b).f0 ≠ [] ∧ ((lastI l b).f0 = 27 ∨ (lastI l b).f0 = 28)
open Classical in
noncomputable def nextOf (l : List S54) (b : Int) : List Int := if goes l b then (lastI l b).f6.foldl (addTo l.length) [] else []
theorem addTo_mem {n : Nat} {out : List Int} {t v : Int} : v ∈ addTo n out t ↔ v ∈ out ∨ (v = t ∧ 0 ≤ t ∧ t < (n : Int)) := by
  unfold addTo
  split
  · rename_i h
    simp only [List.mem_append, List.mem_singleton]
    constructor
    · rintro (h1 | rfl)
      · exact .inl h1
      · exact .inr ⟨rfl, h.1, h.2.1⟩
    · rintro (h1 | ⟨rfl, _⟩)
      · exact .inl h1
      · exact .inr rfl
  · rename_i h
    constructor
    · exact .inl
    · rintro (h1 | ⟨rfl, h2, h3⟩)
      · exact h1
      · exact Decidable.byContradiction fun hn => h ⟨h2, h3, hn⟩
theorem addTo_nodup {n : Nat} {out : List Int} {t : Int} (h : out.Nodup) : (addTo n out t).Nodup := by
  unfold addTo
  split
  · rename_i hh
    rw [List.nodup_append]
    exact ⟨h, by simp, fun x hx y hy => by simp at hy; subst hy; rintro rfl; exact hh.2.2 hx⟩
  · exact h
theorem fold_mem {n : Nat} {v : Int} : ∀ {x out : List Int}, v ∈ x.foldl (addTo n) out ↔ v ∈ out ∨ (v ∈ x ∧ 0 ≤ v ∧ v < (n : Int))
  | [], out => by simp
  | t :: x, out => by
    rw [List.foldl_cons, fold_mem, addTo_mem]
    constructor
    · rintro ((h | ⟨rfl, h⟩) | h)
      · exact .inl h
      · exact .inr ⟨by simp, h⟩
      · exact .inr ⟨List.mem_cons_of_mem _ h.1, h.2⟩
    · rintro (h | ⟨h, h2⟩)
      · exact .inl (.inl h)
      · rcases List.mem_cons.1 h with rfl | h
        · exact .inl (.inr ⟨rfl, h2⟩)
        · exact .inr ⟨h, h2⟩
theorem fold_nodup {n : Nat} : ∀ {x out : List Int}, out.Nodup → (x.foldl (addTo n) out).Nodup
  | [], _, h => h
  | t :: x, out, h => by rw [List.foldl_cons]; exact fold_nodup (addTo_nodup h)
theorem addTo_len {n : Nat} {out : List Int} {t : Int} : (addTo n out t).length ≤ out.length + 1 := by unfold addTo; split <;> simp
theorem fold_len {n : Nat} : ∀ {x out : List Int}, (x.foldl (addTo n) out).length ≤ out.length + x.length
  | [], _ => by simp
  | t :: x, out => by rw [List.foldl_cons]; have := fold_len (n := n) (x := x) (out := addTo n out t); have := addTo_len (n := n) (out := out) (t := t); simp; omega
theorem next_in {l : List S54} {b v : Int} (h : v ∈ nextOf l b) : 0 ≤ v ∧ v < (l.length : Int) := by
  unfold nextOf at h
  split at h
  · rcases fold_mem.1 h with h | h
    · cases h
    · exact h.2
  · cases h
theorem next_nodup (l : List S54) (b : Int) : (nextOf l b).Nodup := by
  unfold nextOf
  split
  · exact fold_nodup (by simp)
  · simp
def IntoOk (l : List S54) : Prop := l.length ≤ 5864062014634 ∧ ∀ b : Int, 0 ≤ b → b < (l.length : Int) → (rd_T54 l b).f0.length ≤ 1599289640354 ∧ ∀ i : Int, 0 ≤ i → i < ((rd_T54 l b).f0.length : Int) → (rd_T56 (rd_T54 l b).f0 i).f6.length ≤ 17592186043904 ∧ (rd_T56 (rd_T54 l b).f0 i).f5.length ≤ 17592186043904
theorem rdT54_mem {l : List S54} {b : Int} (h0 : 0 ≤ b) (h1 : b < (l.length : Int)) : rd_T54 l b ∈ l := by
  have : b.toNat < l.length := by omega
  unfold rd_T54
  rw [List.getD_eq_getElem?_getD, List.getElem?_eq_getElem this]
  exact List.getElem_mem _
theorem rdT56_mem {l : List S56} {b : Int} (h0 : 0 ≤ b) (h1 : b < (l.length : Int)) : rd_T56 l b ∈ l := by
  have : b.toNat < l.length := by omega
  unfold rd_T56
  rw [List.getD_eq_getElem?_getD, List.getElem?_eq_getElem this]
  exact List.getElem_mem _
theorem intoOk_of {a0 : ByteArray} {a1 : Bool} {l2 : List Int} {a3 : Int} {l4 : List S54} (h : B25 ⟨a0, a1, l2, a3, l4⟩) : IntoOk l4 := by
  obtain ⟨_, _, _, _, h4, h5⟩ := h
  have h4' : l4.length * 24 ≤ 140737488351232 := h4
  refine ⟨by omega, fun b h0 h1 => ?_⟩
  obtain ⟨k1, k2⟩ := h5 _ (rdT54_mem h0 h1)
  have k1' : (rd_T54 l4 b).f0.length * 88 ≤ 140737488351232 := k1
  refine ⟨by omega, fun i i0 i1 => ?_⟩
  obtain ⟨_, _, _, _, _, ⟨m1, _⟩, m2, _⟩ := k2 _ (rdT56_mem i0 i1)
  have m1' : (rd_T56 (rd_T54 l4 b).f0 i).f5.length * 8 ≤ 140737488351232 := m1
  have m2' : (rd_T56 (rd_T54 l4 b).f0 i).f6.length * 8 ≤ 140737488351232 := m2
  exact ⟨by omega, by omega⟩
section
variable {a0 : ByteArray} {a1 : Bool} {l2 : List Int} {a3 : Int} {l4 : List S54}
theorem next_l0 (x : List Int) (hx : x.length ≤ 17592186043904) : ∀ i, 0 ≤ i → ∀ out : List Int, (out.length : Int) ≤ i → Ev (fun k => flow_Next.l0 k out x x.length i a0 a1 l2 a3 l4) ((x.drop i.toNat).foldl (addTo l4.length) out) := by
  refine up_to (x.length : Int) _ ?_ ?_
  · intro i hi out _
    refine Ev.step (fun k => by simp only [flow_Next.l0]; rw [if_neg (by omega)]) ?_
    rw [drop_end (by omega)]
    exact Ev.now _
  · intro i h0 h1 ih out ho
    rw [drop_rd h0 h1, List.foldl_cons]
    by_cases c1 : rd x i ≥ 0
    · by_cases c2 : rd x i < (l4.length : Int)
      · refine Ev.step (fun k => by simp only [flow_Next.l0]; rw [if_pos h1, if_pos h0, if_pos h1, if_pos c1, if_pos c2, wrap_in (by omega) (by omega)]) ?_
        refine Ev.bind (contains_ev out (rd x i) (by omega)) ?_
        by_cases c3 : rd x i ∈ out
        · have e : addTo l4.length out (rd x i) = out := by unfold addTo; rw [if_neg (fun h => h.2.2 c3)]
          rw [e]
          simp only [c3, decide_true, if_true]
          exact ih out (by omega)
        · have e : addTo l4.length out (rd x i) = out ++ [rd x i] := by unfold addTo; rw [if_pos ⟨c1, c2, c3⟩]
          rw [e]
          simp only [c3, decide_false, Bool.false_eq_true, if_false]
          have hl : out.length < 17592186044416 := by omega
          simp only [hl, if_true]
          exact ih _ (by simp; omega)
      · have e : addTo l4.length out (rd x i) = out := by unfold addTo; rw [if_neg (fun h => c2 h.2.1)]
        rw [e]
        refine Ev.step (fun k => by simp only [flow_Next.l0]; rw [if_pos h1, if_pos h0, if_pos h1, if_pos c1, if_neg c2, wrap_in (by omega) (by omega)]) ?_
        exact ih out (by omega)
    · have e : addTo l4.length out (rd x i) = out := by unfold addTo; rw [if_neg (fun h => c1 h.1)]
      rw [e]
      refine Ev.step (fun k => by simp only [flow_Next.l0]; rw [if_pos h1, if_pos h0, if_pos h1, if_neg c1, wrap_in (by omega) (by omega)]) ?_
      exact ih out (by omega)
theorem next_ev (h : IntoOk l4) (b : Int) : Ev (fun k => flow_Next.f k a0 a1 l2 a3 l4 b) (nextOf l4 b) := by
  have stop : ∀ (b : Int) (r : List Int), Ev (fun k => flow_Next.j0 k b r true a0 a1 l2 a3 l4) r := fun b r => Ev.step (fun k => by simp only [flow_Next.j0]; rw [if_pos trivial]) (Ev.now _)
  by_cases c0 : b < 0
  · have e : nextOf l4 b = [] := by unfold nextOf; rw [if_neg (fun h => by have := h.1; omega)]
    rw [e]
    exact Ev.congr (fun k => by unfold flow_Next.f; rw [if_pos c0]) (stop _ _)
  by_cases c1 : b ≥ (l4.length : Int)
  · have e : nextOf l4 b = [] := by unfold nextOf; rw [if_neg (fun h => by have := h.2.1; omega)]
    rw [e]
    exact Ev.congr (fun k => by unfold flow_Next.f; rw [if_neg c0, if_pos c1]) (stop _ _)
  have b0 : 0 ≤ b := by omega
  have b1 : b < (l4.length : Int) := by omega
  obtain ⟨h2, h3⟩ := h.2 b b0 b1
  refine Ev.congr (fun k => by unfold flow_Next.f; rw [if_neg c0, if_neg c1, if_pos b0, if_pos b1]) ?_
  by_cases c2 : (rd_T54 l4 b).f0 = []
  · have e : nextOf l4 b = [] := by unfold nextOf; rw [if_neg (fun h => h.2.2.1 c2)]
    rw [e]
    have : ((((rd_T54 l4 b).f0).length : Int) == 0) = true := by rw [c2]; rfl
    rw [this]
    exact stop _ _
  have hp : 0 < (rd_T54 l4 b).f0.length := List.length_pos_iff.2 c2
  have : ((((rd_T54 l4 b).f0).length : Int) == 0) = false := by rw [beq_eq_false_iff_ne]; omega
  rw [this]
  have hw : wrap64 ((((rd_T54 l4 b).f0).length : Int) - 1) = ((rd_T54 l4 b).f0.length : Int) - 1 := wrap_in (by omega) (by omega)
  obtain ⟨h4, _⟩ := h3 (((rd_T54 l4 b).f0.length : Int) - 1) (by omega) (by omega)
  have run : Ev (fun k => flow_Next.l0 k [] (lastI l4 b).f6 (lastI l4 b).f6.length 0 a0 a1 l2 a3 l4) ((lastI l4 b).f6.foldl (addTo l4.length) []) := by
    have := next_l0 (a0 := a0) (a1 := a1) (l2 := l2) (a3 := a3) (l4 := l4) (lastI l4 b).f6 h4 0 (by omega) [] (by simp)
    simpa using this
  by_cases c3 : (lastI l4 b).f0 = 27
  · have e : nextOf l4 b = (lastI l4 b).f6.foldl (addTo l4.length) [] := by unfold nextOf; rw [if_pos ⟨b0, b1, c2, .inl c3⟩]
    rw [e]
    refine Ev.step (fun k => by simp only [flow_Next.j0]; rw [if_neg (by decide), if_pos b0, if_pos b1, hw, if_pos (by omega), if_pos (by omega), if_pos (show (rd_T56 ((rd_T54 l4 b).f0) (((rd_T54 l4 b).f0.length : Int) - 1)).f0 = 27 from c3)]) ?_
    refine Ev.step (fun k => by simp only [flow_Next.j1]; rw [if_neg (by decide)]) ?_
    exact run
  · refine Ev.step (fun k => by simp only [flow_Next.j0]; rw [if_neg (by decide), if_pos b0, if_pos b1, hw, if_pos (by omega), if_pos (by omega), if_neg (show ¬ (rd_T56 ((rd_T54 l4 b).f0) (((rd_T54 l4 b).f0.length : Int) - 1)).f0 = 27 from c3)]) ?_
    by_cases c4 : (lastI l4 b).f0 = 28
    · have e : nextOf l4 b = (lastI l4 b).f6.foldl (addTo l4.length) [] := by unfold nextOf; rw [if_pos ⟨b0, b1, c2, .inr c4⟩]
      rw [e]
      have : ((rd_T56 ((rd_T54 l4 b).f0) (((rd_T54 l4 b).f0.length : Int) - 1)).f0 != 28) = false := by unfold lastI at c4; rw [c4]; rfl
      rw [this]
      refine Ev.step (fun k => by simp only [flow_Next.j1]; rw [if_neg (by decide)]) ?_
      exact run
    · have e : nextOf l4 b = [] := by unfold nextOf; rw [if_neg (fun h => h.2.2.2.elim c3 c4)]
      rw [e]
      have : ((rd_T56 ((rd_T54 l4 b).f0) (((rd_T54 l4 b).f0.length : Int) - 1)).f0 != 28) = true := by unfold lastI at c4; rw [bne_iff_ne]; exact c4
      rw [this]
      exact Ev.step (fun k => by simp only [flow_Next.j1]; rw [if_pos trivial]) (Ev.now _)
end
end Go.Proofs.Ytkcimaibaicdcaa.Gr
end
section
namespace Go.Proofs.Ytkcimaibaicdcaa.Gr
open Go.RowKit Go.Proofs.YtkcimaibaicdcaaW.PrintWords Go.Proofs.Ytkcimaibaicdcaa.P
section
variable {a0 : ByteArray} {a1 : Bool} {l2 : List Int} {a3 : Int} {l4 : List S54}
theorem rnext_l0 {y0 y1 y2 y3 y4 : Int} {y5 : List Int} (x : List Int) (hx : x.length ≤ 17592186043904) : ∀ i, 0 ≤ i → ∀ out : List Int, (out.length : Int) ≤ i → Ev (fun k => plnref3_Next.l0 k out i a0 a1 l2 a3 l4 y0 y1 y2 y3 y4 y5 x) ((x.drop i.toNat).foldl (addTo l4.length) out) := by
  refine up_to (x.length : Int) _ ?_ ?_
  · intro i hi out _
    refine Ev.step (fun k => by simp only [plnref3_Next.l0]; rw [if_neg (by omega)]) ?_
    rw [drop_end (by omega)]
    exact Ev.now _
  · intro i h0 h1 ih out ho
    rw [drop_rd h0 h1, List.foldl_cons]
    by_cases c1 : rd x i ≥ 0
    · by_cases c2 : rd x i < (l4.length : Int)
      · refine Ev.step (fun k => by simp only [plnref3_Next.l0]; rw [if_pos h1, if_pos h0, if_pos c1, if_pos c2, wrap_in (by omega) (by omega)]) ?_
        refine Ev.bind (in_ev out (rd x i) (by omega)) ?_
        by_cases c3 : rd x i ∈ out
        · have e : addTo l4.length out (rd x i) = out := by unfold addTo; rw [if_neg (fun h => h.2.2 c3)]
          rw [e]
          simp only [c3, decide_true, if_true]
          exact ih out (by omega)
        · have e : addTo l4.length out (rd x i) = out ++ [rd x i] := by unfold addTo; rw [if_pos ⟨c1, c2, c3⟩]
          rw [e]
          simp only [c3, decide_false, Bool.false_eq_true, if_false]
          have hl : out.length < 17592186044416 := by omega
          simp only [hl, if_true]
          exact ih _ (by simp; omega)
      · have e : addTo l4.length out (rd x i) = out := by unfold addTo; rw [if_neg (fun h => c2 h.2.1)]
        rw [e]
        refine Ev.step (fun k => by simp only [plnref3_Next.l0]; rw [if_pos h1, if_pos h0, if_pos c1, if_neg c2, wrap_in (by omega) (by omega)]) ?_
        exact ih out (by omega)
    · have e : addTo l4.length out (rd x i) = out := by unfold addTo; rw [if_neg (fun h => c1 h.1)]
      rw [e]
      refine Ev.step (fun k => by simp only [plnref3_Next.l0]; rw [if_pos h1, if_pos h0, if_neg c1, wrap_in (by omega) (by omega)]) ?_
      exact ih out (by omega)
theorem rnext_ev (h : IntoOk l4) (b : Int) : Ev (fun k => plnref3_Next.f k a0 a1 l2 a3 l4 b) (nextOf l4 b) := by
  have stop : ∀ y0 y1 y2 y3 y4 (y5 y6 : List Int), Ev (fun k => plnref3_Next.j0 k true a0 a1 l2 a3 l4 y0 y1 y2 y3 y4 y5 y6) [] := fun _ _ _ _ _ _ _ => Ev.step (fun k => by simp only [plnref3_Next.j0]; rw [if_pos trivial]) (Ev.now _)
  have none_ : plnref3_Last.f a0 a1 l2 a3 l4 b = some (0, 0, 0, 0, 0, [], [], false) → nextOf l4 b = [] → Ev (fun k => plnref3_Next.f k a0 a1 l2 a3 l4 b) (nextOf l4 b) := fun h1 h2 => by
    rw [h2]
    refine Ev.congr (fun k => by unfold plnref3_Next.f; rw [h1, Option.bind_some, if_neg (by decide)]) (stop _ _ _ _ _ _ _)
  by_cases c0 : b < 0
  · exact none_ (by unfold plnref3_Last.f; rw [if_pos c0]) (by unfold nextOf; rw [if_neg (fun h => by have := h.1; omega)])
  by_cases c1 : b ≥ (l4.length : Int)
  · exact none_ (by unfold plnref3_Last.f; rw [if_neg c0, if_pos c1]) (by unfold nextOf; rw [if_neg (fun h => by have := h.2.1; omega)])
  have b0 : 0 ≤ b := by omega
  have b1 : b < (l4.length : Int) := by omega
  obtain ⟨h2, h3⟩ := h.2 b b0 b1
  by_cases c2 : (rd_T54 l4 b).f0 = []
  · exact none_ (by unfold plnref3_Last.f; rw [if_neg c0, if_neg c1, if_pos b0, if_pos b1, if_pos (by rw [c2]; rfl)]) (by unfold nextOf; rw [if_neg (fun h => h.2.2.1 c2)])
  have hp : 0 < (rd_T54 l4 b).f0.length := List.length_pos_iff.2 c2
  have hw : wrap64 ((((rd_T54 l4 b).f0).length : Int) - 1) = ((rd_T54 l4 b).f0.length : Int) - 1 := wrap_in (by omega) (by omega)
  obtain ⟨h4, _⟩ := h3 (((rd_T54 l4 b).f0.length : Int) - 1) (by omega) (by omega)
  have hL : plnref3_Last.f a0 a1 l2 a3 l4 b = some ((lastI l4 b).f0, (lastI l4 b).f1, (lastI l4 b).f2, (lastI l4 b).f3, (lastI l4 b).f4, (lastI l4 b).f5, (lastI l4 b).f6, true) := by
    unfold plnref3_Last.f lastI
    rw [if_neg c0, if_neg c1, if_pos b0, if_pos b1, if_neg (by omega), hw, if_pos (by omega), if_pos (by omega)]
  refine Ev.congr (fun k => by unfold plnref3_Next.f; rw [hL, Option.bind_some, if_pos rfl]) ?_
  have run : Ev (fun k => plnref3_Next.l0 k [] 0 a0 a1 l2 a3 l4 (lastI l4 b).f0 (lastI l4 b).f1 (lastI l4 b).f2 (lastI l4 b).f3 (lastI l4 b).f4 (lastI l4 b).f5 (lastI l4 b).f6) ((lastI l4 b).f6.foldl (addTo l4.length) []) := by
    have := rnext_l0 (a0 := a0) (a1 := a1) (l2 := l2) (a3 := a3) (l4 := l4) (y0 := (lastI l4 b).f0) (y1 := (lastI l4 b).f1) (y2 := (lastI l4 b).f2) (y3 := (lastI l4 b).f3) (y4 := (lastI l4 b).f4) (y5 := (lastI l4 b).f5) (lastI l4 b).f6 h4 0 (by omega) [] (by simp)
    simpa using this
  by_cases c3 : (lastI l4 b).f0 = 27
  · have e : nextOf l4 b = (lastI l4 b).f6.foldl (addTo l4.length) [] := by unfold nextOf; rw [if_pos ⟨b0, b1, c2, .inl c3⟩]
    rw [e]
    simp only [if_pos c3]
    refine Ev.step (fun k => by simp only [plnref3_Next.j0]; rw [if_neg (by decide)]) ?_
    exact run
  · simp only [if_neg c3]
    by_cases c4 : (lastI l4 b).f0 = 28
    · have e : nextOf l4 b = (lastI l4 b).f6.foldl (addTo l4.length) [] := by unfold nextOf; rw [if_pos ⟨b0, b1, c2, .inr c4⟩]
      rw [e]
      have : ((lastI l4 b).f0 != 28) = false := by rw [c4]; rfl
      rw [this]
      refine Ev.step (fun k => by simp only [plnref3_Next.j0]; rw [if_neg (by decide)]) ?_
      exact run
    · have e : nextOf l4 b = [] := by unfold nextOf; rw [if_neg (fun h => h.2.2.2.elim c3 c4)]
      rw [e]
      have : ((lastI l4 b).f0 != 28) = true := by rw [bne_iff_ne]; exact c4
      rw [this]
      exact stop _ _ _ _ _ _ _
theorem rdL_set {xs : List (List Int)} {i j : Int} {x : List Int} (h0 : 0 ≤ i) (h1 : i < (xs.length : Int)) (hj : 0 ≤ j) : rd_L1 (xs.set i.toNat x) j = if i = j then x else rd_L1 xs j := by
  unfold rd_L1
  rw [List.getD_eq_getElem?_getD, List.getD_eq_getElem?_getD, List.getElem?_set]
  by_cases e : i = j
  · subst e
    have : i.toNat < xs.length := by omega
    simp [this]
  · have : ¬ i.toNat = j.toNat := by omega
    simp [e, this]
theorem rdL_replicate {n : Nat} {j : Int} : rd_L1 (List.replicate n []) j = [] := by
  simp only [rd_L1, List.getD_eq_getElem?_getD, List.getElem?_replicate]
  split <;> rfl
def PrevAt (l4 : List S54) (acc : List (List Int)) (i j : Int) : Prop :=
  acc.length = l4.length ∧ ∀ b : Int, 0 ≤ b → b < (l4.length : Int) →
    (∀ a, a ∈ rd_L1 acc b ↔ (0 ≤ a ∧ a < i ∧ b ∈ nextOf l4 a) ∨ (a = i ∧ ∃ q : Int, 0 ≤ q ∧ q < j ∧ q < ((nextOf l4 i).length : Int) ∧ rd (nextOf l4 i) q = b)) ∧
    ((rd_L1 acc b).length : Int) ≤ i + 1 ∧ ((¬ ∃ q : Int, 0 ≤ q ∧ q < j ∧ q < ((nextOf l4 i).length : Int) ∧ rd (nextOf l4 i) q = b) → ((rd_L1 acc b).length : Int) ≤ i)
def PrevIs (l4 : List S54) (r : List (List Int)) : Prop :=
  r.length = l4.length ∧ ∀ b : Int, 0 ≤ b → b < (l4.length : Int) → (∀ a, a ∈ rd_L1 r b ↔ 0 ≤ a ∧ a < (l4.length : Int) ∧ b ∈ nextOf l4 a) ∧ (rd_L1 r b).length ≤ l4.length
theorem rd_inj {x : List Int} (h : x.Nodup) {i j : Int} (i0 : 0 ≤ i) (i1 : i < (x.length : Int)) (j0 : 0 ≤ j) (j1 : j < (x.length : Int)) (e : rd x i = rd x j) : i = j := by
  have h1 := rd_eq i0 i1
  have h2 := rd_eq j0 j1
  rw [e] at h1
  have := (List.getElem?_inj (i := i.toNat) (j := j.toNat) (by omega) h).1 (h1.trans h2.symm)
  omega
theorem prevAt_put {acc : List (List Int)} {i j : Int} (h : PrevAt l4 acc i j) (i0 : 0 ≤ i) (j0 : 0 ≤ j) (j1 : j < ((nextOf l4 i).length : Int)) :
    PrevAt l4 (acc.set (rd (nextOf l4 i) j).toNat (rd_L1 acc (rd (nextOf l4 i) j) ++ [i])) i (j + 1) := by
  obtain ⟨hl, h⟩ := h
  obtain ⟨t0, t1⟩ := next_in (rd_mem j0 j1)
  have fresh : ¬ ∃ q : Int, 0 ≤ q ∧ q < j ∧ q < ((nextOf l4 i).length : Int) ∧ rd (nextOf l4 i) q = rd (nextOf l4 i) j := by
    rintro ⟨q, q0, q1, q2, e⟩
    have := rd_inj (next_nodup l4 i) q0 q2 j0 j1 e
    omega
  refine ⟨by simpa using hl, fun b b0 b1 => ?_⟩
  obtain ⟨k1, k2, k3⟩ := h b b0 b1
  rw [rdL_set t0 (by omega) b0]
  by_cases e : rd (nextOf l4 i) j = b
  · rw [if_pos e, e]
    rw [e] at fresh
    have k4 := k3 fresh
    refine ⟨fun a => ?_, by simp; omega, fun hn => absurd ⟨j, j0, by omega, j1, e⟩ hn⟩
    rw [List.mem_append, List.mem_singleton, k1 a]
    constructor
    · rintro ((h1 | ⟨_, h1⟩) | rfl)
      · exact .inl h1
      · exact absurd h1 fresh
      · exact .inr ⟨rfl, j, j0, by omega, j1, e⟩
    · rintro (h1 | ⟨rfl, _⟩)
      · exact .inl (.inl h1)
      · exact .inr rfl
  · rw [if_neg e]
    have iff_ : (∃ q : Int, 0 ≤ q ∧ q < j + 1 ∧ q < ((nextOf l4 i).length : Int) ∧ rd (nextOf l4 i) q = b) ↔ (∃ q : Int, 0 ≤ q ∧ q < j ∧ q < ((nextOf l4 i).length : Int) ∧ rd (nextOf l4 i) q = b) := by
      constructor
      · rintro ⟨q, q0, q1, q2, q3⟩
        refine ⟨q, q0, ?_, q2, q3⟩
        rcases Int.lt_or_eq_of_le (Int.le_of_lt_add_one q1) with hq | rfl
        · exact hq
        · exact absurd q3 e
      · rintro ⟨q, q0, q1, q2, q3⟩
        exact ⟨q, q0, by omega, q2, q3⟩
    rw [iff_]
    exact ⟨k1, k2, k3⟩
theorem prevAt_next {acc : List (List Int)} {i j : Int} (h : PrevAt l4 acc i j) (i0 : 0 ≤ i) (j1 : ((nextOf l4 i).length : Int) ≤ j) : PrevAt l4 acc (i + 1) 0 := by
  obtain ⟨hl, h⟩ := h
  refine ⟨hl, fun b b0 b1 => ?_⟩
  obtain ⟨k1, k2, k3⟩ := h b b0 b1
  refine ⟨fun a => ?_, by omega, fun _ => by omega⟩
  rw [k1 a]
  constructor
  · rintro (⟨a0, a1, a2⟩ | ⟨rfl, q, q0, q1, q2, q3⟩)
    · exact .inl ⟨a0, by omega, a2⟩
    · exact .inl ⟨i0, by omega, by rw [← q3]; exact rd_mem q0 q2⟩
  · rintro (⟨a0, a1, a2⟩ | ⟨_, q, q0, q1, _⟩)
    · rcases Int.lt_or_eq_of_le (Int.le_of_lt_add_one a1) with ha | rfl
      · exact .inl ⟨a0, ha, a2⟩
      · obtain ⟨q, q0, q1, q2⟩ := mem_rd a2
        exact .inr ⟨rfl, q, q0, by omega, q1, q2⟩
    · omega
theorem prev_ev (h : IntoOk l4) : ∃ r, Ev (fun k => flow_Prev.f k a0 a1 l2 a3 l4) r ∧ Ev (fun k => plnref3_Prev.f k a0 a1 l2 a3 l4) r ∧ PrevIs l4 r := by
  have hn := h.1
  have inner : ∀ i : Int, 0 ≤ i → i < (l4.length : Int) → (∀ acc, PrevAt l4 acc (i + 1) 0 → ∃ r, Ev (fun k => flow_Prev.l0 k acc l4.length (i + 1) a0 a1 l2 a3 l4) r ∧ Ev (fun k => plnref3_Prev.l0 k acc (i + 1) a0 a1 l2 a3 l4) r ∧ PrevIs l4 r) →
      ∀ j, 0 ≤ j → ∀ acc, PrevAt l4 acc i j → ∃ r, Ev (fun k => flow_Prev.l1 k acc i l4.length i (nextOf l4 i) (nextOf l4 i).length j a0 a1 l2 a3 l4) r ∧ Ev (fun k => plnref3_Prev.l1 k acc i (nextOf l4 i) j a0 a1 l2 a3 l4) r ∧ PrevIs l4 r := by
    intro i i0 i1 hrest
    refine up_to ((nextOf l4 i).length : Int) _ ?_ ?_
    · intro j hj acc hA
      obtain ⟨r, h1, h2, h3⟩ := hrest acc (prevAt_next hA i0 hj)
      refine ⟨r, Ev.step (fun k => by simp only [flow_Prev.l1]; rw [if_neg (by omega), wrap_in (by omega) (by omega)]) h1, Ev.step (fun k => by simp only [plnref3_Prev.l1]; rw [if_neg (by omega), wrap_in (by omega) (by omega)]) h2, h3⟩
    · intro j j0 j1 ih acc hA
      obtain ⟨t0, t1⟩ := next_in (rd_mem j0 j1)
      obtain ⟨r, h1, h2, h3⟩ := ih _ (prevAt_put hA i0 j0 j1)
      have hl := (hA.2 _ t0 t1).2.1
      have jm : ((nextOf l4 i).length : Int) ≤ 17592186043904 := by
        unfold nextOf
        split
        · rename_i hg
          obtain ⟨g0, g1, g2, _⟩ := hg
          have hp := List.length_pos_iff.2 g2
          obtain ⟨h4, _⟩ := (h.2 i i0 i1).2 (((rd_T54 l4 i).f0.length : Int) - 1) (by omega) (by omega)
          have := fold_len (n := l4.length) (x := (lastI l4 i).f6) (out := [])
          have h4' : (lastI l4 i).f6.length ≤ 17592186043904 := h4
          simp at this
          omega
        · simp
      refine ⟨r, Ev.step (fun k => by simp only [flow_Prev.l1]; rw [if_pos j1, if_pos j0, if_pos j1, if_pos t0, if_pos (by rw [hA.1]; exact t1), if_pos (by omega), wrap_in (by omega) (by omega)]) h1, Ev.step (fun k => by simp only [plnref3_Prev.l1]; rw [if_pos j1, if_pos j0, if_pos t0, if_pos (by rw [hA.1]; exact t1), if_pos (by omega), wrap_in (by omega) (by omega)]) h2, h3⟩
  have outer : ∀ i, 0 ≤ i → ∀ acc, PrevAt l4 acc i 0 → i ≤ (l4.length : Int) → ∃ r, Ev (fun k => flow_Prev.l0 k acc l4.length i a0 a1 l2 a3 l4) r ∧ Ev (fun k => plnref3_Prev.l0 k acc i a0 a1 l2 a3 l4) r ∧ PrevIs l4 r := by
    refine up_to (l4.length : Int) _ ?_ ?_
    · intro i hi acc hA hle
      obtain rfl : i = (l4.length : Int) := by omega
      refine ⟨acc, Ev.step (fun k => by simp only [flow_Prev.l0]; rw [if_neg (by omega)]) (Ev.now _), Ev.step (fun k => by simp only [plnref3_Prev.l0]; rw [if_neg (by omega)]) (Ev.now _), hA.1, fun b b0 b1 => ?_⟩
      obtain ⟨k1, _, k3⟩ := hA.2 b b0 b1
      refine ⟨fun a => ?_, by have := k3 (by rintro ⟨q, q0, q1, _⟩; omega); omega⟩
      rw [k1 a]
      constructor
      · rintro (hh | ⟨_, q, q0, q1, _⟩)
        · exact hh
        · omega
      · exact .inl
    · intro i i0 i1 ih acc hA _
      obtain ⟨r, h1, h2, h3⟩ := inner i i0 i1 (fun acc hA => ih acc hA (by omega)) 0 (by omega) acc hA
      exact ⟨r, Ev.step (fun k => by simp only [flow_Prev.l0]; rw [if_pos i1]) (Ev.bind (next_ev h i) h1), Ev.step (fun k => by simp only [plnref3_Prev.l0]; rw [if_pos i1]) (Ev.bind (rnext_ev h i) h2), h3⟩
  obtain ⟨r, h1, h2, h3⟩ := outer 0 (by omega) (List.replicate l4.length []) ⟨by simp, fun b b0 b1 => ⟨fun a => by rw [rdL_replicate]; exact ⟨(fun hh => by cases hh), fun hh => by rcases hh with ⟨_, _, _⟩ | ⟨_, q, q0, q1, _⟩ <;> omega⟩, by rw [rdL_replicate]; simp, fun _ => by rw [rdL_replicate]; simp⟩⟩ (by omega)
  refine ⟨r, Ev.congr (fun k => by unfold flow_Prev.f; rw [if_pos (by omega), if_pos (by simp; omega), Int.toNat_natCast]) h1, Ev.congr (fun k => by unfold plnref3_Prev.f; rw [if_pos (by omega), if_pos (by simp; omega), Int.toNat_natCast]) h2, h3⟩
end
end Go.Proofs.Ytkcimaibaicdcaa.Gr
end
section
namespace Go.Proofs.Ytkcimaibaicdcaa.Gr
open Go.RowKit Go.Proofs.YtkcimaibaicdcaaW.PrintWords Go.Proofs.Ytkcimaibaicdcaa.P
theorem rdb_eq {xs : List Bool} {i : Int} (h0 : 0 ≤ i) (h1 : i < (xs.length : Int)) : xs[i.toNat]? = some (rdOf false xs i) := by
  have : i.toNat < xs.length := by omega
  simp [rdOf, List.getD_eq_getElem?_getD, List.getElem?_eq_getElem this]
theorem count_set {xs : List Bool} {i : Int} (h0 : 0 ≤ i) (h1 : i < (xs.length : Int)) (h : rdOf false xs i = false) : (xs.set i.toNat true).count true = xs.count true + 1 := by
  have hl : i.toNat < xs.length := by omega
  have he := rdb_eq h0 h1
  rw [h, List.getElem?_eq_getElem hl] at he
  rw [List.count_set hl, Option.some.inj he]
  simp
theorem count_all {xs : List Bool} (h : xs.length ≤ xs.count true) : ∀ i : Int, 0 ≤ i → i < (xs.length : Int) → rdOf false xs i = true := by
  intro i h0 h1
  have hl : i.toNat < xs.length := by omega
  have h2 : xs.count true = xs.length := Nat.le_antisymm List.count_le_length h
  have := (List.count_eq_length.1 h2) _ (List.getElem_mem hl)
  have he := rdb_eq h0 h1
  rw [List.getElem?_eq_getElem hl, ← this] at he
  exact (Option.some.inj he).symm
structure Met (l4 : List S54) (start less : Int) (r : List Bool) : Prop where
  len : r.length = l4.length
  sound : ∀ v : Int, 0 ≤ v → v < (l4.length : Int) → rdOf false r v = true → Rc (nextOf l4) (· ≠ less) start v
  first : rdOf false r start = true
structure More (n : Nat) (r r' : List Bool) : Prop where
  keep : ∀ v : Int, 0 ≤ v → v < (n : Int) → rdOf false r v = true → rdOf false r' v = true
  cnt : r.count true ≤ r'.count true
section
variable {a0 : ByteArray} {a1 : Bool} {l2 : List Int} {a3 : Int} {l4 : List S54} {start less : Int}
theorem from_l2 (h : IntoOk l4) {b : Int} (b0 : 0 ≤ b) (b1 : b < (l4.length : Int)) : ∀ i, 0 ≤ i → ∀ (r : List Bool) (again : Bool), Met l4 start less r → rdOf false r b = true →
    ∃ r' again', (∀ q, Ev (fun k => plnref3_from.l1 k less r' again' (b + 1) a0 a1 l2 a3 l4) q → Ev (fun k => plnref3_from.l2 k less r again b (nextOf l4 b) i a0 a1 l2 a3 l4) q) ∧ Met l4 start less r' ∧ More l4.length r r' ∧
      (again' = true → again = true ∨ r.count true < r'.count true) ∧ (again' = false → again = false ∧ r' = r ∧ ∀ j, i ≤ j → j < ((nextOf l4 b).length : Int) → rd (nextOf l4 b) j = less ∨ rdOf false r (rd (nextOf l4 b) j) = true) := by
  have hn := h.1
  have jm : ((nextOf l4 b).length : Int) ≤ 17592186043904 := by
    unfold nextOf
    split
    · rename_i hg
      obtain ⟨g0, g1, g2, _⟩ := hg
      have hp := List.length_pos_iff.2 g2
      obtain ⟨h4, _⟩ := (h.2 b b0 b1).2 (((rd_T54 l4 b).f0.length : Int) - 1) (by omega) (by omega)
      have := fold_len (n := l4.length) (x := (lastI l4 b).f6) (out := [])
      have h4' : (lastI l4 b).f6.length ≤ 17592186043904 := h4
      simp at this
      omega
    · simp
  refine up_to ((nextOf l4 b).length : Int) _ ?_ ?_
  · intro i hi r again hM hb
    refine ⟨r, again, fun q hq => Ev.step (fun k => by simp only [plnref3_from.l2]; rw [if_neg (by omega), wrap_in (by omega) (by omega)]) hq, hM, ⟨fun _ _ _ hv => hv, Nat.le_refl _⟩, .inl, fun he => ⟨he, rfl, fun j j0 j1 => by omega⟩⟩
  · intro i i0 i1 ih r again hM hb
    obtain ⟨t0, t1⟩ := next_in (rd_mem i0 i1)
    have hlen := hM.len
    by_cases c1 : rd (nextOf l4 b) i = less
    · obtain ⟨r', again', k1, k2, k3, k4, k5⟩ := ih r again hM hb
      refine ⟨r', again', fun q hq => Ev.step (fun k => by simp only [plnref3_from.l2]; rw [if_pos i1, if_pos i0, if_pos c1, wrap_in (by omega) (by omega)]) (k1 q hq), k2, k3, k4, fun he => ?_⟩
      obtain ⟨m1, m2, m3⟩ := k5 he
      refine ⟨m1, m2, fun j j0 j1 => ?_⟩
      rcases Int.lt_or_eq_of_le j0 with hj | rfl
      · exact m3 j (by omega) j1
      · exact .inl c1
    · by_cases c2 : rdOf false r (rd (nextOf l4 b) i) = true
      · obtain ⟨r', again', k1, k2, k3, k4, k5⟩ := ih r again hM hb
        refine ⟨r', again', fun q hq => Ev.step (fun k => by simp only [plnref3_from.l2]; rw [if_pos i1, if_pos i0, if_neg c1, if_pos t0, if_pos (by omega), if_pos c2, wrap_in (by omega) (by omega)]) (k1 q hq), k2, k3, k4, fun he => ?_⟩
        obtain ⟨m1, m2, m3⟩ := k5 he
        refine ⟨m1, m2, fun j j0 j1 => ?_⟩
        rcases Int.lt_or_eq_of_le j0 with hj | rfl
        · exact m3 j (by omega) j1
        · exact .inr c2
      · have c2' : rdOf false r (rd (nextOf l4 b) i) = false := by simpa using c2
        have hs : ∀ v : Int, 0 ≤ v → rdOf false (r.set (rd (nextOf l4 b) i).toNat true) v = if rd (nextOf l4 b) i = v then true else rdOf false r v := fun v v0 => rdb_set t0 (by omega) v0
        have hM' : Met l4 start less (r.set (rd (nextOf l4 b) i).toNat true) := by
          refine ⟨by simpa using hM.len, fun v v0 v1 hv => ?_, ?_⟩
          · rw [hs v v0] at hv
            by_cases e : rd (nextOf l4 b) i = v
            · subst e
              exact .step (hM.sound b b0 b1 hb) (rd_mem i0 i1) c1
            · rw [if_neg e] at hv
              exact hM.sound v v0 v1 hv
          · by_cases s0 : 0 ≤ start
            · rw [hs start s0]; split
              · rfl
              · exact hM.first
            · have e0 : start.toNat = 0 := by omega
              have := hM.first
              unfold rdOf at this ⊢
              rw [e0] at this ⊢
              rw [List.getD_eq_getElem?_getD] at this ⊢
              rw [List.getElem?_set]
              split
              · split
                · rfl
                · rename_i hh _
                  exact absurd (by omega : 0 < r.length) (by omega)
              · exact this
        have hb' : rdOf false (r.set (rd (nextOf l4 b) i).toNat true) b = true := by rw [hs b b0]; split <;> first | rfl | exact hb
        have hc := count_set t0 (by omega) c2'
        obtain ⟨r', again', k1, k2, k3, k4, k5⟩ := ih _ true hM' hb'
        refine ⟨r', again', fun q hq => Ev.step (fun k => by simp only [plnref3_from.l2]; rw [if_pos i1, if_pos i0, if_neg c1, if_pos t0, if_pos (by omega), if_neg c2, wrap_in (by omega) (by omega)]) (k1 q hq), k2, ⟨fun v v0 v1 hv => k3.keep v v0 v1 (by rw [hs v v0]; split <;> first | rfl | exact hv), by have := k3.cnt; omega⟩, fun _ => .inr (by have := k3.cnt; omega), fun he => ?_⟩
        exact absurd (k5 he).1 (by simp)
theorem from_l1 (h : IntoOk l4) : ∀ b, 0 ≤ b → ∀ (r : List Bool) (again : Bool), Met l4 start less r →
    ∃ r' again', (∀ q, Ev (fun k => plnref3_from.l0 k less r' again' a0 a1 l2 a3 l4) q → Ev (fun k => plnref3_from.l1 k less r again b a0 a1 l2 a3 l4) q) ∧ Met l4 start less r' ∧ More l4.length r r' ∧
      (again' = true → again = true ∨ r.count true < r'.count true) ∧ (again' = false → again = false ∧ r' = r ∧ ∀ c, b ≤ c → c < (l4.length : Int) → rdOf false r c = true → ∀ v ∈ nextOf l4 c, v = less ∨ rdOf false r v = true) := by
  have hn := h.1
  refine up_to (l4.length : Int) _ ?_ ?_
  · intro b hb r again hM
    have hlen := hM.len
    exact ⟨r, again, fun q hq => Ev.step (fun k => by simp only [plnref3_from.l1]; rw [if_neg (by omega)]) hq, hM, ⟨fun _ _ _ hv => hv, Nat.le_refl _⟩, .inl, fun he => ⟨he, rfl, fun c c0 c1 => by omega⟩⟩
  · intro b b0 b1 ih r again hM
    have hlen := hM.len
    by_cases c1 : rdOf false r b = true
    · obtain ⟨r1, again1, k1, k2, k3, k4, k5⟩ := from_l2 (a0 := a0) (a1 := a1) (l2 := l2) (a3 := a3) (start := start) (less := less) h b0 b1 0 (by omega) r again hM c1
      obtain ⟨r2, again2, m1, m2, m3, m4, m5⟩ := ih r1 again1 k2
      refine ⟨r2, again2, fun q hq => Ev.step (fun k => by simp only [plnref3_from.l1]; rw [if_pos (by omega), if_pos b0, if_pos c1]) (Ev.bind (rnext_ev h b) (k1 q (m1 q hq))), m2, ⟨fun v v0 v1 hv => m3.keep v v0 v1 (k3.keep v v0 v1 hv), Nat.le_trans k3.cnt m3.cnt⟩, fun he => ?_, fun he => ?_⟩
      · rcases m4 he with e | e
        · rcases k4 e with e | e
          · exact .inl e
          · exact .inr (Nat.lt_of_lt_of_le e m3.cnt)
        · exact .inr (Nat.lt_of_le_of_lt k3.cnt e)
      · obtain ⟨e1, rfl, e3⟩ := m5 he
        obtain ⟨f1, rfl, f3⟩ := k5 e1
        refine ⟨f1, rfl, fun c c0 cl hc v hv => ?_⟩
        rcases Int.lt_or_eq_of_le c0 with hlt | rfl
        · exact e3 c (by omega) cl hc v hv
        · obtain ⟨j, j0, j1, rfl⟩ := mem_rd hv
          exact f3 j j0 j1
    · obtain ⟨r2, again2, m1, m2, m3, m4, m5⟩ := ih r again hM
      refine ⟨r2, again2, fun q hq => Ev.step (fun k => by simp only [plnref3_from.l1]; rw [if_pos (by omega), if_pos b0, if_neg c1, wrap_in (by omega) (by omega)]) (m1 q hq), m2, m3, m4, fun he => ?_⟩
      obtain ⟨e1, e2, e3⟩ := m5 he
      refine ⟨e1, e2, fun c c0 cl hc v hv => ?_⟩
      rcases Int.lt_or_eq_of_le c0 with hlt | rfl
      · exact e3 c (by omega) cl hc v hv
      · exact absurd hc c1
theorem from_l0 (h : IntoOk l4) : ∀ (d : Nat) (r : List Bool), l4.length - r.count true ≤ d → Met l4 start less r →
    ∃ r', Ev (fun k => plnref3_from.l0 k less r true a0 a1 l2 a3 l4) r' ∧ Met l4 start less r' ∧ ∀ c : Int, 0 ≤ c → c < (l4.length : Int) → rdOf false r' c = true → ∀ v ∈ nextOf l4 c, v = less ∨ rdOf false r' v = true := by
  intro d
  induction d with
  | zero =>
    intro r hd hM
    have hall := count_all (xs := r) (by have := hM.len; omega)
    have hlen := hM.len
    obtain ⟨r', again', k1, k2, k3, k4, k5⟩ := from_l1 (a0 := a0) (a1 := a1) (l2 := l2) (a3 := a3) (start := start) (less := less) h 0 (by omega) r false hM
    cases again' with
    | true =>
      rcases k4 rfl with e | e
      · cases e
      · have := List.count_le_length (l := r') (a := true)
        have := k2.len
        omega
    | false =>
      obtain ⟨_, rfl, e3⟩ := k5 rfl
      exact ⟨r', Ev.step (fun k => by simp only [plnref3_from.l0]; rw [if_pos trivial]) (k1 _ (Ev.step (fun k => by simp only [plnref3_from.l0]; rw [if_neg (by decide)]) (Ev.now _))), k2, fun c c0 c1 => e3 c c0 c1⟩
  | succ d ih =>
    intro r hd hM
    obtain ⟨r', again', k1, k2, k3, k4, k5⟩ := from_l1 (a0 := a0) (a1 := a1) (l2 := l2) (a3 := a3) (start := start) (less := less) h 0 (by omega) r false hM
    cases again' with
    | true =>
      rcases k4 rfl with e | e
      · cases e
      · obtain ⟨r2, m1, m2, m3⟩ := ih r' (by omega) k2
        exact ⟨r2, Ev.step (fun k => by simp only [plnref3_from.l0]; rw [if_pos trivial]) (k1 _ m1), m2, m3⟩
    | false =>
      obtain ⟨_, rfl, e3⟩ := k5 rfl
      exact ⟨r', Ev.step (fun k => by simp only [plnref3_from.l0]; rw [if_pos trivial]) (k1 _ (Ev.step (fun k => by simp only [plnref3_from.l0]; rw [if_neg (by decide)]) (Ev.now _))), k2, fun c c0 c1 => e3 c c0 c1⟩
def FromIs (l4 : List S54) (start less : Int) (r : List Bool) : Prop :=
  r.length = l4.length ∧ ∀ v : Int, 0 ≤ v → v < (l4.length : Int) → (rdOf false r v = true ↔ 0 ≤ start ∧ start < (l4.length : Int) ∧ Rc (nextOf l4) (· ≠ less) start v)
theorem from_ev (h : IntoOk l4) (start less : Int) : ∃ r, Ev (fun k => plnref3_from.f k a0 a1 l2 a3 l4 start less) r ∧ FromIs l4 start less r := by
  have hn := h.1
  have stop : ¬ (0 ≤ start ∧ start < (l4.length : Int) ∧ start ≠ less) → FromIs l4 start less (List.replicate l4.length false) := fun hno => by
    refine ⟨by simp, fun v _ _ => ?_⟩
    rw [rdb_replicate]
    constructor
    · intro e; cases e
    · rintro ⟨s0, s1, hr⟩
      exact absurd ⟨s0, s1, hr.left⟩ hno
  have j0t : ∀ r : List Bool, Ev (fun k => plnref3_from.j0 k start less r true a0 a1 l2 a3 l4) r := fun r => Ev.step (fun k => by simp only [plnref3_from.j0]; rw [if_pos trivial]) (Ev.now _)
  have open_ : ∀ r, Ev (fun k => if start < 0 then plnref3_from.j0 k start less (List.replicate l4.length false) true a0 a1 l2 a3 l4 else if start ≥ ((List.replicate l4.length false).length : Int) then plnref3_from.j0 k start less (List.replicate l4.length false) true a0 a1 l2 a3 l4 else plnref3_from.j0 k start less (List.replicate l4.length false) (start == less) a0 a1 l2 a3 l4) r →
      Ev (fun k => plnref3_from.f k a0 a1 l2 a3 l4 start less) r := fun r hr => Ev.congr (fun k => by unfold plnref3_from.f; rw [if_pos (by omega), if_pos (by simp; omega), Int.toNat_natCast, Option.bind_some]) hr
  by_cases c0 : start < 0
  · exact ⟨_, open_ _ (by simp only [if_pos c0]; exact j0t _), stop (by omega)⟩
  by_cases c1 : start ≥ ((List.replicate l4.length false).length : Int)
  · exact ⟨_, open_ _ (by simp only [if_neg c0, if_pos c1]; exact j0t _), stop (by simp at c1; omega)⟩
  by_cases c2 : start = less
  · refine ⟨_, open_ _ (by simp only [if_neg c0, if_neg c1]; rw [beq_iff_eq.2 c2]; exact j0t _), stop (fun hh => hh.2.2 c2)⟩
  have s0 : 0 ≤ start := by omega
  have s1 : start < (l4.length : Int) := by simp at c1; exact c1
  have hs : ∀ v : Int, 0 ≤ v → rdOf false ((List.replicate l4.length false).set start.toNat true) v = if start = v then true else false := fun v v0 => by rw [rdb_set s0 (by simp; exact s1) v0, rdb_replicate]
  have hM : Met l4 start less ((List.replicate l4.length false).set start.toNat true) := by
    refine ⟨by simp, fun v v0 v1 hv => ?_, by rw [hs start s0, if_pos rfl]⟩
    rw [hs v v0] at hv
    by_cases e : start = v
    · subst e; exact .refl c2
    · rw [if_neg e] at hv; cases hv
  obtain ⟨r, k1, k2, k3⟩ := from_l0 (a0 := a0) (a1 := a1) (l2 := l2) (a3 := a3) (start := start) (less := less) h _ _ (Nat.le_refl _) hM
  refine ⟨r, open_ _ ?_, k2.len, fun v v0 v1 => ⟨fun hv => ⟨s0, s1, k2.sound v v0 v1 hv⟩, fun ⟨_, _, hr⟩ => ?_⟩⟩
  · simp only [if_neg c0, if_neg c1]
    rw [beq_eq_false_iff_ne.2 c2]
    exact Ev.step (fun k => by simp only [plnref3_from.j0]; rw [if_neg (by decide), if_pos s0, if_pos (by simp; exact s1)]) k1
  · refine (hr.closed (S := fun x => 0 ≤ x ∧ x < (l4.length : Int) ∧ rdOf false r x = true) ⟨s0, s1, k2.first⟩ fun x ⟨x0, x1, hx⟩ y hy hP => ?_).2.2
    obtain ⟨y0, y1⟩ := next_in hy
    exact ⟨y0, y1, (k3 x x0 x1 hx y hy).resolve_left hP⟩
theorem from_is_unique {start less : Int} {r r' : List Bool} (h : FromIs l4 start less r) (h' : FromIs l4 start less r') : r = r' := by
  refine bools_ext (h.1.trans h'.1.symm) fun i i0 i1 => ?_
  have e1 := h.2 i i0 (by rw [← h.1]; exact i1)
  have e2 := h'.2 i i0 (by rw [← h.1]; exact i1)
  rw [Bool.eq_iff_iff, e1, e2]
theorem reach_ev (h : IntoOk l4) : ∃ r, Ev (fun k => plnref3_Reach.f k a0 a1 l2 a3 l4) r ∧ FromIs l4 0 (-1) r := by
  obtain ⟨r, h1, h2⟩ := from_ev (a0 := a0) (a1 := a1) (l2 := l2) (a3 := a3) h 0 (-1)
  exact ⟨r, by unfold plnref3_Reach.f; exact Ev.bind h1 (Ev.now _), h2⟩
end
end Go.Proofs.Ytkcimaibaicdcaa.Gr
end
