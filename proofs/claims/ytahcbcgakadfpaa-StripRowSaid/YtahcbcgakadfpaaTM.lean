import Derived.Test.YtahcbcgakadfpaaTL
/-! Plain lists and graphs: what the laws of flow and dom need; no program in sight. -/
namespace Go.Tm
def rdOf {α : Type} (z : α) (l : List α) (i : Int) : α := l.getD i.toNat z
def rd (l : List Int) (i : Int) : Int := l.getD i.toNat 0
/-! ### rd, wrap64 -/
theorem wrap_in {i : Int} (h0 : -9223372036854775808 ≤ i) (h1 : i ≤ 9223372036854775807) : IntKind.i64.wrap i = i := by rw [IntKind.wrap_i64]; omega
theorem rd_eq {xs : List Int} {i : Int} (h0 : 0 ≤ i) (h1 : i < (xs.length : Int)) : xs[i.toNat]? = some (rd xs i) := by
  have : i.toNat < xs.length := by omega
  simp [rd, List.getD_eq_getElem?_getD, List.getElem?_eq_getElem this]
theorem rd_mem {xs : List Int} {i : Int} (h0 : 0 ≤ i) (h1 : i < (xs.length : Int)) : rd xs i ∈ xs := List.mem_of_getElem? (rd_eq h0 h1)
theorem mem_rd {xs : List Int} {v : Int} (h : v ∈ xs) : ∃ i : Int, 0 ≤ i ∧ i < (xs.length : Int) ∧ rd xs i = v := by
  obtain ⟨i, hi, rfl⟩ := List.mem_iff_getElem.1 h
  refine ⟨(i : Int), by omega, by omega, ?_⟩
  have := rd_eq (xs := xs) (i := (i : Int)) (by omega) (by omega)
  simp [List.getElem?_eq_getElem hi] at this
  exact this.symm
theorem rd_set {xs : List Int} {i j x : Int} (h0 : 0 ≤ i) (h1 : i < (xs.length : Int)) (hj : 0 ≤ j) : rd (xs.set i.toNat x) j = if i = j then x else rd xs j := by
  unfold rd
  rw [List.getD_eq_getElem?_getD, List.getD_eq_getElem?_getD, List.getElem?_set]
  by_cases e : i = j
  · subst e
    have : i.toNat < xs.length := by omega
    simp [this]
  · have : ¬ i.toNat = j.toNat := by omega
    simp [e, this]
theorem rdb_set {xs : List Bool} {i j : Int} {x : Bool} (h0 : 0 ≤ i) (h1 : i < (xs.length : Int)) (hj : 0 ≤ j) : rdOf false (xs.set i.toNat x) j = if i = j then x else rdOf false xs j := by
  unfold rdOf
  rw [List.getD_eq_getElem?_getD, List.getD_eq_getElem?_getD, List.getElem?_set]
  by_cases e : i = j
  · subst e
    have : i.toNat < xs.length := by omega
    simp [this]
  · have : ¬ i.toNat = j.toNat := by omega
    simp [e, this]
theorem rd_replicate {n : Nat} {x j : Int} (h0 : 0 ≤ j) (h1 : j < (n : Int)) : rd (List.replicate n x) j = x := by
  have : j.toNat < n := by omega
  simp [rd, List.getD_eq_getElem?_getD, this]
theorem rdb_replicate {n : Nat} {j : Int} : rdOf false (List.replicate n false) j = false := by
  simp only [rdOf, List.getD_eq_getElem?_getD, List.getElem?_replicate]
  split <;> rfl
theorem bools_ext {xs ys : List Bool} (hl : xs.length = ys.length) (h : ∀ i : Int, 0 ≤ i → i < (xs.length : Int) → rdOf false xs i = rdOf false ys i) : xs = ys := by
  refine List.ext_getElem hl fun i h1 h2 => ?_
  have := h (i : Int) (by omega) (by omega)
  simpa [rdOf, List.getD_eq_getElem?_getD, List.getElem?_eq_getElem h1, List.getElem?_eq_getElem h2] using this
theorem idxOf_snoc_mem {l : List Int} {v b : Int} (h : v ∈ l) : (l ++ [b]).idxOf v = l.idxOf v := by rw [List.idxOf_append]; simp [h]
theorem idxOf_snoc_new {l : List Int} {b : Int} (h : b ∉ l) : (l ++ [b]).idxOf b = l.length := by rw [List.idxOf_append]; simp [h]
/-! ### ways -/
/-- v is met from u, by ways over vertices that are allowed. -/
inductive Rc (N : Int → List Int) (P : Int → Prop) : Int → Int → Prop
  | refl {u : Int} : P u → Rc N P u u
  | step {u v w : Int} : Rc N P u v → w ∈ N v → P w → Rc N P u w
section
variable {N : Int → List Int} {P : Int → Prop} {u v w : Int}
theorem Rc.left (h : Rc N P u v) : P u := by induction h with | refl h => exact h | step _ _ _ ih => exact ih
theorem Rc.right (h : Rc N P u v) : P v := by cases h with | refl h => exact h | step _ _ h => exact h
theorem Rc.trans (h : Rc N P u v) (k : Rc N P v w) : Rc N P u w := by
  induction k with
  | refl _ => exact h
  | step _ h1 h2 ih => exact .step ih h1 h2
theorem Rc.cons (hu : P u) (hv : v ∈ N u) (k : Rc N P v w) : Rc N P u w := Rc.trans (.step (.refl hu) hv k.left) k
theorem Rc.mono {P' : Int → Prop} (h : Rc N P u v) (hP : ∀ x, P x → P' x) : Rc N P' u v := by
  induction h with
  | refl h => exact .refl (hP _ h)
  | step _ h1 h2 ih => exact .step ih h1 (hP _ h2)
theorem Rc.closed (h : Rc N P u v) {S : Int → Prop} (hu : S u) (hS : ∀ x, S x → ∀ y ∈ N x, P y → S y) : S v := by
  induction h with
  | refl _ => exact hu
  | step _ h1 h2 ih => exact hS _ ih _ h1 h2
/-- One that is met by ways over other ones, but not without b, is met through b. -/
theorem Rc.through (h : Rc N (fun _ => True) u v) (b : Int) : Rc N (· ≠ b) u v ∨ (Rc N (fun _ => True) u b ∧ Rc N (fun _ => True) b v) := by
  induction h with
  | refl _ =>
    by_cases e : u = b
    · subst e; exact .inr ⟨.refl trivial, .refl trivial⟩
    · exact .inl (.refl e)
  | @step v w h1 h2 _ ih =>
    rcases ih with ih | ⟨i1, i2⟩
    · by_cases e : w = b
      · subst e; exact .inr ⟨.step h1 h2 trivial, .refl trivial⟩
      · exact .inl (.step ih h2 e)
    · exact .inr ⟨i1, .step i2 h2 trivial⟩
end
/-! ### depth first: states 0 (not come to), 1 (under way), 2 (done) -/
/-- What holds of states, the done ones in order, and the flag. -/
structure Dfs (N : Int → List Int) (n : Nat) (root : Int) (ls lo : List Int) (lp : Bool) : Prop where
  len : ls.length = n
  three : ∀ v : Int, 0 ≤ v → v < n → rd ls v = 0 ∨ rd ls v = 1 ∨ rd ls v = 2
  nodup : lo.Nodup
  size : lo.length = ls.count 2
  mem : ∀ v, v ∈ lo ↔ 0 ≤ v ∧ v < n ∧ rd ls v = 2
  shut : ∀ v ∈ lo, ∀ w ∈ N v, rd ls w ≠ 0
  fore : lp = false → ∀ v ∈ lo, ∀ w ∈ N v, w ∈ lo ∧ lo.idxOf w < lo.idxOf v
  tree : ∀ v ∈ lo, v = root ∨ ∃ p : Int, 0 ≤ p ∧ p < n ∧ v ∈ N p ∧ (rd ls p = 1 ∨ p ∈ lo ∧ lo.idxOf v < lo.idxOf p)
  met : ∀ v : Int, 0 ≤ v → v < n → rd ls v ≠ 0 → Rc N (fun _ => True) root v
  round : lp = true → ∃ u w, Rc N (fun _ => True) root u ∧ w ∈ N u ∧ Rc N (fun _ => True) w u
/-- What a visit leaves. -/
structure Went (n : Nat) (ls lo ls' lo' : List Int) (lp lp' : Bool) : Prop where
  keep : ∀ v : Int, 0 ≤ v → v < n → rd ls v ≠ 0 → rd ls' v = rd ls v
  grey : ∀ v : Int, 0 ≤ v → v < n → rd ls' v = 1 → rd ls v = 1
  more : ∃ t, lo' = lo ++ t
  flag : lp = true → lp' = true
  zero : ls'.count 0 ≤ ls.count 0
theorem Went.refl (n : Nat) (ls lo : List Int) (lp : Bool) : Went n ls lo ls lo lp lp := ⟨fun _ _ _ _ => rfl, fun _ _ _ h => h, ⟨[], by simp⟩, id, Nat.le_refl _⟩
theorem Went.trans {n : Nat} {ls lo ls1 lo1 ls2 lo2 : List Int} {lp lp1 lp2 : Bool} (h : Went n ls lo ls1 lo1 lp lp1) (k : Went n ls1 lo1 ls2 lo2 lp1 lp2) : Went n ls lo ls2 lo2 lp lp2 := by
  obtain ⟨t, rfl⟩ := h.more
  obtain ⟨t', rfl⟩ := k.more
  exact ⟨fun v h0 h1 hv => by have e := h.keep v h0 h1 hv; rw [k.keep v h0 h1 (by rw [e]; exact hv), e], fun v h0 h1 hv => h.grey v h0 h1 (k.grey v h0 h1 hv), ⟨t ++ t', by simp⟩, fun e => k.flag (h.flag e), Nat.le_trans k.zero h.zero⟩
theorem count_put {xs : List Int} {i x y : Int} (h0 : 0 ≤ i) (h1 : i < (xs.length : Int)) : (xs.set i.toNat x).count y + (if rd xs i = y then 1 else 0) = xs.count y + (if x = y then 1 else 0) := by
  have hl : i.toNat < xs.length := by omega
  have he := rd_eq h0 h1
  rw [List.getElem?_eq_getElem hl] at he
  rw [List.count_set hl, Option.some.inj he]
  by_cases e : rd xs i = y
  · have hp : 0 < xs.count y := List.count_pos_iff.2 (e ▸ rd_mem h0 h1)
    simp [e]
    split <;> omega
  · simp [e]
section
variable {N : Int → List Int} {n : Nat} {root b : Int} {ls lo : List Int} {lp : Bool}
/-- b is under way now. -/
theorem Dfs.enter (h : Dfs N n root ls lo lp) (h0 : 0 ≤ b) (h1 : b < n) (hb : rd ls b = 0) (hr : Rc N (fun _ => True) root b) :
    Dfs N n root (ls.set b.toNat 1) lo lp := by
  have hl : b < (ls.length : Int) := by rw [h.len]; exact h1
  have rs : ∀ v : Int, 0 ≤ v → rd (ls.set b.toNat 1) v = if b = v then 1 else rd ls v := fun v hv => rd_set h0 hl hv
  refine ⟨by simp [h.len], fun v v0 v1 => ?_, h.nodup, by have := count_put (x := 1) (y := 2) h0 hl; rw [hb] at this; have := h.size; simp at *; omega, fun v => ?_, fun v hv w hw => ?_, h.fore, fun v hv => ?_, fun v v0 v1 hv => ?_, h.round⟩
  · rw [rs v v0]; split
    · exact .inr (.inl rfl)
    · exact h.three v v0 v1
  · rw [h.mem v]
    constructor
    · rintro ⟨v0, v1, v2⟩
      refine ⟨v0, v1, ?_⟩
      rw [rs v v0, if_neg (by rintro rfl; omega)]; exact v2
    · rintro ⟨v0, v1, v2⟩
      refine ⟨v0, v1, ?_⟩
      rw [rs v v0] at v2
      split at v2
      · omega
      · exact v2
  · have := h.shut v hv w hw
    by_cases w0 : 0 ≤ w
    · rw [rs w w0]; split
      · omega
      · exact this
    · intro e
      apply this
      have : w.toNat = 0 := by omega
      unfold rd at e ⊢
      rw [this] at e ⊢
      rw [List.getD_eq_getElem?_getD, List.getElem?_set] at e
      rw [List.getD_eq_getElem?_getD]
      by_cases eb : b.toNat = 0
      · rw [if_pos eb] at e; split at e <;> simp at e; omega
      · rw [if_neg eb] at e; exact e
  · rcases h.tree v hv with e | ⟨p, p0, p1, pv, hp⟩
    · exact .inl e
    · refine .inr ⟨p, p0, p1, pv, ?_⟩
      rcases hp with hp | hp
      · left; rw [rs p p0]; split
        · rfl
        · exact hp
      · exact .inr hp
  · rw [rs v v0] at hv
    by_cases e : b = v
    · subst e; exact hr
    · rw [if_neg e] at hv; exact h.met v v0 v1 hv
/-- b is done. -/
theorem Dfs.leave (h : Dfs N n root ls lo lp) (h0 : 0 ≤ b) (h1 : b < n) (hb : rd ls b = 1) (hin : ∀ w ∈ N b, 0 ≤ w ∧ w < n ∧ rd ls w ≠ 0 ∧ (lp = false → w ∈ lo))
    (htree : b = root ∨ ∃ p : Int, 0 ≤ p ∧ p < n ∧ b ∈ N p ∧ p ≠ b ∧ rd ls p = 1) : Dfs N n root (ls.set b.toNat 2) (lo ++ [b]) lp := by
  have hl : b < (ls.length : Int) := by rw [h.len]; exact h1
  have rs : ∀ v : Int, 0 ≤ v → rd (ls.set b.toNat 2) v = if b = v then 2 else rd ls v := fun v hv => rd_set h0 hl hv
  have hbn : b ∉ lo := fun hm => by have := ((h.mem b).1 hm).2.2; omega
  have ne : ∀ w, 0 ≤ w → rd ls w ≠ 0 → rd (ls.set b.toNat 2) w ≠ 0 := fun w w0 hw => by
    rw [rs w w0]; split
    · omega
    · exact hw
  refine ⟨by simp [h.len], fun v v0 v1 => ?_, ?_, by have := count_put (x := 2) (y := 2) h0 hl; rw [hb] at this; have := h.size; simp at *; omega, fun v => ?_, fun v hv w hw => ?_, fun hf v hv w hw => ?_, fun v hv => ?_, fun v v0 v1 hv => ?_, h.round⟩
  · rw [rs v v0]; split
    · exact .inr (.inr rfl)
    · exact h.three v v0 v1
  · rw [List.nodup_append]
    exact ⟨h.nodup, by simp, fun x hx y hy => by simp at hy; subst hy; rintro rfl; exact hbn hx⟩
  · rw [List.mem_append, List.mem_singleton, h.mem v]
    constructor
    · rintro (⟨v0, v1, v2⟩ | rfl)
      · refine ⟨v0, v1, ?_⟩
        rw [rs v v0]; split
        · rfl
        · exact v2
      · exact ⟨h0, h1, by rw [rs v h0, if_pos rfl]⟩
    · rintro ⟨v0, v1, v2⟩
      rw [rs v v0] at v2
      by_cases e : b = v
      · exact .inr e.symm
      · rw [if_neg e] at v2; exact .inl ⟨v0, v1, v2⟩
  · rcases List.mem_append.1 hv with hv | hv
    · by_cases w0 : 0 ≤ w
      · exact ne w w0 (h.shut v hv w hw)
      · have := h.shut v hv w hw
        intro e
        apply this
        have : w.toNat = 0 := by omega
        unfold rd at e ⊢
        rw [this] at e ⊢
        rw [List.getD_eq_getElem?_getD, List.getElem?_set] at e
        rw [List.getD_eq_getElem?_getD]
        by_cases eb : b.toNat = 0
        · rw [if_pos eb] at e; split at e <;> simp at e; omega
        · rw [if_neg eb] at e; exact e
    · obtain rfl := List.mem_singleton.1 hv
      obtain ⟨w0, _, w2, _⟩ := hin w hw
      exact ne w w0 w2
  · rcases List.mem_append.1 hv with hv | hv
    · obtain ⟨m1, m2⟩ := h.fore hf v hv w hw
      exact ⟨List.mem_append_left _ m1, by rw [idxOf_snoc_mem m1, idxOf_snoc_mem hv]; exact m2⟩
    · obtain rfl := List.mem_singleton.1 hv
      obtain ⟨_, _, _, w3⟩ := hin w hw
      have := w3 hf
      exact ⟨List.mem_append_left _ this, by rw [idxOf_snoc_mem this, idxOf_snoc_new hbn]; exact List.idxOf_lt_length_iff.2 this⟩
  · rcases List.mem_append.1 hv with hm | hv
    · rcases h.tree v hm with e | ⟨p, p0, p1, pv, hp⟩
      · exact .inl e
      · refine .inr ⟨p, p0, p1, pv, ?_⟩
        by_cases e : p = b
        · subst e
          exact .inr ⟨by simp, by rw [idxOf_snoc_mem hm, idxOf_snoc_new hbn]; exact List.idxOf_lt_length_iff.2 hm⟩
        · rcases hp with hp | ⟨hp, hi⟩
          · left; rw [rs p p0, if_neg (Ne.symm e)]; exact hp
          · exact .inr ⟨List.mem_append_left _ hp, by rw [idxOf_snoc_mem hm, idxOf_snoc_mem hp]; exact hi⟩
    · obtain rfl := List.mem_singleton.1 hv
      rcases htree with e | ⟨p, p0, p1, pv, pn, hp⟩
      · exact .inl e
      · exact .inr ⟨p, p0, p1, pv, .inl (by rw [rs p p0, if_neg (Ne.symm pn)]; exact hp)⟩
  · rw [rs v v0] at hv
    by_cases e : b = v
    · subst e; exact h.met b h0 h1 (by omega)
    · rw [if_neg e] at hv; exact h.met v v0 v1 hv
theorem Dfs.turn (h : Dfs N n root ls lo lp) {u w : Int} (hr : Rc N (fun _ => True) root u) (hw : w ∈ N u) (hc : Rc N (fun _ => True) w u) : Dfs N n root ls lo true :=
  ⟨h.len, h.three, h.nodup, h.size, h.mem, h.shut, (fun e => by cases e), h.tree, h.met, fun _ => ⟨u, w, hr, hw, hc⟩⟩
end
end Go.Tm
