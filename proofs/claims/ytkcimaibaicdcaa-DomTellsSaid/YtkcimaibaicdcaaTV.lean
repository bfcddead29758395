import Derived.Test.YtkcimaibaicdcaaTU
namespace Go.Tm
/-- One more behind the row j: what appending answers, and the rows behind the store. -/
theorem Rows.append' {h : Heap} {r : Nat} {cells : List C} {acc : List (List Int)} (H : Rows h r cells acc) {j : Nat} (hj : j < acc.length) (v : Int) (hn : (acc.getD j []).length < maxRow) :
    ∃ c c' h', cells[j]? = some c ∧ appendTo (h ++ [.row 1 [int v]]) none 1 1 [int v] c = some (c', h') ∧ h'[r]? = some (.row 1 cells) ∧ c'.cells = [c'] ∧ c'.isCell = true ∧ j < cells.length ∧
      Rows (h'.set r (.row 1 (cells.set j c'))) r (cells.set j c') (acc.set j (acc.getD j [] ++ [v])) ∧ (∀ (l : Nat) (nd : Node), l ≠ r → (∀ (j : Nat), cells[j]?.bind locC ≠ some l) → h[l]? = some nd → (h'.set r (.row 1 (cells.set j c')))[l]? = some nd) ∧ (∀ (l : Nat), l < h.length → (∀ (j : Nat), cells[j]?.bind locC ≠ some l) → ∀ (k : Nat), (cells.set j c')[k]?.bind locC ≠ some l) := by
  have hlt : j < cells.length := by rw [H.len]; exact hj
  have hc : cells[j]? = some cells[j] := List.getElem?_eq_getElem hlt
  have hr := (List.getElem?_eq_some_iff.1 H.at_).1
  have up : ∀ (l : Nat) (nd : Node), h[l]? = some nd → (h ++ [Node.row 1 [int v]])[l]? = some nd := fun l nd e => by rw [List.getElem?_append_left (List.getElem?_eq_some_iff.1 e).1]; exact e
  have hg := (H.each j _ hc).mono up
  obtain ⟨c', h', g1, g2, g3, g4⟩ := hg.append v hn
  have ne : ∀ l, l ≤ r → ∀ o k, cells[j] ≠ .os l 0 o k := fun l hl o k e => by
    have := H.far j l (by rw [hc, e]; rfl)
    omega
  have hr' : h'[r]? = some (.row 1 cells) := g4 r _ (up r _ H.at_) (ne r (Nat.le_refl _))
  have hrl := (List.getElem?_eq_some_iff.1 hr').1
  have hset : ∀ (l : Nat) (nd : Node), l ≠ r → h'[l]? = some nd → (h'.set r (.row 1 (cells.set j c')))[l]? = some nd := fun l nd hl e => by rw [List.getElem?_set_ne (Ne.symm hl)]; exact e
  refine ⟨_, c', h', hc, g1, hr', by rw [g3]; rfl, g2.cell, hlt, ⟨?_, by simp [H.len], fun k d hd => ?_, fun k l hk => ?_, fun k k2 l hk hk2 => ?_⟩, fun l nd hl hno e => hset _ _ hl (g4 l nd (up l nd e) (fun o k q => hno j (by rw [hc, q]; rfl))), fun l hl hno k hk => ?_⟩
  · rw [List.getElem?_set_self hrl]
  · by_cases e : j = k
    · subst e
      rw [List.getElem?_set_self hlt] at hd
      cases hd
      rw [List.getD_eq_getElem?_getD, List.getElem?_set_self hj, Option.getD_some]
      refine g2.mono' fun l nd hl hq => hset l nd ?_ hl
      rw [g3] at hq
      simp only [C.os.injEq] at hq
      have := hq.1
      rw [List.length_append] at this
      simp at this
      omega
    · rw [List.getElem?_set_ne e] at hd
      rw [List.getD_eq_getElem?_getD, List.getElem?_set_ne e, ← List.getD_eq_getElem?_getD]
      have hk := H.each k d hd
      refine hk.mono' fun l nd hl hq => hset l nd ?_ (g4 l nd (up l nd hl) fun o q e2 => ?_)
      · have := H.far k l (by rw [hd, hq]; rfl)
        omega
      · exact e (H.apart j k l (by rw [hc, e2]; rfl) (by rw [hd, hq]; rfl))
  · by_cases e : j = k
    · subst e
      rw [List.getElem?_set_self hlt, g3] at hk
      simp only [Option.bind_some, locC, Option.some.injEq, List.length_append, List.length_cons, List.length_nil] at hk
      omega
    · rw [List.getElem?_set_ne e] at hk
      exact H.far k l hk
  · have old : ∀ (k : Nat), k ≠ j → cells[k]?.bind locC = some l → l < h.length := fun k _ hk => by
      cases hd : cells[k]? with
      | none => rw [hd] at hk; cases hk
      | some d =>
        rw [hd] at hk
        simp only [Option.bind_some] at hk
        rcases H.each k d hd with ⟨_, rfl⟩ | ⟨l', rfl, hl'⟩
        · cases hk
        · cases hk; exact (List.getElem?_eq_some_iff.1 hl').1
    have nw : ∀ (k : Nat), k = j → (cells.set j c')[k]?.bind locC = some l → h.length < l := fun k ek hk => by
      subst ek
      rw [List.getElem?_set_self hlt, g3] at hk
      simp only [Option.bind_some, locC, Option.some.injEq, List.length_append, List.length_cons, List.length_nil] at hk
      omega
    by_cases e : k = j
    · by_cases e2 : k2 = j
      · omega
      · have := nw k e hk
        rw [List.getElem?_set_ne (Ne.symm e2)] at hk2
        have := old k2 e2 hk2
        omega
    · by_cases e2 : k2 = j
      · have := nw k2 e2 hk2
        rw [List.getElem?_set_ne (Ne.symm e)] at hk
        have := old k e hk
        omega
      · rw [List.getElem?_set_ne (Ne.symm e)] at hk
        rw [List.getElem?_set_ne (Ne.symm e2)] at hk2
        exact H.apart k k2 l hk hk2
  · by_cases e : k = j
    · subst e
      rw [List.getElem?_set_self hlt, g3] at hk
      simp only [Option.bind_some, locC, Option.some.injEq, List.length_append, List.length_cons, List.length_nil] at hk
      omega
    · rw [List.getElem?_set_ne (Ne.symm e)] at hk
      exact hno k hk
end Go.Tm
