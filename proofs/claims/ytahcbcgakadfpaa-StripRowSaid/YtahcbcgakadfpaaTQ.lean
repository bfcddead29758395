import Derived.Test.YtahcbcgakadfpaaTP
namespace Go.Tm
/-! ### Rows of rows that grow -/
def locC : C → Option Nat
  | .os l _ _ _ => some l
  | _ => none
def viewRow (f : C → Option C) (off len : Nat) : Option Node → Option C
  | some (.row e cs) => (takeN (len * e) (cs.drop off)).bind fun xs => (mapC f xs).bind fun ys => some (.fs ys len none)
  | _ => none
theorem view_os_eq {cl : Bool} {h : Heap} {n l off len : Nat} {cap : Option Nat} : view cl h (n + 1) (.os l off len cap) = if len = 0 then some (.fs [] 0 none) else viewRow (view cl h n) off len h[l]? := by
  simp only [view, viewRow]; rfl
/-- A row at node r of rows that grow, each apart from the other ones. -/
structure Rows (h : Heap) (r : Nat) (cells : List C) (acc : List (List Int)) : Prop where
  at_ : h[r]? = some (.row 1 cells)
  len : cells.length = acc.length
  each : ∀ (j : Nat) (c : C), cells[j]? = some c → Grow h c (acc.getD j [])
  far : ∀ (j l : Nat), cells[j]?.bind locC = some l → r < l
  apart : ∀ (j k l : Nat), cells[j]?.bind locC = some l → cells[k]?.bind locC = some l → j = k
theorem Grow.mono' {h h' : Heap} {c : C} {out : List Int} (H : Grow h c out) (hh : ∀ (l : Nat) (nd : Node), h[l]? = some nd → c = .os l 0 out.length none → h'[l]? = some nd) : Grow h' c out := by
  rcases H with h | ⟨l, hc, hl⟩
  · exact .inl h
  · exact .inr ⟨l, hc, hh _ _ hl hc⟩
theorem Grow.cell {h : Heap} {c : C} {out : List Int} (H : Grow h c out) : c.isCell = true := by rcases H with ⟨_, rfl⟩ | ⟨l, rfl, _⟩ <;> rfl
theorem Grow.loc {h : Heap} {c : C} {out : List Int} (H : Grow h c out) {l o n : Nat} {k : Option Nat} (e : c = .os l o n k) : locC c = some l := by rw [e]; rfl
theorem Rows.view {h : Heap} {r : Nat} {cells : List C} {acc : List (List Int)} (H : Rows h r cells acc) {cl : Bool} {n : Nat} {cap : Option Nat} : view cl h (n + 3) (.os r 0 acc.length cap) = some (rows acc) := by
  by_cases h0 : acc.length = 0
  · have : acc = [] := List.length_eq_zero_iff.1 h0
    subst this
    rfl
  have hm : ∀ (cs : List C) (as : List (List Int)), cs.length = as.length → (∀ (j : Nat) (c : C), cs[j]? = some c → Grow h c (as.getD j [])) → mapC (Tm.view cl h (n + 2)) cs = some (as.map ints) := by
    intro cs
    induction cs with
    | nil => intro as hl _; cases as with | nil => rfl | cons a as => simp at hl
    | cons c cs ih =>
      intro as hl he
      cases as with
      | nil => simp at hl
      | cons a as =>
        have h1 := he 0 c rfl
        have h2 := ih as (by simpa using hl) (fun j d hd => by simpa using he (j + 1) d (by simpa using hd))
        simp only [List.getD_cons_zero] at h1
        simp [mapC, h1.view, h2]
  rw [view_os_eq, if_neg h0, H.at_]
  simp only [viewRow, List.drop_zero, takeN, Nat.mul_one]
  rw [if_pos (by rw [H.len]; exact Nat.le_refl _), List.take_of_length_le (by rw [H.len]; exact Nat.le_refl _)]
  simp only [Option.bind_some, hm _ _ H.len H.each]
  rfl
/-- One more behind the row j: what appending answers, and the rows behind the store. -/
theorem Rows.append {h : Heap} {r : Nat} {cells : List C} {acc : List (List Int)} (H : Rows h r cells acc) {j : Nat} (hj : j < acc.length) (v : Int) (hn : (acc.getD j []).length < maxRow) :
    ∃ c c' h', cells[j]? = some c ∧ appendTo (h ++ [.row 1 [int v]]) none 1 1 [int v] c = some (c', h') ∧ h'[r]? = some (.row 1 cells) ∧ c'.cells = [c'] ∧ c'.isCell = true ∧ j < cells.length ∧
      Rows (h'.set r (.row 1 (cells.set j c'))) r (cells.set j c') (acc.set j (acc.getD j [] ++ [v])) ∧ (∀ (l : Nat) (nd : Node), l < r → h[l]? = some nd → (h'.set r (.row 1 (cells.set j c')))[l]? = some nd) := by
  have hlt : j < cells.length := by rw [H.len]; exact hj
  have hc : cells[j]? = some cells[j] := List.getElem?_eq_getElem hlt
  have hr := (List.getElem?_eq_some_iff.1 H.at_).1
  have up : ∀ (l : Nat) (nd : Node), h[l]? = some nd → (h ++ [Node.row 1 [int v]])[l]? = some nd := fun l nd e => by rw [List.getElem?_append_left (List.getElem?_eq_some_iff.1 e).1]; exact e
  have hg := (H.each j _ hc).mono up
  obtain ⟨c', h', g1, g2, g3, g4⟩ := hg.append v hn
  have ne : ∀ l, l ≤ r → ∀ o k, cells[j] ≠ .os l 0 o k := fun l hl o k e => by
    have := H.far j l (by rw [hc, e]; rfl)
    omega
  have hr' : h'[r]? = some (.row 1 cells) := g4 r _ (up r _ H.at_) (ne r (Nat.le_refl _))
  have hrl := (List.getElem?_eq_some_iff.1 hr').1
  have hset : ∀ (l : Nat) (nd : Node), l ≠ r → h'[l]? = some nd → (h'.set r (.row 1 (cells.set j c')))[l]? = some nd := fun l nd hl e => by rw [List.getElem?_set_ne (Ne.symm hl)]; exact e
  refine ⟨_, c', h', hc, g1, hr', by rw [g3]; rfl, g2.cell, hlt, ⟨?_, by simp [H.len], fun k d hd => ?_, fun k l hk => ?_, fun k k2 l hk hk2 => ?_⟩, fun l nd hl e => hset _ _ (by omega) (g4 l nd (up l nd e) (ne l (by omega)))⟩
  · rw [List.getElem?_set_self hrl]
  · by_cases e : j = k
    · subst e
      rw [List.getElem?_set_self hlt] at hd
      cases hd
      rw [List.getD_eq_getElem?_getD, List.getElem?_set_self hj, Option.getD_some]
      refine g2.mono' fun l nd hl hq => hset l nd ?_ hl
      rw [g3] at hq
      simp only [C.os.injEq] at hq
      have := hq.1
      rw [List.length_append] at this
      simp at this
      omega
    · rw [List.getElem?_set_ne e] at hd
      rw [List.getD_eq_getElem?_getD, List.getElem?_set_ne e, ← List.getD_eq_getElem?_getD]
      have hk := H.each k d hd
      refine hk.mono' fun l nd hl hq => hset l nd ?_ (g4 l nd (up l nd hl) fun o q e2 => ?_)
      · have := H.far k l (by rw [hd, hq]; rfl)
        omega
      · exact e (H.apart j k l (by rw [hc, e2]; rfl) (by rw [hd, hq]; rfl))
  · by_cases e : j = k
    · subst e
      rw [List.getElem?_set_self hlt, g3] at hk
      simp only [Option.bind_some, locC, Option.some.injEq, List.length_append, List.length_cons, List.length_nil] at hk
      omega
    · rw [List.getElem?_set_ne e] at hk
      exact H.far k l hk
  · have old : ∀ (k : Nat), k ≠ j → cells[k]?.bind locC = some l → l < h.length := fun k _ hk => by
      cases hd : cells[k]? with
      | none => rw [hd] at hk; cases hk
      | some d =>
        rw [hd] at hk
        simp only [Option.bind_some] at hk
        rcases H.each k d hd with ⟨_, rfl⟩ | ⟨l', rfl, hl'⟩
        · cases hk
        · cases hk; exact (List.getElem?_eq_some_iff.1 hl').1
    have nw : ∀ (k : Nat), k = j → (cells.set j c')[k]?.bind locC = some l → h.length < l := fun k ek hk => by
      subst ek
      rw [List.getElem?_set_self hlt, g3] at hk
      simp only [Option.bind_some, locC, Option.some.injEq, List.length_append, List.length_cons, List.length_nil] at hk
      omega
    by_cases e : k = j
    · by_cases e2 : k2 = j
      · omega
      · have := nw k e hk
        rw [List.getElem?_set_ne (Ne.symm e2)] at hk2
        have := old k2 e2 hk2
        omega
    · by_cases e2 : k2 = j
      · have := nw k2 e2 hk2
        rw [List.getElem?_set_ne (Ne.symm e)] at hk
        have := old k e hk
        omega
      · rw [List.getElem?_set_ne (Ne.symm e)] at hk
        rw [List.getElem?_set_ne (Ne.symm e2)] at hk2
        exact H.apart k k2 l hk hk2
end Go.Tm
