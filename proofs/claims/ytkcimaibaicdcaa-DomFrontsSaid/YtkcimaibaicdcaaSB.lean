import Derived.Test.YtkcimaibaicdcaaSA
set_option linter.unusedSimpArgs false
namespace Go.Proofs.Ytkcimaibaicdcaa.Tk
open Go.Tm Go.Tm.Tab
set_option maxRecDepth 100000
theorem first5 : Runs Try.prog tab 100 32 [] (bool true) := Runs.known (K := k32) rfl (by kernel_rfl)
theorem underFrom_mem {o : List Int} {v : Int} {n : Nat} (ho : ∀ j, j < o.length → o.getD j 0 < (n : Int)) : ∀ (d i : Nat) (acc : List (List Int)), acc.length = n → i + d ≤ o.length → ∀ j : Nat, v ∈ (underFrom o d i acc).getD j [] ↔ v ∈ acc.getD j [] ∨ ((i : Int) ≤ v ∧ v < ((i + d : Nat) : Int) ∧ o.getD v.toNat 0 = (j : Int))
  | 0, i, acc, hl, _, j => by
    rw [underFrom]
    exact ⟨.inl, fun h => h.elim id fun q => by omega⟩
  | d + 1, i, acc, hl, hid, j => by
    have hi := ho i (by omega)
    rw [underFrom]
    by_cases c : 0 ≤ o.getD i 0
    · rw [if_pos c, underFrom_mem ho d (i + 1) _ (by rw [push_len]; exact hl) (by omega) j, push_mem (by rw [hl]; exact ⟨c, hi⟩) j]
      constructor
      · rintro ((h | ⟨rfl, h2⟩) | ⟨h1, h2, h3⟩)
        · exact .inl h
        · exact .inr ⟨by omega, by omega, by simp [h2]⟩
        · exact .inr ⟨by omega, by omega, h3⟩
      · rintro (h | ⟨h1, h2, h3⟩)
        · exact .inl (.inl h)
        · by_cases e : v = i
          · subst e; exact .inl (.inr ⟨rfl, by simpa using h3.symm⟩)
          · exact .inr ⟨by omega, by omega, h3⟩
    · rw [if_neg c, underFrom_mem ho d (i + 1) acc hl (by omega) j]
      constructor
      · rintro (h | ⟨h1, h2, h3⟩)
        · exact .inl h
        · exact .inr ⟨by omega, by omega, h3⟩
      · rintro (h | ⟨h1, h2, h3⟩)
        · exact .inl h
        · by_cases e : v = i
          · subst e
            have : (i : Int).toNat = i := by omega
            rw [this] at h3
            omega
          · exact .inr ⟨by omega, by omega, h3⟩
theorem under_mem {l : List Block} (hb : l.length ≤ 16) {a v : Int} (a0 : 0 ≤ a) (v0 : 0 ≤ v) (v1 : v < (l.length : Int)) : v ∈ rowOfL (underOf l) a ↔ rd (overI l) v = a := by
  have hl := overI_len l
  have := underFrom_mem (o := overI l) (v := v) (n := l.length) (fun j hj => by rw [hl] at hj; exact (overI_range hb hj).2) l.length 0 (List.replicate l.length []) (by simp) (by omega) a.toNat
  unfold rowOfL underOf
  rw [this, show ((a.toNat : Nat) : Int) = a by omega]
  unfold rd
  constructor
  · rintro (h | ⟨_, _, h⟩)
    · rw [List.getD_eq_getElem?_getD, List.getElem?_replicate] at h
      split at h <;> simp at h
    · exact h
  · intro h; exact .inr ⟨by omega, by omega, h⟩
theorem underFrom_row {o : List Int} : ∀ (d i : Nat) (acc : List (List Int)), (∀ j, (acc.getD j []).length ≤ i) → ∀ j, ((underFrom o d i acc).getD j []).length ≤ i + d
  | 0, i, acc, h, j => h j
  | d + 1, i, acc, h, j => by
    rw [underFrom]
    have := underFrom_row (o := o) d (i + 1) (if 0 ≤ o.getD i 0 then push i acc (o.getD i 0) else acc) (fun j => by
      split
      · exact push_row j i h
      · have := h j; omega) j
    omega
theorem underFrom_len {o : List Int} : ∀ (d i : Nat) (acc : List (List Int)), (underFrom o d i acc).length = acc.length
  | 0, i, acc => rfl
  | d + 1, i, acc => by
    rw [underFrom, underFrom_len]
    split
    · rw [push_len]
    · rfl
theorem under_len (l : List Block) : (underOf l).length = l.length := by rw [underOf, underFrom_len, List.length_replicate]
theorem under_row (l : List Block) (a : Int) : (rowOfL (underOf l) a).length ≤ l.length := by
  have := underFrom_row (o := overI l) l.length 0 (List.replicate l.length []) (fun j => by rw [List.getD_eq_getElem?_getD, List.getElem?_replicate]; split <;> simp) a.toNat
  unfold rowOfL underOf; omega
end Go.Proofs.Ytkcimaibaicdcaa.Tk
