import Derived.Test.YtkcimaibaicdcaaS5
import Derived.Test.YtkcimaibaicdcaaTS
set_option linter.unusedSimpArgs false
namespace Go.Tm
section
variable {P : Program} {t : TypeId} {x y : Operand} {a b : Int} {p q : Bool}
@[go_sem] theorem bin_and : binC P .and t x y (.v (.int .i64 a)) (.v (.int .i64 b)) = some (.v (.int .i64 (bits .and .i64 a b))) := rfl
theorem bin_rem (h : b ≠ 0) : binC P .rem t x y (.v (.int .i64 a)) (.v (.int .i64 b)) = some (.v (.int .i64 (Int.tmod a b))) := by
  cases b with
  | ofNat b => cases b with
    | zero => exact absurd rfl h
    | succ b => rfl
  | negSucc b => rfl
end
end Go.Tm
namespace Go.Proofs.Ytkcimaibaicdcaa.Tk
open Go.Tm Go.Tm.Tab
set_option maxRecDepth 100000
section
variable {x y : Operand} {p q : Bool}
@[go_sem] theorem bin_neqb : binC Try.prog .neq 4 x y (.v (.bool p)) (.v (.bool q)) = some (.v (.bool (!decide (p = q)))) := by cases p <;> cases q <;> kernel_rfl
@[go_sem] theorem bin_eqlb : binC Try.prog .eql 4 x y (.v (.bool p)) (.v (.bool q)) = some (.v (.bool (decide (p = q)))) := by cases p <;> cases q <;> kernel_rfl
end
theorem first4 : Runs Try.prog tab 100 16 [] (bool true) := Runs.known (K := k16) rfl (by kernel_rfl)
/-! ### Prev -/
theorem push_mem {b v : Int} {acc : List (List Int)} {t : Int} (ht : 0 ≤ t ∧ t < (acc.length : Int)) (j : Nat) : v ∈ (push b acc t).getD j [] ↔ v ∈ acc.getD j [] ∨ (v = b ∧ (j : Int) = t) := by
  unfold push
  simp only [List.getD_eq_getElem?_getD, List.getElem?_set]
  by_cases e : t.toNat = j
  · rw [if_pos e, if_pos (by omega)]
    subst e
    have : ((t.toNat : Nat) : Int) = t := by omega
    simp [this]
  · rw [if_neg e]
    have : ¬ (j : Int) = t := by omega
    simp [this]
theorem pushes_mem {b v : Int} {n : Nat} : ∀ {ts : List Int} {acc : List (List Int)}, acc.length = n → (∀ t ∈ ts, 0 ≤ t ∧ t < (n : Int)) → ∀ (j : Nat), v ∈ (ts.foldl (push b) acc).getD j [] ↔ v ∈ acc.getD j [] ∨ (v = b ∧ (j : Int) ∈ ts)
  | [], acc, hl, ht, j => by simp
  | t :: ts, acc, hl, ht, j => by
    rw [List.foldl_cons, pushes_mem (by rw [push_len]; exact hl) (fun t h => ht t (List.mem_cons_of_mem _ h)) j, push_mem (by rw [hl]; exact ht t (List.mem_cons_self ..)) j, List.mem_cons]
    constructor
    · rintro ((h | ⟨h1, h2⟩) | ⟨h1, h2⟩)
      · exact .inl h
      · exact .inr ⟨h1, .inl h2⟩
      · exact .inr ⟨h1, .inr h2⟩
    · rintro (h | ⟨h1, h2 | h2⟩)
      · exact .inl (.inl h)
      · exact .inl (.inr ⟨h1, h2⟩)
      · exact .inr ⟨h1, h2⟩
theorem pushes_len {b : Int} : ∀ {ts : List Int} {acc : List (List Int)}, (ts.foldl (push b) acc).length = acc.length
  | [], acc => rfl
  | t :: ts, acc => by rw [List.foldl_cons, pushes_len, push_len]
theorem pushes_row {b : Int} : ∀ {ts : List Int} {acc : List (List Int)} (M : Nat), (∀ j, (acc.getD j []).length ≤ M) → ∀ j, ((ts.foldl (push b) acc).getD j []).length ≤ M + ts.length
  | [], acc, M, h, j => h j
  | t :: ts, acc, M, h, j => by
    have := pushes_row (b := b) (ts := ts) (acc := push b acc t) (M + 1) (fun j => push_row j M h) j
    simp only [List.foldl_cons, List.length_cons]; omega
theorem prevFrom_len {l : List Block} : ∀ (d i : Nat) (acc : List (List Int)), (prevFrom l d i acc).length = acc.length
  | 0, i, acc => rfl
  | d + 1, i, acc => by rw [prevFrom, prevFrom_len, pushes_len]
theorem prev_len (l : List Block) : (prevOf l).length = l.length := by rw [prevOf, prevFrom_len, List.length_replicate]
theorem prevFrom_mem {l : List Block} {v : Int} : ∀ (d i : Nat) (acc : List (List Int)), acc.length = l.length → (∀ j, v ∈ acc.getD j [] ↔ 0 ≤ v ∧ v < i ∧ (j : Int) ∈ nextOf l v) → ∀ j, v ∈ (prevFrom l d i acc).getD j [] ↔ 0 ≤ v ∧ v < ((i + d : Nat) : Int) ∧ (j : Int) ∈ nextOf l v
  | 0, i, acc, hl, h, j => h j
  | d + 1, i, acc, hl, h, j => by
    rw [prevFrom, prevFrom_mem d (i + 1) _ (by rw [pushes_len]; exact hl) (fun j => ?_) j, show i + 1 + d = i + (d + 1) by omega]
    rw [pushes_mem hl (fun t ht => next_in ht) j, h j]
    constructor
    · rintro (⟨h1, h2, h3⟩ | ⟨rfl, h2⟩)
      · exact ⟨h1, by omega, h3⟩
      · exact ⟨by omega, by omega, h2⟩
    · rintro ⟨h1, h2, h3⟩
      by_cases e : v = i
      · subst e; exact .inr ⟨rfl, h3⟩
      · exact .inl ⟨h1, by omega, h3⟩
theorem prev_mem {l : List Block} {b v : Int} (h0 : 0 ≤ b) : v ∈ rowOfL (prevOf l) b ↔ 0 ≤ v ∧ v < (l.length : Int) ∧ b ∈ nextOf l v := by
  have := prevFrom_mem (l := l) (v := v) l.length 0 (List.replicate l.length []) (by simp) (fun j => ?_) b.toNat
  · rw [Nat.zero_add, show ((b.toNat : Nat) : Int) = b by omega] at this
    exact this
  · constructor
    · intro h
      rw [List.getD_eq_getElem?_getD, List.getElem?_replicate] at h
      split at h <;> simp at h
    · rintro ⟨h1, h2, _⟩; omega
theorem prevFrom_row {f : Tm.Func} (F : Fine f) : ∀ (d i : Nat) (acc : List (List Int)), (∀ j, (acc.getD j []).length ≤ 20 * i) → ∀ j, ((prevFrom f.blocks d i acc).getD j []).length ≤ 20 * (i + d)
  | 0, i, acc, h, j => h j
  | d + 1, i, acc, h, j => by
    have := prevFrom_row F d (i + 1) _ (fun j => Nat.le_trans (pushes_row (b := (i : Int)) (ts := nextOf f.blocks i) (20 * i) h j) (by have := next_len F i; omega)) j
    rw [prevFrom]; omega
theorem prev_row {f : Tm.Func} (F : Fine f) (b : Int) : (rowOfL (prevOf f.blocks) b).length ≤ 320 := by
  have := prevFrom_row F f.blocks.length 0 (List.replicate f.blocks.length []) (fun j => by rw [List.getD_eq_getElem?_getD, List.getElem?_replicate]; split <;> simp) b.toNat
  have := F.blocks
  unfold rowOfL prevOf
  omega
end Go.Proofs.Ytkcimaibaicdcaa.Tk
