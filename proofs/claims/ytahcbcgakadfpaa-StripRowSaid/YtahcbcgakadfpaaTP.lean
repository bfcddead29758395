import Derived.Test.YtahcbcgakadfpaaTO
namespace Go.Tm
theorem drop_rd {xs : List Int} {i : Nat} (h : i < xs.length) : xs.drop i = rd xs i :: xs.drop (i + 1) := by
  rw [List.drop_eq_getElem_cons h]
  simp [rd, List.getD_eq_getElem?_getD, List.getElem?_eq_getElem h]
theorem wrap_next {n i : Nat} (h : i < n) (hn : n < 2 ^ 62) : IntKind.i64.wrap ((i : Int) + 1) = ((i + 1 : Nat) : Int) := by rw [wrap_in (by omega) (by omega)]; omega
/-- A row of numbers of the machine's own that grows. -/
def Grow (h : Heap) (c : C) (out : List Int) : Prop := (out = [] ∧ c = .v (.slice none 0 0)) ∨ (∃ l, c = .os l 0 out.length none ∧ h[l]? = some (.row 1 (out.map int)))
theorem Grow.view {h : Heap} {c : C} {out : List Int} (H : Grow h c out) {cl : Bool} {n : Nat} : view cl h (n + 2) c = some (ints out) := by
  rcases H with ⟨rfl, rfl⟩ | ⟨l, rfl, hl⟩
  · rfl
  · exact view_os_ints hl
theorem Grow.len {h : Heap} {c : C} {out : List Int} (H : Grow h c out) : lenS c = some (int out.length) := by
  rcases H with ⟨rfl, rfl⟩ | ⟨l, rfl, hl⟩ <;> rfl
theorem Grow.mono {h h' : Heap} {c : C} {out : List Int} (H : Grow h c out) (hh : ∀ (l : Nat) (nd : Node), h[l]? = some nd → h'[l]? = some nd) : Grow h' c out := by
  rcases H with h | ⟨l, hc, hl⟩
  · exact .inl h
  · exact .inr ⟨l, hc, hh _ _ hl⟩
/-- One more. Whatever lies elsewhere stays. -/
theorem Grow.append {h : Heap} {c : C} {out : List Int} (H : Grow h c out) (v : Int) (hn : out.length < maxRow) :
    ∃ c' h', appendTo h none 1 1 [int v] c = some (c', h') ∧ Grow h' c' (out ++ [v]) ∧ c' = .os h.length 0 (out.length + 1) none ∧ ∀ (l : Nat) (nd : Node), h[l]? = some nd → (∀ o k, c ≠ .os l 0 o k) → h'[l]? = some nd := by
  rcases H with ⟨rfl, rfl⟩ | ⟨l, rfl, hl⟩
  · refine ⟨_, _, by simp only [appendTo]; rw [if_neg (by decide), if_pos (by decide)]; rfl, .inr ⟨_, rfl, ?_⟩, rfl, fun l nd hl _ => ?_⟩
    · simp [newRow, new]
    · simp only [newRow, new]; rw [List.getElem?_append_left (List.getElem?_eq_some_iff.1 hl).1]; exact hl
  · have hlt := (List.getElem?_eq_some_iff.1 hl).1
    refine ⟨_, _, by simp only [appendTo, hl]; rw [if_pos ⟨trivial, hn⟩]; simp only [Nat.one_ne_zero, if_false, Nat.zero_add, Nat.mul_one, List.length_map]; rw [if_neg (by omega), if_true], .inr ⟨h.length, by simp [newRow, new], ?_⟩, by simp [newRow, new], fun l' nd hl' hne => ?_⟩
    · simp [newRow, new]
    · simp only [newRow, new]
      have e : l ≠ l' := fun e => hne _ _ (by rw [e])
      rw [List.getElem?_append_left (by rw [List.length_set]; exact (List.getElem?_eq_some_iff.1 hl').1), List.getElem?_set_ne e]
      exact hl'
def addTo (n : Nat) (out : List Int) (t : Int) : List Int := if 0 ≤ t ∧ t < (n : Int) ∧ t ∉ out then out ++ [t] else out
def lastI (l : List Block) (b : Int) : Ins := insAt (blkAt l b).ins (((blkAt l b).ins.length : Int) - 1)
def goes (l : List Block) (b : Int) : Prop := 0 ≤ b ∧ b < (l.length : Int) ∧ (blkAt l b).ins ≠ [] ∧ ((lastI l b).op = 27 ∨ (lastI l b).op = 28)
open Classical in
noncomputable def nextOf (l : List Block) (b : Int) : List Int := if goes l b then (lastI l b).into.foldl (addTo l.length) [] else []
theorem addTo_len {n : Nat} {out : List Int} {t : Int} : (addTo n out t).length ≤ out.length + 1 := by unfold addTo; split <;> simp
end Go.Tm
namespace Go.Tm
@[go_sem] theorem rep_zero (z : List C) : rep 0 z = [] := rfl
@[go_sem] theorem rep_succ (n : Nat) (z : List C) : rep (n + 1) z = z ++ rep n z := rfl
@[go_sem] theorem put_zero (cs ys : List C) : put cs 0 ys = ys ++ cs.drop ys.length := by simp [put]
@[go_sem] theorem put_succ (c : C) (cs ys : List C) (k : Nat) : put (c :: cs) (k + 1) ys = c :: put cs k ys := by
  simp only [put, List.take_succ_cons, List.cons_append, show k + 1 + ys.length = (k + ys.length) + 1 by omega, List.drop_succ_cons]
@[go_sem] theorem takeN_zero (cs : List C) : takeN 0 cs = some [] := by simp [takeN]
@[go_sem] theorem takeN_succ (n : Nat) (c : C) (cs : List C) : takeN (n + 1) (c :: cs) = (takeN n cs).map (c :: ·) := by
  unfold takeN
  by_cases h : n ≤ cs.length
  · rw [if_pos h, if_pos (by simpa using h)]; rfl
  · rw [if_neg h, if_neg (by simpa using h)]; rfl
def rowSrc (s len off : Nat) : Option Node → Option (Nat × List C)
  | some (.row _ cs) => (takeN (len * s) (cs.drop off)).map fun xs => (len, xs)
  | _ => none
@[go_sem] theorem srcOf_os (h : Heap) (s l off len : Nat) (cap : Option Nat) : srcOf h s (.os l off len cap) = rowSrc s len off h[l]? := by
  simp only [srcOf, rowSrc]; rfl
@[go_sem] theorem rowSrc_row (s len off e : Nat) (cs : List C) : rowSrc s len off (some (.row e cs)) = (takeN (len * s) (cs.drop off)).map fun xs => (len, xs) := rfl
@[go_sem] theorem srcOf_fs (h : Heap) (s len : Nat) (xs : List C) (cap : Option Nat) : srcOf h s (.fs xs len cap) = (takeN (len * s) xs).map fun ys => (len, ys) := rfl
@[go_sem] theorem srcOf_nil (h : Heap) (s : Nat) : srcOf h s (.v (.slice none 0 0)) = some (0, []) := rfl
@[go_sem] theorem get_new (h : Heap) (nd : Node) : (h ++ [nd])[h.length]? = some nd := by simp
attribute [go_sem] Nat.zero_mul Nat.mul_one Nat.one_mul Nat.zero_add Nat.add_zero and_true true_and and_self List.all_cons List.all_nil List.cons_append List.nil_append List.drop_nil List.append_nil Nat.reduceMul Nat.reduceAdd Nat.reduceEqDiff reduceIte Bool.not_true Bool.not_false eq_self Bool.false_eq_true decide_true decide_false
end Go.Tm
namespace Go.Tm
/-! What follows is looked at only when its turn comes. -/
@[congr] theorem bind_turn {α β : Type} {x y : Option α} {f : α → Option β} (h : x = y) : x.bind f = y.bind f := by rw [h]
@[congr] theorem ite_turn {α : Type} {c d : Prop} [Decidable c] [Decidable d] {a b : α} (h : c = d) : (if c then a else b) = (if d then a else b) := by subst h; congr
@[congr] theorem andThen_turn {x y : Option (Ctl × St)} {f : St → Option (Ctl × St)} (h : x = y) : andThen x f = andThen y f := by rw [h]
end Go.Tm
