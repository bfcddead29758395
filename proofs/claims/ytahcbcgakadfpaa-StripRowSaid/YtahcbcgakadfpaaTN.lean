import Derived.Test.YtahcbcgakadfpaaTM
namespace Go.Tm
/-! ### The data's parts, as a run reaches them -/
def insAt (l : List Ins) (i : Int) : Ins := l.getD i.toNat default
def blkAt (l : List Block) (i : Int) : Block := l.getD i.toNat default
def rowOfL (l : List (List Int)) (i : Int) : List Int := l.getD i.toNat []
def restOf {α : Type} (f : α → List C) (l : List α) (i : Int) : List C := (l.drop (i.toNat + 1)).flatMap f

theorem drop_flat {α : Type} {f : α → List C} {s : Nat} (hs : ∀ x, (f x).length = s) : ∀ (l : List α) (k : Nat), (l.flatMap f).drop (k * s) = (l.drop k).flatMap f
  | [], k => by simp
  | x :: l, 0 => by simp
  | x :: l, k + 1 => by
    rw [List.flatMap_cons, Nat.add_mul, Nat.one_mul, Nat.add_comm, ← List.drop_drop, List.drop_left' (hs x), drop_flat hs l k]; rfl
theorem at_flat {α : Type} {f : α → List C} {s : Nat} (hs : ∀ x, (f x).length = s) (z : α) {l : List α} {i : Int} (h : 0 ≤ i ∧ i < l.length) : (l.flatMap f).drop (i.toNat * s) = f (l.getD i.toNat z) ++ restOf f l i := by
  rw [drop_flat hs]
  have hi : i.toNat < l.length := by omega
  rw [List.drop_eq_getElem_cons hi, List.flatMap_cons, List.getD_eq_getElem?_getD, List.getElem?_eq_getElem hi]
  rfl
theorem at_map {α : Type} {f : α → C} (z : α) {l : List α} {i : Int} (h : 0 ≤ i ∧ i < l.length) : (l.map f).drop (i.toNat * 1) = f (l.getD i.toNat z) :: restOf (fun x => [f x]) l i := by
  have := at_flat (f := fun x => [f x]) (s := 1) (fun _ => rfl) z h
  rw [flat1] at this
  exact this
@[go_sem] theorem idx_ints (l : List Int) (i : Int) : idxC 1 (ints l) i = if 0 ≤ i ∧ i < l.length then some (.fp (int (rd l i) :: restOf (fun x => [int x]) l i)) else none := by
  simp only [ints, idxC]
  split
  · rename_i h; rw [at_map 0 h]; rfl
  · rfl
@[go_sem] theorem idx_bools (l : List Bool) (i : Int) : idxC 1 (bools l) i = if 0 ≤ i ∧ i < l.length then some (.fp (bool (rdOf false l i) :: restOf (fun x => [bool x]) l i)) else none := by
  simp only [bools, idxC]
  split
  · rename_i h; rw [at_map false h]; rfl
  · rfl
@[go_sem] theorem idx_rows (l : List (List Int)) (i : Int) : idxC 1 (rows l) i = if 0 ≤ i ∧ i < l.length then some (.fp (ints (rowOfL l i) :: restOf (fun x => [ints x]) l i)) else none := by
  simp only [rows, idxC]
  split
  · rename_i h; rw [at_map [] h]; rfl
  · rfl
@[go_sem] theorem idx_blocks (l : List Block) (i : Int) : idxC 1 (blocks l) i = if 0 ≤ i ∧ i < l.length then some (.fp (inss (blkAt l i).ins :: restOf (fun x => [encBlock x]) l i)) else none := by
  simp only [blocks, idxC]
  split
  · rename_i h; rw [at_map default h]; rfl
  · rfl
@[go_sem] theorem idx_inss (l : List Ins) (i : Int) : idxC 7 (inss l) i = if 0 ≤ i ∧ i < l.length then some (.fp (int (insAt l i).op :: int (insAt l i).type :: int (insAt l i).to :: int (insAt l i).sym :: int (insAt l i).num :: ints (insAt l i).args :: ints (insAt l i).into :: restOf encIns l i)) else none := by
  simp only [inss, idxC]
  split
  · rename_i h; rw [at_flat (f := encIns) (s := 7) (fun _ => rfl) default h]; rfl
  · rfl
@[go_sem] theorem len_ints (l : List Int) : lenS (ints l) = some (int l.length) := rfl
@[go_sem] theorem len_bools (l : List Bool) : lenS (bools l) = some (int l.length) := rfl
@[go_sem] theorem len_rows (l : List (List Int)) : lenS (rows l) = some (int l.length) := rfl
@[go_sem] theorem len_blocks (l : List Block) : lenS (blocks l) = some (int l.length) := rfl
@[go_sem] theorem len_inss (l : List Ins) : lenS (inss l) = some (int l.length) := rfl
theorem enc_func (f : Func) : encFunc f = [str f.name, bool f.out, ints f.params, int f.result, blocks f.blocks] := rfl
attribute [go_sem] List.drop_succ_cons List.drop_zero List.head?_cons List.getElem?_cons_zero List.getElem?_cons_succ List.length_cons List.length_nil List.map_cons List.map_nil

/-- The head of what is left of a row of numbers. -/
@[go_sem] theorem head_ints (xs : List Int) (k : Nat) : ((xs.map int).drop k).head? = if k < xs.length then some (int (xs.getD k 0)) else none := by
  by_cases h : k < xs.length
  · rw [if_pos h, List.head?_drop, List.getElem?_map, List.getD_eq_getElem?_getD, List.getElem?_eq_getElem h]; rfl
  · rw [if_neg h, List.head?_drop, List.getElem?_map, List.getElem?_eq_none (by omega)]; rfl
@[go_sem] theorem head_bools (xs : List Bool) (k : Nat) : ((xs.map bool).drop k).head? = if k < xs.length then some (bool (xs.getD k false)) else none := by
  by_cases h : k < xs.length
  · rw [if_pos h, List.head?_drop, List.getElem?_map, List.getD_eq_getElem?_getD, List.getElem?_eq_getElem h]; rfl
  · rw [if_neg h, List.head?_drop, List.getElem?_map, List.getElem?_eq_none (by omega)]; rfl
theorem put_map {α : Type} {f : α → C} {xs : List α} {k : Nat} {v : α} (h : k < xs.length) : put (xs.map f) k [f v] = (xs.set k v).map f := by
  simp only [put, List.length_cons, List.length_nil]
  rw [List.map_set, List.set_eq_take_append_cons_drop, if_pos (by simpa using h)]
  simp
theorem rep_map {α : Type} {f : α → C} (n : Nat) (v : α) : rep n [f v] = (List.replicate n v).map f := by
  induction n with
  | zero => rfl
  | succ n ih => simp only [rep, List.replicate_succ, List.flatten_cons, List.map_cons] at ih ⊢; rw [ih]; rfl

/-! ### Views -/
@[go_sem] theorem mapC_nil (f : C → Option C) : mapC f [] = some [] := rfl
@[go_sem] theorem mapC_cons (f : C → Option C) (c : C) (r : List C) : mapC f (c :: r) = (f c).bind fun d => (mapC f r).bind fun ds => some (d :: ds) := rfl
theorem mapC_map {α : Type} {g : C → Option C} {f f' : α → C} (h : ∀ x, g (f x) = some (f' x)) (l : List α) : mapC g (l.map f) = some (l.map f') := by
  induction l with
  | nil => rfl
  | cons x l ih => simp [mapC, h, ih]
section
variable {cl : Bool} {h : Heap} {n : Nat}
@[go_sem] theorem view_int (x : Int) : view cl h (n + 1) (int x) = some (int x) := rfl
@[go_sem] theorem view_bool (x : Bool) : view cl h (n + 1) (bool x) = some (bool x) := rfl
@[go_sem] theorem view_str (x : ByteArray) : view cl h (n + 1) (str x) = some (str x) := rfl
@[go_sem] theorem view_nil : view cl h (n + 1) (.v (.slice none 0 0)) = some (ints []) := rfl
theorem view_fs {α : Type} (f : α → List C) (l : List α) : view false h (n + 1) (.fs (l.flatMap f) l.length none) = some (.fs (l.flatMap f) l.length none) := by
  cases l <;> simp [view]
theorem view_fs' {α : Type} (f : α → C) (l : List α) : view false h (n + 1) (.fs (l.map f) l.length none) = some (.fs (l.map f) l.length none) := by
  cases l <;> simp [view]
@[go_sem] theorem view_ints (l : List Int) : view false h (n + 1) (ints l) = some (ints l) := view_fs' _ l
@[go_sem] theorem view_bools (l : List Bool) : view false h (n + 1) (bools l) = some (bools l) := view_fs' _ l
@[go_sem] theorem view_rows (l : List (List Int)) : view false h (n + 1) (rows l) = some (rows l) := view_fs' _ l
@[go_sem] theorem view_inss (l : List Ins) : view false h (n + 1) (inss l) = some (inss l) := view_fs _ l
@[go_sem] theorem view_blocks (l : List Block) : view false h (n + 1) (blocks l) = some (blocks l) := view_fs' _ l
@[go_sem] theorem view_agg (cs : List C) : view cl h (n + 1) (.agg cs) = (mapC (view cl h n) cs).map .agg := rfl
theorem view_func (f : Func) : view false h (n + 2) (.agg (encFunc f)) = some (.agg (encFunc f)) := by
  simp [encFunc, go_sem]
/-- An own row's view. -/
theorem view_os {α : Type} {f f' : α → C} (hf : ∀ x, view cl h n (f x) = some (f' x)) {l : Nat} {xs : List α} {cap : Option Nat} (hl : h[l]? = some (.row 1 (xs.map f))) : view cl h (n + 1) (.os l 0 xs.length cap) = some (.fs (xs.map f') xs.length none) := by
  cases xs with
  | nil => simp [view]
  | cons x xs =>
    simp only [view, List.length_cons, Nat.add_one_ne_zero, if_false, hl, List.drop_zero, takeN, Nat.mul_one, List.length_map, Nat.le_refl, if_true, Option.bind_eq_bind, Option.bind_some]
    rw [List.take_of_length_le (by simp), mapC_map hf]
    rfl
theorem view_os_ints {l : Nat} {xs : List Int} {cap : Option Nat} (hl : h[l]? = some (.row 1 (xs.map int))) : view cl h (n + 2) (.os l 0 xs.length cap) = some (ints xs) := view_os (f' := int) (fun _ => rfl) hl
theorem view_os_bools {l : Nat} {xs : List Bool} {cap : Option Nat} (hl : h[l]? = some (.row 1 (xs.map bool))) : view cl h (n + 2) (.os l 0 xs.length cap) = some (bools xs) := view_os (f' := bool) (fun _ => rfl) hl
end

/-! ### Functions that are called by value -/
/-- From the fuel k0 on the function, given what looks like vs, answers r. -/
def Runs (P : Program) (tab : Tab) (k0 : Nat) (f : FuncId) (vs : List C) (r : C) : Prop := ∀ k, k0 ≤ k → ∀ cs h, mapC (view false h depth) cs = some vs → callAt P tab k f cs h = some (r, h)
theorem Runs.of {P : Program} {tab : Tab} {f : FuncId} {fn : Go.Func} {K : K} {vs : List C} {r : C} (h1 : tab f = some (K, .val)) (h2 : P.funcs[f]? = some fn)
    {k0 : Nat} (hr : ∀ k, k0 ≤ k → ∃ c h, body P (valsOf tab) (callAt P tab k) k fn K vs [] = some (c, h) ∧ view true h depth c = some r) : Runs P tab (k0 + 1) f vs r := by
  intro k hk cs h hv
  obtain ⟨k, rfl⟩ : ∃ m, k = m + 1 := ⟨k - 1, by omega⟩
  obtain ⟨c, h', hb, hw⟩ := hr k (by omega)
  have hw' := view_more (h' := h') (fun _ _ e => e) _ _ _ hw
  simp only [callAt, h1, h2, byVal]
  cases he : mapC (view false [] depth) cs with
  | none => simp only [hv, Option.bind_some, hb, hw]; rfl
  | some us =>
    have := mapC_some (view_more (cl := false) (h := []) (h' := h) (fun _ _ e => by simp at e) depth) he
    rw [hv] at this
    cases this
    simp only [hb, Option.bind_some, hw']; rfl
end Go.Tm
