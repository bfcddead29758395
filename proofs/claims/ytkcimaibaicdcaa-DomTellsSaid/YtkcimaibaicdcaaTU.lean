import Derived.Test.YtkcimaibaicdcaaTS
namespace Go.Tm
/-! ### A row of numbers that is cut and grows again -/
def Stack (h : Heap) (c : C) (xs : List Int) : Prop := (xs = [] ∧ c = .v (.slice none 0 0)) ∨ ∃ l cells, c = .os l 0 xs.length none ∧ h[l]? = some (.row 1 cells) ∧ xs.length ≤ cells.length ∧ cells.take xs.length = xs.map int ∧ l ≠ 0
theorem Stack.len {h : Heap} {c : C} {xs : List Int} (H : Stack h c xs) : lenS c = some (int xs.length) := by
  rcases H with ⟨rfl, rfl⟩ | ⟨l, cells, rfl, _⟩ <;> rfl
theorem Stack.mono {h h' : Heap} {c : C} {xs : List Int} (H : Stack h c xs) (hh : ∀ (l : Nat) (nd : Node), l ≠ 0 → h[l]? = some nd → h'[l]? = some nd) : Stack h' c xs := by
  rcases H with H | ⟨l, cells, h1, h2, h3, h4, h5⟩
  · exact .inl H
  · exact .inr ⟨l, cells, h1, hh _ _ h5 h2, h3, h4, h5⟩
theorem Stack.push {h : Heap} {c : C} {xs : List Int} (H : Stack h c xs) (v : Int) (hn : xs.length < maxRow) (h0 : 0 < h.length) :
    ∃ c' h', appendTo (h ++ [.row 1 [int v]]) none 1 1 [int v] c = some (c', h') ∧ Stack h' c' (xs ++ [v]) ∧ h'[0]? = h[0]? := by
  have e0 : ∀ nd : Node, (h ++ [nd])[0]? = h[0]? := fun nd => List.getElem?_append_left h0
  rcases H with ⟨rfl, rfl⟩ | ⟨l, cells, rfl, hl, hle, ht, hl0⟩
  · refine ⟨.os (h.length + 1) 0 1 none, h ++ [.row 1 [int v]] ++ [.row 1 [int v]], by simp only [appendTo]; rw [if_neg (by decide), if_pos (by decide)]; simp [newRow, new], .inr ⟨h.length + 1, [int v], rfl, ?_, by simp, by simp, by omega⟩, ?_⟩
    · rw [List.getElem?_append_right (by simp)]; simp
    · rw [List.getElem?_append_left (by simp), e0]
  · have hlt := (List.getElem?_eq_some_iff.1 hl).1
    have hl' : (h ++ [Node.row 1 [int v]])[l]? = some (.row 1 cells) := by rw [List.getElem?_append_left hlt]; exact hl
    by_cases c1 : xs.length + 1 ≤ cells.length
    · refine ⟨_, _, by simp only [appendTo, hl']; rw [if_pos ⟨trivial, hn⟩]; simp only [Nat.one_ne_zero, if_false, Nat.zero_add, Nat.mul_one]; rw [if_pos c1], .inr ⟨l, put cells xs.length [int v], by simp, List.getElem?_set_self (by simp; omega), ?_, ?_, hl0⟩, ?_⟩
      · simp [put]; omega
      · have e1 : (xs ++ [v]).length = (cells.take xs.length ++ [int v]).length := by simp; omega
        have e2 : put cells xs.length [int v] = (cells.take xs.length ++ [int v]) ++ cells.drop (xs.length + 1) := by simp [put]
        rw [e1, e2, List.take_left, ht]; simp
      · rw [List.getElem?_set_ne hl0, e0]
    · have hcl : xs.length = cells.length := by omega
      have hc : cells = xs.map int := by rw [← ht, List.take_of_length_le (by omega)]
      refine ⟨.os (h.length + 1) 0 (xs.length + 1) none, List.set (h ++ [Node.row 1 [int v]]) l Node.dead ++ [Node.row 1 (cells ++ [int v])], by simp only [appendTo, hl']; rw [if_pos ⟨trivial, hn⟩]; simp only [Nat.one_ne_zero, if_false, Nat.zero_add, Nat.mul_one]; rw [if_neg c1, if_pos hcl]; simp [newRow, new], .inr ⟨h.length + 1, cells ++ [int v], by simp, ?_, ?_, ?_, by omega⟩, ?_⟩
      · rw [List.getElem?_append_right (by simp)]; simp
      · simp [hcl]
      · rw [hc, List.take_of_length_le (by simp)]; simp
      · rw [List.getElem?_append_left (by simp), List.getElem?_set_ne hl0, e0]
/-- The last one, and what is left. -/
theorem Stack.pop {h : Heap} {c : C} {xs : List Int} {v : Int} (H : Stack h c (xs ++ [v])) : ∃ l cells, c = .os l 0 (xs.length + 1) none ∧ h[l]? = some (.row 1 cells) ∧ (cells.drop xs.length).head? = some (int v) ∧ Stack h (.os l 0 xs.length none) xs := by
  rcases H with ⟨h1, _⟩ | ⟨l, cells, rfl, hl, hle, ht, hl0⟩
  · simp at h1
  · simp only [List.length_append, List.length_cons, List.length_nil, Nat.zero_add] at *
    have hx : xs.length < cells.length := by omega
    refine ⟨l, cells, by simp, hl, ?_, .inr ⟨l, cells, rfl, hl, by omega, ?_, hl0⟩⟩
    · have := congrArg (fun l => l[xs.length]?) ht
      simp only [List.getElem?_take, List.map_append, List.map_cons, List.map_nil] at this
      rw [if_pos (by omega), List.getElem?_append_right (by simp)] at this
      rw [List.head?_drop, this]
      simp
    · have := congrArg (List.take xs.length) ht
      rw [List.take_take, Nat.min_eq_left (by omega)] at this
      rw [this]
      simp
end Go.Tm
namespace Go.Tm
@[go_sem] theorem evo_none (e : Env) : evo e none = some none := rfl
@[go_sem] theorem evo_some (e : Env) (x : Operand) : evo e (some x) = (ev e x).map some := rfl
/-- What the work from vertex 0 on holds: what is met by ways that do not come to a; those in 'work' (and b) are not gone on from yet. -/
structure Wo (N : Int → List Int) (n : Nat) (a : Int) (seen : List Bool) (work : List Int) (cur : Int → Prop) : Prop where
  len : seen.length = n
  met : ∀ v : Int, 0 ≤ v → v < n → rdOf false seen v = true → Rc N (· ≠ a) 0 v
  wk : ∀ v ∈ work, 0 ≤ v ∧ v < n ∧ rdOf false seen v = true
  shut : ∀ v : Int, 0 ≤ v → v < n → rdOf false seen v = true → v ∈ work ∨ cur v ∨ ∀ w ∈ N v, w ≠ a → rdOf false seen w = true
  root : a ≠ 0 → rdOf false seen 0 = true
theorem countf_put {xs : List Bool} {i : Nat} (h : i < xs.length) (hf : xs.getD i false = false) : (xs.set i true).count false + 1 = xs.count false := by
  have he : xs[i] = false := by rw [List.getD_eq_getElem?_getD, List.getElem?_eq_getElem h] at hf; simpa using hf
  rw [List.count_set h, he]
  have : 0 < xs.count false := List.count_pos_iff.2 (he ▸ List.getElem_mem h)
  simp
  omega
section
variable {N : Int → List Int} {n : Nat} {a : Int} {seen : List Bool} {work : List Int} {cur : Int → Prop}
theorem Wo.add (H : Wo N n a seen work cur) {b w : Int} (hb : rdOf false seen b = true) (b0 : 0 ≤ b ∧ b < (n : Int)) (hw : w ∈ N b) (w0 : 0 ≤ w ∧ w < (n : Int)) (hwa : w ≠ a) : Wo N n a (seen.set w.toNat true) (work ++ [w]) cur := by
  have hl : w < (seen.length : Int) := by rw [H.len]; exact w0.2
  have rs : ∀ v : Int, 0 ≤ v → rdOf false (seen.set w.toNat true) v = if w = v then true else rdOf false seen v := fun v hv => rdb_set w0.1 hl hv
  have up : ∀ v : Int, rdOf false seen v = true → rdOf false (seen.set w.toNat true) v = true := fun v hv => by
    by_cases h0 : 0 ≤ v
    · rw [rs v h0]; split
      · rfl
      · exact hv
    · unfold rdOf at hv ⊢
      have : v.toNat = 0 := by omega
      rw [this] at hv ⊢
      rw [List.getD_eq_getElem?_getD, List.getElem?_set]
      split
      · split
        · rfl
        · rename_i h1 h2
          rw [List.getD_eq_getElem?_getD, List.getElem?_eq_none (by omega)] at hv
          cases hv
      · rw [← List.getD_eq_getElem?_getD]; exact hv
  refine ⟨by simp [H.len], fun v v0 v1 hv => ?_, fun v hv => ?_, fun v v0 v1 hv => ?_, fun h => up _ (H.root h)⟩
  · rw [rs v v0] at hv
    split at hv
    · rename_i e; subst e; exact .step (H.met b b0.1 b0.2 hb) hw hwa
    · exact H.met v v0 v1 hv
  · rcases List.mem_append.1 hv with hv | hv
    · obtain ⟨x, y, z⟩ := H.wk v hv; exact ⟨x, y, up _ z⟩
    · obtain rfl := List.mem_singleton.1 hv
      exact ⟨w0.1, w0.2, by rw [rs v w0.1, if_pos rfl]⟩
  · rw [rs v v0] at hv
    by_cases e : w = v
    · subst e; exact .inl (by simp)
    · rw [if_neg e] at hv
      rcases H.shut v v0 v1 hv with h | h | h
      · exact .inl (List.mem_append_left _ h)
      · exact .inr (.inl h)
      · exact .inr (.inr fun u hu hua => up _ (h u hu hua))
theorem Wo.iff (H : Wo N n a seen [] (fun _ => False)) (hN : ∀ b w, w ∈ N b → 0 ≤ w ∧ w < (n : Int)) {v : Int} (v0 : 0 ≤ v) (v1 : v < (n : Int)) : rdOf false seen v = true ↔ Rc N (· ≠ a) 0 v := by
  refine ⟨H.met v v0 v1, fun h => ?_⟩
  have h0 : rdOf false seen 0 = true := H.root (fun e => h.left e.symm)
  have : (0 ≤ v ∧ v < (n : Int)) ∧ rdOf false seen v = true := h.closed (S := fun x => (0 ≤ x ∧ x < (n : Int)) ∧ rdOf false seen x = true) ⟨⟨by omega, by omega⟩, h0⟩ fun x hx y hy hya => by
    refine ⟨hN x y hy, ?_⟩
    rcases H.shut x hx.1.1 hx.1.2 hx.2 with h | h | h
    · simp at h
    · exact h.elim
    · exact h y hy hya
  exact this.2
end
end Go.Tm
namespace Go.Tm
theorem Loop_keep {P : Program} {vals : FuncId → Bool} {call : CallF} {n : Nat} {keep : List Nat} {a : K} {m : Nat} {e e' : Env} {h : Heap} (he : keepE e keep = keepE e' keep) : Loop P vals call n keep a m ⟨e, h⟩ = Loop P vals call n keep a m ⟨e', h⟩ := by
  cases m with
  | zero => rfl
  | succ m => rw [Loop_succ, Loop_succ, he]
end Go.Tm
namespace Go.Tm
@[go_sem] theorem cells_ints (l : List Int) : (ints l).cells = [ints l] := rfl
@[go_sem] theorem cells_bools (l : List Bool) : (bools l).cells = [bools l] := rfl
@[go_sem] theorem cells_rows (l : List (List Int)) : (rows l).cells = [rows l] := rfl
@[go_sem] theorem cells_inss (l : List Ins) : (inss l).cells = [inss l] := rfl
@[go_sem] theorem cells_blocks (l : List Block) : (blocks l).cells = [blocks l] := rfl
attribute [go_sem] List.contains_cons List.contains_nil Nat.reduceBEq beq_self_eq_true
end Go.Tm
namespace Go.Tm
/-- The same of arguments that are frozen; what comes back may hold of them. -/
def RunsF (P : Program) (tab : Tab) (k0 : Nat) (f : FuncId) (vs : List C) (r : C) : Prop := ∀ k, k0 ≤ k → ∀ h, callAt P tab k f vs h = some (r, h)
theorem RunsF.by {P : Program} {tab : Tab} {f : FuncId} {fn : Go.Func} {K : K} {vs : List C} {r : C} {N : Nat} {rs : List ResultVar} (h1 : tab f = some (K, .val)) (h2 : P.funcs[f]? = some fn) (hN : fn.ntmps = N) (hr : fn.results.toList = rs) (hl : vs.length ≤ N) (hv : mapC (view false [] depth) vs = some vs)
    {k0 : Nat} (h : ∀ k, k0 ≤ k → ∃ c h, fin P rs (exec P (valsOf tab) (callAt P tab k) k K ⟨enterE 0 vs, []⟩) = some (c, h) ∧ view false h depth c = some r) : RunsF P tab (k0 + 1) f vs r := by
  intro k hk w
  obtain ⟨k, rfl⟩ : ∃ m, k = m + 1 := ⟨k - 1, by omega⟩
  obtain ⟨c, h', e, hw⟩ := h k (by omega)
  simp only [callAt, h1, h2, byVal, hv, body_fin hN hr hl, e, Option.bind_some, hw]
  rfl
end Go.Tm
