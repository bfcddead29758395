import Derived.Test.YtahcbcgakadfpaaTQ
namespace Go.Tm
/-! ### The walker of flow -/
@[go_sem] theorem isNilC_op (l o : Nat) : isNilC (.op l o) = some false := rfl
@[go_sem] theorem isNilC_fp (xs : List C) : isNilC (.fp xs) = some false := rfl
def walkRow (f : Func) (s : Nat) (c : C) (lp : Bool) : List C := [str f.name, bool f.out, ints f.params, int f.result, blocks f.blocks, .os s 0 f.blocks.length (some f.blocks.length), c, bool lp]
structure Walk (h : Heap) (w s : Nat) (f : Func) (ls lo : List Int) (lp : Bool) (c : C) : Prop where
  at_ : h[w]? = some (.row 0 (walkRow f s c lp))
  st : h[s]? = some (.row 1 (ls.map int))
  out : Grow h c lo
  len : ls.length = f.blocks.length
  lt : s < w
  far : ∀ l, locC c = some l → w < l
def Keep (s : Nat) (h h' : Heap) : Prop := ∀ (l : Nat), l < s → h'[l]? = h[l]?
theorem Keep.trans {s : Nat} {h h' h2 : Heap} (a : Keep s h h') (b : Keep s h' h2) : Keep s h h2 := fun l hl => by rw [b l hl, a l hl]
theorem Keep.refl (s : Nat) (h : Heap) : Keep s h h := fun _ _ => rfl
section
variable {h : Heap} {w s : Nat} {f : Func} {ls lo : List Int} {lp : Bool} {c : C}
theorem Walk.state (W : Walk h w s f ls lo lp c) {k : Nat} (hk : k < ls.length) (v : Int) : ∃ h1, storeR h s k 1 (some (.row 1 (ls.map int))) [int v] = some h1 ∧ Walk h1 w s f (ls.set k v) lo lp c ∧ Keep s h h1 := by
  have hs := (List.getElem?_eq_some_iff.1 W.st).1
  refine ⟨_, by rw [storeR_row, if_pos ⟨rfl, by simp; omega, rfl⟩, put_map hk], ⟨?_, ?_, ?_, by simp [W.len], W.lt, W.far⟩, fun l hl => List.getElem?_set_ne (by omega)⟩
  · rw [List.getElem?_set_ne (by have := W.lt; omega)]; exact W.at_
  · rw [List.getElem?_set_self hs]
  · refine W.out.mono' fun l nd hl hq => ?_
    have := W.far l (by rw [hq]; rfl)
    rw [List.getElem?_set_ne (by have := W.lt; omega)]; exact hl
theorem Walk.setRow (W : Walk h w s f ls lo lp c) {c' : C} {lp' : Bool} {lo' : List Int} (ho : Grow h c' lo') (hf : ∀ l, locC c' = some l → w < l) : Walk (h.set w (.row 0 (walkRow f s c' lp'))) w s f ls lo' lp' c' ∧ Keep s h (h.set w (.row 0 (walkRow f s c' lp'))) := by
  have hw := (List.getElem?_eq_some_iff.1 W.at_).1
  refine ⟨⟨List.getElem?_set_self hw, ?_, ?_, W.len, W.lt, hf⟩, fun l hl => List.getElem?_set_ne (by have := W.lt; omega)⟩
  · rw [List.getElem?_set_ne (by have := W.lt; omega)]; exact W.st
  · refine ho.mono' fun l nd hl hq => ?_
    have := hf l (by rw [hq]; rfl)
    rw [List.getElem?_set_ne (by omega)]; exact hl
theorem Walk.round (W : Walk h w s f ls lo lp c) : ∃ h1, storeR h w 7 1 (some (.row 0 (walkRow f s c lp))) [bool true] = some h1 ∧ Walk h1 w s f ls lo true c ∧ Keep s h h1 :=
  ⟨_, by rw [storeR_row, if_pos ⟨rfl, by simp [walkRow], rfl⟩]; rfl, W.setRow W.out W.far⟩
theorem Walk.done (W : Walk h w s f ls lo lp c) (b : Int) (hn : lo.length < maxRow) : ∃ c1 h1 h2, appendTo (h ++ [.row 1 [int b]]) none 1 1 [int b] c = some (c1, h1) ∧ c1.cells = [c1] ∧ h1[w]? = some (.row 0 (walkRow f s c lp)) ∧ storeR h1 w 6 1 (some (.row 0 (walkRow f s c lp))) [c1] = some h2 ∧ Walk h2 w s f ls (lo ++ [b]) lp c1 ∧ Keep s h h2 := by
  have up : ∀ (l : Nat) (nd : Node), h[l]? = some nd → (h ++ [Node.row 1 [int b]])[l]? = some nd := fun l nd e => by rw [List.getElem?_append_left (List.getElem?_eq_some_iff.1 e).1]; exact e
  obtain ⟨c1, h1, g1, g2, g3, g4⟩ := (W.out.mono up).append b hn
  have ne : ∀ l, l ≤ w → ∀ o k, c ≠ .os l 0 o k := fun l hl o k e => by
    have := W.far l (by rw [e]; rfl)
    omega
  have hw := g4 w _ (up _ _ W.at_) (ne w (Nat.le_refl _))
  have hs := g4 s _ (up _ _ W.st) (ne s (Nat.le_of_lt W.lt))
  have hf : ∀ l, locC c1 = some l → w < l := fun l hl => by
    rw [g3] at hl
    simp only [locC, Option.some.injEq, List.length_append, List.length_cons, List.length_nil] at hl
    have := (List.getElem?_eq_some_iff.1 W.at_).1
    omega
  have W1 : Walk h1 w s f ls (lo ++ [b]) lp c → True := fun _ => trivial
  have hwl := (List.getElem?_eq_some_iff.1 hw).1
  refine ⟨c1, h1, h1.set w (.row 0 (walkRow f s c1 lp)), g1, by rw [g3]; rfl, hw, by rw [storeR_row, if_pos ⟨rfl, by simp [walkRow], by simp [g2.cell]⟩]; rfl, ⟨List.getElem?_set_self hwl, ?_, ?_, W.len, W.lt, hf⟩, fun l hl => ?_⟩
  · rw [List.getElem?_set_ne (by have := W.lt; omega)]; exact hs
  · refine g2.mono' fun l nd hl hq => ?_
    have := hf l (by rw [hq]; rfl)
    rw [List.getElem?_set_ne (by omega)]; exact hl
  · have hlw : l < h.length := by have := (List.getElem?_eq_some_iff.1 W.st).1; omega
    have e : h[l]? = some h[l] := List.getElem?_eq_getElem hlw
    rw [List.getElem?_set_ne (by have := W.lt; omega), e]
    exact g4 l _ (up _ _ e) (ne l (by have := W.lt; omega))
end
/-- A call by reference. -/
theorem ref_call {P : Program} {tab : Tab} {f : FuncId} {fn : Go.Func} {K : K} {N : Nat} {rs : List ResultVar} (h1 : tab f = some (K, .ref)) (h2 : P.funcs[f]? = some fn) (hN : fn.ntmps = N) (hr : fn.results.toList = rs) {cs : List C} (hl : cs.length ≤ N) (k : Nat) (h : Heap) :
    callAt P tab (k + 1) f cs h = fin P rs (exec P (valsOf tab) (callAt P tab k) k K ⟨enterE 0 cs, h⟩) := by
  simp only [callAt, h1, h2]
  exact body_fin hN hr hl
end Go.Tm
