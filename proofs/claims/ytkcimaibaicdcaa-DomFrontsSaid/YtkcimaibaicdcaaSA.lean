import Derived.Test.YtkcimaibaicdcaaS9
set_option linter.unusedSimpArgs false
namespace Go.Proofs.Ytkcimaibaicdcaa.Tk
open Go.Tm Go.Tm.Tab
set_option maxRecDepth 100000
/-- Of the first i blocks: cur is the one over b that all the others are over. -/
def Near (l : List Block) (b : Int) (i : Nat) (cur : Int) : Prop :=
  (cur = -1 ∧ ∀ a : Int, 0 ≤ a → a < i → a ≠ b → ¬ Ov l a b) ∨ ((0 ≤ cur ∧ cur < i) ∧ cur ≠ b ∧ Ov l cur b ∧ ∀ a : Int, 0 ≤ a → a < i → a ≠ b → Ov l a b → Ov l a cur)
theorem Near.skip {l : List Block} {b : Int} {i : Nat} {cur : Int} (H : Near l b i cur) (h : (i : Int) = b ∨ ¬ Ov l i b) : Near l b (i + 1) cur := by
  rcases H with ⟨h1, h2⟩ | ⟨h1, h2, h3, h4⟩
  · refine .inl ⟨h1, fun a a0 a1 ab q => ?_⟩
    by_cases e : a = i
    · subst e; rcases h with h | h
      · exact ab h
      · exact h q
    · exact h2 a a0 (by omega) ab q
  · refine .inr ⟨by omega, h2, h3, fun a a0 a1 ab q => ?_⟩
    by_cases e : a = i
    · subst e; rcases h with h | h
      · exact absurd h ab
      · exact absurd q h
    · exact h4 a a0 (by omega) ab q
theorem Near.take {l : List Block} {b : Int} {i : Nat} {cur : Int} (H : Near l b i cur) (hib : (i : Int) ≠ b) (h : Ov l i b) (hc : cur < 0 ∨ Ov l cur i) : Near l b (i + 1) i := by
  refine .inr ⟨by omega, hib, h, fun a a0 a1 ab q => ?_⟩
  by_cases e : a = i
  · subst e; exact Ov.self h.1
  · rcases H with ⟨_, h2⟩ | ⟨h1, _, _, h4⟩
    · exact absurd q (h2 a a0 (by omega) ab)
    · rcases hc with hc | hc
      · omega
      · exact (h4 a a0 (by omega) ab q).trans hc
theorem Near.stay {l : List Block} {b : Int} {i : Nat} {cur : Int} (H : Near l b i cur) (h : Ov l i b) (hc : ¬ cur < 0) (hc2 : ¬ Ov l cur i) : Near l b (i + 1) cur := by
  rcases H with ⟨h1, _⟩ | ⟨h1, h2, h3, h4⟩
  · omega
  · refine .inr ⟨by omega, h2, h3, fun a a0 a1 ab q => ?_⟩
    by_cases e : a = i
    · subst e
      rcases Ov.either h3 h with r | r
      · exact absurd r hc2
      · exact r
    · exact h4 a a0 (by omega) ab q
theorem Near.uniq {l : List Block} {b : Int} {n : Nat} {c d : Int} (h : Near l b n c) (k : Near l b n d) : c = d := by
  rcases h with ⟨h1, h2⟩ | ⟨h1, h2, h3, h4⟩
  · rcases k with ⟨k1, _⟩ | ⟨k1, k2, k3, _⟩
    · omega
    · exact absurd k3 (h2 d k1.1 k1.2 k2)
  · rcases k with ⟨k1, k2⟩ | ⟨k1, k2, k3, k4⟩
    · exact absurd h3 (k2 c h1.1 h1.2 h2)
    · refine Classical.byContradiction fun e => Ov.anti e (k4 c h1.1 h1.2 h2 h3) (h4 d k1.1 k1.2 k2 k3)
section
variable {vals : FuncId → Bool} {call : CallF} {n : Nat}
theorem near_in (X : Tm.Node) (l : List Block) (hn : l.length ≤ 16) (b : Nat) (hb : b < l.length) (d : Nat) : ∀ (i m : Nat), i + d = l.length → d < m → ∀ (o : List Int), o.length = l.length → Near l b i (o.getD b 0) →
    ∃ o' : List Int, Tm.Loop Try.prog vals call n [0, 3, 4, 10, 11, 18, 19] k71b0 m ⟨[(0, rowsB (overOf l)), (3, .os 1 0 l.length (some l.length)), (4, int b), (10, int l.length), (11, int b), (18, int l.length), (19, int i)], [X, .row 1 (o.map int)]⟩ = some (.exit 2, ⟨[(0, rowsB (overOf l)), (3, .os 1 0 l.length (some l.length)), (4, int b), (10, int l.length), (11, int b), (18, int l.length), (19, int l.length), (20, bool false)], [X, .row 1 (o'.map int)]⟩) ∧ o'.length = l.length ∧ (∀ j, j ≠ b → o'[j]? = o[j]?) ∧ Near l b l.length (o'.getD b 0) := by
  induction d with
  | zero =>
    intro i m hi hm o ho H
    obtain ⟨m, rfl⟩ : ∃ p, m = p + 1 := ⟨m - 1, by omega⟩
    obtain rfl : i = l.length := by omega
    rw [Tm.Loop_succ]
    simp (implicitDefEqProofs := false) only [k71b0, go_sem, Int.lt_irrefl, decide_false]
    exact ⟨o, rfl, ho, fun _ _ => rfl, H⟩
  | succ d ih =>
    intro i m hi hm o ho H
    obtain ⟨m, rfl⟩ : ∃ p, m = p + 1 := ⟨m - 1, by omega⟩
    replace ih := ih (i + 1) m (by omega) (by omega)
    rw [Tm.Loop_succ]
    generalize Tm.Loop Try.prog vals call n [0, 3, 4, 10, 11, 18, 19] k71b0 m = L at ih ⊢
    have hil : i < l.length := by omega
    have e1 : decide ((i : Int) < l.length) = true := by simp; omega
    have e3 := wrap_next (n := l.length) (i := i) (by omega) (by omega)
    have ei : 0 ≤ (i : Int) ∧ (i : Int) < ((overOf l).length : Int) := by rw [over_len]; omega
    have hri := over_at (l := l) (a := i) (by omega) (by omega)
    have eb : 0 ≤ (b : Int) ∧ (b : Int) < ((rowOv l i).length : Int) := by rw [rowOv_len]; omega
    have ebn : 0 ≤ (b : Int) ∧ (b : Int) < (l.length : Int) := by omega
    have hbo : b < o.length := by omega
    have hib := rowOv_at (l := l) (a := i) (b := b) (by omega) (by omega)
    by_cases c1 : (i : Int) = b
    · obtain ⟨o', q⟩ := ih o ho (H.skip (.inl c1))
      refine ⟨o', ?_, q.2⟩
      simp (decide := true) (implicitDefEqProofs := false) only [k71b0, go_sem, e1, e3, decide_eq_true c1]
      exact q.1
    cases c2 : rdOf false (rowOv l i) b with
    | false =>
      have hno : ¬ Ov l i b := fun q => by rw [hib.2 q] at c2; cases c2
      obtain ⟨o', q⟩ := ih o ho (H.skip (.inr hno))
      refine ⟨o', ?_, q.2⟩
      simp (decide := true) (implicitDefEqProofs := false) only [k71b0, go_sem, e1, e3, decide_eq_false c1, ei, hri, eb, c2]
      exact q.1
    | true =>
      have hyes := hib.1 c2
      have a1 : storeR [X, .row 1 (o.map int)] 1 b 1 (some (.row 1 (o.map int))) [int i] = some [X, .row 1 ((o.set b i).map int)] := by
        rw [storeR_row, if_pos ⟨rfl, by simp; omega, rfl⟩, put_map (f := int) hbo]; rfl
      have set_at : (o.set b (i : Int)).getD b 0 = i := by rw [List.getD_eq_getElem?_getD, List.getElem?_set_self hbo]; rfl
      have takes : (o.getD b 0 < 0 ∨ Ov l (o.getD b 0) i) → ∃ o' : List Int, L ⟨[(0, rowsB (overOf l)), (3, .os 1 0 l.length (some l.length)), (4, int b), (10, int l.length), (11, int b), (18, int l.length), (19, int (i + 1 : Nat))], [X, .row 1 ((o.set b i).map int)]⟩ = some (.exit 2, ⟨[(0, rowsB (overOf l)), (3, .os 1 0 l.length (some l.length)), (4, int b), (10, int l.length), (11, int b), (18, int l.length), (19, int l.length), (20, bool false)], [X, .row 1 (o'.map int)]⟩) ∧ o'.length = l.length ∧ (∀ j, j ≠ b → o'[j]? = o[j]?) ∧ Near l b l.length (o'.getD b 0) := fun hc => by
        obtain ⟨o', q1, q2, q3, q4⟩ := ih (o.set b i) (by simp [ho]) (by rw [set_at]; exact H.take c1 hyes hc)
        exact ⟨o', q1, q2, fun j hj => by rw [q3 j hj, List.getElem?_set_ne (Ne.symm hj)], q4⟩
      by_cases c3 : o.getD b 0 < 0
      · obtain ⟨o', q⟩ := takes (.inl c3)
        refine ⟨o', ?_, q.2⟩
        simp (decide := true) (implicitDefEqProofs := false) only [k71b0, go_sem, e1, e3, decide_eq_false c1, ei, hri, eb, ebn, hbo, Int.toNat_natCast, c2, decide_eq_true c3, a1]
        exact q.1
      · have hcur : 0 ≤ o.getD b 0 ∧ o.getD b 0 < ((overOf l).length : Int) := by
          rw [over_len]
          rcases H with ⟨h1, _⟩ | ⟨h1, _⟩ <;> omega
        have hrc := over_at (l := l) (a := o.getD b 0) hcur.1 (by rw [over_len] at hcur; exact hcur.2)
        have eic : 0 ≤ (i : Int) ∧ (i : Int) < ((rowOv l (o.getD b 0)).length : Int) := by rw [rowOv_len]; omega
        have hci := rowOv_at (l := l) (a := o.getD b 0) (b := i) (by omega) (by omega)
        cases c4 : rdOf false (rowOv l (o.getD b 0)) i with
        | true =>
          obtain ⟨o', q⟩ := takes (.inr (hci.1 c4))
          refine ⟨o', ?_, q.2⟩
          simp (decide := true) (implicitDefEqProofs := false) only [k71b0, go_sem, e1, e3, decide_eq_false c1, ei, hri, eb, ebn, hbo, Int.toNat_natCast, c2, decide_eq_false c3, hcur, hrc, eic, c4, a1]
          exact q.1
        | false =>
          obtain ⟨o', q⟩ := ih o ho (H.stay hyes c3 (fun q => by rw [hci.2 q] at c4; cases c4))
          refine ⟨o', ?_, q.2⟩
          simp (decide := true) (implicitDefEqProofs := false) only [k71b0, go_sem, e1, e3, decide_eq_false c1, ei, hri, eb, ebn, hbo, Int.toNat_natCast, c2, decide_eq_false c3, hcur, hrc, eic, c4]
          exact q.1
theorem near_out (X : Tm.Node) (l : List Block) (hn : l.length ≤ 16) (hn2 : 30 ≤ n) (d : Nat) : ∀ (i m : Nat), i + d = l.length → d < m → ∀ (o : List Int), o.length = l.length → (∀ j, j < i → Near l j l.length (o.getD j 0)) →
    ∃ o' : List Int, Tm.Loop Try.prog vals call n [0, 3, 10, 11] k71b1 m ⟨[(0, rowsB (overOf l)), (3, .os 1 0 l.length (some l.length)), (10, int l.length), (11, int i)], [X, .row 1 (o.map int)]⟩ = some (.exit 0, ⟨[(0, rowsB (overOf l)), (3, .os 1 0 l.length (some l.length)), (10, int l.length), (11, int l.length), (12, bool false)], [X, .row 1 (o'.map int)]⟩) ∧ o'.length = l.length ∧ (∀ j, j < l.length → Near l j l.length (o'.getD j 0)) := by
  induction d with
  | zero =>
    intro i m hi hm o ho H
    obtain ⟨m, rfl⟩ : ∃ p, m = p + 1 := ⟨m - 1, by omega⟩
    obtain rfl : i = l.length := by omega
    rw [Tm.Loop_succ]
    simp (implicitDefEqProofs := false) only [k71b1, go_sem, Int.lt_irrefl, decide_false]
    exact ⟨o, rfl, ho, H⟩
  | succ d ih =>
    intro i m hi hm o ho H
    obtain ⟨m, rfl⟩ : ∃ p, m = p + 1 := ⟨m - 1, by omega⟩
    replace ih := ih (i + 1) m (by omega) (by omega)
    rw [Tm.Loop_succ]
    generalize Tm.Loop Try.prog vals call n [0, 3, 10, 11] k71b1 m = L at ih ⊢
    have hil : i < l.length := by omega
    have e1 : decide ((i : Int) < l.length) = true := by simp; omega
    have e3 := wrap_next (n := l.length) (i := i) (by omega) (by omega)
    have ebn : 0 ≤ (i : Int) ∧ (i : Int) < (l.length : Int) := by omega
    have hio : i < o.length := by omega
    have hol := over_len l
    have a1 : storeR [X, .row 1 (o.map int)] 1 i 1 (some (.row 1 (o.map int))) [int (-1)] = some [X, .row 1 ((o.set i (-1)).map int)] := by
      rw [storeR_row, if_pos ⟨rfl, by simp; omega, rfl⟩, put_map (f := int) hio]; rfl
    obtain ⟨o1, g1, g2, g3, g4⟩ := near_in (vals := vals) (call := call) (n := n) X l hn i hil l.length 0 n (by omega) (by omega) (o.set i (-1)) (by simp [ho]) (.inl ⟨by rw [List.getD_eq_getElem?_getD, List.getElem?_set_self hio]; rfl, fun a a0 a1 => by omega⟩)
    rw [show ((0 : Nat) : Int) = 0 from rfl] at g1
    obtain ⟨o2, q1, q2, q3⟩ := ih o1 g2 (fun j hj => by
      by_cases e : j = i
      · subst e; exact g4
      · have := H j (by omega)
        rw [List.getD_eq_getElem?_getD, g3 j e, List.getElem?_set_ne (Ne.symm e), ← List.getD_eq_getElem?_getD]; exact this)
    simp (decide := true) (implicitDefEqProofs := false) only [k71b1, go_sem, e1, e3, ebn, Int.toNat_natCast, a1, hol, g1]
    exact ⟨o2, q1, q2, q3⟩
end
open Classical in
noncomputable def nearV (l : List Block) (b : Nat) : Int := if h : ∃ c, Near l b l.length c then Classical.choose h else 0
noncomputable def overI (l : List Block) : List Int := (List.range l.length).map (nearV l)
theorem overI_len (l : List Block) : (overI l).length = l.length := by simp [overI]
theorem overI_of {l : List Block} {o : List Int} (hl : o.length = l.length) (H : ∀ j, j < l.length → Near l j l.length (o.getD j 0)) : o = overI l := by
  refine List.ext_getElem (by simp [overI, hl]) fun j h1 h2 => ?_
  have := H j (by omega)
  rw [List.getD_eq_getElem?_getD, List.getElem?_eq_getElem h1, Option.getD_some] at this
  have ex : ∃ c, Near l j l.length c := ⟨_, this⟩
  simp only [overI, List.getElem_map, List.getElem_range]
  have e : nearV l j = Classical.choose ex := by unfold nearV; rw [dif_pos ex]
  rw [e]
  exact Near.uniq this (Classical.choose_spec ex)
theorem nearest_raw (X : Tm.Node) (l : List Block) (hb : l.length ≤ 16) {vals : FuncId → Bool} {call : CallF} {n : Nat} (hn2 : 30 ≤ n) : ∃ o : List Int, o.length = l.length ∧ (∀ j, j < l.length → Near l j l.length (o.getD j 0)) ∧ Tm.Loop Try.prog vals call n [0, 3, 10, 11] k71b1 n ⟨[(0, rowsB (overOf l)), (3, .os 1 0 l.length (some l.length)), (10, int l.length), (11, int 0)], [X, .row 1 ((List.replicate l.length (0 : Int)).map int)]⟩ = some (.exit 0, ⟨[(0, rowsB (overOf l)), (3, .os 1 0 l.length (some l.length)), (10, int l.length), (11, int l.length), (12, bool false)], [X, .row 1 (o.map int)]⟩) := by
  obtain ⟨o, g1, g2, g3⟩ := near_out (vals := vals) (call := call) (n := n) X l hb hn2 l.length 0 n (by omega) (by omega) (List.replicate l.length 0) (by simp) (fun j hj => by omega)
  exact ⟨o, g2, g3, g1⟩
theorem overI_near (l : List Block) (hb : l.length ≤ 16) {j : Nat} (hj : j < l.length) : Near l j l.length ((overI l).getD j 0) := by
  obtain ⟨o, g2, g3, _⟩ := nearest_raw (.row 0 []) l hb (vals := fun _ => false) (call := fun _ _ _ => none) (n := 30) (by omega)
  rw [← overI_of g2 g3]; exact g3 j hj
theorem overRun (f : Tm.Func) (F : Fine f) (hpos : 0 < f.blocks.length) : Runs Try.prog tab (2 ^ 36 + 50) 37 [.agg (encFunc f)] (ints (overI f.blocks)) := by
  refine Runs.by (rs := [.tmp 2]) (N := 6) rfl Try.func37 rfl rfl (by simp) fun k hk => ?_
  have hb := F.blocks
  have hover : ∀ h, callAt Try.prog tab k 68 [.agg (encFunc f)] h = some (rowsB (overOf f.blocks), h) := fun h => over_runs f F hpos k (by omega) _ h (by simp only [mapC_cons, mapC_nil, depth, view_func f, Option.bind_some])
  obtain ⟨k', rfl⟩ : ∃ p, k = p + 1 := ⟨k - 1, by omega⟩
  obtain ⟨o, g2, g3, g1⟩ := nearest_raw (.row 0 (encFunc f)) f.blocks hb (vals := valsOf tab) (call := callAt Try.prog tab k') (n := k') (by omega)
  have eM : 0 ≤ (f.blocks.length : Int) ∧ (f.blocks.length : Int) ≤ (f.blocks.length : Int) ∧ (f.blocks.length : Int) ≤ (maxRow : Nat) := ⟨by omega, by omega, by unfold maxRow; omega⟩
  have e7 := rep_map (f := int) f.blocks.length 0
  have hol := over_len f.blocks
  have hnear : callAt Try.prog tab (k' + 1) 71 [rowsB (overOf f.blocks)] [.row 0 (encFunc f)] = some (.os 1 0 f.blocks.length (some f.blocks.length), [.row 0 (encFunc f), .row 1 (o.map int)]) := by
    rw [ref_call (rs := [.tmp 2]) (N := 59) rfl Try.func71 rfl rfl (by simp)]
    simp (decide := true) (implicitDefEqProofs := false) only [k71, go_sem, hol, eM, Int.toNat_natCast, e7, g1]
  rw [enc_func] at *
  simp (decide := true) (implicitDefEqProofs := false) only [k37, go_sem, hover, hnear]
  refine ⟨_, _, rfl, ?_⟩
  have := view_os_ints (cl := true) (n := 10) (h := [.row 0 [str f.name, bool f.out, ints f.params, int f.result, blocks f.blocks], .row 1 (o.map int)]) (l := 1) (cap := some f.blocks.length) (xs := o) rfl
  rw [g2] at this
  rw [← overI_of g2 g3]
  exact this
/-! ### Under -/
noncomputable def underFrom (o : List Int) : Nat → Nat → List (List Int) → List (List Int)
  | 0, _, acc => acc
  | d + 1, i, acc => underFrom o d (i + 1) (if 0 ≤ o.getD i 0 then push i acc (o.getD i 0) else acc)
noncomputable def underOf (l : List Block) : List (List Int) := underFrom (overI l) l.length 0 (List.replicate l.length [])
theorem under_loop {vals : FuncId → Bool} {call : CallF} {n : Nat} (o : List Int) (hn : o.length ≤ 16) (ho : ∀ j, j < o.length → o.getD j 0 < (o.length : Int)) (d : Nat) : ∀ (i m : Nat), i + d = o.length → d < m → ∀ (h : Heap) (cells : List C) (acc : List (List Int)), Tm.Rows h 1 cells acc → acc.length = o.length → (∀ j, (acc.getD j []).length ≤ i) →
    ∃ h' cells', Tm.Loop Try.prog vals call n [3, 11, 12, 13] k39b0 m ⟨[(3, .os 1 0 o.length (some o.length)), (11, ints o), (12, int o.length), (13, int i)], h⟩ = some (.exit 0, ⟨[(3, .os 1 0 o.length (some o.length)), (11, ints o), (12, int o.length), (13, int o.length), (14, bool false)], h'⟩) ∧ Tm.Rows h' 1 cells' (underFrom o d i acc) ∧ (underFrom o d i acc).length = o.length := by
  induction d with
  | zero =>
    intro i m hi hm h cells acc hR hL _
    obtain ⟨m, rfl⟩ : ∃ p, m = p + 1 := ⟨m - 1, by omega⟩
    obtain rfl : i = o.length := by omega
    rw [Tm.Loop_succ]
    simp (implicitDefEqProofs := false) only [k39b0, go_sem, Int.lt_irrefl, decide_false]
    exact ⟨h, cells, rfl, hR, hL⟩
  | succ d ih =>
    intro i m hi hm h cells acc hR hL hM
    obtain ⟨m, rfl⟩ : ∃ p, m = p + 1 := ⟨m - 1, by omega⟩
    replace ih := ih (i + 1) m (by omega) (by omega)
    rw [Tm.Loop_succ]
    generalize Tm.Loop Try.prog vals call n [3, 11, 12, 13] k39b0 m = L at ih ⊢
    have e1 : decide ((i : Int) < o.length) = true := by simp; omega
    have e2 : 0 ≤ (i : Int) ∧ (i : Int) < o.length := by omega
    have e3 := wrap_next (n := o.length) (i := i) (by omega) (by omega)
    have hrd : rd o i = o.getD i 0 := rfl
    have hlt := ho i (by omega)
    by_cases c1 : 0 ≤ o.getD i 0
    · have c1' : rd o i ≥ 0 := c1
      have e4 : 0 ≤ rd o i ∧ rd o i < (o.length : Int) := ⟨c1, hlt⟩
      have e5 : (rd o i).toNat < acc.length := by omega
      obtain ⟨c, c', h', g1, g2, g3, g4, g5, g6, g7, g8⟩ := hR.append e5 i (by have := hM (rd o i).toNat; unfold maxRow; omega)
      have g1' := get_isSome g1
      have g3' : storeR h' 1 (rd o i).toNat 1 (some (.row 1 cells)) [c'] = some (h'.set 1 (.row 1 (cells.set (rd o i).toNat c'))) := by
        rw [storeR_row, if_pos ⟨rfl, by simp; omega, by simp [g5]⟩, put_cell g6]
      have hat := hR.at_
      obtain ⟨h2, cells2, q1, q2, q3⟩ := ih _ _ (push i acc (rd o i)) g7 (by rw [push_len]; exact hL) (fun j => push_row (t := rd o i) (b := i) j i hM)
      rw [underFrom, if_pos c1]
      simp (decide := true) (implicitDefEqProofs := false) only [k39b0, go_sem, e1, e2, e3, e4, decide_eq_true c1', hat, g1', g2, g3, g3', g4]
      exact ⟨h2, cells2, q1, q2, q3⟩
    · have c1' : ¬ rd o i ≥ 0 := c1
      obtain ⟨h2, cells2, q1, q2, q3⟩ := ih h cells acc hR hL (fun j => Nat.le_succ_of_le (hM j))
      rw [underFrom, if_neg c1]
      simp (decide := true) (implicitDefEqProofs := false) only [k39b0, go_sem, e1, e2, e3, decide_eq_false c1']
      exact ⟨h2, cells2, q1, q2, q3⟩
theorem overI_range {l : List Block} (hb : l.length ≤ 16) {j : Nat} (hj : j < l.length) : -1 ≤ (overI l).getD j 0 ∧ (overI l).getD j 0 < (l.length : Int) := by
  rcases overI_near l hb hj with ⟨h, _⟩ | ⟨h, _⟩ <;> omega
theorem under_runs (f : Tm.Func) (F : Fine f) (hpos : 0 < f.blocks.length) : Runs Try.prog tab (2 ^ 36 + 52) 39 [.agg (encFunc f)] (rows (underOf f.blocks)) := by
  have hb := F.blocks
  refine Runs.by (rs := [.tmp 2]) (N := 32) rfl Try.func39 rfl rfl (by simp) fun k hk => ?_
  have hover : ∀ h, callAt Try.prog tab k 37 [.agg (encFunc f)] h = some (ints (overI f.blocks), h) := fun h => overRun f F hpos k (by omega) _ h (by simp only [mapC_cons, mapC_nil, depth, view_func f, Option.bind_some])
  have hl := overI_len f.blocks
  have R0 : Tm.Rows [.row 0 (encFunc f), .row 1 (List.replicate f.blocks.length (.v (.slice none 0 0)))] 1 (List.replicate f.blocks.length (.v (.slice none 0 0))) (List.replicate f.blocks.length []) := by
    refine ⟨rfl, by simp, fun j c hc => ?_, fun j l hl => ?_, fun j k l hj => ?_⟩
    · obtain ⟨hj, rfl⟩ := List.getElem?_eq_some_iff.1 hc
      refine .inl ⟨?_, by simp⟩
      simp only [List.getD_eq_getElem?_getD, List.getElem?_replicate]; split <;> rfl
    · rw [List.getElem?_replicate] at hl; split at hl <;> cases hl
    · rw [List.getElem?_replicate] at hj; split at hj <;> cases hj
  obtain ⟨h', cells', g1, g2, g3⟩ := under_loop (vals := valsOf tab) (call := callAt Try.prog tab k) (n := k) (overI f.blocks) (by omega) (fun j hj => by rw [hl] at hj ⊢; exact (overI_range hb hj).2) (overI f.blocks).length 0 k (by omega) (by omega) _ _ _ R0 (by simp [hl]) (fun j => by rw [List.getD_eq_getElem?_getD, List.getElem?_replicate]; split <;> simp)
  rw [show ((0 : Nat) : Int) = 0 from rfl, hl] at g1
  rw [enc_func] at *
  have eM : 0 ≤ (f.blocks.length : Int) ∧ (f.blocks.length : Int) ≤ (f.blocks.length : Int) ∧ (f.blocks.length : Int) ≤ (maxRow : Nat) := ⟨by omega, by omega, by unfold maxRow; omega⟩
  simp (decide := true) (implicitDefEqProofs := false) only [k39, go_sem, eM, Int.toNat_natCast, rep_one, hover, hl, g1]
  refine ⟨_, _, rfl, ?_⟩
  have := g2.view (cl := true) (n := 9) (cap := some f.blocks.length)
  rw [g3, hl] at this
  unfold underOf
  exact this
end Go.Proofs.Ytkcimaibaicdcaa.Tk
