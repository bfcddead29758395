import Derived.Test.YtkcimaibaicdcaaSH
import Derived.Test.YtkcimaibaicdcaaS7
set_option linter.unusedSimpArgs false
namespace Go.Proofs.Ytkcimaibaicdcaa.Tk
open Go.Tm Go.Tm.Tab
set_option maxRecDepth 100000
/-- What a pass does to the marks: it adds some, and says so. -/
structure Up (o : List Bool) (ag : Bool) (o' : List Bool) (ag' : Bool) : Prop where
  len : o'.length = o.length
  mono : ∀ v : Int, rdOf false o v = true → rdOf false o' v = true
  le : o'.count false ≤ o.count false
  quiet : ag' = false → o' = o ∧ ag = false
  loud : ag = false → ag' = true → o'.count false < o.count false
theorem Up.refl (o : List Bool) (ag : Bool) : Up o ag o ag := ⟨rfl, fun _ h => h, Nat.le_refl _, fun h => ⟨rfl, h⟩, fun h h2 => by rw [h] at h2; cases h2⟩
theorem Up.trans {o o1 o2 : List Bool} {a a1 a2 : Bool} (h : Up o a o1 a1) (k : Up o1 a1 o2 a2) : Up o a o2 a2 := by
  refine ⟨k.len.trans h.len, fun v hv => k.mono v (h.mono v hv), Nat.le_trans k.le h.le, fun e => ?_, fun e e2 => ?_⟩
  · obtain ⟨e1, e2⟩ := k.quiet e
    obtain ⟨e3, e4⟩ := h.quiet e2
    exact ⟨e1.trans e3, e4⟩
  · cases a1 with
    | true => exact Nat.lt_of_le_of_lt k.le (h.loud e rfl)
    | false => exact Nat.lt_of_lt_of_le (k.loud rfl e2) h.le
theorem Up.mark {o : List Bool} {i : Nat} {ag : Bool} (h : i < o.length) (hf : o.getD i false = false) : Up o ag (o.set i true) true := by
  have hc := countf_put h hf
  exact ⟨by simp, fun v hv => rdb_up hv, by omega, (fun e => by cases e), (fun _ _ => by omega)⟩
/-- All that is marked is met. -/
def Met (l : List Block) (less : Int) (o : List Bool) : Prop := ∀ v : Int, 0 ≤ v → v < (l.length : Int) → rdOf false o v = true → Rc (nextOf l) (· ≠ less) 0 v
theorem Met.mark {l : List Block} {less : Int} {o : List Bool} (h : Met l less o) (hl : o.length = l.length) {t : Int} (t0 : 0 ≤ t) (t1 : t < (l.length : Int)) (ht : Rc (nextOf l) (· ≠ less) 0 t) : Met l less (o.set t.toNat true) := fun v v0 v1 hv => by
  rw [rdb_set t0 (by omega) v0] at hv
  by_cases e : t = v
  · subst e; exact ht
  · rw [if_neg e] at hv; exact h v v0 v1 hv
theorem from_in (f : Tm.Func) (less : Int) {vals : FuncId → Bool} {call : CallF} {n : Nat} (b : Int) (x : List Int) (hx : ∀ v ∈ x, 0 ≤ v ∧ v < (f.blocks.length : Int)) (hx2 : x.length ≤ 20) (hR : ∀ v ∈ x, v ≠ less → Rc (nextOf f.blocks) (· ≠ less) 0 v) (d : Nat) : ∀ (i m : Nat), i + d = x.length → d < m → ∀ (h : Heap) (o : List Bool) (ag : Bool), h[0]? = some (.row 0 (encFunc f)) → h[1]? = some (.row 1 (o.map bool)) → o.length = f.blocks.length → Met f.blocks less o →
    ∃ h' o' ag', Tm.Loop Try.prog vals call n [2, 3, 7, 8, 9, 10, 11] k65b0 m ⟨[(2, int less), (3, .op 0 0), (7, .os 1 0 f.blocks.length (some f.blocks.length)), (8, bool ag), (9, int b), (10, ints x), (11, int i)], h⟩ = some (.exit 4, ⟨[(2, int less), (3, .op 0 0), (7, .os 1 0 f.blocks.length (some f.blocks.length)), (8, bool ag'), (9, int b), (10, ints x), (11, int x.length), (51, bool false)], h'⟩) ∧
      h'[0]? = some (.row 0 (encFunc f)) ∧ h'[1]? = some (.row 1 (o'.map bool)) ∧ Up o ag o' ag' ∧ Met f.blocks less o' ∧ (∀ t ∈ x.drop i, t ≠ less → rdOf false o' t = true) := by
  induction d with
  | zero =>
    intro i m hi hm h o ag h0 h1 hL hM
    obtain ⟨m, rfl⟩ : ∃ p, m = p + 1 := ⟨m - 1, by omega⟩
    obtain rfl : i = x.length := by omega
    rw [Tm.Loop_succ]
    simp (decide := true) (implicitDefEqProofs := false) only [k65b0, go_sem, Int.lt_irrefl, decide_false]
    exact ⟨h, o, ag, rfl, h0, h1, Up.refl _ _, hM, fun t ht => by simp at ht⟩
  | succ d ih =>
    intro i m hi hm h o ag h0 h1 hL hM
    obtain ⟨m, rfl⟩ : ∃ p, m = p + 1 := ⟨m - 1, by omega⟩
    replace ih := ih (i + 1) m (by omega) (by omega)
    rw [Tm.Loop_succ, drop_rd (xs := x) (i := i) (by omega)]
    generalize Tm.Loop Try.prog vals call n [2, 3, 7, 8, 9, 10, 11] k65b0 m = L at ih ⊢
    have e1 : decide ((i : Int) < x.length) = true := by simp; omega
    have e2 : 0 ≤ (i : Int) ∧ (i : Int) < x.length := by omega
    have e3 := wrap_next (n := x.length) (i := i) (by omega) (by omega)
    have hmem := rd_mem e2.1 e2.2
    have e4 := hx _ hmem
    have e5 : (rd x i).toNat < o.length := by omega
    by_cases c1 : rd x i = less
    · simp (decide := true) (implicitDefEqProofs := false) only [k65b0, go_sem, e1, e2, e3, decide_eq_true c1]
      obtain ⟨h', o', ag', q1, q2, q3, q4, q5, q6⟩ := ih h o ag h0 h1 hL hM
      refine ⟨h', o', ag', q1, q2, q3, q4, q5, fun t ht hne => ?_⟩
      rcases List.mem_cons.1 ht with rfl | ht
      · exact absurd c1 hne
      · exact q6 t ht hne
    · cases c2 : rdOf false o (rd x i) with
      | true =>
        have c2' : o.getD (rd x i).toNat false = true := c2
        simp (decide := true) (implicitDefEqProofs := false) only [k65b0, go_sem, e1, e2, e3, e4, e5, h1, decide_eq_false c1, c2']
        obtain ⟨h', o', ag', q1, q2, q3, q4, q5, q6⟩ := ih h o ag h0 h1 hL hM
        refine ⟨h', o', ag', q1, q2, q3, q4, q5, fun t ht hne => ?_⟩
        rcases List.mem_cons.1 ht with rfl | ht
        · exact q4.mono _ c2
        · exact q6 t ht hne
      | false =>
        have c2' : o.getD (rd x i).toNat false = false := c2
        have hlen := (List.getElem?_eq_some_iff.1 h1).1
        have a1 : storeR h 1 (rd x i).toNat 1 (some (.row 1 (o.map bool))) [bool true] = some (h.set 1 (.row 1 ((o.set (rd x i).toNat true).map bool))) := by
          rw [storeR_row, if_pos ⟨rfl, by simp; omega, rfl⟩, put_map (f := bool) e5]
        simp (decide := true) (implicitDefEqProofs := false) only [k65b0, go_sem, e1, e2, e3, e4, e5, h1, decide_eq_false c1, c2', a1]
        have hm1 := hM.mark hL e4.1 e4.2 (hR _ hmem c1)
        have hset : rdOf false (o.set (rd x i).toNat true) (rd x i) = true := by rw [rdb_set e4.1 (by omega) e4.1, if_pos rfl]
        obtain ⟨h', o', ag', q1, q2, q3, q4, q5, q6⟩ := ih (h.set 1 (.row 1 ((o.set (rd x i).toNat true).map bool))) (o.set (rd x i).toNat true) true (by rw [List.getElem?_set_ne (by decide)]; exact h0) (by rw [List.getElem?_set_self hlen]) (by simpa using hL) hm1
        refine ⟨h', o', ag', q1, q2, q3, (Up.mark e5 c2').trans q4, q5, fun t ht hne => ?_⟩
        rcases List.mem_cons.1 ht with rfl | ht
        · exact q4.mono _ hset
        · exact q6 t ht hne
theorem from_pass (f : Tm.Func) (F : Fine f) (less : Int) {vals : FuncId → Bool} {k n : Nat} (hk : 2 ^ 36 + 1 ≤ k) (hn : 30 ≤ n) (d : Nat) : ∀ (i m : Nat), i + d = f.blocks.length → d < m → ∀ (h : Heap) (o : List Bool) (ag : Bool), h[0]? = some (.row 0 (encFunc f)) → h[1]? = some (.row 1 (o.map bool)) → o.length = f.blocks.length → Met f.blocks less o →
    ∃ h' o' ag', Tm.Loop Try.prog vals (callAt Try.prog tab k) n [2, 3, 7, 8, 9] k65b1 m ⟨[(2, int less), (3, .op 0 0), (7, .os 1 0 f.blocks.length (some f.blocks.length)), (8, bool ag), (9, int i)], h⟩ = some (.exit 2, ⟨[(2, int less), (3, .op 0 0), (7, .os 1 0 f.blocks.length (some f.blocks.length)), (8, bool ag'), (9, int f.blocks.length), (37, bool false)], h'⟩) ∧
      h'[0]? = some (.row 0 (encFunc f)) ∧ h'[1]? = some (.row 1 (o'.map bool)) ∧ Up o ag o' ag' ∧ Met f.blocks less o' ∧ (ag' = false → ∀ b : Nat, i ≤ b → b < f.blocks.length → rdOf false o' b = true → ∀ t ∈ nextOf f.blocks b, t ≠ less → rdOf false o' t = true) := by
  have hb := F.blocks
  induction d with
  | zero =>
    intro i m hi hm h o ag h0 h1 hL hM
    obtain ⟨m, rfl⟩ : ∃ p, m = p + 1 := ⟨m - 1, by omega⟩
    obtain rfl : i = f.blocks.length := by omega
    rw [Tm.Loop_succ]
    simp (decide := true) (implicitDefEqProofs := false) only [k65b1, go_sem, Int.lt_irrefl, decide_false]
    exact ⟨h, o, ag, rfl, h0, h1, Up.refl _ _, hM, fun _ b h1 h2 => by omega⟩
  | succ d ih =>
    intro i m hi hm h o ag h0 h1 hL hM
    obtain ⟨m, rfl⟩ : ∃ p, m = p + 1 := ⟨m - 1, by omega⟩
    replace ih := ih (i + 1) m (by omega) (by omega)
    rw [Tm.Loop_succ]
    generalize Tm.Loop Try.prog vals (callAt Try.prog tab k) n [2, 3, 7, 8, 9] k65b1 m = L at ih ⊢
    have e1 : decide ((i : Int) < f.blocks.length) = true := by simp; omega
    have e3 := wrap_next (n := f.blocks.length) (i := i) (by omega) (by omega)
    have e4 : 0 ≤ (i : Int) ∧ (i : Int) < (f.blocks.length : Int) := by omega
    have e5 : i < o.length := by omega
    cases c2 : rdOf false o (i : Int) with
    | false =>
      have c2' : o.getD i false = false := by unfold rdOf at c2; rw [Int.toNat_natCast] at c2; exact c2
      simp (decide := true) (implicitDefEqProofs := false) only [k65b1, go_sem, e1, e3, e4, e5, h1, Int.toNat_natCast, c2']
      obtain ⟨h', o', ag', q1, q2, q3, q4, q5, q6⟩ := ih h o ag h0 h1 hL hM
      refine ⟨h', o', ag', q1, q2, q3, q4, q5, fun ea b hb1 hb2 hob => ?_⟩
      by_cases eb : b = i
      · subst eb
        rw [(q4.quiet ea).1, c2] at hob
        cases hob
      · exact q6 ea b (by omega) hb2 hob
    | true =>
      have c2' : o.getD i false = true := by unfold rdOf at c2; rw [Int.toNat_natCast] at c2; exact c2
      have hmi := hM i e4.1 e4.2 c2
      obtain ⟨h2, o2, ag2, g1, g2, g3, g4, g5, g6⟩ := from_in (vals := vals) (call := callAt Try.prog tab k) (n := n) f less i (nextOf f.blocks i) (fun v hv => next_in hv) (next_len F i) (fun v hv hne => .step hmi hv hne) (nextOf f.blocks i).length 0 n (by have := next_len F i; omega) (by have := next_len F i; omega) h o ag h0 h1 hL hM
      rw [show ((0 : Nat) : Int) = 0 from rfl] at g1
      rw [List.drop_zero] at g6
      have hcall := rnext_call f F i hk h
      have h0' := h0
      rw [enc_func] at h0'
      simp (decide := true) (implicitDefEqProofs := false) only [k65b1, go_sem, e1, e3, e4, e5, h0', h1, Int.toNat_natCast, c2', hcall, g1]
      obtain ⟨h', o', ag', q1, q2, q3, q4, q5, q6⟩ := ih h2 o2 ag2 g2 g3 (g4.len.trans hL) g5
      refine ⟨h', o', ag', q1, q2, q3, g4.trans q4, q5, fun ea b hb1 hb2 hob t ht hne => ?_⟩
      by_cases eb : b = i
      · subst eb
        exact q4.mono _ (g6 t ht hne)
      · exact q6 ea b (by omega) hb2 hob t ht hne
end Go.Proofs.Ytkcimaibaicdcaa.Tk
