import Derived.Test.YtkcimaibaicdcaaSI
set_option linter.unusedSimpArgs false
namespace Go.Proofs.Ytkcimaibaicdcaa.Tk
open Go.Tm Go.Tm.Tab
set_option maxRecDepth 100000
open Classical in
/-- What is met from block 0 on without going through another one. -/
noncomputable def fromOf (l : List Block) (less : Int) : List Bool := (List.range l.length).map fun (v : Nat) => decide (Rc (nextOf l) (· ≠ less) 0 v)
theorem from_len (l : List Block) (less : Int) : (fromOf l less).length = l.length := by simp [fromOf]
theorem from_at {l : List Block} {less v : Int} (v0 : 0 ≤ v) (v1 : v < (l.length : Int)) : rdOf false (fromOf l less) v = true ↔ Rc (nextOf l) (· ≠ less) 0 v := by
  have h : v.toNat < l.length := by omega
  unfold rdOf fromOf
  rw [List.getD_eq_getElem?_getD, List.getElem?_map, List.getElem?_range h]
  simp only [Option.map_some, Option.getD_some, decide_eq_true_eq]
  rw [show ((v.toNat : Nat) : Int) = v by omega]
def Closed (l : List Block) (less : Int) (o : List Bool) : Prop := ∀ b : Nat, b < l.length → rdOf false o b = true → ∀ t ∈ nextOf l b, t ≠ less → rdOf false o t = true
theorem closed_from {l : List Block} {less : Int} {o : List Bool} (hL : o.length = l.length) (hM : Met l less o) (h0 : rdOf false o 0 = true) (hC : Closed l less o) : o = fromOf l less := by
  have hall : ∀ v : Int, Rc (nextOf l) (· ≠ less) 0 v → rdOf false o v = true ∧ 0 ≤ v := fun v hv => by
    generalize e : (0 : Int) = z at hv
    induction hv with
    | refl _ => subst e; exact ⟨h0, Int.le_refl _⟩
    | step _ hw hP ih =>
      subst e
      obtain ⟨i1, i2⟩ := ih
      rename_i u w _
      obtain ⟨r1, r2⟩ := next_in hw
      by_cases c : u < (l.length : Int)
      · have := hC u.toNat (by omega) (by rw [show ((u.toNat : Nat) : Int) = u by omega]; exact i1) w (by rw [show ((u.toNat : Nat) : Int) = u by omega]; exact hw) hP
        exact ⟨this, r1⟩
      · exfalso
        unfold rdOf at i1
        rw [List.getD_eq_getElem?_getD, List.getElem?_eq_none (by omega)] at i1
        cases i1
  refine List.ext_getElem? fun j => ?_
  by_cases hj : j < l.length
  · have h1 : o[j]? = some (rdOf false o j) := by
      unfold rdOf
      rw [Int.toNat_natCast, List.getD_eq_getElem?_getD, List.getElem?_eq_getElem (by omega)]; rfl
    have h2 : (fromOf l less)[j]? = some (rdOf false (fromOf l less) j) := by
      unfold rdOf
      rw [Int.toNat_natCast, List.getD_eq_getElem?_getD, List.getElem?_eq_getElem (by rw [from_len]; omega)]; rfl
    rw [h1, h2]
    congr 1
    rw [Bool.eq_iff_iff, from_at (by omega) (by omega)]
    exact ⟨fun h => hM j (by omega) (by omega) h, fun h => (hall _ h).1⟩
  · rw [List.getElem?_eq_none (by omega), List.getElem?_eq_none (by rw [from_len]; omega)]
theorem from_again (f : Tm.Func) (F : Fine f) (less : Int) {vals : FuncId → Bool} {k n : Nat} (hk : 2 ^ 36 + 1 ≤ k) (hn : 30 ≤ n) (c : Nat) : ∀ (m : Nat) (h : Heap) (o : List Bool) (ag : Bool), o.count false + (if ag = true then 1 else 0) ≤ c → c < m → h[0]? = some (.row 0 (encFunc f)) → h[1]? = some (.row 1 (o.map bool)) → o.length = f.blocks.length → Met f.blocks less o → rdOf false o 0 = true → (ag = false → Closed f.blocks less o) →
    ∃ h', Tm.Loop Try.prog vals (callAt Try.prog tab k) n [2, 3, 7, 8] k65b2 m ⟨[(2, int less), (3, .op 0 0), (7, .os 1 0 f.blocks.length (some f.blocks.length)), (8, bool ag)], h⟩ = some (.exit 0, ⟨[(2, int less), (3, .op 0 0), (7, .os 1 0 f.blocks.length (some f.blocks.length)), (33, bool false)], h'⟩) ∧ h'[1]? = some (.row 1 ((fromOf f.blocks less).map bool)) := by
  have hb := F.blocks
  induction c with
  | zero =>
    intro m h o ag hc hm h0 h1 hL hM hz hC
    obtain ⟨m, rfl⟩ : ∃ p, m = p + 1 := ⟨m - 1, by omega⟩
    cases ag with
    | true => rw [if_pos rfl] at hc; omega
    | false =>
      rw [Tm.Loop_succ]
      simp (decide := true) (implicitDefEqProofs := false) only [k65b2, go_sem]
      exact ⟨h, rfl, by rw [← closed_from hL hM hz (hC rfl)]; exact h1⟩
  | succ c ih =>
    intro m h o ag hc hm h0 h1 hL hM hz hC
    obtain ⟨m, rfl⟩ : ∃ p, m = p + 1 := ⟨m - 1, by omega⟩
    cases ag with
    | false =>
      rw [Tm.Loop_succ]
      simp (decide := true) (implicitDefEqProofs := false) only [k65b2, go_sem]
      exact ⟨h, rfl, by rw [← closed_from hL hM hz (hC rfl)]; exact h1⟩
    | true =>
      rw [if_pos rfl] at hc
      rw [Tm.Loop_succ]
      replace ih := ih m
      have hkeep : ∀ (w x y z : C) (u v : C) (q : Heap), Tm.Loop Try.prog vals (callAt Try.prog tab k) n [2, 3, 7, 8] k65b2 m ⟨[(2, w), (3, x), (7, y), (8, z), (9, u), (37, v)], q⟩ = Tm.Loop Try.prog vals (callAt Try.prog tab k) n [2, 3, 7, 8] k65b2 m ⟨[(2, w), (3, x), (7, y), (8, z)], q⟩ := fun w x y z u v q => by
        cases m with
        | zero => rfl
        | succ m => rw [Tm.Loop_succ, Tm.Loop_succ]; rfl
      generalize Tm.Loop Try.prog vals (callAt Try.prog tab k) n [2, 3, 7, 8] k65b2 m = L at ih hkeep ⊢
      obtain ⟨h2, o2, ag2, g1, g2, g3, g4, g5, g6⟩ := from_pass (vals := vals) (n := n) f F less hk hn f.blocks.length 0 n (by omega) (by omega) h o false h0 h1 hL hM
      rw [show ((0 : Nat) : Int) = 0 from rfl] at g1
      simp (decide := true) (implicitDefEqProofs := false) only [k65b2, go_sem, g1]
      rw [hkeep]
      refine ih h2 o2 ag2 ?_ (by omega) g2 g3 (g4.len.trans hL) g5 (g4.mono _ hz) (fun e b hb1 => g6 e b (Nat.zero_le _) hb1)
      cases ag2 with
      | true =>
        have := g4.loud rfl rfl
        rw [if_pos rfl]
        omega
      | false =>
        rw [(g4.quiet rfl).1, if_neg (by decide)]
        omega
theorem from_none {l : List Block} : fromOf l 0 = List.replicate l.length false := by
  refine List.ext_getElem? fun j => ?_
  unfold fromOf
  rw [List.getElem?_map, List.getElem?_replicate]
  by_cases hj : j < l.length
  · rw [List.getElem?_range hj, if_pos hj]
    simp only [Option.map_some, Option.some.injEq]
    rw [decide_eq_false_iff_not]
    exact fun h => h.left rfl
  · rw [List.getElem?_eq_none (by simpa using hj), if_neg hj]; rfl
theorem rep_bool (n : Nat) : List.replicate n (bool false) = (List.replicate n false).map bool := by rw [List.map_replicate]
theorem from_runs (f : Tm.Func) (F : Fine f) (hpos : 0 < f.blocks.length) (less : Int) : Runs Try.prog tab (2 ^ 36 + 2) 65 [.agg (encFunc f), int 0, int less] (bools (fromOf f.blocks less)) := by
  have hb := F.blocks
  refine Runs.by (rs := [.tmp 6]) (N := 77) rfl Try.func65 rfl rfl (by simp) fun k hk => ?_
  have eM : 0 ≤ (f.blocks.length : Int) ∧ (f.blocks.length : Int) ≤ (f.blocks.length : Int) ∧ (f.blocks.length : Int) ≤ (maxRow : Nat) := ⟨by omega, by omega, by unfold maxRow; omega⟩
  have c1 : decide ((0 : Int) ≥ (f.blocks.length : Int)) = false := decide_eq_false (by omega)
  have e0 : 0 ≤ (0 : Int) ∧ (0 : Int) < (f.blocks.length : Int) := by omega
  by_cases c2 : (0 : Int) = less
  · rw [enc_func, ← c2, from_none]
    simp (decide := true) (implicitDefEqProofs := false) only [k65, go_sem, eM, Int.toNat_natCast, rep_one, rep_bool, c1]
    refine ⟨_, _, rfl, ?_⟩
    have := view_os_bools (cl := true) (n := 10) (h := [.row 0 [str f.name, bool f.out, ints f.params, int f.result, blocks f.blocks], .row 1 ((List.replicate f.blocks.length false).map bool)]) (l := 1) (xs := List.replicate f.blocks.length false) (cap := some f.blocks.length) rfl
    rw [List.length_replicate] at this
    exact this
  · have hset : storeR [.row 0 (encFunc f), .row 1 ((List.replicate f.blocks.length false).map bool)] 1 0 1 (some (.row 1 ((List.replicate f.blocks.length false).map bool))) [bool true] = some [.row 0 (encFunc f), .row 1 (((List.replicate f.blocks.length false).set 0 true).map bool)] := by
      rw [storeR_row, if_pos ⟨rfl, by simp; omega, rfl⟩, put_map (f := bool) (by simp; omega)]
      rfl
    have hM : Met f.blocks less ((List.replicate f.blocks.length false).set 0 true) := fun v v0 v1 hv => by
      rw [show (0 : Nat) = ((0 : Int)).toNat from rfl, rdb_set (Int.le_refl 0) (by simp; omega) v0] at hv
      by_cases e : (0 : Int) = v
      · subst e; exact .refl c2
      · rw [if_neg e] at hv
        unfold rdOf at hv
        rw [List.getD_eq_getElem?_getD, List.getElem?_replicate] at hv
        split at hv <;> cases hv
    obtain ⟨h', g1, g2⟩ := from_again (vals := valsOf tab) (k := k) (n := k) f F less (by omega) (by omega) 40 k [.row 0 (encFunc f), .row 1 (((List.replicate f.blocks.length false).set 0 true).map bool)] ((List.replicate f.blocks.length false).set 0 true) true (by
      have : ((List.replicate f.blocks.length false).set 0 true).count false ≤ ((List.replicate f.blocks.length false).set 0 true).length := List.count_le_length
      rw [List.length_set, List.length_replicate] at this
      rw [if_pos rfl]; omega) (by omega) rfl rfl (by simp) hM (by
      rw [show (0 : Nat) = ((0 : Int)).toNat from rfl, rdb_set (Int.le_refl 0) (by simp; omega) (Int.le_refl 0), if_pos rfl]) (fun h => by cases h)
    rw [enc_func] at *
    simp (decide := true) (implicitDefEqProofs := false) only [k65, go_sem, eM, Int.toNat_natCast, rep_one, rep_bool, c1, decide_eq_false c2, e0, Int.toNat_zero, hset, g1]
    refine ⟨_, _, rfl, ?_⟩
    have := view_os_bools (cl := true) (n := 10) (cap := some f.blocks.length) g2
    rw [from_len] at this
    exact this
end Go.Proofs.Ytkcimaibaicdcaa.Tk
