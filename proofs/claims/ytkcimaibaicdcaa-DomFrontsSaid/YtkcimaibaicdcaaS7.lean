import Derived.Test.YtkcimaibaicdcaaS6
import Derived.Test.YtkcimaibaicdcaaTU
set_option linter.unusedSimpArgs false
namespace Go.Proofs.Ytkcimaibaicdcaa.Tk
open Go.Tm Go.Tm.Tab
set_option maxRecDepth 100000
theorem slice22 {h : Heap} {l len : Nat} {cells : List C} (hl : h[l]? = some (.row 1 cells)) : sliceC Try.prog h 22 (.os l 0 (len + 1) none) none (some (int len)) none = some (.os l 0 len none) := by
  rw [slice_fact (e := 3) (s := 1) (by kernel_rfl) (by kernel_rfl)]
  have hc : len ≤ capk none (len + 1) 0 1 cells := Nat.le_trans (Nat.le_succ len) (Nat.le_max_left _ _)
  simp [hl, bnds, bound, intOf, capLeft, hc]
theorem rdb_up {seen : List Bool} {k : Nat} {v : Int} (h : rdOf false seen v = true) : rdOf false (seen.set k true) v = true := by
  unfold rdOf at h ⊢
  rw [List.getD_eq_getElem?_getD] at h ⊢
  rw [List.getElem?_set]
  by_cases e : k = v.toNat
  · rw [if_pos e]
    by_cases q : k < seen.length
    · rw [if_pos q]; rfl
    · rw [List.getElem?_eq_none (by omega)] at h; cases h
  · rw [if_neg e]; exact h
section
variable {vals : FuncId → Bool} {call : CallF} {n : Nat}
/-- One vertex's neighbours. -/
theorem without_in (nx : List (List Int)) (N : Int → List Int) (k : Nat) (a b : Int) (x : List Int) (hxN : N b = x) (hk : k ≤ 16) (b0 : 0 ≤ b ∧ b < (k : Int)) (hx : ∀ v ∈ x, 0 ≤ v ∧ v < (k : Int)) (hx2 : x.length < 2 ^ 20) (d : Nat) : ∀ (i m : Nat), i + d = x.length → d < m → ∀ (h : Heap) (c : C) (seen : List Bool) (work : List Int), h[0]? = some (.row 1 (seen.map bool)) → Stack h c work → Wo N k a seen work (fun v => v = b) → rdOf false seen b = true → (∀ j : Int, 0 ≤ j → j < i → rd x j ≠ a → rdOf false seen (rd x j) = true) → work.length + d < 2 ^ 30 →
    ∃ h' c' seen' work', Tm.Loop Try.prog vals call n [0, 1, 5, 6, 37, 38, 39] k98b0 m ⟨[(0, rows nx), (1, int a), (5, .os 0 0 k (some k)), (6, c), (37, ints x), (38, int x.length), (39, int i)], h⟩ = some (.exit 2, ⟨[(0, rows nx), (1, int a), (5, .os 0 0 k (some k)), (6, c'), (37, ints x), (38, int x.length), (39, int x.length), (40, bool false)], h'⟩) ∧
      h'[0]? = some (.row 1 (seen'.map bool)) ∧ Stack h' c' work' ∧ Wo N k a seen' work' (fun v => v = b) ∧ rdOf false seen' b = true ∧ (∀ j : Int, 0 ≤ j → j < (x.length : Int) → rd x j ≠ a → rdOf false seen' (rd x j) = true) ∧ work'.length + seen'.count false = work.length + seen.count false := by
  induction d with
  | zero =>
    intro i m hi hm h c seen work h0 hS hW hb hin _
    obtain ⟨m, rfl⟩ : ∃ p, m = p + 1 := ⟨m - 1, by omega⟩
    obtain rfl : i = x.length := by omega
    rw [Tm.Loop_succ]
    simp (implicitDefEqProofs := false) only [k98b0, go_sem, Int.lt_irrefl, decide_false]
    exact ⟨h, c, seen, work, rfl, h0, hS, hW, hb, hin, rfl⟩
  | succ d ih =>
    intro i m hi hm h c seen work h0 hS hW hb hin hwl
    obtain ⟨m, rfl⟩ : ∃ p, m = p + 1 := ⟨m - 1, by omega⟩
    replace ih := ih (i + 1) m (by omega) (by omega)
    rw [Tm.Loop_succ]
    generalize Tm.Loop Try.prog vals call n [0, 1, 5, 6, 37, 38, 39] k98b0 m = L at ih ⊢
    have e1 : decide ((i : Int) < x.length) = true := by simp; omega
    have e2 : 0 ≤ (i : Int) ∧ (i : Int) < x.length := by omega
    have e3 := wrap_next (n := x.length) (i := i) (by omega) (by omega)
    have hmem := rd_mem e2.1 e2.2
    have e4 := hx _ hmem
    have hsl := hW.len
    have e5 : (rd x i).toNat < seen.length := by omega
    have nextin : ∀ seen' : List Bool, (∀ v : Int, rdOf false seen v = true → rdOf false seen' v = true) → (rd x i ≠ a → rdOf false seen' (rd x i) = true) → ∀ j : Int, 0 ≤ j → j < ((i + 1 : Nat) : Int) → rd x j ≠ a → rdOf false seen' (rd x j) = true := fun seen' up hi j j0 j1 hja => by
      by_cases e : j = i
      · subst e; exact hi hja
      · exact up _ (hin j j0 (by omega) hja)
    by_cases c1 : rd x i = a
    · simp (implicitDefEqProofs := false) only [k98b0, go_sem, e1, e2, e3, decide_eq_true c1]
      exact ih h c seen work h0 hS hW hb (nextin seen (fun _ h => h) (fun h => absurd c1 h)) (by omega)
    · cases c2 : rdOf false seen (rd x i) with
      | true =>
        have c2' : seen.getD (rd x i).toNat false = true := c2
        simp (implicitDefEqProofs := false) only [k98b0, go_sem, e1, e2, e3, e4, e5, h0, decide_eq_false c1, c2']
        exact ih h c seen work h0 hS hW hb (nextin seen (fun _ h => h) (fun _ => c2)) (by omega)
      | false =>
        have c2' : seen.getD (rd x i).toNat false = false := c2
        have hlen := (List.getElem?_eq_some_iff.1 h0).1
        have a1 : storeR h 0 (rd x i).toNat 1 (some (.row 1 (seen.map bool))) [bool true] = some (h.set 0 (.row 1 ((seen.set (rd x i).toNat true).map bool))) := by
          rw [storeR_row, if_pos ⟨rfl, by simp; omega, rfl⟩, put_map (f := bool) e5]
        have hS1 : Stack (h.set 0 (.row 1 ((seen.set (rd x i).toNat true).map bool))) c work := hS.mono fun l nd hl e => by rw [List.getElem?_set_ne (Ne.symm hl)]; exact e
        obtain ⟨c', h', g1, g2, g3⟩ := hS1.push (rd x i) (by unfold maxRow; omega) (by simpa using hlen)
        have hW' := hW.add hb b0 (by rw [hxN]; exact hmem) e4 c1
        have up : ∀ v : Int, rdOf false seen v = true → rdOf false (seen.set (rd x i).toNat true) v = true := fun v hv => rdb_up hv
        have hc := countf_put e5 c2'
        obtain ⟨h2, c3, seen', work', q1, q2, q3, q4, q5, q6, q7⟩ := ih h' c' (seen.set (rd x i).toNat true) (work ++ [rd x i]) (by rw [g3, List.getElem?_set_self hlen]) g2 hW' (up b hb) (nextin _ up (fun _ => by rw [rdb_set e4.1 (by omega) e4.1, if_pos rfl])) (by simp; omega)
        simp (decide := true) (implicitDefEqProofs := false) only [k98b0, go_sem, e1, e2, e3, e4, e5, h0, decide_eq_false c1, c2', a1, g1]
        refine ⟨h2, c3, seen', work', q1, q2, q3, q4, q5, q6, ?_⟩
        rw [q7]
        simp
        omega
theorem without_out (nx : List (List Int)) (N : Int → List Int) (k : Nat) (a : Int) (hk : k ≤ 16) (hnl : nx.length = k) (hN : ∀ b : Int, 0 ≤ b → b < (k : Int) → N b = rowOfL nx b) (hx : ∀ (b v : Int), v ∈ rowOfL nx b → 0 ≤ v ∧ v < (k : Int)) (hx2 : ∀ b : Int, (rowOfL nx b).length < 2 ^ 20) (hn : 2 ^ 20 < n) (M : Nat) : ∀ (m : Nat) (h : Heap) (c : C) (seen : List Bool) (work : List Int), M < m → M < 2 ^ 20 → work.length + seen.count false ≤ M → h[0]? = some (.row 1 (seen.map bool)) → Stack h c work → Wo N k a seen work (fun _ => False) →
    ∃ h' c' seen', Tm.Loop Try.prog vals call n [0, 1, 5, 6] k98b1 m ⟨[(0, rows nx), (1, int a), (5, .os 0 0 k (some k)), (6, c)], h⟩ = some (.exit 0, ⟨[(0, rows nx), (1, int a), (5, .os 0 0 k (some k)), (6, c'), (22, bool false)], h'⟩) ∧ h'[0]? = some (.row 1 (seen'.map bool)) ∧ Wo N k a seen' [] (fun _ => False) := by
  induction M with
  | zero =>
    intro m h c seen work hm _ hw h0 hS hW
    obtain ⟨m, rfl⟩ : ∃ p, m = p + 1 := ⟨m - 1, by omega⟩
    obtain rfl : work = [] := List.length_eq_zero_iff.1 (by omega)
    have hlen : lenS c = some (int 0) := hS.len
    have d0 : decide ((0 : Int) > 0) = false := rfl
    rw [Tm.Loop_succ]
    simp (implicitDefEqProofs := false) only [k98b1, go_sem, hlen, d0]
    exact ⟨h, c, seen, rfl, h0, hW⟩
  | succ M ih =>
    intro m h c seen work hm hM hw h0 hS hW
    obtain ⟨m, rfl⟩ : ∃ p, m = p + 1 := ⟨m - 1, by omega⟩
    rcases List.eq_nil_or_concat work with rfl | ⟨w, b, rfl⟩
    · have hlen : lenS c = some (int 0) := hS.len
      have d0 : decide ((0 : Int) > 0) = false := rfl
      rw [Tm.Loop_succ]
      simp (implicitDefEqProofs := false) only [k98b1, go_sem, hlen, d0]
      exact ⟨h, c, seen, rfl, h0, hW⟩
    · rw [List.concat_eq_append] at *
      obtain ⟨l, cells, rfl, hl, hd, hS'⟩ := hS.pop
      simp only [List.length_append, List.length_cons, List.length_nil, Nat.zero_add] at hw
      obtain ⟨b0, b1, hb⟩ := hW.wk b (by simp)
      have eb : 0 ≤ b ∧ b < (nx.length : Int) := by omega
      have e1 : decide (((w.length + 1 : Nat) : Int) > 0) = true := decide_eq_true (by omega)
      have e2 : IntKind.i64.wrap (((w.length + 1 : Nat) : Int) - 1) = (w.length : Int) := by rw [wrap_in (by omega) (by omega)]; omega
      have e3 : 0 ≤ (w.length : Int) ∧ (w.length : Int) < ((w.length + 1 : Nat) : Int) := by omega
      have hsl := slice22 (l := l) (len := w.length) hl
      have hW1 : Wo N k a seen w (fun v => v = b) := ⟨hW.len, hW.met, fun v hv => hW.wk v (List.mem_append_left _ hv), fun v v0 v1 hv => by
        rcases hW.shut v v0 v1 hv with q | q | q
        · rcases List.mem_append.1 q with q | q
          · exact .inl q
          · exact .inr (.inl (List.mem_singleton.1 q))
        · exact q.elim
        · exact .inr (.inr q), hW.root⟩
      have hxb := hx2 b
      obtain ⟨h1, c1, seen1, work1, g1, g2, g3, g4, g5, g6, g7⟩ := without_in (vals := vals) (call := call) (n := n) nx N k a b (rowOfL nx b) (hN b b0 b1) hk ⟨b0, b1⟩ (hx b) hxb (rowOfL nx b).length 0 n (by omega) (by omega) h _ seen w h0 hS' hW1 hb (fun j j0 j1 => by omega) (by omega)
      rw [show ((0 : Nat) : Int) = 0 from rfl] at g1
      have hW2 : Wo N k a seen1 work1 (fun _ => False) := ⟨g4.len, g4.met, g4.wk, fun v v0 v1 hv => by
        rcases g4.shut v v0 v1 hv with q | q | q
        · exact .inl q
        · subst q
          refine .inr (.inr fun u hu hua => ?_)
          rw [hN v b0 b1] at hu
          obtain ⟨j, j0, j1, rfl⟩ := mem_rd hu
          exact g6 j j0 j1 hua
        · exact .inr (.inr q), g4.root⟩
      obtain ⟨h2, c2, seen2, q1, q2, q3⟩ := ih m h1 c1 seen1 work1 (by omega) (by omega) (by omega) g2 g3 hW2
      have q1' := (Loop_keep (P := Try.prog) (vals := vals) (call := call) (n := n) (keep := [0, 1, 5, 6]) (a := k98b1) (m := m) (h := h1) (e := [(0, rows nx), (1, int a), (5, .os 0 0 k (some k)), (6, c1), (37, ints (rowOfL nx b)), (38, int (rowOfL nx b).length), (39, int (rowOfL nx b).length), (40, bool false)]) (e' := [(0, rows nx), (1, int a), (5, .os 0 0 k (some k)), (6, c1)]) rfl).trans q1
      rw [Tm.Loop_succ]
      generalize Tm.Loop Try.prog vals call n [0, 1, 5, 6] k98b1 m = L at q1'
      simp (implicitDefEqProofs := false) only [k98b1, go_sem, e1, e2, e3, Int.toNat_natCast, hl, hd, hsl, eb, g1]
      exact ⟨h2, c2, seen2, q1', q2, q3⟩
end
open Classical in
noncomputable def withoutOf (l : List Block) (a : Int) : List Bool := (List.range l.length).map fun (v : Nat) => decide (Rc (nextOf l) (· ≠ a) 0 v)
noncomputable def nexts (l : List Block) : List (List Int) := (List.range l.length).map fun (v : Nat) => nextOf l v
theorem nexts_at {l : List Block} {b : Int} (b0 : 0 ≤ b) (b1 : b < (l.length : Int)) : rowOfL (nexts l) b = nextOf l b := by
  have h : b.toNat < l.length := by omega
  unfold rowOfL nexts
  rw [List.getD_eq_getElem?_getD, List.getElem?_map, List.getElem?_range h]
  simp only [Option.map_some, Option.getD_some]
  rw [show ((b.toNat : Nat) : Int) = b by omega]
theorem nexts_out {l : List Block} {b : Int} (h : ¬ (0 ≤ b ∧ b < (l.length : Int))) (hl : 0 < l.length) : rowOfL (nexts l) b = [] ∨ rowOfL (nexts l) b = nextOf l 0 := by
  by_cases b0 : 0 ≤ b
  · left
    unfold rowOfL nexts
    rw [List.getD_eq_getElem?_getD, List.getElem?_eq_none (by simp; omega)]; rfl
  · right
    have := nexts_at (l := l) (b := 0) (by omega) (by omega)
    unfold rowOfL at this ⊢
    rw [show b.toNat = (0 : Int).toNat by omega]; exact this
theorem without_at {l : List Block} {a v : Int} (v0 : 0 ≤ v) (v1 : v < (l.length : Int)) : rdOf false (withoutOf l a) v = true ↔ Rc (nextOf l) (· ≠ a) 0 v := by
  have h : v.toNat < l.length := by omega
  unfold rdOf withoutOf
  rw [List.getD_eq_getElem?_getD, List.getElem?_map, List.getElem?_range h]
  simp only [Option.map_some, Option.getD_some, decide_eq_true_eq]
  rw [show ((v.toNat : Nat) : Int) = v by omega]
theorem without_runs (f : Tm.Func) (F : Fine f) (a : Int) (hpos : 0 < f.blocks.length) : Runs Try.prog tab (2 ^ 20 + 2) 98 [rows (nexts f.blocks), int a] (bools (withoutOf f.blocks a)) := by
  have hb := F.blocks
  have hnl : (nexts f.blocks).length = f.blocks.length := by simp [nexts]
  have hrow : ∀ b : Int, rowOfL (nexts f.blocks) b = [] ∨ ∃ c, rowOfL (nexts f.blocks) b = nextOf f.blocks c := fun b => by
    by_cases h : 0 ≤ b ∧ b < (f.blocks.length : Int)
    · exact .inr ⟨b, nexts_at h.1 h.2⟩
    · rcases nexts_out h hpos with h | h
      · exact .inl h
      · exact .inr ⟨0, h⟩
  have hx : ∀ (b v : Int), v ∈ rowOfL (nexts f.blocks) b → 0 ≤ v ∧ v < (f.blocks.length : Int) := fun b v hv => by
    rcases hrow b with h | ⟨c, h⟩
    · rw [h] at hv; simp at hv
    · rw [h] at hv; exact next_in hv
  have hx2 : ∀ b : Int, (rowOfL (nexts f.blocks) b).length < 2 ^ 20 := fun b => by
    rcases hrow b with h | ⟨c, h⟩
    · rw [h]; decide
    · rw [h]; have := next_len F c; omega
  refine Runs.by (rs := [.tmp 4]) (N := 62) rfl Try.func98 rfl rfl (by simp) fun k hk => ?_
  have eM : 0 ≤ (f.blocks.length : Int) ∧ (f.blocks.length : Int) ≤ (f.blocks.length : Int) ∧ (f.blocks.length : Int) ≤ (maxRow : Nat) := ⟨by omega, by omega, by unfold maxRow; omega⟩
  have e7 := rep_map (f := bool) f.blocks.length false
  have done : ∀ {h' : Heap} {seen : List Bool}, h'[0]? = some (.row 1 (seen.map bool)) → Wo (nextOf f.blocks) f.blocks.length a seen [] (fun _ => False) → view true h' depth (.os 0 0 f.blocks.length (some f.blocks.length)) = some (bools (withoutOf f.blocks a)) := fun {h' seen} h0 hW => by
    have e : seen = withoutOf f.blocks a := by
      refine bools_ext (by simp [withoutOf, hW.len]) fun i i0 i1 => ?_
      have := hW.len
      rw [Bool.eq_iff_iff, without_at i0 (by omega)]
      exact hW.iff (fun b w h => next_in h) i0 (by omega)
    have := view_os_bools (cl := true) (n := 10) (cap := some f.blocks.length) h0
    rw [hW.len, e] at this
    exact this
  by_cases ha : a = 0
  · have hW0 : Wo (nextOf f.blocks) f.blocks.length a (List.replicate f.blocks.length false) [] (fun _ => False) :=
      ⟨by simp, fun v _ _ hv => (by rw [rdb_replicate] at hv; cases hv), fun v hv => (by simp at hv), fun v _ _ hv => (by rw [rdb_replicate] at hv; cases hv), fun h => absurd ha h⟩
    obtain ⟨h', c', seen', g1, g2, g3⟩ := without_out (vals := valsOf tab) (call := callAt Try.prog tab k) (n := k) (nexts f.blocks) (nextOf f.blocks) f.blocks.length a hb hnl (fun b b0 b1 => (nexts_at b0 b1).symm) hx hx2 hk 17 k [.row 1 ((List.replicate f.blocks.length false).map bool)] (.v (.slice none 0 0)) _ [] (by omega) (by omega) (by simp [List.count_replicate]; omega) rfl (.inl ⟨rfl, rfl⟩) hW0
    have g1' := (Loop_keep (P := Try.prog) (vals := valsOf tab) (call := callAt Try.prog tab k) (n := k) (keep := [0, 1, 5, 6]) (a := k98b1) (m := k) (h := [.row 1 ((List.replicate f.blocks.length false).map bool)]) (e := [(0, rows (nexts f.blocks)), (1, int a), (5, .os 0 0 f.blocks.length (some f.blocks.length)), (6, .v (.slice none 0 0)), (14, bool false)]) (e' := [(0, rows (nexts f.blocks)), (1, int a), (5, .os 0 0 f.blocks.length (some f.blocks.length)), (6, .v (.slice none 0 0))]) rfl).trans g1
    simp (implicitDefEqProofs := false) only [k98, go_sem, hnl, eM, Int.toNat_natCast, e7, decide_eq_true ha, g1']
    exact ⟨_, _, rfl, done g2 g3⟩
  · have hl0 : (0 : Int) < ((List.replicate f.blocks.length false).length : Int) := by simp; omega
    have rs : ∀ v : Int, 0 ≤ v → rdOf false ((List.replicate f.blocks.length false).set (0 : Int).toNat true) v = if 0 = v then true else rdOf false (List.replicate f.blocks.length false) v := fun v hv => rdb_set (by omega) hl0 hv
    have hW0 : Wo (nextOf f.blocks) f.blocks.length a ((List.replicate f.blocks.length false).set 0 true) [0] (fun _ => False) := by
      refine ⟨by simp, fun v v0 v1 hv => ?_, fun v hv => ?_, fun v v0 v1 hv => ?_, fun _ => by have := rs 0 (by omega); rw [if_pos rfl] at this; exact this⟩
      · have := rs v v0
        rw [show (0 : Int).toNat = 0 from rfl] at this
        rw [this] at hv
        split at hv
        · rename_i e; subst e; exact .refl (Ne.symm ha)
        · rw [rdb_replicate] at hv; cases hv
      · obtain rfl := List.mem_singleton.1 hv
        exact ⟨by omega, by omega, by have := rs 0 (by omega); rw [if_pos rfl] at this; exact this⟩
      · have := rs v v0
        rw [show (0 : Int).toNat = 0 from rfl] at this
        rw [this] at hv
        split at hv
        · rename_i e; subst e; exact .inl (by simp)
        · rw [rdb_replicate] at hv; cases hv
    have hsl : (0 : Nat) < (List.replicate f.blocks.length false).length := by simp; omega
    have a1 : storeR [.row 1 ((List.replicate f.blocks.length false).map bool)] 0 0 1 (some (.row 1 ((List.replicate f.blocks.length false).map bool))) [bool true] = some [.row 1 (((List.replicate f.blocks.length false).set 0 true).map bool)] := by
      rw [storeR_row, if_pos ⟨rfl, by simp; omega, rfl⟩, put_map (f := bool) hsl]; rfl
    have e00 : (0 : Int) ≤ 0 ∧ (0 : Int) < (f.blocks.length : Int) := by omega
    have hcnt : ((List.replicate f.blocks.length false).set 0 true).count false ≤ 16 := Nat.le_trans List.count_le_length (by simp; omega)
    obtain ⟨h', c', seen', g1, g2, g3⟩ := without_out (vals := valsOf tab) (call := callAt Try.prog tab k) (n := k) (nexts f.blocks) (nextOf f.blocks) f.blocks.length a hb hnl (fun b b0 b1 => (nexts_at b0 b1).symm) hx hx2 hk 17 k [.row 1 (((List.replicate f.blocks.length false).set 0 true).map bool), .row 1 [int 0], .row 1 [int 0]] (.os 2 0 1 none) _ [0] (by omega) (by omega) (by simp; omega) rfl (.inr ⟨2, [int 0], rfl, rfl, by simp, rfl, by decide⟩) hW0
    have ga : appendTo [.row 1 (((List.replicate f.blocks.length false).set 0 true).map bool), .row 1 [int 0]] none 1 1 [int 0] (.v (.slice none 0 0)) = some (.os 2 0 1 none, [.row 1 (((List.replicate f.blocks.length false).set 0 true).map bool), .row 1 [int 0], .row 1 [int 0]]) := by simp only [appendTo]; rw [if_neg (by decide), if_pos (by decide)]; rfl
    simp (decide := true) (implicitDefEqProofs := false) only [k98, go_sem, hnl, eM, Int.toNat_natCast, e7, decide_eq_false ha, e00, a1, Int.toNat_zero, ga, g1]
    exact ⟨_, _, rfl, done g2 g3⟩
end Go.Proofs.Ytkcimaibaicdcaa.Tk
