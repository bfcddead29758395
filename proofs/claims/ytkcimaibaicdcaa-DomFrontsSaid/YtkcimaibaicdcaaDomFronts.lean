import Derived.Test.YtkcimaibaicdcaaSK
import Derived.Test.YtkcimaibaicdcaaFlowWays
set_option linter.unusedSimpArgs false
namespace Go.Proofs.Ytkcimaibaicdcaa.Tk
open Go.Tm Go.Tm.Tab
set_option maxRecDepth 100000
section
variable {vals : FuncId → Bool} {call : CallF} {n : Nat}
theorem asc_loop (fs : List (List Int)) (a b : Int) (p : C) (h : Heap) (a01 : 0 ≤ a ∧ a < (fs.length : Int)) (hx : (rowOfL fs a).Pairwise (· < ·)) (hx2 : (rowOfL fs a).length < 2 ^ 20) : ∀ (d i m : Nat), (rowOfL fs a).length ≤ i + d → 1 ≤ i → i ≤ 2 ^ 20 → d < m →
    ∃ c, Tm.Loop Try.prog vals call n [1, 2, 3, 8, 9] k7b0 m ⟨[(1, int a), (2, int b), (3, p), (8, rows fs), (9, int i)], h⟩ = some (.exit 0, ⟨[(1, int a), (2, int b), (3, p), (8, rows fs), (9, c), (49, bool false)], h⟩)
  | 0, i, m, hi, h1, _, hm => by
    obtain ⟨m, rfl⟩ : ∃ p, m = p + 1 := ⟨m - 1, by omega⟩
    refine ⟨int i, ?_⟩
    rw [Tm.Loop_succ]
    have c : decide ((i : Int) < (rowOfL fs a).length) = false := by simp; omega
    simp (decide := true) (implicitDefEqProofs := false) only [k7b0, go_sem, a01, c]
  | d + 1, i, m, hi, h1, hi2, hm => by
    obtain ⟨m, rfl⟩ : ∃ p, m = p + 1 := ⟨m - 1, by omega⟩
    by_cases e : i < (rowOfL fs a).length
    · obtain ⟨c, ih⟩ := asc_loop fs a b p h a01 hx hx2 d (i + 1) m (by omega) (by omega) (by omega) (by omega)
      refine ⟨c, ?_⟩
      rw [Tm.Loop_succ]
      generalize Tm.Loop Try.prog vals call n [1, 2, 3, 8, 9] k7b0 m = L at ih ⊢
      have hlt := asc_rd hx h1 e
      generalize hX : rowOfL fs a = x at *
      have e1 : decide ((i : Int) < x.length) = true := by simp; omega
      have e2 : 0 ≤ (i : Int) ∧ (i : Int) < x.length := by omega
      have e3 := wrap_next (n := x.length) (i := i) (by omega) (by omega)
      have e4 : IntKind.i64.wrap ((i : Int) - 1) = (i : Int) - 1 := wrap_in (by omega) (by omega)
      have e5 : 0 ≤ (i : Int) - 1 ∧ (i : Int) - 1 < x.length := by omega
      have e6 : decide (rd x ((i : Int) - 1) ≥ rd x i) = false := decide_eq_false (by omega)
      simp (decide := true) (implicitDefEqProofs := false) only [k7b0, go_sem, a01, hX, e1, e2, e3, e4, e5, e6]
      exact ih
    · refine ⟨int i, ?_⟩
      rw [Tm.Loop_succ]
      have c : decide ((i : Int) < (rowOfL fs a).length) = false := by simp; omega
      simp (decide := true) (implicitDefEqProofs := false) only [k7b0, go_sem, a01, c]
theorem some_loop (f : Tm.Func) (a b : Int) (u v : C) (h : Heap) (h0 : h[0]? = some (.row 0 (encFunc f))) (ps : List (List Int)) (b01 : 0 ≤ b ∧ b < (ps.length : Int)) (hx2 : (rowOfL ps b).length < 2 ^ 20) (hv : vals 33 = true)
    (hc : ∀ p : Int, call 33 [.agg (encFunc f), int a, int p] h = some (bool (domB f.blocks a p), h)) : ∀ (d i m : Nat) (s : Bool), i + d = (rowOfL ps b).length → d < m →
    Tm.Loop Try.prog vals call n [1, 2, 3, 8, 10, 11, 12, 13] k7b1 m ⟨[(1, int a), (2, int b), (3, .op 0 0), (8, u), (10, rows ps), (11, v), (12, bool s), (13, int i)], h⟩ = some (.exit 2, ⟨[(1, int a), (2, int b), (3, .op 0 0), (8, u), (10, rows ps), (11, v), (12, bool (s || ((rowOfL ps b).drop i).any (domB f.blocks a))), (13, int (rowOfL ps b).length), (78, bool false)], h⟩)
  | 0, i, m, s, hi, hm => by
    obtain ⟨m, rfl⟩ : ∃ p, m = p + 1 := ⟨m - 1, by omega⟩
    obtain rfl : i = (rowOfL ps b).length := by omega
    rw [Tm.Loop_succ, List.drop_eq_nil_of_le (Nat.le_refl _), List.any_nil, Bool.or_false]
    simp (implicitDefEqProofs := false) only [k7b1, go_sem, b01, Int.lt_irrefl, decide_false]
  | d + 1, i, m, s, hi, hm => by
    obtain ⟨m, rfl⟩ : ∃ p, m = p + 1 := ⟨m - 1, by omega⟩
    have ih := fun s => some_loop f a b u v h h0 ps b01 hx2 hv hc d (i + 1) m s (by omega) (by omega)
    rw [Tm.Loop_succ, drop_rd (xs := rowOfL ps b) (i := i) (by omega), List.any_cons, ← Bool.or_assoc]
    generalize Tm.Loop Try.prog vals call n [1, 2, 3, 8, 10, 11, 12, 13] k7b1 m = L at ih ⊢
    generalize hX : rowOfL ps b = x at *
    have e1 : decide ((i : Int) < x.length) = true := by simp; omega
    have e2 : 0 ≤ (i : Int) ∧ (i : Int) < x.length := by omega
    have e3 := wrap_next (n := x.length) (i := i) (by omega) (by omega)
    have hcc := hc (rd x i)
    have ih' := ih (s || domB f.blocks a (rd x i))
    generalize domB f.blocks a (rd x i) = q at hcc ih' ⊢
    rw [enc_func] at *
    cases s with
    | true =>
      simp (decide := true) (implicitDefEqProofs := false) only [k7b1, go_sem, h0, b01, hX, e1, e2, e3, hv]
      exact ih'
    | false =>
      simp (decide := true) (implicitDefEqProofs := false) only [k7b1, go_sem, h0, b01, hX, e1, e2, e3, hcc, hv]
      exact ih'
end
/-- What is in front, told by Dom. -/
theorem fr_dom {l : List Block} {a b : Int} (a0 : 0 ≤ a ∧ a < (l.length : Int)) (b0 : 0 ≤ b ∧ b < (l.length : Int)) :
    fr l a b = (((rdOf false (reachOf l) a && rdOf false (reachOf l) b) && (rowOfL (prevOf l) b).any (domB l a)) && (decide (a = b) || !domB l a b)) := by
  have hany : ((rowOfL (prevOf l) b).any fun p => rdOf false (rowOv l a) p) = (rowOfL (prevOf l) b).any (domB l a) := by
    rw [Bool.eq_iff_iff, List.any_eq_true, List.any_eq_true]
    constructor
    · rintro ⟨p, hp, h⟩
      obtain ⟨p0, p1, _⟩ := (prev_mem b0.1).1 hp
      exact ⟨p, hp, domB_iff.2 ⟨a0, ⟨p0, p1⟩, (rowOv_at p0 p1).1 h⟩⟩
    · rintro ⟨p, hp, h⟩
      obtain ⟨p0, p1, _⟩ := (prev_mem b0.1).1 hp
      exact ⟨p, hp, (rowOv_at p0 p1).2 (domB_iff.1 h).2.2⟩
  have hab : rdOf false (rowOv l a) b = domB l a b := by
    rw [Bool.eq_iff_iff, rowOv_at b0.1 b0.2, domB_iff]
    exact ⟨fun h => ⟨a0, b0, h⟩, fun h => h.2.2⟩
  unfold fr
  rw [hany, hab]
  cases hs : (rowOfL (prevOf l) b).any (domB l a) with
  | false => simp
  | true =>
    obtain ⟨p, hp, h⟩ := List.any_eq_true.1 hs
    obtain ⟨p0, p1, hb⟩ := (prev_mem b0.1).1 hp
    obtain ⟨_, _, ho⟩ := domB_iff.1 h
    have h1 : rdOf false (reachOf l) a = true := (reach_at a0.1 a0.2).2 ho.1
    have h2 : rdOf false (reachOf l) b = true := (reach_at b0.1 b0.2).2 (.step ho.2.1 hb trivial)
    rw [h1, h2]
    cases decide (a = b) <;> cases domB l a b <;> rfl
set_option maxHeartbeats 1000000 in
theorem domFronts (f : Tm.Func) (hl : ∀ b ∈ f.blocks, b.ins.length < 2 ^ 45) (xa xb : Int) : Runs Try.prog tab (2 ^ 36 + 60) 7 [.agg (encFunc f), int xa, int xb] (bool true) := by
  refine Runs.by (rs := [.tmp 6]) (N := 126) rfl Try.func7 rfl rfl (by simp) fun k hk => ?_
  have hfirst : ∀ h, callAt Try.prog tab k 32 [] h = some (bool true, h) := fun h => first5 k (by omega) [] h rfl
  obtain ⟨t, ht, hF⟩ := light_runs f hl
  have hlight : ∀ h, callAt Try.prog tab k 17 [.agg (encFunc f)] h = some (bool t, h) := fun h => ht k (by omega) _ h (by simp only [mapC_cons, mapC_nil, depth, view_func f, Option.bind_some])
  cases t with
  | false =>
    rw [enc_func] at *
    simp (implicitDefEqProofs := false) only [k7, go_sem, hfirst, hlight]
    exact ⟨_, _, rfl, rfl⟩
  | true =>
    have F := hF rfl
    have hn := F.blocks
    by_cases c0 : (f.blocks.length : Int) = 0
    · rw [enc_func] at *
      simp (implicitDefEqProofs := false) only [k7, go_sem, hfirst, hlight, c0, decide_eq_true c0]
      exact ⟨_, _, rfl, rfl⟩
    · have hpos : 0 < f.blocks.length := by omega
      have ia := index_ok xa hpos
      have ib := index_ok xb hpos
      have ra := bin_rem (P := Try.prog) (t := 3) (x := .tmp 30) (y := .tmp 31) (a := Go.bits .and .i64 xa 65535) c0
      have rb := bin_rem (P := Try.prog) (t := 3) (x := .tmp 34) (y := .tmp 35) (a := Go.bits .and .i64 xb 65535) c0
      generalize Int.tmod (Go.bits .and .i64 xa 65535) (f.blocks.length : Int) = a at ia ra
      generalize Int.tmod (Go.bits .and .i64 xb 65535) (f.blocks.length : Int) = b at ib rb
      have hfront : ∀ h, callAt Try.prog tab k 34 [.agg (encFunc f)] h = some (rows (frontsOf f.blocks), h) := fun h => front_runs f F hpos k (by omega) _ h (by simp only [mapC_cons, mapC_nil, depth, view_func f, Option.bind_some])
      have hprev : ∀ h, callAt Try.prog tab k 23 [.agg (encFunc f)] h = some (rows (prevOf f.blocks), h) := fun h => rprev_runs f F k (by omega) _ h (by simp only [mapC_cons, mapC_nil, depth, view_func f, Option.bind_some])
      have hreach : ∀ h, callAt Try.prog tab k 26 [.agg (encFunc f)] h = some (bools (reachOf f.blocks), h) := fun h => rreach_runs f F hpos k (by omega) h
      have hdom : ∀ (p q : Int) h, callAt Try.prog tab k 33 [.agg (encFunc f), int p, int q] h = some (bool (domB f.blocks p q), h) := fun p q h => dom_runs f F p q k (by omega) _ h (by simp only [mapC_cons, mapC_nil, depth, view_func f, view_int, Option.bind_some])
      have hfl := fronts_len f.blocks
      have hpl := prev_len f.blocks
      have hrl := reach_len f.blocks
      have ea : 0 ≤ a ∧ a < ((frontsOf f.blocks).length : Int) := by omega
      have eb : 0 ≤ b ∧ b < ((prevOf f.blocks).length : Int) := by omega
      have ra2 : 0 ≤ a ∧ a < ((reachOf f.blocks).length : Int) := by omega
      have rb2 : 0 ≤ b ∧ b < ((reachOf f.blocks).length : Int) := by omega
      have hrow := fronts_row (l := f.blocks) ia.1 ia.2
      have hasc : (rowOfL (frontsOf f.blocks) a).Pairwise (· < ·) := by rw [hrow]; exact frL_asc _ _
      have hrl2 : (rowOfL (frontsOf f.blocks) a).length ≤ 16 := by
        rw [hrow]
        unfold frL
        rw [List.length_map]
        refine Nat.le_trans (List.length_filter_le _ _) ?_
        rw [List.length_range']; omega
      have hpr := prev_row F b
      have d1 : decide (((frontsOf f.blocks).length : Int) = (f.blocks.length : Int)) = true := by simp [hfl]
      have hin : ∀ h, callAt Try.prog tab k 31 [ints (rowOfL (frontsOf f.blocks) a), int b] h = some (bool (decide (b ∈ rowOfL (frontsOf f.blocks) a)), h) := fun h => in_runs _ b (by omega) k (by omega) _ h (by simp (decide := true) only [depth, go_sem])
      obtain ⟨c9, L0⟩ := asc_loop (vals := valsOf tab) (call := callAt Try.prog tab k) (n := k) (frontsOf f.blocks) a b (.op 0 0) [.row 0 (encFunc f)] ea hasc (by omega) 20 1 k (by omega) (by omega) (by omega) (by omega)
      have L1 := some_loop (vals := valsOf tab) (call := callAt Try.prog tab k) (n := k) f a b (rows (frontsOf f.blocks)) (bools (reachOf f.blocks)) [.row 0 (encFunc f)] rfl (prevOf f.blocks) eb (by omega) rfl (fun p => hdom a p _) (rowOfL (prevOf f.blocks) b).length 0 k false (by omega) (by omega)
      rw [show ((1 : Nat) : Int) = 1 from rfl] at L0
      rw [show ((0 : Nat) : Int) = 0 from rfl, List.drop_zero, Bool.false_or] at L1
      have key := fr_dom ia ib
      have hmem : decide (b ∈ rowOfL (frontsOf f.blocks) a) = fr f.blocks a b := by
        rw [Bool.eq_iff_iff, decide_eq_true_eq, fronts_mem ia.1 ia.2 ib.1 ib.2]
      rw [hmem, key] at hin
      have hdab := fun h => hdom a b h
      have hv33 : valsOf tab 33 = true := rfl
      have hv31 : valsOf tab 31 = true := rfl
      have hv23 : valsOf tab 23 = true := rfl
      have hv26 : valsOf tab 26 = true := rfl
      have hv34 : valsOf tab 34 = true := rfl
      generalize (rowOfL (prevOf f.blocks) b).any (domB f.blocks a) = q1 at L1 hin
      generalize domB f.blocks a b = q2 at hdab hin
      obtain ⟨q3, h3⟩ : ∃ q, decide (a = b) = q := ⟨_, rfl⟩
      obtain ⟨q4, h4⟩ : ∃ q, rdOf false (reachOf f.blocks) a = q := ⟨_, rfl⟩
      obtain ⟨q5, h5⟩ : ∃ q, rdOf false (reachOf f.blocks) b = q := ⟨_, rfl⟩
      rw [h3, h4, h5] at hin
      rw [enc_func] at *
      cases q4 with
      | false =>
        simp only [Bool.false_and, Bool.true_and, Bool.and_true, Bool.and_false, Bool.true_or, Bool.false_or, Bool.not_true, Bool.not_false] at hin
        simp (decide := true) (implicitDefEqProofs := false) only [k7, go_sem, hfirst, hlight, decide_eq_false c0, ra, rb, hfront, d1, L0, L1, hprev, hreach, ea, ra2, rb2, h3, h4, h5, hin, hdab, hv33, hv31, hv23, hv26, hv34]
        exact ⟨_, _, rfl, rfl⟩
      | true =>
        cases q5 with
        | false =>
          simp only [Bool.false_and, Bool.true_and, Bool.and_true, Bool.and_false, Bool.true_or, Bool.false_or, Bool.not_true, Bool.not_false] at hin
          simp (decide := true) (implicitDefEqProofs := false) only [k7, go_sem, hfirst, hlight, decide_eq_false c0, ra, rb, hfront, d1, L0, L1, hprev, hreach, ea, ra2, rb2, h3, h4, h5, hin, hdab, hv33, hv31, hv23, hv26, hv34]
          exact ⟨_, _, rfl, rfl⟩
        | true =>
          cases q1 with
          | false =>
            simp only [Bool.false_and, Bool.true_and, Bool.and_true, Bool.and_false, Bool.true_or, Bool.false_or, Bool.not_true, Bool.not_false] at hin
            simp (decide := true) (implicitDefEqProofs := false) only [k7, go_sem, hfirst, hlight, decide_eq_false c0, ra, rb, hfront, d1, L0, L1, hprev, hreach, ea, ra2, rb2, h3, h4, h5, hin, hdab, hv33, hv31, hv23, hv26, hv34]
            exact ⟨_, _, rfl, rfl⟩
          | true =>
            cases q3 with
            | true =>
              simp only [Bool.false_and, Bool.true_and, Bool.and_true, Bool.and_false, Bool.true_or, Bool.false_or, Bool.not_true, Bool.not_false] at hin
              simp (decide := true) (implicitDefEqProofs := false) only [k7, go_sem, hfirst, hlight, decide_eq_false c0, ra, rb, hfront, d1, L0, L1, hprev, hreach, ea, ra2, rb2, h3, h4, h5, hin, hdab, hv33, hv31, hv23, hv26, hv34]
              exact ⟨_, _, rfl, rfl⟩
            | false =>
              cases q2 with
              | false =>
                simp only [Bool.false_and, Bool.true_and, Bool.and_true, Bool.and_false, Bool.true_or, Bool.false_or, Bool.not_true, Bool.not_false] at hin
                simp (decide := true) (implicitDefEqProofs := false) only [k7, go_sem, hfirst, hlight, decide_eq_false c0, ra, rb, hfront, d1, L0, L1, hprev, hreach, ea, ra2, rb2, h3, h4, h5, hin, hdab, hv33, hv31, hv23, hv26, hv34]
                exact ⟨_, _, rfl, rfl⟩
              | true =>
                simp only [Bool.false_and, Bool.true_and, Bool.and_true, Bool.and_false, Bool.true_or, Bool.false_or, Bool.not_true, Bool.not_false] at hin
                simp (decide := true) (implicitDefEqProofs := false) only [k7, go_sem, hfirst, hlight, decide_eq_false c0, ra, rb, hfront, d1, L0, L1, hprev, hreach, ea, ra2, rb2, h3, h4, h5, hin, hdab, hv33, hv31, hv23, hv26, hv34]
                exact ⟨_, _, rfl, rfl⟩
end Go.Proofs.Ytkcimaibaicdcaa.Tk
