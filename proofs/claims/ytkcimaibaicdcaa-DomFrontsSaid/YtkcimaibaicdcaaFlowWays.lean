import Derived.Test.YtkcimaibaicdcaaS6
set_option linter.unusedSimpArgs false
namespace Go.Proofs.Ytkcimaibaicdcaa.Tk
open Go.Tm Go.Tm.Tab
set_option maxRecDepth 100000
theorem i64_and65535 (n : Int) : 0 ≤ Go.bits .and .i64 n 65535 ∧ Go.bits .and .i64 n 65535 ≤ 65535 := by
  have h : (BitVec.ofInt 64 65535).toNat = 2 ^ 16 - 1 := by decide
  have key : (BitVec.ofInt 64 n &&& BitVec.ofInt 64 65535).toNat = (n % ((2 ^ 64 : Nat) : Int)).toNat % 2 ^ 16 := by
    rw [BitVec.toNat_and, BitVec.toNat_ofInt, h, Nat.and_two_pow_sub_one_eq_mod]
  have e : Go.bits .and .i64 n 65535 = n % 65536 := by
    show IntKind.i64.wrap ((BitVec.ofInt 64 n &&& BitVec.ofInt 64 65535).toNat : Nat) = n % 65536
    rw [key, IntKind.wrap_i64]
    omega
  omega
theorem index_ok (x : Int) {n : Nat} (h : 0 < n) : 0 ≤ Int.tmod (Go.bits .and .i64 x 65535) (n : Int) ∧ Int.tmod (Go.bits .and .i64 x 65535) (n : Int) < (n : Int) :=
  ⟨Int.tmod_nonneg _ (i64_and65535 x).1, Int.tmod_lt_of_pos _ (by omega)⟩
/-- Some one that comes there is reached. -/
theorem ways_loop {vals : FuncId → Bool} {call : CallF} {n : Nat} (l : List Block) (b : Int) (b0 : 0 ≤ b ∧ b < ((prevOf l).length : Int)) (r : List Bool) (hr : r.length = l.length) (h : Heap) (hx2 : (rowOfL (prevOf l) b).length < 2 ^ 62) (hin : ∀ p ∈ rowOfL (prevOf l) b, 0 ≤ p ∧ p < (l.length : Int)) (d : Nat) : ∀ (i m : Nat), i + d = (rowOfL (prevOf l) b).length → d < m → (∃ j : Int, (i : Int) ≤ j ∧ j < ((rowOfL (prevOf l) b).length : Int) ∧ rdOf false r (rd (rowOfL (prevOf l) b) j) = true) →
    Tm.Loop Try.prog vals call n [2, 7, 8, 9, 10] k5b0 m ⟨[(2, int b), (7, int l.length), (8, rows (prevOf l)), (9, bools r), (10, int i)], h⟩ = some (.ret, ⟨[(6, bool true)], h⟩) := by
  induction d with
  | zero => rintro i m hi hm ⟨j, h1, h2, _⟩; omega
  | succ d ih =>
    intro i m hi hm hex
    obtain ⟨m, rfl⟩ : ∃ p, m = p + 1 := ⟨m - 1, by omega⟩
    replace ih := ih (i + 1) m (by omega) (by omega)
    rw [Tm.Loop_succ]
    generalize hx : rowOfL (prevOf l) b = x at *
    generalize Tm.Loop Try.prog vals call n [2, 7, 8, 9, 10] k5b0 m = L at ih ⊢
    have e1 : decide ((i : Int) < x.length) = true := by simp; omega
    have e2 : 0 ≤ (i : Int) ∧ (i : Int) < x.length := by omega
    have e3 := wrap_next (n := x.length) (i := i) (by omega) hx2
    have e4 := hin _ (rd_mem e2.1 e2.2)
    have e5 : 0 ≤ rd x i ∧ rd x i < (r.length : Int) := by omega
    have c1 : decide (rd x i ≥ 0) = true := decide_eq_true e4.1
    have c2 : decide (rd x i < (l.length : Int)) = true := decide_eq_true e4.2
    by_cases c : rdOf false r (rd x i) = true
    · simp (decide := true) (implicitDefEqProofs := false) only [k5b0, go_sem, b0, hx, e1, e2, e3, e5, c1, c2, c]
    · rw [Bool.not_eq_true] at c
      simp (decide := true) (implicitDefEqProofs := false) only [k5b0, go_sem, b0, hx, e1, e2, e3, e5, c1, c2, c]
      refine ih ?_
      obtain ⟨j, h1, h2, h3⟩ := hex
      by_cases q : j = i
      · subst q; rw [h3] at c; cases c
      · exact ⟨j, by omega, h2, h3⟩
theorem rc_last {N : Int → List Int} {u v : Int} (h : Rc N (fun _ => True) u v) : v = u ∨ ∃ p, Rc N (fun _ => True) u p ∧ v ∈ N p := by
  cases h with
  | refl _ => exact .inl rfl
  | step h1 h2 _ => exact .inr ⟨_, h1, h2⟩
theorem flowWays (f : Tm.Func) (hl : ∀ b ∈ f.blocks, b.ins.length < 2 ^ 45) (xa xb : Int) : Runs Try.prog tab (2 ^ 36 + 40) 5 [.agg (encFunc f), int xa, int xb] (bool true) := by
  refine Runs.by (rs := [.tmp 6]) (N := 128) rfl Try.func5 rfl rfl (by simp) fun k hk => ?_
  have hfirst : ∀ h, callAt Try.prog tab k 16 [] h = some (bool true, h) := fun h => first4 k (by omega) [] h rfl
  obtain ⟨t, ht, hF⟩ := light_runs f hl
  have hlight : ∀ h, callAt Try.prog tab k 17 [.agg (encFunc f)] h = some (bool t, h) := fun h => ht k (by omega) _ h (by simp only [mapC_cons, mapC_nil, depth, view_func f, Option.bind_some])
  cases t with
  | false =>
    rw [enc_func] at *
    simp (implicitDefEqProofs := false) only [k5, go_sem, hfirst, hlight]
    exact ⟨_, _, rfl, rfl⟩
  | true =>
    have F := hF rfl
    have hn := F.blocks
    by_cases c0 : (f.blocks.length : Int) = 0
    · rw [enc_func] at *
      simp (implicitDefEqProofs := false) only [k5, go_sem, hfirst, hlight, c0, decide_eq_true c0]
      exact ⟨_, _, rfl, rfl⟩
    · have hpos : 0 < f.blocks.length := by omega
      have ia := index_ok xa hpos
      have ib := index_ok xb hpos
      have ra := bin_rem (P := Try.prog) (t := 3) (x := .tmp 28) (y := .tmp 29) (a := Go.bits .and .i64 xa 65535) c0
      have rb := bin_rem (P := Try.prog) (t := 3) (x := .tmp 32) (y := .tmp 33) (a := Go.bits .and .i64 xb 65535) c0
      generalize Int.tmod (Go.bits .and .i64 xa 65535) (f.blocks.length : Int) = a at ia ra
      generalize Int.tmod (Go.bits .and .i64 xb 65535) (f.blocks.length : Int) = b at ib rb
      have hprev : ∀ h, callAt Try.prog tab k 22 [.agg (encFunc f)] h = some (rows (prevOf f.blocks), h) := fun h => prev_runs f F k (by omega) _ h (by simp only [mapC_cons, mapC_nil, depth, view_func f, Option.bind_some])
      have hreach : ∀ h, callAt Try.prog tab k 25 [.agg (encFunc f)] h = some (bools (reachOf f.blocks), h) := fun h => reach_runs f F k (by omega) _ h (by simp only [mapC_cons, mapC_nil, depth, view_func f, Option.bind_some])
      have hnext : ∀ h, callAt Try.prog tab k 19 [.agg (encFunc f), int a] h = some (ints (nextOf f.blocks a), h) := fun h => next_runs f F a k (by omega) _ h (by simp only [mapC_cons, mapC_nil, depth, view_func f, view_int, Option.bind_some])
      have hrow := prev_row F b
      have hin1 : ∀ h, callAt Try.prog tab k 31 [ints (rowOfL (prevOf f.blocks) b), int a] h = some (bool (decide (a ∈ rowOfL (prevOf f.blocks) b)), h) := fun h => in_runs _ a (by omega) k (by omega) _ h (by simp (decide := true) only [depth, go_sem])
      have hnl := next_len F a
      have hin2 : ∀ h, callAt Try.prog tab k 31 [ints (nextOf f.blocks a), int b] h = some (bool (decide (b ∈ nextOf f.blocks a)), h) := fun h => in_runs _ b (by omega) k (by omega) _ h (by simp (decide := true) only [depth, go_sem])
      have same : decide (a ∈ rowOfL (prevOf f.blocks) b) = decide (b ∈ nextOf f.blocks a) := by
        rw [decide_eq_decide, prev_mem ib.1]; exact ⟨fun h => h.2.2, fun h => ⟨ia.1, ia.2, h⟩⟩
      rw [same] at hin1
      have hpl := prev_len f.blocks
      have hrl := reach_len f.blocks
      have eb : 0 ≤ b ∧ b < ((prevOf f.blocks).length : Int) := by omega
      have ra2 : 0 ≤ a ∧ a < ((reachOf f.blocks).length : Int) := by omega
      have rb2 : 0 ≤ b ∧ b < ((reachOf f.blocks).length : Int) := by omega
      have r00 : (0 : Int) ≤ 0 ∧ (0 : Int) < ((reachOf f.blocks).length : Int) := by omega
      have d1 : decide (((prevOf f.blocks).length : Int) = (f.blocks.length : Int)) = true := by simp [hpl]
      have d2 : decide (((reachOf f.blocks).length : Int) = (f.blocks.length : Int)) = true := by simp [hrl]
      have r0 : rdOf false (reachOf f.blocks) 0 = true := (reach_at (by omega) (by omega)).2 (.refl trivial)
      have rA := reach_at (l := f.blocks) ia.1 ia.2
      have rB := reach_at (l := f.blocks) ib.1 ib.2
      rw [enc_func] at *
      have hways : b ≠ 0 → rdOf false (reachOf f.blocks) b = true → ∃ j : Int, ((0 : Nat) : Int) ≤ j ∧ j < ((rowOfL (prevOf f.blocks) b).length : Int) ∧ rdOf false (reachOf f.blocks) (rd (rowOfL (prevOf f.blocks) b) j) = true := fun hb0 hrb => by
        rcases rc_last (rB.1 hrb) with e | ⟨v, hv, hbv⟩
        · exact absurd e hb0
        · have v01 : 0 ≤ v ∧ v < (f.blocks.length : Int) := by
            rcases rc_last hv with rfl | ⟨p, _, hw⟩
            · omega
            · exact next_in hw
          obtain ⟨j, j0, j1, e⟩ := mem_rd ((prev_mem (l := f.blocks) ib.1).2 ⟨v01.1, v01.2, hbv⟩)
          exact ⟨j, by omega, j1, by rw [e]; exact (reach_at v01.1 v01.2).2 hv⟩
      have hloop : ∀ h, b ≠ 0 → rdOf false (reachOf f.blocks) b = true → Tm.Loop Try.prog (valsOf tab) (callAt Try.prog tab k) k [2, 7, 8, 9, 10] k5b0 k ⟨[(2, int b), (7, int f.blocks.length), (8, rows (prevOf f.blocks)), (9, bools (reachOf f.blocks)), (10, int 0)], h⟩ = some (.ret, ⟨[(6, bool true)], h⟩) := fun h hb0 hrb =>
        ways_loop f.blocks b eb (reachOf f.blocks) hrl h (by omega) (fun p hp => by obtain ⟨u, v, _⟩ := (prev_mem ib.1).1 hp; exact ⟨u, v⟩) (rowOfL (prevOf f.blocks) b).length 0 k (by omega) (by omega) (hways hb0 hrb)
      have hstep : rdOf false (reachOf f.blocks) a = true → b ∈ nextOf f.blocks a → rdOf false (reachOf f.blocks) b = true := fun h1 h2 => rB.2 (.step (rA.1 h1) h2 trivial)
      cases hrb : rdOf false (reachOf f.blocks) b with
      | false =>
        cases hra : rdOf false (reachOf f.blocks) a with
        | false =>
          simp (implicitDefEqProofs := false) only [k5, go_sem, hfirst, hlight, decide_eq_false c0, ra, rb, hprev, hreach, hnext, hin1, hin2, d1, d2, eb, ra2, rb2, r00, r0, hra, hrb]
          exact ⟨_, _, rfl, rfl⟩
        | true =>
          have hnot : decide (b ∈ nextOf f.blocks a) = false := decide_eq_false fun h => by rw [hstep hra h] at hrb; cases hrb
          rw [hnot] at hin1 hin2
          simp (implicitDefEqProofs := false) only [k5, go_sem, hfirst, hlight, decide_eq_false c0, ra, rb, hprev, hreach, hnext, hin1, hin2, d1, d2, eb, ra2, rb2, r00, r0, hra, hrb]
          exact ⟨_, _, rfl, rfl⟩
      | true =>
        generalize decide (b ∈ nextOf f.blocks a) = q at hin1 hin2
        by_cases hb0 : b = 0
        · cases hra : rdOf false (reachOf f.blocks) a <;> cases q <;> simp (implicitDefEqProofs := false) only [k5, go_sem, hfirst, hlight, decide_eq_false c0, ra, rb, hprev, hreach, hnext, hin1, hin2, d1, d2, eb, ra2, rb2, r00, r0, hra, hrb, decide_eq_true hb0] <;> exact ⟨_, _, rfl, rfl⟩
        · have hl0 := fun h => hloop h hb0 hrb
          cases hra : rdOf false (reachOf f.blocks) a <;> cases q <;> simp (implicitDefEqProofs := false) only [k5, go_sem, hfirst, hlight, decide_eq_false c0, ra, rb, hprev, hreach, hnext, hin1, hin2, d1, d2, eb, ra2, rb2, r00, r0, hra, hrb, decide_eq_false hb0, hl0] <;> exact ⟨_, _, rfl, rfl⟩
end Go.Proofs.Ytkcimaibaicdcaa.Tk
