import Derived.Test.YtkcimaibaicdcaaSB
import Derived.Test.YtkcimaibaicdcaaFlowWays
set_option linter.unusedSimpArgs false
namespace Go.Proofs.Ytkcimaibaicdcaa.Tk
open Go.Tm Go.Tm.Tab
set_option maxRecDepth 100000
set_option maxHeartbeats 16000000 in
theorem domTree (f : Tm.Func) (hl : ∀ b ∈ f.blocks, b.ins.length < 2 ^ 45) (xa xb xc : Int) : Runs Try.prog tab (2 ^ 36 + 60) 9 [.agg (encFunc f), int xa, int xb, int xc] (bool true) := by
  refine Runs.by (rs := [.tmp 8]) (N := 177) rfl Try.func9 rfl rfl (by simp) fun k hk => ?_
  have hfirst : ∀ h, callAt Try.prog tab k 32 [] h = some (bool true, h) := fun h => first5 k (by omega) [] h rfl
  obtain ⟨t, ht, hF⟩ := light_runs f hl
  have hlight : ∀ h, callAt Try.prog tab k 17 [.agg (encFunc f)] h = some (bool t, h) := fun h => ht k (by omega) _ h (by simp only [mapC_cons, mapC_nil, depth, view_func f, Option.bind_some])
  cases t with
  | false =>
    rw [enc_func] at *
    simp (implicitDefEqProofs := false) only [k9, go_sem, hfirst, hlight]
    exact ⟨_, _, rfl, rfl⟩
  | true =>
    have F := hF rfl
    have hn := F.blocks
    by_cases c0 : (f.blocks.length : Int) = 0
    · rw [enc_func] at *
      simp (implicitDefEqProofs := false) only [k9, go_sem, hfirst, hlight, c0, decide_eq_true c0]
      exact ⟨_, _, rfl, rfl⟩
    · have hpos : 0 < f.blocks.length := by omega
      have ia := index_ok xa hpos
      have ib := index_ok xb hpos
      have ic := index_ok xc hpos
      have ra := bin_rem (P := Try.prog) (t := 3) (x := .tmp 31) (y := .tmp 32) (a := Go.bits .and .i64 xa 65535) c0
      have rb := bin_rem (P := Try.prog) (t := 3) (x := .tmp 35) (y := .tmp 36) (a := Go.bits .and .i64 xb 65535) c0
      have rc := bin_rem (P := Try.prog) (t := 3) (x := .tmp 39) (y := .tmp 40) (a := Go.bits .and .i64 xc 65535) c0
      generalize Int.tmod (Go.bits .and .i64 xa 65535) (f.blocks.length : Int) = a at ia ra
      generalize Int.tmod (Go.bits .and .i64 xb 65535) (f.blocks.length : Int) = b at ib rb
      generalize Int.tmod (Go.bits .and .i64 xc 65535) (f.blocks.length : Int) = c at ic rc
      have hover : ∀ h, callAt Try.prog tab k 37 [.agg (encFunc f)] h = some (ints (overI f.blocks), h) := fun h => overRun f F hpos k (by omega) _ h (by simp only [mapC_cons, mapC_nil, depth, view_func f, Option.bind_some])
      have hunder : ∀ h, callAt Try.prog tab k 39 [.agg (encFunc f)] h = some (rows (underOf f.blocks), h) := fun h => under_runs f F hpos k (by omega) _ h (by simp only [mapC_cons, mapC_nil, depth, view_func f, Option.bind_some])
      have hdom : ∀ x y h, callAt Try.prog tab k 33 [.agg (encFunc f), .v (.int .i64 x), .v (.int .i64 y)] h = some (bool (domB f.blocks x y), h) := fun x y h => dom_runs f F x y k (by omega) _ h (by simp only [mapC_cons, mapC_nil, depth, view_func f, view_int, Option.bind_some])
      have hur := under_row f.blocks a
      have hin : ∀ h, callAt Try.prog tab k 31 [ints (rowOfL (underOf f.blocks) a), int b] h = some (bool (decide (b ∈ rowOfL (underOf f.blocks) a)), h) := fun h => in_runs _ b (by omega) k (by omega) _ h (by simp (decide := true) only [depth, go_sem])
      rw [show decide (b ∈ rowOfL (underOf f.blocks) a) = decide (rd (overI f.blocks) b = a) by rw [decide_eq_decide]; exact under_mem hn ia.1 ib.1 ib.2] at hin
      have hol := overI_len f.blocks
      have hul := under_len f.blocks
      have d1 : decide (((overI f.blocks).length : Int) = (f.blocks.length : Int)) = true := by simp [hol]
      have d2 : decide (((underOf f.blocks).length : Int) = (f.blocks.length : Int)) = true := by simp [hul]
      have eb : 0 ≤ b ∧ b < ((overI f.blocks).length : Int) := by omega
      have ea : 0 ≤ a ∧ a < ((underOf f.blocks).length : Int) := by omega
      have hnear : Near f.blocks b f.blocks.length (rd (overI f.blocks) b) := by
        have := overI_near f.blocks hn (j := b.toNat) (by omega)
        rw [show ((b.toNat : Nat) : Int) = b by omega] at this
        exact this
      have P1 : domB f.blocks a b = true → domB f.blocks b c = true → domB f.blocks a c = true := fun h1 h2 => domB_iff.2 ⟨ia, ic, (domB_iff.1 h1).2.2.trans (domB_iff.1 h2).2.2⟩
      have P2 : domB f.blocks a c = true → domB f.blocks b c = true → domB f.blocks a b = false → domB f.blocks b a = true := fun h1 h2 h3 => by
        rcases Ov.either (domB_iff.1 h1).2.2 (domB_iff.1 h2).2.2 with q | q
        · rw [domB_iff.2 ⟨ia, ib, q⟩] at h3; cases h3
        · exact domB_iff.2 ⟨ib, ia, q⟩
      have P3 : a ≠ b → domB f.blocks a b = true → domB f.blocks b a = false := fun hab h1 => by
        rw [← Bool.not_eq_true, domB_iff]; exact fun q => Ov.anti hab (domB_iff.1 h1).2.2 q.2.2
      have P4 : rd (overI f.blocks) b < 0 → b ≠ 0 → domB f.blocks b b = false := fun h0 hb0 => by
        rw [← Bool.not_eq_true, domB_iff]
        intro q
        rcases hnear with ⟨_, h2⟩ | ⟨h1, _⟩
        · exact h2 0 (by omega) (by omega) (Ne.symm hb0) (Ov.root q.2.2.1)
        · omega
      have P5 : ¬ rd (overI f.blocks) b < 0 → rd (overI f.blocks) b < (f.blocks.length : Int) ∧ rd (overI f.blocks) b ≠ b ∧ domB f.blocks (rd (overI f.blocks) b) b = true ∧ (domB f.blocks a b = true → a ≠ b → domB f.blocks a (rd (overI f.blocks) b) = true) := fun h0 => by
        rcases hnear with ⟨h1, _⟩ | ⟨h1, h2, h3, h4⟩
        · omega
        · exact ⟨h1.2, h2, domB_iff.2 ⟨h1, ib, h3⟩, fun q hab => domB_iff.2 ⟨ia, h1, h4 a ia.1 ia.2 hab (domB_iff.1 q).2.2⟩⟩
      generalize hob : rd (overI f.blocks) b = ob at *
      rw [enc_func] at *
      by_cases hab : a = b
      · cases X : domB f.blocks a b with
        | true =>
          cases Y : domB f.blocks b c with
          | true =>
            have Z := P1 X Y
            by_cases h0 : ob < 0
            · by_cases hb0 : b = 0
              · skip
                simp (implicitDefEqProofs := false) only [k9, go_sem, hfirst, hlight, decide_eq_false c0, ra, rb, rc, hover, hunder, hdom, hin, d1, d2, eb, ea, hob, decide_eq_true hab, X, Y, Z, decide_eq_true h0, decide_eq_true hb0]
                exact ⟨_, _, rfl, rfl⟩
              · have V := P4 h0 hb0
                simp (implicitDefEqProofs := false) only [k9, go_sem, hfirst, hlight, decide_eq_false c0, ra, rb, rc, hover, hunder, hdom, hin, d1, d2, eb, ea, hob, decide_eq_true hab, X, Y, Z, decide_eq_true h0, decide_eq_false hb0, V]
                exact ⟨_, _, rfl, rfl⟩
            · obtain ⟨q1, q2, q3, q4⟩ := P5 h0
              simp (implicitDefEqProofs := false) only [k9, go_sem, hfirst, hlight, decide_eq_false c0, ra, rb, rc, hover, hunder, hdom, hin, d1, d2, eb, ea, hob, decide_eq_true hab, X, Y, Z, decide_eq_false h0, decide_eq_true q1, decide_eq_false q2, q3]
              exact ⟨_, _, rfl, rfl⟩
          | false =>
            cases Z : domB f.blocks a c with
            | true =>
              by_cases h0 : ob < 0
              · by_cases hb0 : b = 0
                · skip
                  simp (implicitDefEqProofs := false) only [k9, go_sem, hfirst, hlight, decide_eq_false c0, ra, rb, rc, hover, hunder, hdom, hin, d1, d2, eb, ea, hob, decide_eq_true hab, X, Y, Z, decide_eq_true h0, decide_eq_true hb0]
                  exact ⟨_, _, rfl, rfl⟩
                · have V := P4 h0 hb0
                  simp (implicitDefEqProofs := false) only [k9, go_sem, hfirst, hlight, decide_eq_false c0, ra, rb, rc, hover, hunder, hdom, hin, d1, d2, eb, ea, hob, decide_eq_true hab, X, Y, Z, decide_eq_true h0, decide_eq_false hb0, V]
                  exact ⟨_, _, rfl, rfl⟩
              · obtain ⟨q1, q2, q3, q4⟩ := P5 h0
                simp (implicitDefEqProofs := false) only [k9, go_sem, hfirst, hlight, decide_eq_false c0, ra, rb, rc, hover, hunder, hdom, hin, d1, d2, eb, ea, hob, decide_eq_true hab, X, Y, Z, decide_eq_false h0, decide_eq_true q1, decide_eq_false q2, q3]
                exact ⟨_, _, rfl, rfl⟩
            | false =>
              by_cases h0 : ob < 0
              · by_cases hb0 : b = 0
                · skip
                  simp (implicitDefEqProofs := false) only [k9, go_sem, hfirst, hlight, decide_eq_false c0, ra, rb, rc, hover, hunder, hdom, hin, d1, d2, eb, ea, hob, decide_eq_true hab, X, Y, Z, decide_eq_true h0, decide_eq_true hb0]
                  exact ⟨_, _, rfl, rfl⟩
                · have V := P4 h0 hb0
                  simp (implicitDefEqProofs := false) only [k9, go_sem, hfirst, hlight, decide_eq_false c0, ra, rb, rc, hover, hunder, hdom, hin, d1, d2, eb, ea, hob, decide_eq_true hab, X, Y, Z, decide_eq_true h0, decide_eq_false hb0, V]
                  exact ⟨_, _, rfl, rfl⟩
              · obtain ⟨q1, q2, q3, q4⟩ := P5 h0
                simp (implicitDefEqProofs := false) only [k9, go_sem, hfirst, hlight, decide_eq_false c0, ra, rb, rc, hover, hunder, hdom, hin, d1, d2, eb, ea, hob, decide_eq_true hab, X, Y, Z, decide_eq_false h0, decide_eq_true q1, decide_eq_false q2, q3]
                exact ⟨_, _, rfl, rfl⟩
        | false =>
          cases Y : domB f.blocks b c with
          | true =>
            cases Z : domB f.blocks a c with
            | true =>
              have W := P2 Z Y X
              by_cases h0 : ob < 0
              · by_cases hb0 : b = 0
                · skip
                  simp (implicitDefEqProofs := false) only [k9, go_sem, hfirst, hlight, decide_eq_false c0, ra, rb, rc, hover, hunder, hdom, hin, d1, d2, eb, ea, hob, decide_eq_true hab, X, Y, Z, W, decide_eq_true h0, decide_eq_true hb0]
                  exact ⟨_, _, rfl, rfl⟩
                · have V := P4 h0 hb0
                  simp (implicitDefEqProofs := false) only [k9, go_sem, hfirst, hlight, decide_eq_false c0, ra, rb, rc, hover, hunder, hdom, hin, d1, d2, eb, ea, hob, decide_eq_true hab, X, Y, Z, W, decide_eq_true h0, decide_eq_false hb0, V]
                  exact ⟨_, _, rfl, rfl⟩
              · obtain ⟨q1, q2, q3, q4⟩ := P5 h0
                simp (implicitDefEqProofs := false) only [k9, go_sem, hfirst, hlight, decide_eq_false c0, ra, rb, rc, hover, hunder, hdom, hin, d1, d2, eb, ea, hob, decide_eq_true hab, X, Y, Z, W, decide_eq_false h0, decide_eq_true q1, decide_eq_false q2, q3]
                exact ⟨_, _, rfl, rfl⟩
            | false =>
              by_cases h0 : ob < 0
              · by_cases hb0 : b = 0
                · skip
                  simp (implicitDefEqProofs := false) only [k9, go_sem, hfirst, hlight, decide_eq_false c0, ra, rb, rc, hover, hunder, hdom, hin, d1, d2, eb, ea, hob, decide_eq_true hab, X, Y, Z, decide_eq_true h0, decide_eq_true hb0]
                  exact ⟨_, _, rfl, rfl⟩
                · have V := P4 h0 hb0
                  simp (implicitDefEqProofs := false) only [k9, go_sem, hfirst, hlight, decide_eq_false c0, ra, rb, rc, hover, hunder, hdom, hin, d1, d2, eb, ea, hob, decide_eq_true hab, X, Y, Z, decide_eq_true h0, decide_eq_false hb0, V]
                  exact ⟨_, _, rfl, rfl⟩
              · obtain ⟨q1, q2, q3, q4⟩ := P5 h0
                simp (implicitDefEqProofs := false) only [k9, go_sem, hfirst, hlight, decide_eq_false c0, ra, rb, rc, hover, hunder, hdom, hin, d1, d2, eb, ea, hob, decide_eq_true hab, X, Y, Z, decide_eq_false h0, decide_eq_true q1, decide_eq_false q2, q3]
                exact ⟨_, _, rfl, rfl⟩
          | false =>
            cases Z : domB f.blocks a c with
            | true =>
              by_cases h0 : ob < 0
              · by_cases hb0 : b = 0
                · skip
                  simp (implicitDefEqProofs := false) only [k9, go_sem, hfirst, hlight, decide_eq_false c0, ra, rb, rc, hover, hunder, hdom, hin, d1, d2, eb, ea, hob, decide_eq_true hab, X, Y, Z, decide_eq_true h0, decide_eq_true hb0]
                  exact ⟨_, _, rfl, rfl⟩
                · have V := P4 h0 hb0
                  simp (implicitDefEqProofs := false) only [k9, go_sem, hfirst, hlight, decide_eq_false c0, ra, rb, rc, hover, hunder, hdom, hin, d1, d2, eb, ea, hob, decide_eq_true hab, X, Y, Z, decide_eq_true h0, decide_eq_false hb0, V]
                  exact ⟨_, _, rfl, rfl⟩
              · obtain ⟨q1, q2, q3, q4⟩ := P5 h0
                simp (implicitDefEqProofs := false) only [k9, go_sem, hfirst, hlight, decide_eq_false c0, ra, rb, rc, hover, hunder, hdom, hin, d1, d2, eb, ea, hob, decide_eq_true hab, X, Y, Z, decide_eq_false h0, decide_eq_true q1, decide_eq_false q2, q3]
                exact ⟨_, _, rfl, rfl⟩
            | false =>
              by_cases h0 : ob < 0
              · by_cases hb0 : b = 0
                · skip
                  simp (implicitDefEqProofs := false) only [k9, go_sem, hfirst, hlight, decide_eq_false c0, ra, rb, rc, hover, hunder, hdom, hin, d1, d2, eb, ea, hob, decide_eq_true hab, X, Y, Z, decide_eq_true h0, decide_eq_true hb0]
                  exact ⟨_, _, rfl, rfl⟩
                · have V := P4 h0 hb0
                  simp (implicitDefEqProofs := false) only [k9, go_sem, hfirst, hlight, decide_eq_false c0, ra, rb, rc, hover, hunder, hdom, hin, d1, d2, eb, ea, hob, decide_eq_true hab, X, Y, Z, decide_eq_true h0, decide_eq_false hb0, V]
                  exact ⟨_, _, rfl, rfl⟩
              · obtain ⟨q1, q2, q3, q4⟩ := P5 h0
                simp (implicitDefEqProofs := false) only [k9, go_sem, hfirst, hlight, decide_eq_false c0, ra, rb, rc, hover, hunder, hdom, hin, d1, d2, eb, ea, hob, decide_eq_true hab, X, Y, Z, decide_eq_false h0, decide_eq_true q1, decide_eq_false q2, q3]
                exact ⟨_, _, rfl, rfl⟩
      · cases X : domB f.blocks a b with
        | true =>
          have W := P3 hab X
          cases Y : domB f.blocks b c with
          | true =>
            have Z := P1 X Y
            by_cases h0 : ob < 0
            · by_cases hb0 : b = 0
              · skip
                simp (implicitDefEqProofs := false) only [k9, go_sem, hfirst, hlight, decide_eq_false c0, ra, rb, rc, hover, hunder, hdom, hin, d1, d2, eb, ea, hob, decide_eq_false hab, X, W, Y, Z, decide_eq_true h0, decide_eq_true hb0]
                exact ⟨_, _, rfl, rfl⟩
              · have V := P4 h0 hb0
                simp (implicitDefEqProofs := false) only [k9, go_sem, hfirst, hlight, decide_eq_false c0, ra, rb, rc, hover, hunder, hdom, hin, d1, d2, eb, ea, hob, decide_eq_false hab, X, W, Y, Z, decide_eq_true h0, decide_eq_false hb0, V]
                exact ⟨_, _, rfl, rfl⟩
            · obtain ⟨q1, q2, q3, q4⟩ := P5 h0
              have q5 := q4 X hab
              simp (implicitDefEqProofs := false) only [k9, go_sem, hfirst, hlight, decide_eq_false c0, ra, rb, rc, hover, hunder, hdom, hin, d1, d2, eb, ea, hob, decide_eq_false hab, X, W, Y, Z, decide_eq_false h0, decide_eq_true q1, decide_eq_false q2, q3, q5]
              exact ⟨_, _, rfl, rfl⟩
          | false =>
            cases Z : domB f.blocks a c with
            | true =>
              by_cases h0 : ob < 0
              · by_cases hb0 : b = 0
                · skip
                  simp (implicitDefEqProofs := false) only [k9, go_sem, hfirst, hlight, decide_eq_false c0, ra, rb, rc, hover, hunder, hdom, hin, d1, d2, eb, ea, hob, decide_eq_false hab, X, W, Y, Z, decide_eq_true h0, decide_eq_true hb0]
                  exact ⟨_, _, rfl, rfl⟩
                · have V := P4 h0 hb0
                  simp (implicitDefEqProofs := false) only [k9, go_sem, hfirst, hlight, decide_eq_false c0, ra, rb, rc, hover, hunder, hdom, hin, d1, d2, eb, ea, hob, decide_eq_false hab, X, W, Y, Z, decide_eq_true h0, decide_eq_false hb0, V]
                  exact ⟨_, _, rfl, rfl⟩
              · obtain ⟨q1, q2, q3, q4⟩ := P5 h0
                have q5 := q4 X hab
                simp (implicitDefEqProofs := false) only [k9, go_sem, hfirst, hlight, decide_eq_false c0, ra, rb, rc, hover, hunder, hdom, hin, d1, d2, eb, ea, hob, decide_eq_false hab, X, W, Y, Z, decide_eq_false h0, decide_eq_true q1, decide_eq_false q2, q3, q5]
                exact ⟨_, _, rfl, rfl⟩
            | false =>
              by_cases h0 : ob < 0
              · by_cases hb0 : b = 0
                · skip
                  simp (implicitDefEqProofs := false) only [k9, go_sem, hfirst, hlight, decide_eq_false c0, ra, rb, rc, hover, hunder, hdom, hin, d1, d2, eb, ea, hob, decide_eq_false hab, X, W, Y, Z, decide_eq_true h0, decide_eq_true hb0]
                  exact ⟨_, _, rfl, rfl⟩
                · have V := P4 h0 hb0
                  simp (implicitDefEqProofs := false) only [k9, go_sem, hfirst, hlight, decide_eq_false c0, ra, rb, rc, hover, hunder, hdom, hin, d1, d2, eb, ea, hob, decide_eq_false hab, X, W, Y, Z, decide_eq_true h0, decide_eq_false hb0, V]
                  exact ⟨_, _, rfl, rfl⟩
              · obtain ⟨q1, q2, q3, q4⟩ := P5 h0
                have q5 := q4 X hab
                simp (implicitDefEqProofs := false) only [k9, go_sem, hfirst, hlight, decide_eq_false c0, ra, rb, rc, hover, hunder, hdom, hin, d1, d2, eb, ea, hob, decide_eq_false hab, X, W, Y, Z, decide_eq_false h0, decide_eq_true q1, decide_eq_false q2, q3, q5]
                exact ⟨_, _, rfl, rfl⟩
        | false =>
          cases Y : domB f.blocks b c with
          | true =>
            cases Z : domB f.blocks a c with
            | true =>
              have W := P2 Z Y X
              by_cases h0 : ob < 0
              · by_cases hb0 : b = 0
                · skip
                  simp (implicitDefEqProofs := false) only [k9, go_sem, hfirst, hlight, decide_eq_false c0, ra, rb, rc, hover, hunder, hdom, hin, d1, d2, eb, ea, hob, decide_eq_false hab, X, Y, Z, W, decide_eq_true h0, decide_eq_true hb0]
                  exact ⟨_, _, rfl, rfl⟩
                · have V := P4 h0 hb0
                  simp (implicitDefEqProofs := false) only [k9, go_sem, hfirst, hlight, decide_eq_false c0, ra, rb, rc, hover, hunder, hdom, hin, d1, d2, eb, ea, hob, decide_eq_false hab, X, Y, Z, W, decide_eq_true h0, decide_eq_false hb0, V]
                  exact ⟨_, _, rfl, rfl⟩
              · obtain ⟨q1, q2, q3, q4⟩ := P5 h0
                simp (implicitDefEqProofs := false) only [k9, go_sem, hfirst, hlight, decide_eq_false c0, ra, rb, rc, hover, hunder, hdom, hin, d1, d2, eb, ea, hob, decide_eq_false hab, X, Y, Z, W, decide_eq_false h0, decide_eq_true q1, decide_eq_false q2, q3]
                exact ⟨_, _, rfl, rfl⟩
            | false =>
              by_cases h0 : ob < 0
              · by_cases hb0 : b = 0
                · skip
                  simp (implicitDefEqProofs := false) only [k9, go_sem, hfirst, hlight, decide_eq_false c0, ra, rb, rc, hover, hunder, hdom, hin, d1, d2, eb, ea, hob, decide_eq_false hab, X, Y, Z, decide_eq_true h0, decide_eq_true hb0]
                  exact ⟨_, _, rfl, rfl⟩
                · have V := P4 h0 hb0
                  simp (implicitDefEqProofs := false) only [k9, go_sem, hfirst, hlight, decide_eq_false c0, ra, rb, rc, hover, hunder, hdom, hin, d1, d2, eb, ea, hob, decide_eq_false hab, X, Y, Z, decide_eq_true h0, decide_eq_false hb0, V]
                  exact ⟨_, _, rfl, rfl⟩
              · obtain ⟨q1, q2, q3, q4⟩ := P5 h0
                simp (implicitDefEqProofs := false) only [k9, go_sem, hfirst, hlight, decide_eq_false c0, ra, rb, rc, hover, hunder, hdom, hin, d1, d2, eb, ea, hob, decide_eq_false hab, X, Y, Z, decide_eq_false h0, decide_eq_true q1, decide_eq_false q2, q3]
                exact ⟨_, _, rfl, rfl⟩
          | false =>
            cases Z : domB f.blocks a c with
            | true =>
              by_cases h0 : ob < 0
              · by_cases hb0 : b = 0
                · skip
                  simp (implicitDefEqProofs := false) only [k9, go_sem, hfirst, hlight, decide_eq_false c0, ra, rb, rc, hover, hunder, hdom, hin, d1, d2, eb, ea, hob, decide_eq_false hab, X, Y, Z, decide_eq_true h0, decide_eq_true hb0]
                  exact ⟨_, _, rfl, rfl⟩
                · have V := P4 h0 hb0
                  simp (implicitDefEqProofs := false) only [k9, go_sem, hfirst, hlight, decide_eq_false c0, ra, rb, rc, hover, hunder, hdom, hin, d1, d2, eb, ea, hob, decide_eq_false hab, X, Y, Z, decide_eq_true h0, decide_eq_false hb0, V]
                  exact ⟨_, _, rfl, rfl⟩
              · obtain ⟨q1, q2, q3, q4⟩ := P5 h0
                simp (implicitDefEqProofs := false) only [k9, go_sem, hfirst, hlight, decide_eq_false c0, ra, rb, rc, hover, hunder, hdom, hin, d1, d2, eb, ea, hob, decide_eq_false hab, X, Y, Z, decide_eq_false h0, decide_eq_true q1, decide_eq_false q2, q3]
                exact ⟨_, _, rfl, rfl⟩
            | false =>
              by_cases h0 : ob < 0
              · by_cases hb0 : b = 0
                · skip
                  simp (implicitDefEqProofs := false) only [k9, go_sem, hfirst, hlight, decide_eq_false c0, ra, rb, rc, hover, hunder, hdom, hin, d1, d2, eb, ea, hob, decide_eq_false hab, X, Y, Z, decide_eq_true h0, decide_eq_true hb0]
                  exact ⟨_, _, rfl, rfl⟩
                · have V := P4 h0 hb0
                  simp (implicitDefEqProofs := false) only [k9, go_sem, hfirst, hlight, decide_eq_false c0, ra, rb, rc, hover, hunder, hdom, hin, d1, d2, eb, ea, hob, decide_eq_false hab, X, Y, Z, decide_eq_true h0, decide_eq_false hb0, V]
                  exact ⟨_, _, rfl, rfl⟩
              · obtain ⟨q1, q2, q3, q4⟩ := P5 h0
                simp (implicitDefEqProofs := false) only [k9, go_sem, hfirst, hlight, decide_eq_false c0, ra, rb, rc, hover, hunder, hdom, hin, d1, d2, eb, ea, hob, decide_eq_false hab, X, Y, Z, decide_eq_false h0, decide_eq_true q1, decide_eq_false q2, q3]
                exact ⟨_, _, rfl, rfl⟩
end Go.Proofs.Ytkcimaibaicdcaa.Tk
