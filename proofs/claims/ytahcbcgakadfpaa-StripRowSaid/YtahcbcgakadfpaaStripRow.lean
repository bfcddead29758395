import Derived.Test.YtahcbcgakadfpaaStripRow1
import Derived.Test.YtahcbcgakadfpaaStripRow2
import Derived.Test.YtahcbcgakadfpaaStripRow3
import Derived.Test.YtahcbcgakadfpaaStripRow4
import Derived.Test.YtahcbcgakadfpaaStripRow5
import Derived.Test.YtahcbcgakadfpaaStripRow6
import Derived.Test.YtahcbcgakadfpaaStripRow7
import Derived.Test.YtahcbcgakadfpaaStripRow8
import Derived.Test.YtahcbcgakadfpaaUB
namespace Go.Tm
/-! ### Laws of a few cases: a number's low bits decide -/
section
variable {P : Program} {t : TypeId} {x y : Operand} {a b : Int}
theorem bin_and' : binC P .and t x y (.v (.int .i64 a)) (.v (.int .i64 b)) = some (.v (.int .i64 (bits .and .i64 a b))) := rfl
theorem bin_rem' (h : b ≠ 0) : binC P .rem t x y (.v (.int .i64 a)) (.v (.int .i64 b)) = some (.v (.int .i64 (Int.tmod a b))) := by
  cases b with
  | ofNat b => cases b with
    | zero => exact absurd rfl h
    | succ b => rfl
  | negSucc b => rfl
end
theorem i64_and255 (n : Int) : 0 ≤ Go.bits .and .i64 n 255 ∧ Go.bits .and .i64 n 255 ≤ 255 ∧ (0 ≤ n → n ≤ 255 → Go.bits .and .i64 n 255 = n) := by
  have h : (BitVec.ofInt 64 255).toNat = 2 ^ 8 - 1 := by decide
  have key : (BitVec.ofInt 64 n &&& BitVec.ofInt 64 255).toNat = (n % ((2 ^ 64 : Nat) : Int)).toNat % 2 ^ 8 := by
    rw [BitVec.toNat_and, BitVec.toNat_ofInt, h, Nat.and_two_pow_sub_one_eq_mod]
  have e : Go.bits .and .i64 n 255 = n % 256 := by
    show IntKind.i64.wrap ((BitVec.ofInt 64 n &&& BitVec.ofInt 64 255).toNat : Nat) = n % 256
    rw [key, IntKind.wrap_i64]
    omega
  omega
/-- The number that the low bits are, below n. -/
def low (x : Int) (n : Nat) : Int := Int.tmod (Go.bits .and .i64 x 255) n
theorem low_range (x : Int) {n : Nat} (h : 0 < n) : 0 ≤ low x n ∧ low x n < n := ⟨Int.tmod_nonneg _ (i64_and255 x).1, Int.tmod_lt_of_pos _ (by omega)⟩
theorem low_low (x : Int) {n : Nat} (h : 0 < n) (h2 : n ≤ 256) : low (low x n) n = low x n := by
  obtain ⟨h3, h4⟩ := low_range x h
  unfold low at h3 h4 ⊢
  rw [(i64_and255 _).2.2 h3 (by omega)]
  exact Int.tmod_eq_of_lt h3 h4
/-- A number's case. -/
theorem low_cases (x : Int) {n : Nat} (h : 0 < n) : ∃ j : Nat, j < n ∧ low x n = (j : Int) := ⟨(low x n).toNat, by have := low_range x h; omega, by have := low_range x h; omega⟩
theorem seq_step {P : Program} {vals : FuncId → Bool} {call : CallF} {n : Nat} {A R : K} {s s' t t' : St} (h1 : exec P vals call n A s = some (.normal, t)) (h2 : exec P vals call n A s' = some (.normal, t')) (h3 : exec P vals call n R t = exec P vals call n R t') : exec P vals call n (.seq A R) s = exec P vals call n (.seq A R) s' := by
  simp only [exec, h1, h2]
  exact h3
theorem callAt_same {P : Program} {tab : Tab} {f : FuncId} {K : K} {m : Mode} {fn : Go.Func} {n : Nat} {cs cs' : List C} (h1 : tab f = some (K, m)) (h2 : P.funcs[f]? = some fn) (hl : cs.length = cs'.length) (hv : mapC (view false [] depth) cs = some cs) (hv' : mapC (view false [] depth) cs' = some cs') (hm : m = .val)
    (he : exec P (valsOf tab) (callAt P tab n) n K ⟨enterE 0 cs, []⟩ = exec P (valsOf tab) (callAt P tab n) n K ⟨enterE 0 cs', []⟩) : callAt P tab (n + 1) f cs [] = callAt P tab (n + 1) f cs' [] := by
  subst hm
  simp only [callAt, h1, h2, byVal, hv, hv', body, hl, he]
end Go.Tm
set_option linter.unusedSimpArgs false
namespace Go.Proofs.Ytahcbcgakadfpaa.Tz
open Go.Tm Go.Tm.Tab Go.Tm.V
set_option maxRecDepth 100000
theorem first : callAt Try.prog tab 4999 9 [] [] = some (bool true, []) := run_at (cs := []) (c := W.b true) (by kernel_rfl)
theorem one_more {j : Nat} (hj : j < 20) : IntKind.i64.wrap (1 + (j : Int)) = ((j + 1 : Nat) : Int) := by rw [wrap_in (by omega) (by omega)]; omega
theorem rows_low (x y : Int) (j : Nat) (hj : j < 20) (e : low x 20 = (j : Int)) : callAt Try.prog tab 5000 3 [int x, int y] [] = callAt Try.prog tab 5000 3 [int (j : Int), int (low y (j + 1))] [] := by
  refine callAt_same (K := k3) rfl Try.func3 rfl rfl rfl rfl ?_
  unfold k3
  have e' : low (j : Int) 20 = (j : Int) := by rw [← e, low_low x (show 0 < 20 by decide) (show 20 ≤ 256 by decide)]
  have r : ∀ y v w h, low y 20 = (j : Int) → exec Try.prog (valsOf tab) (callAt Try.prog tab 4999) 4999 (.reg [i 13 (.move (t 0)), i 14 (.binOp .and 3 (t 13) (n 255) 3), i 15 (.binOp .rem 3 (t 14) (n 20) 3), i 16 (.binOp .add 3 (n 1) (t 15) 3), i 0 (.assign (t 16))] [0, 1]) ⟨[(0, int y), (1, v), (12, w)], h⟩ = some (.normal, ⟨[(0, int ((j + 1 : Nat) : Int)), (1, v)], h⟩) := fun y v w h hy => by
    have hr := bin_rem' (P := Try.prog) (t := 3) (x := .tmp 14) (y := .const (.int .i64 20)) (a := Go.bits .and .i64 y 255) (b := 20) (by decide)
    rw [show Int.tmod (Go.bits .and .i64 y 255) 20 = (j : Int) from hy] at hr
    simp (decide := true) (implicitDefEqProofs := false) only [go_sem, bin_and', hr, one_more hj]
  have r2 : ∀ y h, exec Try.prog (valsOf tab) (callAt Try.prog tab 4999) 4999 (.reg [i 17 (.move (t 1)), i 18 (.binOp .and 3 (t 17) (n 255) 3), i 19 (.move (t 0)), i 20 (.binOp .rem 3 (t 18) (t 19) 3), i 1 (.assign (t 20))] [0, 1]) ⟨[(0, int ((j + 1 : Nat) : Int)), (1, int y)], h⟩ = some (.normal, ⟨[(0, int ((j + 1 : Nat) : Int)), (1, int (low y (j + 1)))], h⟩) := fun y h => by
    have hr := bin_rem' (P := Try.prog) (t := 3) (x := .tmp 18) (y := .tmp 19) (a := Go.bits .and .i64 y 255) (b := ((j + 1 : Nat) : Int)) (by omega)
    rw [show Int.tmod (Go.bits .and .i64 y 255) ((j + 1 : Nat) : Int) = low y (j + 1) from rfl] at hr
    simp (decide := true) (implicitDefEqProofs := false) only [go_sem, bin_and', hr]
  refine seq_step (by simp (decide := true) (implicitDefEqProofs := false) only [go_sem]; rfl) (by simp (decide := true) (implicitDefEqProofs := false) only [go_sem]; rfl) ?_
  refine seq_step (by simp (decide := true) (implicitDefEqProofs := false) only [go_sem, first]; rfl) (by simp (decide := true) (implicitDefEqProofs := false) only [go_sem, first]; rfl) ?_
  refine seq_step (r _ _ _ _ e) (r _ _ _ _ e') ?_
  refine seq_step (r2 ..) (r2 ..) ?_
  rw [low_low y (show 0 < j + 1 by omega) (show j + 1 ≤ 256 by omega)]
theorem stripRow (x y : Int) : callAt Try.prog tab 5000 3 [int x, int y] [] = some (bool true, []) := by
  obtain ⟨j, hj, e⟩ := low_cases x (n := 20) (by decide)
  rw [rows_low x y j hj e]
  obtain ⟨k, hk, e2⟩ := low_cases y (n := j + 1) (by omega)
  rw [e2]
  clear e e2
  rcases (by omega : j = 0 ∨ j = 1 ∨ j = 2 ∨ j = 3 ∨ j = 4 ∨ j = 5 ∨ j = 6 ∨ j = 7 ∨ j = 8 ∨ j = 9 ∨ j = 10 ∨ j = 11 ∨ j = 12 ∨ j = 13 ∨ j = 14 ∨ j = 15 ∨ j = 16 ∨ j = 17 ∨ j = 18 ∨ j = 19) with rfl | rfl | rfl | rfl | rfl | rfl | rfl | rfl | rfl | rfl | rfl | rfl | rfl | rfl | rfl | rfl | rfl | rfl | rfl | rfl
  · obtain rfl : k = 0 := by omega
    exact row0_0
  · rcases (by omega : k = 0 ∨ k = 1) with rfl | rfl
    · exact row1_0
    · exact row1_1
  · rcases (by omega : k = 0 ∨ k = 1 ∨ k = 2) with rfl | rfl | rfl
    · exact row2_0
    · exact row2_1
    · exact row2_2
  · rcases (by omega : k = 0 ∨ k = 1 ∨ k = 2 ∨ k = 3) with rfl | rfl | rfl | rfl
    · exact row3_0
    · exact row3_1
    · exact row3_2
    · exact row3_3
  · rcases (by omega : k = 0 ∨ k = 1 ∨ k = 2 ∨ k = 3 ∨ k = 4) with rfl | rfl | rfl | rfl | rfl
    · exact row4_0
    · exact row4_1
    · exact row4_2
    · exact row4_3
    · exact row4_4
  · rcases (by omega : k = 0 ∨ k = 1 ∨ k = 2 ∨ k = 3 ∨ k = 4 ∨ k = 5) with rfl | rfl | rfl | rfl | rfl | rfl
    · exact row5_0
    · exact row5_1
    · exact row5_2
    · exact row5_3
    · exact row5_4
    · exact row5_5
  · rcases (by omega : k = 0 ∨ k = 1 ∨ k = 2 ∨ k = 3 ∨ k = 4 ∨ k = 5 ∨ k = 6) with rfl | rfl | rfl | rfl | rfl | rfl | rfl
    · exact row6_0
    · exact row6_1
    · exact row6_2
    · exact row6_3
    · exact row6_4
    · exact row6_5
    · exact row6_6
  · rcases (by omega : k = 0 ∨ k = 1 ∨ k = 2 ∨ k = 3 ∨ k = 4 ∨ k = 5 ∨ k = 6 ∨ k = 7) with rfl | rfl | rfl | rfl | rfl | rfl | rfl | rfl
    · exact row7_0
    · exact row7_1
    · exact row7_2
    · exact row7_3
    · exact row7_4
    · exact row7_5
    · exact row7_6
    · exact row7_7
  · rcases (by omega : k = 0 ∨ k = 1 ∨ k = 2 ∨ k = 3 ∨ k = 4 ∨ k = 5 ∨ k = 6 ∨ k = 7 ∨ k = 8) with rfl | rfl | rfl | rfl | rfl | rfl | rfl | rfl | rfl
    · exact row8_0
    · exact row8_1
    · exact row8_2
    · exact row8_3
    · exact row8_4
    · exact row8_5
    · exact row8_6
    · exact row8_7
    · exact row8_8
  · rcases (by omega : k = 0 ∨ k = 1 ∨ k = 2 ∨ k = 3 ∨ k = 4 ∨ k = 5 ∨ k = 6 ∨ k = 7 ∨ k = 8 ∨ k = 9) with rfl | rfl | rfl | rfl | rfl | rfl | rfl | rfl | rfl | rfl
    · exact row9_0
    · exact row9_1
    · exact row9_2
    · exact row9_3
    · exact row9_4
    · exact row9_5
    · exact row9_6
    · exact row9_7
    · exact row9_8
    · exact row9_9
  · rcases (by omega : k = 0 ∨ k = 1 ∨ k = 2 ∨ k = 3 ∨ k = 4 ∨ k = 5 ∨ k = 6 ∨ k = 7 ∨ k = 8 ∨ k = 9 ∨ k = 10) with rfl | rfl | rfl | rfl | rfl | rfl | rfl | rfl | rfl | rfl | rfl
    · exact row10_0
    · exact row10_1
    · exact row10_2
    · exact row10_3
    · exact row10_4
    · exact row10_5
    · exact row10_6
    · exact row10_7
    · exact row10_8
    · exact row10_9
    · exact row10_10
  · rcases (by omega : k = 0 ∨ k = 1 ∨ k = 2 ∨ k = 3 ∨ k = 4 ∨ k = 5 ∨ k = 6 ∨ k = 7 ∨ k = 8 ∨ k = 9 ∨ k = 10 ∨ k = 11) with rfl | rfl | rfl | rfl | rfl | rfl | rfl | rfl | rfl | rfl | rfl | rfl
    · exact row11_0
    · exact row11_1
    · exact row11_2
    · exact row11_3
    · exact row11_4
    · exact row11_5
    · exact row11_6
    · exact row11_7
    · exact row11_8
    · exact row11_9
    · exact row11_10
    · exact row11_11
  · rcases (by omega : k = 0 ∨ k = 1 ∨ k = 2 ∨ k = 3 ∨ k = 4 ∨ k = 5 ∨ k = 6 ∨ k = 7 ∨ k = 8 ∨ k = 9 ∨ k = 10 ∨ k = 11 ∨ k = 12) with rfl | rfl | rfl | rfl | rfl | rfl | rfl | rfl | rfl | rfl | rfl | rfl | rfl
    · exact row12_0
    · exact row12_1
    · exact row12_2
    · exact row12_3
    · exact row12_4
    · exact row12_5
    · exact row12_6
    · exact row12_7
    · exact row12_8
    · exact row12_9
    · exact row12_10
    · exact row12_11
    · exact row12_12
  · rcases (by omega : k = 0 ∨ k = 1 ∨ k = 2 ∨ k = 3 ∨ k = 4 ∨ k = 5 ∨ k = 6 ∨ k = 7 ∨ k = 8 ∨ k = 9 ∨ k = 10 ∨ k = 11 ∨ k = 12 ∨ k = 13) with rfl | rfl | rfl | rfl | rfl | rfl | rfl | rfl | rfl | rfl | rfl | rfl | rfl | rfl
    · exact row13_0
    · exact row13_1
    · exact row13_2
    · exact row13_3
    · exact row13_4
    · exact row13_5
    · exact row13_6
    · exact row13_7
    · exact row13_8
    · exact row13_9
    · exact row13_10
    · exact row13_11
    · exact row13_12
    · exact row13_13
  · rcases (by omega : k = 0 ∨ k = 1 ∨ k = 2 ∨ k = 3 ∨ k = 4 ∨ k = 5 ∨ k = 6 ∨ k = 7 ∨ k = 8 ∨ k = 9 ∨ k = 10 ∨ k = 11 ∨ k = 12 ∨ k = 13 ∨ k = 14) with rfl | rfl | rfl | rfl | rfl | rfl | rfl | rfl | rfl | rfl | rfl | rfl | rfl | rfl | rfl
    · exact row14_0
    · exact row14_1
    · exact row14_2
    · exact row14_3
    · exact row14_4
    · exact row14_5
    · exact row14_6
    · exact row14_7
    · exact row14_8
    · exact row14_9
    · exact row14_10
    · exact row14_11
    · exact row14_12
    · exact row14_13
    · exact row14_14
  · rcases (by omega : k = 0 ∨ k = 1 ∨ k = 2 ∨ k = 3 ∨ k = 4 ∨ k = 5 ∨ k = 6 ∨ k = 7 ∨ k = 8 ∨ k = 9 ∨ k = 10 ∨ k = 11 ∨ k = 12 ∨ k = 13 ∨ k = 14 ∨ k = 15) with rfl | rfl | rfl | rfl | rfl | rfl | rfl | rfl | rfl | rfl | rfl | rfl | rfl | rfl | rfl | rfl
    · exact row15_0
    · exact row15_1
    · exact row15_2
    · exact row15_3
    · exact row15_4
    · exact row15_5
    · exact row15_6
    · exact row15_7
    · exact row15_8
    · exact row15_9
    · exact row15_10
    · exact row15_11
    · exact row15_12
    · exact row15_13
    · exact row15_14
    · exact row15_15
  · rcases (by omega : k = 0 ∨ k = 1 ∨ k = 2 ∨ k = 3 ∨ k = 4 ∨ k = 5 ∨ k = 6 ∨ k = 7 ∨ k = 8 ∨ k = 9 ∨ k = 10 ∨ k = 11 ∨ k = 12 ∨ k = 13 ∨ k = 14 ∨ k = 15 ∨ k = 16) with rfl | rfl | rfl | rfl | rfl | rfl | rfl | rfl | rfl | rfl | rfl | rfl | rfl | rfl | rfl | rfl | rfl
    · exact row16_0
    · exact row16_1
    · exact row16_2
    · exact row16_3
    · exact row16_4
    · exact row16_5
    · exact row16_6
    · exact row16_7
    · exact row16_8
    · exact row16_9
    · exact row16_10
    · exact row16_11
    · exact row16_12
    · exact row16_13
    · exact row16_14
    · exact row16_15
    · exact row16_16
  · rcases (by omega : k = 0 ∨ k = 1 ∨ k = 2 ∨ k = 3 ∨ k = 4 ∨ k = 5 ∨ k = 6 ∨ k = 7 ∨ k = 8 ∨ k = 9 ∨ k = 10 ∨ k = 11 ∨ k = 12 ∨ k = 13 ∨ k = 14 ∨ k = 15 ∨ k = 16 ∨ k = 17) with rfl | rfl | rfl | rfl | rfl | rfl | rfl | rfl | rfl | rfl | rfl | rfl | rfl | rfl | rfl | rfl | rfl | rfl
    · exact row17_0
    · exact row17_1
    · exact row17_2
    · exact row17_3
    · exact row17_4
    · exact row17_5
    · exact row17_6
    · exact row17_7
    · exact row17_8
    · exact row17_9
    · exact row17_10
    · exact row17_11
    · exact row17_12
    · exact row17_13
    · exact row17_14
    · exact row17_15
    · exact row17_16
    · exact row17_17
  · rcases (by omega : k = 0 ∨ k = 1 ∨ k = 2 ∨ k = 3 ∨ k = 4 ∨ k = 5 ∨ k = 6 ∨ k = 7 ∨ k = 8 ∨ k = 9 ∨ k = 10 ∨ k = 11 ∨ k = 12 ∨ k = 13 ∨ k = 14 ∨ k = 15 ∨ k = 16 ∨ k = 17 ∨ k = 18) with rfl | rfl | rfl | rfl | rfl | rfl | rfl | rfl | rfl | rfl | rfl | rfl | rfl | rfl | rfl | rfl | rfl | rfl | rfl
    · exact row18_0
    · exact row18_1
    · exact row18_2
    · exact row18_3
    · exact row18_4
    · exact row18_5
    · exact row18_6
    · exact row18_7
    · exact row18_8
    · exact row18_9
    · exact row18_10
    · exact row18_11
    · exact row18_12
    · exact row18_13
    · exact row18_14
    · exact row18_15
    · exact row18_16
    · exact row18_17
    · exact row18_18
  · rcases (by omega : k = 0 ∨ k = 1 ∨ k = 2 ∨ k = 3 ∨ k = 4 ∨ k = 5 ∨ k = 6 ∨ k = 7 ∨ k = 8 ∨ k = 9 ∨ k = 10 ∨ k = 11 ∨ k = 12 ∨ k = 13 ∨ k = 14 ∨ k = 15 ∨ k = 16 ∨ k = 17 ∨ k = 18 ∨ k = 19) with rfl | rfl | rfl | rfl | rfl | rfl | rfl | rfl | rfl | rfl | rfl | rfl | rfl | rfl | rfl | rfl | rfl | rfl | rfl | rfl
    · exact row19_0
    · exact row19_1
    · exact row19_2
    · exact row19_3
    · exact row19_4
    · exact row19_5
    · exact row19_6
    · exact row19_7
    · exact row19_8
    · exact row19_9
    · exact row19_10
    · exact row19_11
    · exact row19_12
    · exact row19_13
    · exact row19_14
    · exact row19_15
    · exact row19_16
    · exact row19_17
    · exact row19_18
    · exact row19_19
end Go.Proofs.Ytahcbcgakadfpaa.Tz
