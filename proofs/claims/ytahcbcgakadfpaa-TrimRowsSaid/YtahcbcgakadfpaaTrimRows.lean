import Derived.Test.YtahcbcgakadfpaaTrimRows1
import Derived.Test.YtahcbcgakadfpaaTrimRows2
import Derived.Test.YtahcbcgakadfpaaTrimRows3
import Derived.Test.YtahcbcgakadfpaaTrimRows4
import Derived.Test.YtahcbcgakadfpaaUC
set_option linter.unusedSimpArgs false
namespace Go.Proofs.Ytahcbcgakadfpaa.Tr
open Go.Tm Go.Tm.Tab Go.Tm.V
set_option maxRecDepth 100000
theorem first : callAt Try.prog tab 999 20 [] [] = some (bool true, []) := run_at (cs := []) (c := W.b true) (by kernel_rfl)
theorem rows_low (x : Int) (b : Bool) : callAt Try.prog tab 1000 6 [int x, bool b] [] = callAt Try.prog tab 1000 6 [int (low x 12), bool b] [] := by
  refine callAt_same (K := k6) rfl Try.func6 rfl rfl rfl rfl ?_
  unfold k6
  have r : ∀ y v w h, exec Try.prog (valsOf tab) (callAt Try.prog tab 999) 999 (.reg [i 11 (.move (t 0)), i 12 (.binOp .and 3 (t 11) (n 255) 3), i 13 (.binOp .rem 3 (t 12) (n 12) 3), i 14 (.binOp .add 3 (n 1) (t 13) 3), i 0 (.assign (t 14))] [0, 1]) ⟨[(0, int y), (1, v), (10, w)], h⟩ = some (.normal, ⟨[(0, int (IntKind.i64.wrap (1 + low y 12))), (1, v)], h⟩) := fun y v w h => by
    have hr := bin_rem' (P := Try.prog) (t := 3) (x := .tmp 12) (y := .const (.int .i64 12)) (a := Go.bits .and .i64 y 255) (b := 12) (by decide)
    simp (decide := true) (implicitDefEqProofs := false) only [go_sem, bin_and', hr]
    rfl
  cases b
  all_goals
    refine seq_step (by simp (decide := true) (implicitDefEqProofs := false) only [go_sem]; rfl) (by simp (decide := true) (implicitDefEqProofs := false) only [go_sem]; rfl) ?_
    refine seq_step (by simp (decide := true) (implicitDefEqProofs := false) only [go_sem, first]; rfl) (by simp (decide := true) (implicitDefEqProofs := false) only [go_sem, first]; rfl) ?_
    refine seq_step (r ..) (r ..) ?_
    rw [low_low x (show 0 < 12 by decide) (show 12 ≤ 256 by decide)]
theorem trimRows (x : Int) (b : Bool) : callAt Try.prog tab 1000 6 [int x, bool b] [] = some (bool true, []) := by
  rw [rows_low]
  obtain ⟨j, hj, e⟩ := low_cases x (n := 12) (by decide)
  rw [e]
  rcases (by omega : j = 0 ∨ j = 1 ∨ j = 2 ∨ j = 3 ∨ j = 4 ∨ j = 5 ∨ j = 6 ∨ j = 7 ∨ j = 8 ∨ j = 9 ∨ j = 10 ∨ j = 11) with rfl | rfl | rfl | rfl | rfl | rfl | rfl | rfl | rfl | rfl | rfl | rfl
  · cases b
    · exact row0f
    · exact row0t
  · cases b
    · exact row1f
    · exact row1t
  · cases b
    · exact row2f
    · exact row2t
  · cases b
    · exact row3f
    · exact row3t
  · cases b
    · exact row4f
    · exact row4t
  · cases b
    · exact row5f
    · exact row5t
  · cases b
    · exact row6f
    · exact row6t
  · cases b
    · exact row7f
    · exact row7t
  · cases b
    · exact row8f
    · exact row8t
  · cases b
    · exact row9f
    · exact row9t
  · cases b
    · exact row10f
    · exact row10t
  · cases b
    · exact row11f
    · exact row11t
end Go.Proofs.Ytahcbcgakadfpaa.Tr
