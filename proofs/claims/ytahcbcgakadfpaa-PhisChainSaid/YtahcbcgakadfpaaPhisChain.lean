import Derived.Test.YtahcbcgakadfpaaPhisChain1
import Derived.Test.YtahcbcgakadfpaaPhisChain2
import Derived.Test.YtahcbcgakadfpaaPhisChain3
import Derived.Test.YtahcbcgakadfpaaPhisChain4
import Derived.Test.YtahcbcgakadfpaaPhisChain5
import Derived.Test.YtahcbcgakadfpaaPhisChain6
import Derived.Test.YtahcbcgakadfpaaUC
set_option linter.unusedSimpArgs false
namespace Go.Proofs.Ytahcbcgakadfpaa.Tp
open Go.Tm Go.Tm.Tab Go.Tm.Q
set_option maxRecDepth 100000
theorem first : callAt Try.prog tab 999 12 [] [] = some (bool true, []) := run_known (by kernel_rfl)
theorem chain_low (x : Int) : callAt Try.prog tab 1000 4 [int x] [] = callAt Try.prog tab 1000 4 [int (low x 12)] [] := by
  refine callAt_same (K := k4) rfl Try.func4 rfl rfl rfl rfl ?_
  unfold k4
  have r : ∀ y, exec Try.prog (valsOf tab) (callAt Try.prog tab 999) 999 (.reg [i 9 (.move (t 0)), i 10 (.binOp .and 3 (t 9) (n 255) 3), i 11 (.binOp .rem 3 (t 10) (n 12) 3), i 0 (.assign (t 11))] [0]) ⟨[(0, int y), (8, bool false)], []⟩ = some (.normal, ⟨[(0, int (low y 12))], []⟩) := fun y => by
    have hr := bin_rem' (P := Try.prog) (t := 3) (x := .tmp 10) (y := .const (.int .i64 12)) (a := Go.bits .and .i64 y 255) (b := 12) (by decide)
    simp (decide := true) (implicitDefEqProofs := false) only [go_sem, bin_and', hr]
    rfl
  refine seq_step (t := ⟨[(0, int x)], []⟩) (t' := ⟨[(0, int (low x 12))], []⟩) rfl rfl (seq_step (t := ⟨[(0, int x), (8, bool false)], []⟩) (t' := ⟨[(0, int (low x 12)), (8, bool false)], []⟩) ?_ ?_ (seq_step (r x) (r _) (by rw [low_low x (by decide) (by decide)])))
  · simp (decide := true) (implicitDefEqProofs := false) only [go_sem, first]
  · simp (decide := true) (implicitDefEqProofs := false) only [go_sem, first]
theorem phisChain (x : Int) : callAt Try.prog tab 1000 4 [int x] [] = some (bool true, []) := by
  rw [chain_low]
  obtain ⟨j, hj, e⟩ := low_cases x (n := 12) (by decide)
  rw [e]
  rcases (by omega : j = 0 ∨ j = 1 ∨ j = 2 ∨ j = 3 ∨ j = 4 ∨ j = 5 ∨ j = 6 ∨ j = 7 ∨ j = 8 ∨ j = 9 ∨ j = 10 ∨ j = 11) with rfl | rfl | rfl | rfl | rfl | rfl | rfl | rfl | rfl | rfl | rfl | rfl
  · exact chain0
  · exact chain1
  · exact chain2
  · exact chain3
  · exact chain4
  · exact chain5
  · exact chain6
  · exact chain7
  · exact chain8
  · exact chain9
  · exact chain10
  · exact chain11
end Go.Proofs.Ytahcbcgakadfpaa.Tp
