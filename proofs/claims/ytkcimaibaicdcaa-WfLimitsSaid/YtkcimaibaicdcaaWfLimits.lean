import Derived.Test.YtkcimaibaicdcaaWfLimits1
import Derived.Test.YtkcimaibaicdcaaWfLimits2
import Derived.Test.YtkcimaibaicdcaaWfLimits3
import Derived.Test.YtkcimaibaicdcaaWfLimits4
import Derived.Test.YtkcimaibaicdcaaUC
set_option linter.unusedSimpArgs false
namespace Go.Proofs.Ytkcimaibaicdcaa.Tw
open Go.Tm Go.Tm.Tab Go.Tm.V
set_option maxRecDepth 100000
theorem seq_same {P : Program} {vals : FuncId → Bool} {call : CallF} {n : Nat} {A R : K} {s s' : St} (h : exec P vals call n A s = exec P vals call n A s') : exec P vals call n (.seq A R) s = exec P vals call n (.seq A R) s' := by
  simp only [exec, h]
theorem first : callAt Try.prog tab 999 49 [] [] = some (bool true, []) := run_at (cs := []) (c := W.b true) (by kernel_rfl)
theorem limits_low (x : Int) (b : Bool) : callAt Try.prog tab 1000 15 [int x, bool b] [] = callAt Try.prog tab 1000 15 [int (low x 6), bool b] [] := by
  refine callAt_same (K := k15) rfl Try.func15 rfl rfl rfl rfl ?_
  unfold k15
  have r : ∀ y u v w z h, exec Try.prog (valsOf tab) (callAt Try.prog tab 999) 999 (.reg [i 22 (.move (t 0)), i 23 (.binOp .and 3 (t 22) (n 255) 3), i 24 (.binOp .rem 3 (t 23) (n 6) 3)] [1, 5, 6, 7, 24]) ⟨[(0, int y), (1, u), (5, v), (6, w), (7, z)], h⟩ = some (.normal, ⟨[(1, u), (5, v), (6, w), (7, z), (24, int (low y 6))], h⟩) := fun y u v w z h => by
    have hr := bin_rem' (P := Try.prog) (t := 3) (x := .tmp 23) (y := .const (.int .i64 6)) (a := Go.bits .and .i64 y 255) (b := 6) (by decide)
    simp (decide := true) (implicitDefEqProofs := false) only [go_sem, bin_and', hr]
    rfl
  cases b
  all_goals
    refine seq_step (by simp (decide := true) (implicitDefEqProofs := false) only [go_sem]; rfl) (by simp (decide := true) (implicitDefEqProofs := false) only [go_sem]; rfl) ?_
    refine seq_step (by simp (decide := true) (implicitDefEqProofs := false) only [go_sem, first]; rfl) (by simp (decide := true) (implicitDefEqProofs := false) only [go_sem, first]; rfl) ?_
    refine seq_step (by simp (decide := true) (implicitDefEqProofs := false) only [go_sem]; rfl) (by simp (decide := true) (implicitDefEqProofs := false) only [go_sem]; rfl) ?_
    refine seq_step (by simp (decide := true) (implicitDefEqProofs := false) only [go_sem]; rfl) (by simp (decide := true) (implicitDefEqProofs := false) only [go_sem]; rfl) ?_
    refine seq_step (by simp (decide := true) (implicitDefEqProofs := false) only [go_sem]; rfl) (by simp (decide := true) (implicitDefEqProofs := false) only [go_sem]; rfl) ?_
    refine seq_step (by simp (decide := true) (implicitDefEqProofs := false) only [go_sem]; rfl) (by simp (decide := true) (implicitDefEqProofs := false) only [go_sem]; rfl) ?_
    refine seq_same (seq_step (r ..) (r ..) ?_)
    dsimp only [St.heap, St.env]
    rw [low_low x (show 0 < 6 by decide) (show 6 ≤ 256 by decide)]; rfl
theorem wfLimits (x : Int) (b : Bool) : callAt Try.prog tab 1000 15 [int x, bool b] [] = some (bool true, []) := by
  rw [limits_low]
  obtain ⟨j, hj, e⟩ := low_cases x (n := 6) (by decide)
  rw [e]
  rcases (by omega : j = 0 ∨ j = 1 ∨ j = 2 ∨ j = 3 ∨ j = 4 ∨ j = 5) with rfl | rfl | rfl | rfl | rfl | rfl
  · cases b
    · exact lim0f
    · exact lim0t
  · cases b
    · exact lim1f
    · exact lim1t
  · cases b
    · exact lim2f
    · exact lim2t
  · cases b
    · exact lim3f
    · exact lim3t
  · cases b
    · exact lim4f
    · exact lim4t
  · cases b
    · exact lim5f
    · exact lim5t
end Go.Proofs.Ytkcimaibaicdcaa.Tw
