/- Runs of planish/plnlaw6.WfLimits, by the kernel. -/
import Derived.Test.YtkcimaibaicdcaaVw
namespace Go.Proofs.Ytkcimaibaicdcaa.Tw
open Go.Tm Go.Tm.Tab Go.Tm.V
set_option maxRecDepth 100000
theorem lim0t : callAt Try.prog tab 1000 15 (cL [W.z (Int.ofNat 0), W.b true]) [] = some ((W.b true).c, []) := run_at (by kernel_rfl)
theorem lim1t : callAt Try.prog tab 1000 15 (cL [W.z (Int.ofNat 1), W.b true]) [] = some ((W.b true).c, []) := run_at (by kernel_rfl)
theorem lim1f : callAt Try.prog tab 1000 15 (cL [W.z (Int.ofNat 1), W.b false]) [] = some ((W.b true).c, []) := run_at (by kernel_rfl)
theorem lim2t : callAt Try.prog tab 1000 15 (cL [W.z (Int.ofNat 2), W.b true]) [] = some ((W.b true).c, []) := run_at (by kernel_rfl)
theorem lim2f : callAt Try.prog tab 1000 15 (cL [W.z (Int.ofNat 2), W.b false]) [] = some ((W.b true).c, []) := run_at (by kernel_rfl)
theorem lim3t : callAt Try.prog tab 1000 15 (cL [W.z (Int.ofNat 3), W.b true]) [] = some ((W.b true).c, []) := run_at (by kernel_rfl)
theorem lim3f : callAt Try.prog tab 1000 15 (cL [W.z (Int.ofNat 3), W.b false]) [] = some ((W.b true).c, []) := run_at (by kernel_rfl)
theorem lim4t : callAt Try.prog tab 1000 15 (cL [W.z (Int.ofNat 4), W.b true]) [] = some ((W.b true).c, []) := run_at (by kernel_rfl)
end Go.Proofs.Ytkcimaibaicdcaa.Tw
