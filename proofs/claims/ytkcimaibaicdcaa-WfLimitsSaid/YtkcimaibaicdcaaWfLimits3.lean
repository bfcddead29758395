/- Runs of planish/plnlaw6.WfLimits, by the kernel. -/
import Derived.Test.YtkcimaibaicdcaaVw
namespace Go.Proofs.Ytkcimaibaicdcaa.Tw
open Go.Tm Go.Tm.Tab Go.Tm.V
set_option maxRecDepth 100000
theorem lim0f : callAt Try.prog tab 1000 15 (cL [W.z (Int.ofNat 0), W.b false]) [] = some ((W.b true).c, []) := run_at (by kernel_rfl)
theorem lim5t : callAt Try.prog tab 1000 15 (cL [W.z (Int.ofNat 5), W.b true]) [] = some ((W.b true).c, []) := run_at (by kernel_rfl)
end Go.Proofs.Ytkcimaibaicdcaa.Tw
