/- Runs of planish/plnlaw22.TrimRows, by the kernel. -/
import Derived.Test.YtahcbcgakadfpaaVr
namespace Go.Proofs.Ytahcbcgakadfpaa.Tr
open Go.Tm Go.Tm.Tab Go.Tm.V
set_option maxRecDepth 100000
theorem row10f : callAt Try.prog tab 1000 6 (cL [W.z (Int.ofNat 10), W.b false]) [] = some ((W.b true).c, []) := run_at (by kernel_rfl)
theorem row10t : callAt Try.prog tab 1000 6 (cL [W.z (Int.ofNat 10), W.b true]) [] = some ((W.b true).c, []) := run_at (by kernel_rfl)
theorem row11f : callAt Try.prog tab 1000 6 (cL [W.z (Int.ofNat 11), W.b false]) [] = some ((W.b true).c, []) := run_at (by kernel_rfl)
theorem row11t : callAt Try.prog tab 1000 6 (cL [W.z (Int.ofNat 11), W.b true]) [] = some ((W.b true).c, []) := run_at (by kernel_rfl)
end Go.Proofs.Ytahcbcgakadfpaa.Tr
