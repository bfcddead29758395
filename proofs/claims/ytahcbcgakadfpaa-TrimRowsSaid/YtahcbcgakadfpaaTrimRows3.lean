/- Runs of planish/plnlaw22.TrimRows, by the kernel. -/
import Derived.Test.YtahcbcgakadfpaaVr
namespace Go.Proofs.Ytahcbcgakadfpaa.Tr
open Go.Tm Go.Tm.Tab Go.Tm.V
set_option maxRecDepth 100000
theorem row8f : callAt Try.prog tab 1000 6 (cL [W.z (Int.ofNat 8), W.b false]) [] = some ((W.b true).c, []) := run_at (by kernel_rfl)
theorem row8t : callAt Try.prog tab 1000 6 (cL [W.z (Int.ofNat 8), W.b true]) [] = some ((W.b true).c, []) := run_at (by kernel_rfl)
theorem row9f : callAt Try.prog tab 1000 6 (cL [W.z (Int.ofNat 9), W.b false]) [] = some ((W.b true).c, []) := run_at (by kernel_rfl)
theorem row9t : callAt Try.prog tab 1000 6 (cL [W.z (Int.ofNat 9), W.b true]) [] = some ((W.b true).c, []) := run_at (by kernel_rfl)
end Go.Proofs.Ytahcbcgakadfpaa.Tr
