/- Runs of planish/plnlaw22.TrimRows, by the kernel. -/
import Derived.Test.YtahcbcgakadfpaaVr
namespace Go.Proofs.Ytahcbcgakadfpaa.Tr
open Go.Tm Go.Tm.Tab Go.Tm.V
set_option maxRecDepth 100000
theorem row5f : callAt Try.prog tab 1000 6 (cL [W.z (Int.ofNat 5), W.b false]) [] = some ((W.b true).c, []) := run_at (by kernel_rfl)
theorem row5t : callAt Try.prog tab 1000 6 (cL [W.z (Int.ofNat 5), W.b true]) [] = some ((W.b true).c, []) := run_at (by kernel_rfl)
theorem row6f : callAt Try.prog tab 1000 6 (cL [W.z (Int.ofNat 6), W.b false]) [] = some ((W.b true).c, []) := run_at (by kernel_rfl)
theorem row6t : callAt Try.prog tab 1000 6 (cL [W.z (Int.ofNat 6), W.b true]) [] = some ((W.b true).c, []) := run_at (by kernel_rfl)
theorem row7f : callAt Try.prog tab 1000 6 (cL [W.z (Int.ofNat 7), W.b false]) [] = some ((W.b true).c, []) := run_at (by kernel_rfl)
theorem row7t : callAt Try.prog tab 1000 6 (cL [W.z (Int.ofNat 7), W.b true]) [] = some ((W.b true).c, []) := run_at (by kernel_rfl)
end Go.Proofs.Ytahcbcgakadfpaa.Tr
