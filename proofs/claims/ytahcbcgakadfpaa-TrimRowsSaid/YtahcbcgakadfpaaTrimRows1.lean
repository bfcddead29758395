/- Runs of planish/plnlaw22.TrimRows, by the kernel. -/
import Derived.Test.YtahcbcgakadfpaaVr
namespace Go.Proofs.Ytahcbcgakadfpaa.Tr
open Go.Tm Go.Tm.Tab Go.Tm.V
set_option maxRecDepth 100000
theorem row0f : callAt Try.prog tab 1000 6 (cL [W.z (Int.ofNat 0), W.b false]) [] = some ((W.b true).c, []) := run_at (by kernel_rfl)
theorem row0t : callAt Try.prog tab 1000 6 (cL [W.z (Int.ofNat 0), W.b true]) [] = some ((W.b true).c, []) := run_at (by kernel_rfl)
theorem row1f : callAt Try.prog tab 1000 6 (cL [W.z (Int.ofNat 1), W.b false]) [] = some ((W.b true).c, []) := run_at (by kernel_rfl)
theorem row1t : callAt Try.prog tab 1000 6 (cL [W.z (Int.ofNat 1), W.b true]) [] = some ((W.b true).c, []) := run_at (by kernel_rfl)
theorem row2f : callAt Try.prog tab 1000 6 (cL [W.z (Int.ofNat 2), W.b false]) [] = some ((W.b true).c, []) := run_at (by kernel_rfl)
theorem row2t : callAt Try.prog tab 1000 6 (cL [W.z (Int.ofNat 2), W.b true]) [] = some ((W.b true).c, []) := run_at (by kernel_rfl)
theorem row3f : callAt Try.prog tab 1000 6 (cL [W.z (Int.ofNat 3), W.b false]) [] = some ((W.b true).c, []) := run_at (by kernel_rfl)
theorem row3t : callAt Try.prog tab 1000 6 (cL [W.z (Int.ofNat 3), W.b true]) [] = some ((W.b true).c, []) := run_at (by kernel_rfl)
theorem row4f : callAt Try.prog tab 1000 6 (cL [W.z (Int.ofNat 4), W.b false]) [] = some ((W.b true).c, []) := run_at (by kernel_rfl)
theorem row4t : callAt Try.prog tab 1000 6 (cL [W.z (Int.ofNat 4), W.b true]) [] = some ((W.b true).c, []) := run_at (by kernel_rfl)
end Go.Proofs.Ytahcbcgakadfpaa.Tr
