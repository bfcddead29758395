/- Runs of planish/plnlaw31.StripRow, by the kernel. -/
import Derived.Test.YtahcbcgakadfpaaVz
namespace Go.Proofs.Ytahcbcgakadfpaa.Tz
open Go.Tm Go.Tm.Tab Go.Tm.V
set_option maxRecDepth 100000
theorem row3_0 : callAt Try.prog tab 5000 3 (cL [W.z (Int.ofNat 3), W.z (Int.ofNat 0)]) [] = some ((W.b true).c, []) := run_at (by kernel_rfl)
theorem row4_0 : callAt Try.prog tab 5000 3 (cL [W.z (Int.ofNat 4), W.z (Int.ofNat 0)]) [] = some ((W.b true).c, []) := run_at (by kernel_rfl)
theorem row6_0 : callAt Try.prog tab 5000 3 (cL [W.z (Int.ofNat 6), W.z (Int.ofNat 0)]) [] = some ((W.b true).c, []) := run_at (by kernel_rfl)
theorem row6_2 : callAt Try.prog tab 5000 3 (cL [W.z (Int.ofNat 6), W.z (Int.ofNat 2)]) [] = some ((W.b true).c, []) := run_at (by kernel_rfl)
theorem row8_7 : callAt Try.prog tab 5000 3 (cL [W.z (Int.ofNat 8), W.z (Int.ofNat 7)]) [] = some ((W.b true).c, []) := run_at (by kernel_rfl)
theorem row9_1 : callAt Try.prog tab 5000 3 (cL [W.z (Int.ofNat 9), W.z (Int.ofNat 1)]) [] = some ((W.b true).c, []) := run_at (by kernel_rfl)
theorem row9_6 : callAt Try.prog tab 5000 3 (cL [W.z (Int.ofNat 9), W.z (Int.ofNat 6)]) [] = some ((W.b true).c, []) := run_at (by kernel_rfl)
theorem row10_4 : callAt Try.prog tab 5000 3 (cL [W.z (Int.ofNat 10), W.z (Int.ofNat 4)]) [] = some ((W.b true).c, []) := run_at (by kernel_rfl)
theorem row11_8 : callAt Try.prog tab 5000 3 (cL [W.z (Int.ofNat 11), W.z (Int.ofNat 8)]) [] = some ((W.b true).c, []) := run_at (by kernel_rfl)
theorem row12_0 : callAt Try.prog tab 5000 3 (cL [W.z (Int.ofNat 12), W.z (Int.ofNat 0)]) [] = some ((W.b true).c, []) := run_at (by kernel_rfl)
theorem row12_1 : callAt Try.prog tab 5000 3 (cL [W.z (Int.ofNat 12), W.z (Int.ofNat 1)]) [] = some ((W.b true).c, []) := run_at (by kernel_rfl)
theorem row12_9 : callAt Try.prog tab 5000 3 (cL [W.z (Int.ofNat 12), W.z (Int.ofNat 9)]) [] = some ((W.b true).c, []) := run_at (by kernel_rfl)
theorem row14_0 : callAt Try.prog tab 5000 3 (cL [W.z (Int.ofNat 14), W.z (Int.ofNat 0)]) [] = some ((W.b true).c, []) := run_at (by kernel_rfl)
theorem row14_6 : callAt Try.prog tab 5000 3 (cL [W.z (Int.ofNat 14), W.z (Int.ofNat 6)]) [] = some ((W.b true).c, []) := run_at (by kernel_rfl)
theorem row14_14 : callAt Try.prog tab 5000 3 (cL [W.z (Int.ofNat 14), W.z (Int.ofNat 14)]) [] = some ((W.b true).c, []) := run_at (by kernel_rfl)
theorem row15_2 : callAt Try.prog tab 5000 3 (cL [W.z (Int.ofNat 15), W.z (Int.ofNat 2)]) [] = some ((W.b true).c, []) := run_at (by kernel_rfl)
theorem row15_8 : callAt Try.prog tab 5000 3 (cL [W.z (Int.ofNat 15), W.z (Int.ofNat 8)]) [] = some ((W.b true).c, []) := run_at (by kernel_rfl)
theorem row16_11 : callAt Try.prog tab 5000 3 (cL [W.z (Int.ofNat 16), W.z (Int.ofNat 11)]) [] = some ((W.b true).c, []) := run_at (by kernel_rfl)
theorem row17_0 : callAt Try.prog tab 5000 3 (cL [W.z (Int.ofNat 17), W.z (Int.ofNat 0)]) [] = some ((W.b true).c, []) := run_at (by kernel_rfl)
theorem row17_1 : callAt Try.prog tab 5000 3 (cL [W.z (Int.ofNat 17), W.z (Int.ofNat 1)]) [] = some ((W.b true).c, []) := run_at (by kernel_rfl)
theorem row17_9 : callAt Try.prog tab 5000 3 (cL [W.z (Int.ofNat 17), W.z (Int.ofNat 9)]) [] = some ((W.b true).c, []) := run_at (by kernel_rfl)
theorem row17_17 : callAt Try.prog tab 5000 3 (cL [W.z (Int.ofNat 17), W.z (Int.ofNat 17)]) [] = some ((W.b true).c, []) := run_at (by kernel_rfl)
theorem row18_11 : callAt Try.prog tab 5000 3 (cL [W.z (Int.ofNat 18), W.z (Int.ofNat 11)]) [] = some ((W.b true).c, []) := run_at (by kernel_rfl)
theorem row19_3 : callAt Try.prog tab 5000 3 (cL [W.z (Int.ofNat 19), W.z (Int.ofNat 3)]) [] = some ((W.b true).c, []) := run_at (by kernel_rfl)
theorem row19_11 : callAt Try.prog tab 5000 3 (cL [W.z (Int.ofNat 19), W.z (Int.ofNat 11)]) [] = some ((W.b true).c, []) := run_at (by kernel_rfl)
theorem row19_19 : callAt Try.prog tab 5000 3 (cL [W.z (Int.ofNat 19), W.z (Int.ofNat 19)]) [] = some ((W.b true).c, []) := run_at (by kernel_rfl)
end Go.Proofs.Ytahcbcgakadfpaa.Tz
