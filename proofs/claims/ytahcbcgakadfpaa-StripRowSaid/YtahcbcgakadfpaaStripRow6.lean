/- Runs of planish/plnlaw31.StripRow, by the kernel. -/
import Derived.Test.YtahcbcgakadfpaaVz
namespace Go.Proofs.Ytahcbcgakadfpaa.Tz
open Go.Tm Go.Tm.Tab Go.Tm.V
set_option maxRecDepth 100000
theorem row2_1 : callAt Try.prog tab 5000 3 (cL [W.z (Int.ofNat 2), W.z (Int.ofNat 1)]) [] = some ((W.b true).c, []) := run_at (by kernel_rfl)
theorem row5_0 : callAt Try.prog tab 5000 3 (cL [W.z (Int.ofNat 5), W.z (Int.ofNat 0)]) [] = some ((W.b true).c, []) := run_at (by kernel_rfl)
theorem row5_3 : callAt Try.prog tab 5000 3 (cL [W.z (Int.ofNat 5), W.z (Int.ofNat 3)]) [] = some ((W.b true).c, []) := run_at (by kernel_rfl)
theorem row7_5 : callAt Try.prog tab 5000 3 (cL [W.z (Int.ofNat 7), W.z (Int.ofNat 5)]) [] = some ((W.b true).c, []) := run_at (by kernel_rfl)
theorem row8_1 : callAt Try.prog tab 5000 3 (cL [W.z (Int.ofNat 8), W.z (Int.ofNat 1)]) [] = some ((W.b true).c, []) := run_at (by kernel_rfl)
theorem row8_4 : callAt Try.prog tab 5000 3 (cL [W.z (Int.ofNat 8), W.z (Int.ofNat 4)]) [] = some ((W.b true).c, []) := run_at (by kernel_rfl)
theorem row10_1 : callAt Try.prog tab 5000 3 (cL [W.z (Int.ofNat 10), W.z (Int.ofNat 1)]) [] = some ((W.b true).c, []) := run_at (by kernel_rfl)
theorem row10_9 : callAt Try.prog tab 5000 3 (cL [W.z (Int.ofNat 10), W.z (Int.ofNat 9)]) [] = some ((W.b true).c, []) := run_at (by kernel_rfl)
theorem row11_1 : callAt Try.prog tab 5000 3 (cL [W.z (Int.ofNat 11), W.z (Int.ofNat 1)]) [] = some ((W.b true).c, []) := run_at (by kernel_rfl)
theorem row11_5 : callAt Try.prog tab 5000 3 (cL [W.z (Int.ofNat 11), W.z (Int.ofNat 5)]) [] = some ((W.b true).c, []) := run_at (by kernel_rfl)
theorem row12_6 : callAt Try.prog tab 5000 3 (cL [W.z (Int.ofNat 12), W.z (Int.ofNat 6)]) [] = some ((W.b true).c, []) := run_at (by kernel_rfl)
theorem row13_4 : callAt Try.prog tab 5000 3 (cL [W.z (Int.ofNat 13), W.z (Int.ofNat 4)]) [] = some ((W.b true).c, []) := run_at (by kernel_rfl)
theorem row13_11 : callAt Try.prog tab 5000 3 (cL [W.z (Int.ofNat 13), W.z (Int.ofNat 11)]) [] = some ((W.b true).c, []) := run_at (by kernel_rfl)
theorem row14_5 : callAt Try.prog tab 5000 3 (cL [W.z (Int.ofNat 14), W.z (Int.ofNat 5)]) [] = some ((W.b true).c, []) := run_at (by kernel_rfl)
theorem row14_11 : callAt Try.prog tab 5000 3 (cL [W.z (Int.ofNat 14), W.z (Int.ofNat 11)]) [] = some ((W.b true).c, []) := run_at (by kernel_rfl)
theorem row15_13 : callAt Try.prog tab 5000 3 (cL [W.z (Int.ofNat 15), W.z (Int.ofNat 13)]) [] = some ((W.b true).c, []) := run_at (by kernel_rfl)
theorem row16_1 : callAt Try.prog tab 5000 3 (cL [W.z (Int.ofNat 16), W.z (Int.ofNat 1)]) [] = some ((W.b true).c, []) := run_at (by kernel_rfl)
theorem row16_8 : callAt Try.prog tab 5000 3 (cL [W.z (Int.ofNat 16), W.z (Int.ofNat 8)]) [] = some ((W.b true).c, []) := run_at (by kernel_rfl)
theorem row16_16 : callAt Try.prog tab 5000 3 (cL [W.z (Int.ofNat 16), W.z (Int.ofNat 16)]) [] = some ((W.b true).c, []) := run_at (by kernel_rfl)
theorem row17_3 : callAt Try.prog tab 5000 3 (cL [W.z (Int.ofNat 17), W.z (Int.ofNat 3)]) [] = some ((W.b true).c, []) := run_at (by kernel_rfl)
theorem row17_11 : callAt Try.prog tab 5000 3 (cL [W.z (Int.ofNat 17), W.z (Int.ofNat 11)]) [] = some ((W.b true).c, []) := run_at (by kernel_rfl)
theorem row18_1 : callAt Try.prog tab 5000 3 (cL [W.z (Int.ofNat 18), W.z (Int.ofNat 1)]) [] = some ((W.b true).c, []) := run_at (by kernel_rfl)
theorem row18_5 : callAt Try.prog tab 5000 3 (cL [W.z (Int.ofNat 18), W.z (Int.ofNat 5)]) [] = some ((W.b true).c, []) := run_at (by kernel_rfl)
theorem row18_13 : callAt Try.prog tab 5000 3 (cL [W.z (Int.ofNat 18), W.z (Int.ofNat 13)]) [] = some ((W.b true).c, []) := run_at (by kernel_rfl)
theorem row19_5 : callAt Try.prog tab 5000 3 (cL [W.z (Int.ofNat 19), W.z (Int.ofNat 5)]) [] = some ((W.b true).c, []) := run_at (by kernel_rfl)
theorem row19_13 : callAt Try.prog tab 5000 3 (cL [W.z (Int.ofNat 19), W.z (Int.ofNat 13)]) [] = some ((W.b true).c, []) := run_at (by kernel_rfl)
end Go.Proofs.Ytahcbcgakadfpaa.Tz
