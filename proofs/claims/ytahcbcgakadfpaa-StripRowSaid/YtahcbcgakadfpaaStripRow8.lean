/- Runs of planish/plnlaw31.StripRow, by the kernel. -/
import Derived.Test.YtahcbcgakadfpaaVz
namespace Go.Proofs.Ytahcbcgakadfpaa.Tz
open Go.Tm Go.Tm.Tab Go.Tm.V
set_option maxRecDepth 100000
theorem row1_0 : callAt Try.prog tab 5000 3 (cL [W.z (Int.ofNat 1), W.z (Int.ofNat 0)]) [] = some ((W.b true).c, []) := run_at (by kernel_rfl)
theorem row1_1 : callAt Try.prog tab 5000 3 (cL [W.z (Int.ofNat 1), W.z (Int.ofNat 1)]) [] = some ((W.b true).c, []) := run_at (by kernel_rfl)
theorem row5_2 : callAt Try.prog tab 5000 3 (cL [W.z (Int.ofNat 5), W.z (Int.ofNat 2)]) [] = some ((W.b true).c, []) := run_at (by kernel_rfl)
theorem row5_5 : callAt Try.prog tab 5000 3 (cL [W.z (Int.ofNat 5), W.z (Int.ofNat 5)]) [] = some ((W.b true).c, []) := run_at (by kernel_rfl)
theorem row7_7 : callAt Try.prog tab 5000 3 (cL [W.z (Int.ofNat 7), W.z (Int.ofNat 7)]) [] = some ((W.b true).c, []) := run_at (by kernel_rfl)
theorem row8_6 : callAt Try.prog tab 5000 3 (cL [W.z (Int.ofNat 8), W.z (Int.ofNat 6)]) [] = some ((W.b true).c, []) := run_at (by kernel_rfl)
theorem row9_0 : callAt Try.prog tab 5000 3 (cL [W.z (Int.ofNat 9), W.z (Int.ofNat 0)]) [] = some ((W.b true).c, []) := run_at (by kernel_rfl)
theorem row9_5 : callAt Try.prog tab 5000 3 (cL [W.z (Int.ofNat 9), W.z (Int.ofNat 5)]) [] = some ((W.b true).c, []) := run_at (by kernel_rfl)
theorem row10_3 : callAt Try.prog tab 5000 3 (cL [W.z (Int.ofNat 10), W.z (Int.ofNat 3)]) [] = some ((W.b true).c, []) := run_at (by kernel_rfl)
theorem row11_3 : callAt Try.prog tab 5000 3 (cL [W.z (Int.ofNat 11), W.z (Int.ofNat 3)]) [] = some ((W.b true).c, []) := run_at (by kernel_rfl)
theorem row11_7 : callAt Try.prog tab 5000 3 (cL [W.z (Int.ofNat 11), W.z (Int.ofNat 7)]) [] = some ((W.b true).c, []) := run_at (by kernel_rfl)
theorem row12_8 : callAt Try.prog tab 5000 3 (cL [W.z (Int.ofNat 12), W.z (Int.ofNat 8)]) [] = some ((W.b true).c, []) := run_at (by kernel_rfl)
theorem row13_6 : callAt Try.prog tab 5000 3 (cL [W.z (Int.ofNat 13), W.z (Int.ofNat 6)]) [] = some ((W.b true).c, []) := run_at (by kernel_rfl)
theorem row13_13 : callAt Try.prog tab 5000 3 (cL [W.z (Int.ofNat 13), W.z (Int.ofNat 13)]) [] = some ((W.b true).c, []) := run_at (by kernel_rfl)
theorem row14_13 : callAt Try.prog tab 5000 3 (cL [W.z (Int.ofNat 14), W.z (Int.ofNat 13)]) [] = some ((W.b true).c, []) := run_at (by kernel_rfl)
theorem row15_1 : callAt Try.prog tab 5000 3 (cL [W.z (Int.ofNat 15), W.z (Int.ofNat 1)]) [] = some ((W.b true).c, []) := run_at (by kernel_rfl)
theorem row15_7 : callAt Try.prog tab 5000 3 (cL [W.z (Int.ofNat 15), W.z (Int.ofNat 7)]) [] = some ((W.b true).c, []) := run_at (by kernel_rfl)
theorem row15_15 : callAt Try.prog tab 5000 3 (cL [W.z (Int.ofNat 15), W.z (Int.ofNat 15)]) [] = some ((W.b true).c, []) := run_at (by kernel_rfl)
theorem row16_3 : callAt Try.prog tab 5000 3 (cL [W.z (Int.ofNat 16), W.z (Int.ofNat 3)]) [] = some ((W.b true).c, []) := run_at (by kernel_rfl)
theorem row16_10 : callAt Try.prog tab 5000 3 (cL [W.z (Int.ofNat 16), W.z (Int.ofNat 10)]) [] = some ((W.b true).c, []) := run_at (by kernel_rfl)
theorem row17_5 : callAt Try.prog tab 5000 3 (cL [W.z (Int.ofNat 17), W.z (Int.ofNat 5)]) [] = some ((W.b true).c, []) := run_at (by kernel_rfl)
theorem row17_13 : callAt Try.prog tab 5000 3 (cL [W.z (Int.ofNat 17), W.z (Int.ofNat 13)]) [] = some ((W.b true).c, []) := run_at (by kernel_rfl)
theorem row18_3 : callAt Try.prog tab 5000 3 (cL [W.z (Int.ofNat 18), W.z (Int.ofNat 3)]) [] = some ((W.b true).c, []) := run_at (by kernel_rfl)
theorem row18_7 : callAt Try.prog tab 5000 3 (cL [W.z (Int.ofNat 18), W.z (Int.ofNat 7)]) [] = some ((W.b true).c, []) := run_at (by kernel_rfl)
theorem row18_15 : callAt Try.prog tab 5000 3 (cL [W.z (Int.ofNat 18), W.z (Int.ofNat 15)]) [] = some ((W.b true).c, []) := run_at (by kernel_rfl)
theorem row19_7 : callAt Try.prog tab 5000 3 (cL [W.z (Int.ofNat 19), W.z (Int.ofNat 7)]) [] = some ((W.b true).c, []) := run_at (by kernel_rfl)
theorem row19_15 : callAt Try.prog tab 5000 3 (cL [W.z (Int.ofNat 19), W.z (Int.ofNat 15)]) [] = some ((W.b true).c, []) := run_at (by kernel_rfl)
end Go.Proofs.Ytahcbcgakadfpaa.Tz
