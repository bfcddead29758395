/- Runs of planish/plnlaw31.StripRow, by the kernel. -/
import Derived.Test.YtahcbcgakadfpaaVz
namespace Go.Proofs.Ytahcbcgakadfpaa.Tz
open Go.Tm Go.Tm.Tab Go.Tm.V
set_option maxRecDepth 100000
theorem row0_0 : callAt Try.prog tab 5000 3 (cL [W.z (Int.ofNat 0), W.z (Int.ofNat 0)]) [] = some ((W.b true).c, []) := run_at (by kernel_rfl)
theorem row2_0 : callAt Try.prog tab 5000 3 (cL [W.z (Int.ofNat 2), W.z (Int.ofNat 0)]) [] = some ((W.b true).c, []) := run_at (by kernel_rfl)
theorem row4_4 : callAt Try.prog tab 5000 3 (cL [W.z (Int.ofNat 4), W.z (Int.ofNat 4)]) [] = some ((W.b true).c, []) := run_at (by kernel_rfl)
theorem row6_6 : callAt Try.prog tab 5000 3 (cL [W.z (Int.ofNat 6), W.z (Int.ofNat 6)]) [] = some ((W.b true).c, []) := run_at (by kernel_rfl)
theorem row7_4 : callAt Try.prog tab 5000 3 (cL [W.z (Int.ofNat 7), W.z (Int.ofNat 4)]) [] = some ((W.b true).c, []) := run_at (by kernel_rfl)
theorem row8_0 : callAt Try.prog tab 5000 3 (cL [W.z (Int.ofNat 8), W.z (Int.ofNat 0)]) [] = some ((W.b true).c, []) := run_at (by kernel_rfl)
theorem row8_3 : callAt Try.prog tab 5000 3 (cL [W.z (Int.ofNat 8), W.z (Int.ofNat 3)]) [] = some ((W.b true).c, []) := run_at (by kernel_rfl)
theorem row10_0 : callAt Try.prog tab 5000 3 (cL [W.z (Int.ofNat 10), W.z (Int.ofNat 0)]) [] = some ((W.b true).c, []) := run_at (by kernel_rfl)
theorem row10_8 : callAt Try.prog tab 5000 3 (cL [W.z (Int.ofNat 10), W.z (Int.ofNat 8)]) [] = some ((W.b true).c, []) := run_at (by kernel_rfl)
theorem row11_0 : callAt Try.prog tab 5000 3 (cL [W.z (Int.ofNat 11), W.z (Int.ofNat 0)]) [] = some ((W.b true).c, []) := run_at (by kernel_rfl)
theorem row11_4 : callAt Try.prog tab 5000 3 (cL [W.z (Int.ofNat 11), W.z (Int.ofNat 4)]) [] = some ((W.b true).c, []) := run_at (by kernel_rfl)
theorem row12_5 : callAt Try.prog tab 5000 3 (cL [W.z (Int.ofNat 12), W.z (Int.ofNat 5)]) [] = some ((W.b true).c, []) := run_at (by kernel_rfl)
theorem row13_3 : callAt Try.prog tab 5000 3 (cL [W.z (Int.ofNat 13), W.z (Int.ofNat 3)]) [] = some ((W.b true).c, []) := run_at (by kernel_rfl)
theorem row13_10 : callAt Try.prog tab 5000 3 (cL [W.z (Int.ofNat 13), W.z (Int.ofNat 10)]) [] = some ((W.b true).c, []) := run_at (by kernel_rfl)
theorem row14_4 : callAt Try.prog tab 5000 3 (cL [W.z (Int.ofNat 14), W.z (Int.ofNat 4)]) [] = some ((W.b true).c, []) := run_at (by kernel_rfl)
theorem row14_10 : callAt Try.prog tab 5000 3 (cL [W.z (Int.ofNat 14), W.z (Int.ofNat 10)]) [] = some ((W.b true).c, []) := run_at (by kernel_rfl)
theorem row15_12 : callAt Try.prog tab 5000 3 (cL [W.z (Int.ofNat 15), W.z (Int.ofNat 12)]) [] = some ((W.b true).c, []) := run_at (by kernel_rfl)
theorem row16_0 : callAt Try.prog tab 5000 3 (cL [W.z (Int.ofNat 16), W.z (Int.ofNat 0)]) [] = some ((W.b true).c, []) := run_at (by kernel_rfl)
theorem row16_7 : callAt Try.prog tab 5000 3 (cL [W.z (Int.ofNat 16), W.z (Int.ofNat 7)]) [] = some ((W.b true).c, []) := run_at (by kernel_rfl)
theorem row16_15 : callAt Try.prog tab 5000 3 (cL [W.z (Int.ofNat 16), W.z (Int.ofNat 15)]) [] = some ((W.b true).c, []) := run_at (by kernel_rfl)
theorem row17_2 : callAt Try.prog tab 5000 3 (cL [W.z (Int.ofNat 17), W.z (Int.ofNat 2)]) [] = some ((W.b true).c, []) := run_at (by kernel_rfl)
theorem row17_10 : callAt Try.prog tab 5000 3 (cL [W.z (Int.ofNat 17), W.z (Int.ofNat 10)]) [] = some ((W.b true).c, []) := run_at (by kernel_rfl)
theorem row18_0 : callAt Try.prog tab 5000 3 (cL [W.z (Int.ofNat 18), W.z (Int.ofNat 0)]) [] = some ((W.b true).c, []) := run_at (by kernel_rfl)
theorem row18_4 : callAt Try.prog tab 5000 3 (cL [W.z (Int.ofNat 18), W.z (Int.ofNat 4)]) [] = some ((W.b true).c, []) := run_at (by kernel_rfl)
theorem row18_12 : callAt Try.prog tab 5000 3 (cL [W.z (Int.ofNat 18), W.z (Int.ofNat 12)]) [] = some ((W.b true).c, []) := run_at (by kernel_rfl)
theorem row19_4 : callAt Try.prog tab 5000 3 (cL [W.z (Int.ofNat 19), W.z (Int.ofNat 4)]) [] = some ((W.b true).c, []) := run_at (by kernel_rfl)
theorem row19_12 : callAt Try.prog tab 5000 3 (cL [W.z (Int.ofNat 19), W.z (Int.ofNat 12)]) [] = some ((W.b true).c, []) := run_at (by kernel_rfl)
end Go.Proofs.Ytahcbcgakadfpaa.Tz
