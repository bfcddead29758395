/- Runs of planish/plnlaw31.StripRow, by the kernel. -/
import Derived.Test.YtahcbcgakadfpaaVz
namespace Go.Proofs.Ytahcbcgakadfpaa.Tz
open Go.Tm Go.Tm.Tab Go.Tm.V
set_option maxRecDepth 100000
theorem row3_3 : callAt Try.prog tab 5000 3 (cL [W.z (Int.ofNat 3), W.z (Int.ofNat 3)]) [] = some ((W.b true).c, []) := run_at (by kernel_rfl)
theorem row4_3 : callAt Try.prog tab 5000 3 (cL [W.z (Int.ofNat 4), W.z (Int.ofNat 3)]) [] = some ((W.b true).c, []) := run_at (by kernel_rfl)
theorem row6_5 : callAt Try.prog tab 5000 3 (cL [W.z (Int.ofNat 6), W.z (Int.ofNat 5)]) [] = some ((W.b true).c, []) := run_at (by kernel_rfl)
theorem row7_1 : callAt Try.prog tab 5000 3 (cL [W.z (Int.ofNat 7), W.z (Int.ofNat 1)]) [] = some ((W.b true).c, []) := run_at (by kernel_rfl)
theorem row7_3 : callAt Try.prog tab 5000 3 (cL [W.z (Int.ofNat 7), W.z (Int.ofNat 3)]) [] = some ((W.b true).c, []) := run_at (by kernel_rfl)
theorem row9_4 : callAt Try.prog tab 5000 3 (cL [W.z (Int.ofNat 9), W.z (Int.ofNat 4)]) [] = some ((W.b true).c, []) := run_at (by kernel_rfl)
theorem row9_9 : callAt Try.prog tab 5000 3 (cL [W.z (Int.ofNat 9), W.z (Int.ofNat 9)]) [] = some ((W.b true).c, []) := run_at (by kernel_rfl)
theorem row10_7 : callAt Try.prog tab 5000 3 (cL [W.z (Int.ofNat 10), W.z (Int.ofNat 7)]) [] = some ((W.b true).c, []) := run_at (by kernel_rfl)
theorem row11_11 : callAt Try.prog tab 5000 3 (cL [W.z (Int.ofNat 11), W.z (Int.ofNat 11)]) [] = some ((W.b true).c, []) := run_at (by kernel_rfl)
theorem row12_4 : callAt Try.prog tab 5000 3 (cL [W.z (Int.ofNat 12), W.z (Int.ofNat 4)]) [] = some ((W.b true).c, []) := run_at (by kernel_rfl)
theorem row12_12 : callAt Try.prog tab 5000 3 (cL [W.z (Int.ofNat 12), W.z (Int.ofNat 12)]) [] = some ((W.b true).c, []) := run_at (by kernel_rfl)
theorem row13_2 : callAt Try.prog tab 5000 3 (cL [W.z (Int.ofNat 13), W.z (Int.ofNat 2)]) [] = some ((W.b true).c, []) := run_at (by kernel_rfl)
theorem row13_9 : callAt Try.prog tab 5000 3 (cL [W.z (Int.ofNat 13), W.z (Int.ofNat 9)]) [] = some ((W.b true).c, []) := run_at (by kernel_rfl)
theorem row14_3 : callAt Try.prog tab 5000 3 (cL [W.z (Int.ofNat 14), W.z (Int.ofNat 3)]) [] = some ((W.b true).c, []) := run_at (by kernel_rfl)
theorem row14_9 : callAt Try.prog tab 5000 3 (cL [W.z (Int.ofNat 14), W.z (Int.ofNat 9)]) [] = some ((W.b true).c, []) := run_at (by kernel_rfl)
theorem row15_5 : callAt Try.prog tab 5000 3 (cL [W.z (Int.ofNat 15), W.z (Int.ofNat 5)]) [] = some ((W.b true).c, []) := run_at (by kernel_rfl)
theorem row15_11 : callAt Try.prog tab 5000 3 (cL [W.z (Int.ofNat 15), W.z (Int.ofNat 11)]) [] = some ((W.b true).c, []) := run_at (by kernel_rfl)
theorem row16_6 : callAt Try.prog tab 5000 3 (cL [W.z (Int.ofNat 16), W.z (Int.ofNat 6)]) [] = some ((W.b true).c, []) := run_at (by kernel_rfl)
theorem row16_14 : callAt Try.prog tab 5000 3 (cL [W.z (Int.ofNat 16), W.z (Int.ofNat 14)]) [] = some ((W.b true).c, []) := run_at (by kernel_rfl)
theorem row17_8 : callAt Try.prog tab 5000 3 (cL [W.z (Int.ofNat 17), W.z (Int.ofNat 8)]) [] = some ((W.b true).c, []) := run_at (by kernel_rfl)
theorem row17_16 : callAt Try.prog tab 5000 3 (cL [W.z (Int.ofNat 17), W.z (Int.ofNat 16)]) [] = some ((W.b true).c, []) := run_at (by kernel_rfl)
theorem row18_10 : callAt Try.prog tab 5000 3 (cL [W.z (Int.ofNat 18), W.z (Int.ofNat 10)]) [] = some ((W.b true).c, []) := run_at (by kernel_rfl)
theorem row18_18 : callAt Try.prog tab 5000 3 (cL [W.z (Int.ofNat 18), W.z (Int.ofNat 18)]) [] = some ((W.b true).c, []) := run_at (by kernel_rfl)
theorem row19_2 : callAt Try.prog tab 5000 3 (cL [W.z (Int.ofNat 19), W.z (Int.ofNat 2)]) [] = some ((W.b true).c, []) := run_at (by kernel_rfl)
theorem row19_10 : callAt Try.prog tab 5000 3 (cL [W.z (Int.ofNat 19), W.z (Int.ofNat 10)]) [] = some ((W.b true).c, []) := run_at (by kernel_rfl)
theorem row19_18 : callAt Try.prog tab 5000 3 (cL [W.z (Int.ofNat 19), W.z (Int.ofNat 18)]) [] = some ((W.b true).c, []) := run_at (by kernel_rfl)
end Go.Proofs.Ytahcbcgakadfpaa.Tz
