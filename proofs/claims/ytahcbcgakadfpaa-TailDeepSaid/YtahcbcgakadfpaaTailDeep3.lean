/- Runs of planish/plnlaw26.TailDeep, by the kernel. -/
import Derived.Test.YtahcbcgakadfpaaVd
namespace Go.Proofs.Ytahcbcgakadfpaa.Td
open Go.Tm Go.Tm.Tab Go.Tm.V
set_option maxRecDepth 100000
theorem deep2 : callAt Try.prog tab 5000 5 (cL [W.z (Int.ofNat 2)]) [] = some ((W.b true).c, []) := run_at (by kernel_rfl)
theorem deep6 : callAt Try.prog tab 5000 5 (cL [W.z (Int.ofNat 6)]) [] = some ((W.b true).c, []) := run_at (by kernel_rfl)
theorem deep10 : callAt Try.prog tab 5000 5 (cL [W.z (Int.ofNat 10)]) [] = some ((W.b true).c, []) := run_at (by kernel_rfl)
theorem deep14 : callAt Try.prog tab 5000 5 (cL [W.z (Int.ofNat 14)]) [] = some ((W.b true).c, []) := run_at (by kernel_rfl)
theorem deep18 : callAt Try.prog tab 5000 5 (cL [W.z (Int.ofNat 18)]) [] = some ((W.b true).c, []) := run_at (by kernel_rfl)
theorem deep22 : callAt Try.prog tab 5000 5 (cL [W.z (Int.ofNat 22)]) [] = some ((W.b true).c, []) := run_at (by kernel_rfl)
theorem deep26 : callAt Try.prog tab 5000 5 (cL [W.z (Int.ofNat 26)]) [] = some ((W.b true).c, []) := run_at (by kernel_rfl)
theorem deep30 : callAt Try.prog tab 5000 5 (cL [W.z (Int.ofNat 30)]) [] = some ((W.b true).c, []) := run_at (by kernel_rfl)
theorem deep34 : callAt Try.prog tab 5000 5 (cL [W.z (Int.ofNat 34)]) [] = some ((W.b true).c, []) := run_at (by kernel_rfl)
theorem deep38 : callAt Try.prog tab 5000 5 (cL [W.z (Int.ofNat 38)]) [] = some ((W.b true).c, []) := run_at (by kernel_rfl)
theorem deep42 : callAt Try.prog tab 5000 5 (cL [W.z (Int.ofNat 42)]) [] = some ((W.b true).c, []) := run_at (by kernel_rfl)
theorem deep46 : callAt Try.prog tab 5000 5 (cL [W.z (Int.ofNat 46)]) [] = some ((W.b true).c, []) := run_at (by kernel_rfl)
theorem deep50 : callAt Try.prog tab 5000 5 (cL [W.z (Int.ofNat 50)]) [] = some ((W.b true).c, []) := run_at (by kernel_rfl)
theorem deep54 : callAt Try.prog tab 5000 5 (cL [W.z (Int.ofNat 54)]) [] = some ((W.b true).c, []) := run_at (by kernel_rfl)
theorem deep58 : callAt Try.prog tab 5000 5 (cL [W.z (Int.ofNat 58)]) [] = some ((W.b true).c, []) := run_at (by kernel_rfl)
theorem deep62 : callAt Try.prog tab 5000 5 (cL [W.z (Int.ofNat 62)]) [] = some ((W.b true).c, []) := run_at (by kernel_rfl)
end Go.Proofs.Ytahcbcgakadfpaa.Td
