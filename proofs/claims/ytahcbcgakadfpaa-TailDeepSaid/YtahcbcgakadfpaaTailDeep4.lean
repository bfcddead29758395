/- Runs of planish/plnlaw26.TailDeep, by the kernel. -/
import Derived.Test.YtahcbcgakadfpaaVd
namespace Go.Proofs.Ytahcbcgakadfpaa.Td
open Go.Tm Go.Tm.Tab Go.Tm.V
set_option maxRecDepth 100000
theorem deep3 : callAt Try.prog tab 5000 5 (cL [W.z (Int.ofNat 3)]) [] = some ((W.b true).c, []) := run_at (by kernel_rfl)
theorem deep7 : callAt Try.prog tab 5000 5 (cL [W.z (Int.ofNat 7)]) [] = some ((W.b true).c, []) := run_at (by kernel_rfl)
theorem deep11 : callAt Try.prog tab 5000 5 (cL [W.z (Int.ofNat 11)]) [] = some ((W.b true).c, []) := run_at (by kernel_rfl)
theorem deep15 : callAt Try.prog tab 5000 5 (cL [W.z (Int.ofNat 15)]) [] = some ((W.b true).c, []) := run_at (by kernel_rfl)
theorem deep19 : callAt Try.prog tab 5000 5 (cL [W.z (Int.ofNat 19)]) [] = some ((W.b true).c, []) := run_at (by kernel_rfl)
theorem deep23 : callAt Try.prog tab 5000 5 (cL [W.z (Int.ofNat 23)]) [] = some ((W.b true).c, []) := run_at (by kernel_rfl)
theorem deep27 : callAt Try.prog tab 5000 5 (cL [W.z (Int.ofNat 27)]) [] = some ((W.b true).c, []) := run_at (by kernel_rfl)
theorem deep31 : callAt Try.prog tab 5000 5 (cL [W.z (Int.ofNat 31)]) [] = some ((W.b true).c, []) := run_at (by kernel_rfl)
theorem deep35 : callAt Try.prog tab 5000 5 (cL [W.z (Int.ofNat 35)]) [] = some ((W.b true).c, []) := run_at (by kernel_rfl)
theorem deep39 : callAt Try.prog tab 5000 5 (cL [W.z (Int.ofNat 39)]) [] = some ((W.b true).c, []) := run_at (by kernel_rfl)
theorem deep43 : callAt Try.prog tab 5000 5 (cL [W.z (Int.ofNat 43)]) [] = some ((W.b true).c, []) := run_at (by kernel_rfl)
theorem deep47 : callAt Try.prog tab 5000 5 (cL [W.z (Int.ofNat 47)]) [] = some ((W.b true).c, []) := run_at (by kernel_rfl)
theorem deep51 : callAt Try.prog tab 5000 5 (cL [W.z (Int.ofNat 51)]) [] = some ((W.b true).c, []) := run_at (by kernel_rfl)
theorem deep55 : callAt Try.prog tab 5000 5 (cL [W.z (Int.ofNat 55)]) [] = some ((W.b true).c, []) := run_at (by kernel_rfl)
theorem deep59 : callAt Try.prog tab 5000 5 (cL [W.z (Int.ofNat 59)]) [] = some ((W.b true).c, []) := run_at (by kernel_rfl)
theorem deep63 : callAt Try.prog tab 5000 5 (cL [W.z (Int.ofNat 63)]) [] = some ((W.b true).c, []) := run_at (by kernel_rfl)
end Go.Proofs.Ytahcbcgakadfpaa.Td
