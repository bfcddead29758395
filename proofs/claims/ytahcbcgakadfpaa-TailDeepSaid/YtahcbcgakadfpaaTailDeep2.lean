/- Runs of planish/plnlaw26.TailDeep, by the kernel. -/
import Derived.Test.YtahcbcgakadfpaaVd
namespace Go.Proofs.Ytahcbcgakadfpaa.Td
open Go.Tm Go.Tm.Tab Go.Tm.V
set_option maxRecDepth 100000
theorem deep1 : callAt Try.prog tab 5000 5 (cL [W.z (Int.ofNat 1)]) [] = some ((W.b true).c, []) := run_at (by kernel_rfl)
theorem deep5 : callAt Try.prog tab 5000 5 (cL [W.z (Int.ofNat 5)]) [] = some ((W.b true).c, []) := run_at (by kernel_rfl)
theorem deep9 : callAt Try.prog tab 5000 5 (cL [W.z (Int.ofNat 9)]) [] = some ((W.b true).c, []) := run_at (by kernel_rfl)
theorem deep13 : callAt Try.prog tab 5000 5 (cL [W.z (Int.ofNat 13)]) [] = some ((W.b true).c, []) := run_at (by kernel_rfl)
theorem deep17 : callAt Try.prog tab 5000 5 (cL [W.z (Int.ofNat 17)]) [] = some ((W.b true).c, []) := run_at (by kernel_rfl)
theorem deep21 : callAt Try.prog tab 5000 5 (cL [W.z (Int.ofNat 21)]) [] = some ((W.b true).c, []) := run_at (by kernel_rfl)
theorem deep25 : callAt Try.prog tab 5000 5 (cL [W.z (Int.ofNat 25)]) [] = some ((W.b true).c, []) := run_at (by kernel_rfl)
theorem deep29 : callAt Try.prog tab 5000 5 (cL [W.z (Int.ofNat 29)]) [] = some ((W.b true).c, []) := run_at (by kernel_rfl)
theorem deep33 : callAt Try.prog tab 5000 5 (cL [W.z (Int.ofNat 33)]) [] = some ((W.b true).c, []) := run_at (by kernel_rfl)
theorem deep37 : callAt Try.prog tab 5000 5 (cL [W.z (Int.ofNat 37)]) [] = some ((W.b true).c, []) := run_at (by kernel_rfl)
theorem deep41 : callAt Try.prog tab 5000 5 (cL [W.z (Int.ofNat 41)]) [] = some ((W.b true).c, []) := run_at (by kernel_rfl)
theorem deep45 : callAt Try.prog tab 5000 5 (cL [W.z (Int.ofNat 45)]) [] = some ((W.b true).c, []) := run_at (by kernel_rfl)
theorem deep49 : callAt Try.prog tab 5000 5 (cL [W.z (Int.ofNat 49)]) [] = some ((W.b true).c, []) := run_at (by kernel_rfl)
theorem deep53 : callAt Try.prog tab 5000 5 (cL [W.z (Int.ofNat 53)]) [] = some ((W.b true).c, []) := run_at (by kernel_rfl)
theorem deep57 : callAt Try.prog tab 5000 5 (cL [W.z (Int.ofNat 57)]) [] = some ((W.b true).c, []) := run_at (by kernel_rfl)
theorem deep61 : callAt Try.prog tab 5000 5 (cL [W.z (Int.ofNat 61)]) [] = some ((W.b true).c, []) := run_at (by kernel_rfl)
end Go.Proofs.Ytahcbcgakadfpaa.Td
