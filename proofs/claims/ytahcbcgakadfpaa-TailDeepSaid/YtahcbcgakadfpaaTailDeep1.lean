/- Runs of planish/plnlaw26.TailDeep, by the kernel. -/
import Derived.Test.YtahcbcgakadfpaaVd
namespace Go.Proofs.Ytahcbcgakadfpaa.Td
open Go.Tm Go.Tm.Tab Go.Tm.V
set_option maxRecDepth 100000
theorem deep0 : callAt Try.prog tab 5000 5 (cL [W.z (Int.ofNat 0)]) [] = some ((W.b true).c, []) := run_at (by kernel_rfl)
theorem deep4 : callAt Try.prog tab 5000 5 (cL [W.z (Int.ofNat 4)]) [] = some ((W.b true).c, []) := run_at (by kernel_rfl)
theorem deep8 : callAt Try.prog tab 5000 5 (cL [W.z (Int.ofNat 8)]) [] = some ((W.b true).c, []) := run_at (by kernel_rfl)
theorem deep12 : callAt Try.prog tab 5000 5 (cL [W.z (Int.ofNat 12)]) [] = some ((W.b true).c, []) := run_at (by kernel_rfl)
theorem deep16 : callAt Try.prog tab 5000 5 (cL [W.z (Int.ofNat 16)]) [] = some ((W.b true).c, []) := run_at (by kernel_rfl)
theorem deep20 : callAt Try.prog tab 5000 5 (cL [W.z (Int.ofNat 20)]) [] = some ((W.b true).c, []) := run_at (by kernel_rfl)
theorem deep24 : callAt Try.prog tab 5000 5 (cL [W.z (Int.ofNat 24)]) [] = some ((W.b true).c, []) := run_at (by kernel_rfl)
theorem deep28 : callAt Try.prog tab 5000 5 (cL [W.z (Int.ofNat 28)]) [] = some ((W.b true).c, []) := run_at (by kernel_rfl)
theorem deep32 : callAt Try.prog tab 5000 5 (cL [W.z (Int.ofNat 32)]) [] = some ((W.b true).c, []) := run_at (by kernel_rfl)
theorem deep36 : callAt Try.prog tab 5000 5 (cL [W.z (Int.ofNat 36)]) [] = some ((W.b true).c, []) := run_at (by kernel_rfl)
theorem deep40 : callAt Try.prog tab 5000 5 (cL [W.z (Int.ofNat 40)]) [] = some ((W.b true).c, []) := run_at (by kernel_rfl)
theorem deep44 : callAt Try.prog tab 5000 5 (cL [W.z (Int.ofNat 44)]) [] = some ((W.b true).c, []) := run_at (by kernel_rfl)
theorem deep48 : callAt Try.prog tab 5000 5 (cL [W.z (Int.ofNat 48)]) [] = some ((W.b true).c, []) := run_at (by kernel_rfl)
theorem deep52 : callAt Try.prog tab 5000 5 (cL [W.z (Int.ofNat 52)]) [] = some ((W.b true).c, []) := run_at (by kernel_rfl)
theorem deep56 : callAt Try.prog tab 5000 5 (cL [W.z (Int.ofNat 56)]) [] = some ((W.b true).c, []) := run_at (by kernel_rfl)
theorem deep60 : callAt Try.prog tab 5000 5 (cL [W.z (Int.ofNat 60)]) [] = some ((W.b true).c, []) := run_at (by kernel_rfl)
end Go.Proofs.Ytahcbcgakadfpaa.Td
