/- Runs of planish/plnlaw20.PhisChain at some numbers, by the kernel. -/
import Derived.Test.YtahcbcgakadfpaaQp
namespace Go.Proofs.Ytahcbcgakadfpaa.Tp
open Go.Tm Go.Tm.Tab Go.Tm.Q
set_option maxRecDepth 100000
theorem chain11 : callAt Try.prog tab 1000 4 [int 11] [] = some (bool true, []) := run_at (by kernel_rfl)
end Go.Proofs.Ytahcbcgakadfpaa.Tp
