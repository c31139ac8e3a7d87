/- The closed law SilentCycles: evaluated by the kernel. -/
import Derived.Test.YtdofkchhdckomaaYtdCfgA
import Derived.Test.YtdofkchhdckomaaIlvFast5
set_option maxRecDepth 100000
namespace Go.Proofs.YtdCfgA
open Go Go.Ilv
theorem law_wf : ∃ s : St, callL cfg 7 [] St.empty = some (.bool true, s) := closed_ok (M := noMem) (noMem_ok cfg) (n := 1000000) (isT_ok (by decide +kernel))
end Go.Proofs.YtdCfgA
