/-
  DrainRuns, worked out over a heap of numbered blocks: it says true. No conditions.
-/
import Derived.Test.YtkffnkhpgdnddaaGreatTab
namespace Go.Proofs.YtkffnkhpgdnddaaGreat.drainRuns
open Go.Proofs.YtkffnkhpgdnddaaGreat.NICE
set_option maxRecDepth 100000

theorem says : saysTrue (tF Tryz.prog env 100000 (300 + 1) 8 [] NHeap.empty) = true := by kernel_rfl
end Go.Proofs.YtkffnkhpgdnddaaGreat.drainRuns
