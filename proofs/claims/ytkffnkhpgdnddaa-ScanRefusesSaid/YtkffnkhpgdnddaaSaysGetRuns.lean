/-
  GetRuns, worked out over a heap of numbered blocks: it says true. No conditions.
-/
import Derived.Test.YtkffnkhpgdnddaaTab
namespace Go.Proofs.Ytkffnkhpgdnddaa.getRuns
open Go.Proofs.Ytkffnkhpgdnddaa.NICE
set_option maxRecDepth 100000

theorem says : saysTrue (tF Try.prog env 100000 (300 + 1) 5 [] NHeap.empty) = true := by kernel_rfl
end Go.Proofs.Ytkffnkhpgdnddaa.getRuns
