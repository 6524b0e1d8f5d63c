/-
  LinRuns, worked out over a heap of numbered blocks: it says true. No conditions.
-/
import Derived.Test.YtblhpikljhholaaTab
namespace Go.Proofs.Ytblhpikljhholaa.linRuns
open Go.Proofs.Ytblhpikljhholaa.NICE
set_option maxRecDepth 100000

theorem says : saysTrue (tF Try.prog env 100000 (300 + 1) 14 [] NHeap.empty) = true := by kernel_rfl
end Go.Proofs.Ytblhpikljhholaa.linRuns
