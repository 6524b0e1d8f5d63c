/-
  TreeRuns, worked out over a heap of numbered blocks: it says true. No conditions.
-/
import Derived.Test.YtfgoajnoahhghaaGreatTab
namespace Go.Proofs.YtfgoajnoahhghaaGreat.treeRuns
open Go.Proofs.YtfgoajnoahhghaaGreat.NICE
set_option maxRecDepth 100000

theorem says : saysTrue (tF Tryz.prog env 100000 (300 + 1) 11 [] NHeap.empty) = true := by kernel_rfl
end Go.Proofs.YtfgoajnoahhghaaGreat.treeRuns
