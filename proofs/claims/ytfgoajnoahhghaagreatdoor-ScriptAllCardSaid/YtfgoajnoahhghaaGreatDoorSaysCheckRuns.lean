/-
  CheckRuns, worked out over a heap of numbered blocks: it says true. No conditions.
-/
import Derived.Test.YtfgoajnoahhghaaGreatDoorTab
namespace Go.Proofs.YtfgoajnoahhghaaGreatDoor.checkRuns
open Go.Proofs.YtfgoajnoahhghaaGreatDoor.NICE
set_option maxRecDepth 100000

theorem says : saysTrue (tF Tryz.prog env 100000 (300 + 1) 14 [] NHeap.empty) = true := by kernel_rfl
end Go.Proofs.YtfgoajnoahhghaaGreatDoor.checkRuns
