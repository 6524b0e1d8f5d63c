/-
  ScriptRuns, worked out over a heap of numbered blocks: it says true. No conditions.
-/
import Derived.Test.YtkffnkhpgdnddaaGreatDoorTab
namespace Go.Proofs.YtkffnkhpgdnddaaGreatDoor.scriptRuns
open Go.Proofs.YtkffnkhpgdnddaaGreatDoor.NICE
set_option maxRecDepth 100000

theorem says : saysTrue (tF Tryz.prog env 100000 (300 + 1) 4 [] NHeap.empty) = true := by kernel_rfl
end Go.Proofs.YtkffnkhpgdnddaaGreatDoor.scriptRuns
