/-
  DropRuns, worked out over a heap of numbered blocks: it says true. No conditions.
-/
import Derived.Test.YtkffnkhpgdnddaaGreatMemoQ
namespace Go.Proofs.YtkffnkhpgdnddaaGreat.dropRuns
open Go.Proofs.YtkffnkhpgdnddaaGreat.NICE
set_option maxRecDepth 100000

theorem says : saysTrue (tF Tryz.prog envQ 100000 (300 + 1) 5 [] NHeap.empty) = true := by kernel_rfl
end Go.Proofs.YtkffnkhpgdnddaaGreat.dropRuns
