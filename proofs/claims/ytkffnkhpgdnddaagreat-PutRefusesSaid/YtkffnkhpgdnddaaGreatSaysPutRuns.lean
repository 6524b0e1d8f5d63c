/-
  PutRuns, worked out over a heap of numbered blocks: it says true. No conditions.
-/
import Derived.Test.YtkffnkhpgdnddaaGreatMemoR
namespace Go.Proofs.YtkffnkhpgdnddaaGreat.putRuns
open Go.Proofs.YtkffnkhpgdnddaaGreat.NICE
set_option maxRecDepth 100000

theorem says : saysTrue (tF Tryz.prog envR 100000 (300 + 1) 3 [] NHeap.empty) = true := by kernel_rfl
end Go.Proofs.YtkffnkhpgdnddaaGreat.putRuns
