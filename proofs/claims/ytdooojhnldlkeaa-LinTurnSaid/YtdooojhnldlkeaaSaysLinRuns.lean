/-
  LinRuns, worked out over a heap of numbered blocks: it says true. No conditions.
-/
import Derived.Test.YtdooojhnldlkeaaTab
namespace Go.Proofs.Ytdooojhnldlkeaa.linRuns
open Go.Proofs.Ytdooojhnldlkeaa.NICE
set_option maxRecDepth 100000

theorem says : saysTrue (tF Try.prog env 100000 (300 + 1) 3 [] NHeap.empty) = true := by kernel_rfl
end Go.Proofs.Ytdooojhnldlkeaa.linRuns
