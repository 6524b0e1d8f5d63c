/-
  Calls without memory among their arguments, worked out once: putRuns. No conditions.
-/
import Derived.Test.YtamcodigpocecaaGreatMemoB
import Derived.Test.YtamcodigpocecaaGreatNice27
namespace Go.Proofs.YtamcodigpocecaaGreat
open Go Go.Proofs.YtamcodigpocecaaGreat.NICE
set_option maxRecDepth 100000

set_option linter.unusedSectionVars false
variable [Syms]
noncomputable def putRunsArgs : List NVal := []
noncomputable def putRunsVal : NVal := (.bool true)
noncomputable def putRunsHeap : List NObj := 
  (List.replicate 1283 (.dead))

theorem putRunsRun : memoIs putRunsVal putRunsHeap (tF Tryz.prog envB 100000 (300 + 1) 12 putRunsArgs NHeap.empty) = true := by kernel_rfl
noncomputable def envDKnown : CallF := (memoF 12 putRunsArgs putRunsVal putRunsHeap envBKnown)
theorem envDKnown_ok : CallOk Tryz.prog envDKnown := (memoF_ok (Checked.mixed Tryz.checked) envB (m := 100000) (n := 300) (by kernel_rfl) putRunsRun (by kernel_rfl) (by kernel_rfl) envBKnown_ok)
noncomputable def envD : Env Tryz.prog drStatic := tab.env tab_ok envDKnown envDKnown_ok
end Go.Proofs.YtamcodigpocecaaGreat
