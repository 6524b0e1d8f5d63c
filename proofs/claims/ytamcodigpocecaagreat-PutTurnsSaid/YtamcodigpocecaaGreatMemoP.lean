/-
  Calls without memory among their arguments, worked out once: poison0, poison1, poison2, poison3, poison4. No conditions.
-/
import Derived.Test.YtamcodigpocecaaGreatTab
import Derived.Test.YtamcodigpocecaaGreatNice27
namespace Go.Proofs.YtamcodigpocecaaGreat
open Go Go.Proofs.YtamcodigpocecaaGreat.NICE
set_option maxRecDepth 100000

set_option linter.unusedSectionVars false
variable [Syms]
noncomputable def poison0Args : List NVal := [(.int .i64 0)]
noncomputable def poison0Val : NVal := (.slice (some (0, 0)) 8 8 none)
noncomputable def poison0Heap : List NObj := 
  [.cells (List.replicate 8 (.int .u64 16045690984833335023)) (.own none)]

theorem poison0Run : memoIs poison0Val poison0Heap (tF Tryz.prog env 100000 (300 + 1) 92 poison0Args NHeap.empty) = true := by kernel_rfl
noncomputable def poison1Args : List NVal := [(.int .i64 1)]
noncomputable def poison1Val : NVal := (.slice (some (0, 0)) 12 12 none)
noncomputable def poison1Heap : List NObj := 
  [.cells (List.replicate 12 (.int .u64 16045690984833335023)) (.own none)]

theorem poison1Run : memoIs poison1Val poison1Heap (tF Tryz.prog env 100000 (300 + 1) 92 poison1Args NHeap.empty) = true := by kernel_rfl
noncomputable def poison2Args : List NVal := [(.int .i64 2)]
noncomputable def poison2Val : NVal := (.slice (some (0, 0)) 24 24 none)
noncomputable def poison2Heap : List NObj := 
  [.cells (List.replicate 24 (.int .u64 16045690984833335023)) (.own none)]

theorem poison2Run : memoIs poison2Val poison2Heap (tF Tryz.prog env 100000 (300 + 1) 92 poison2Args NHeap.empty) = true := by kernel_rfl
noncomputable def poison3Args : List NVal := [(.int .i64 3)]
noncomputable def poison3Val : NVal := (.slice (some (0, 0)) 88 88 none)
noncomputable def poison3Heap : List NObj := 
  [.cells (List.replicate 88 (.int .u64 16045690984833335023)) (.own none)]

theorem poison3Run : memoIs poison3Val poison3Heap (tF Tryz.prog env 100000 (300 + 1) 92 poison3Args NHeap.empty) = true := by kernel_rfl
noncomputable def poison4Args : List NVal := [(.int .i64 4)]
noncomputable def poison4Val : NVal := (.slice (some (0, 0)) 264 264 none)
noncomputable def poison4Heap : List NObj := 
  [.cells (List.replicate 264 (.int .u64 16045690984833335023)) (.own none)]

theorem poison4Run : memoIs poison4Val poison4Heap (tF Tryz.prog env 100000 (300 + 1) 92 poison4Args NHeap.empty) = true := by kernel_rfl
noncomputable def envPKnown : CallF := (memoF 92 poison4Args poison4Val poison4Heap (memoF 92 poison3Args poison3Val poison3Heap (memoF 92 poison2Args poison2Val poison2Heap (memoF 92 poison1Args poison1Val poison1Heap (memoF 92 poison0Args poison0Val poison0Heap (idxKnown 134))))))
theorem envPKnown_ok : CallOk Tryz.prog envPKnown := (memoF_ok (Checked.mixed Tryz.checked) env (m := 100000) (n := 300) (by kernel_rfl) poison4Run (by kernel_rfl) (by kernel_rfl) (memoF_ok (Checked.mixed Tryz.checked) env (m := 100000) (n := 300) (by kernel_rfl) poison3Run (by kernel_rfl) (by kernel_rfl) (memoF_ok (Checked.mixed Tryz.checked) env (m := 100000) (n := 300) (by kernel_rfl) poison2Run (by kernel_rfl) (by kernel_rfl) (memoF_ok (Checked.mixed Tryz.checked) env (m := 100000) (n := 300) (by kernel_rfl) poison1Run (by kernel_rfl) (by kernel_rfl) (memoF_ok (Checked.mixed Tryz.checked) env (m := 100000) (n := 300) (by kernel_rfl) poison0Run (by kernel_rfl) (by kernel_rfl) idx_ok)))))
noncomputable def envP : Env Tryz.prog drStatic := tab.env tab_ok envPKnown envPKnown_ok
end Go.Proofs.YtamcodigpocecaaGreat
