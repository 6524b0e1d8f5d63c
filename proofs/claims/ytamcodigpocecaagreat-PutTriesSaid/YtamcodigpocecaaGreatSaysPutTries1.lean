/-
  PutTries, worked out over a heap of numbered blocks, its numbers told by their places: it says true. No conditions.
-/
import Derived.Test.YtamcodigpocecaaGreatWithin
import Derived.Test.YtamcodigpocecaaGreatMemoD
import Derived.Test.YtamcodigpocecaaGreatNice41
namespace Go.Proofs.YtamcodigpocecaaGreat.putTries
open Go Go.Proofs.YtamcodigpocecaaGreat.NICE Go.Proofs.YtamcodigpocecaaGreat.S
set_option maxRecDepth 100000
set_option linter.unusedSectionVars false
variable [Syms]

noncomputable def T1 : WT := [(0, 0, 4, .int .i64 1), (1, 0, 99, .sym .i64 2 0 99)]
noncomputable def base1 (hT : WOk T1) : Env Tryz.prog drStatic := tab.env tab_ok (orKnown (withinKnown 8 T1) envDKnown) (orKnown_ok (within_ok hT) envDKnown_ok)
noncomputable def st1x0R : List NObj := beginHeap
noncomputable def st1x1Args : List NVal := [(.ptr (some (1135, 0))), (.agg [(.int .i64 0), (.int .i64 0), (.bool false), (.slice (some (1171, 0)) 264 264 (some 1))])]
noncomputable def st1x1Val : NVal := (.tuple [])
noncomputable def st1x1L : List NObj := apL (setAll st1x0R [(572, .cells [(.int .i64 0), (.slice none 0 0 none), (.int .i64 (-1)), (.slice none 0 0 none), (.int .i64 (-1)), (.slice none 0 0 none), (.int .i64 (-1)), (.slice none 0 0 none)] (.own (some (143, 0))))]) 
  (apL [.dead, .cells [(.str [97, 0]), (.str [97, 0]), (.sym .i64 2 0 99), (.int .i64 65612), (.int .i64 2), (.int .i64 0), (.bool false), (.int .i64 1), (.int .i64 65612), (.int .i64 0), (.int .i64 0), (.int .u64 0), (.slice none 0 0 none), (.func (.func 178) [] []), .nilFunc, (.int .i64 0), (.int .i64 0), (.int .u64 0), (.str []), (.slice none 0 0 none), (.slice none 0 0 none), (.int .u8 0), (.int .i64 65612), (.int .i64 0), (.int .u64 0), (.str []), (.slice none 0 0 none), (.slice none 0 0 none), (.int .u8 0), (.slice none 0 0 none), (.slice none 0 0 none), (.slice none 0 0 none), (.bool false), (.bool false), (.int .i64 0), (.bool false), (.int .i64 0), (.slice none 0 0 none)] (.own none)]
  (apL (List.replicate 28 (.dead))
  (apL [.cells [(.int .i64 1), (.int .i64 65612), (.int .i64 0), (.int .i64 0), (.int .u64 0), (.slice none 0 0 none)] (.own (some (51, 6)))]
  (apL (List.replicate 6 (.dead))
  [.cells ([(.int .u64 0), (.int .u64 4)] ++ List.replicate 262 (.int .u64 0)) (.own (some (49, 0)))]))))
noncomputable def st1x1R : List NObj := apL (setAll st1x1L [(1135, .cells [(.str [97, 0]), (.str [0]), (.sym .i64 2 0 99), (.int .i64 65612), (.int .i64 2), (.int .i64 0), (.bool false), (.int .i64 4), (.int .i64 0), (.int .i64 0), (.int .i64 0), (.int .u64 0), (.slice (some (1210, 0)) 8 8 none), (.func (.func 235) [] []), (.func (.func 204) [] []), (.int .i64 0), (.int .i64 0), (.int .u64 0), (.str []), (.slice none 0 0 none), (.slice none 0 0 none), (.int .u8 0), (.int .i64 65612), (.int .i64 4), (.int .u64 0), (.str []), (.slice none 0 0 none), (.slice none 0 0 none), (.int .u8 97), (.slice (some (1206, 0)) 1 1 none), (.slice none 0 0 none), (.slice none 0 0 none), (.bool false), (.bool false), (.int .i64 0), (.bool false), (.int .i64 0), (.slice none 0 0 none)] (.own none))]) 
  (apL (List.replicate 34 (.dead))
  [.cells [(.func (.func 198) [(.ptr (some (1135, 0)))] [])] (.own none), .dead, .dead, .dead, .cells [(.int .u64 0), (.int .u64 512), (.int .u64 97), (.int .u64 0), (.sym .u64 2 0 99), (.int .u64 0), (.int .u64 0), (.int .u64 0)] (.own none), .dead, .dead])
theorem st1x1 (hT : WOk T1) : memoIs st1x1Val st1x1R (tF Tryz.prog (base1 hT) 100000 (300 + 1) 17 st1x1Args (hOf st1x1L NHeap.empty)) = true := by kernel_rfl
noncomputable def known1 : CallF := (memoAt 17 st1x1Args st1x1L st1x1Val st1x1R envDKnown)
theorem known1_ok (hT : WOk T1) : CallOk Tryz.prog known1 := (memoAt_ok (Checked.mixed Tryz.checked) (base1 hT) (m := 100000) (n := 300) (by kernel_rfl) (st1x1 hT) envDKnown_ok)
noncomputable def envL1 (hT : WOk T1) : Env Tryz.prog drStatic := tab.env tab_ok (orKnown (withinKnown 8 T1) known1) (orKnown_ok (within_ok hT) (known1_ok hT))
theorem says1 (hT : WOk T1) : saysTrue (tF Tryz.prog (envL1 hT) 100000 (300 + 1) 5 [.sym .i64 0 (-9223372036854775808) 9223372036854775807, .sym .i64 1 (-9223372036854775808) 9223372036854775807] NHeap.empty) = true := by kernel_rfl
end Go.Proofs.YtamcodigpocecaaGreat.putTries
