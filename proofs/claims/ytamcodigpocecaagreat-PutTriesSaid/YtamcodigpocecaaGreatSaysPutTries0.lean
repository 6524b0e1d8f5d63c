/-
  PutTries, worked out over a heap of numbered blocks, its numbers told by their places: it says true. No conditions.
-/
import Derived.Test.YtamcodigpocecaaGreatWithin
import Derived.Test.YtamcodigpocecaaGreatMemoD
import Derived.Test.YtamcodigpocecaaGreatNice41
namespace Go.Proofs.YtamcodigpocecaaGreat.putTries
open Go Go.Proofs.YtamcodigpocecaaGreat.NICE Go.Proofs.YtamcodigpocecaaGreat.S
set_option maxRecDepth 100000
set_option linter.unusedSectionVars false
variable [Syms]

noncomputable def T0 : WT := [(0, 0, 4, .int .i64 0), (1, 0, 99, .sym .i64 2 0 99)]
noncomputable def base0 (hT : WOk T0) : Env Tryz.prog drStatic := tab.env tab_ok (orKnown (withinKnown 8 T0) envDKnown) (orKnown_ok (within_ok hT) envDKnown_ok)
noncomputable def known0 : CallF := envDKnown
theorem known0_ok (hT : WOk T0) : CallOk Tryz.prog known0 := envDKnown_ok
noncomputable def envL0 (hT : WOk T0) : Env Tryz.prog drStatic := tab.env tab_ok (orKnown (withinKnown 8 T0) known0) (orKnown_ok (within_ok hT) (known0_ok hT))
theorem says0 (hT : WOk T0) : saysTrue (tF Tryz.prog (envL0 hT) 100000 (300 + 1) 5 [.sym .i64 0 (-9223372036854775808) 9223372036854775807, .sym .i64 1 (-9223372036854775808) 9223372036854775807] NHeap.empty) = true := by kernel_rfl
end Go.Proofs.YtamcodigpocecaaGreat.putTries
