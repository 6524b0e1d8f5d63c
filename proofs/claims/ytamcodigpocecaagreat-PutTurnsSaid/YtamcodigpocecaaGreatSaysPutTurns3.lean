/-
  PutTurns, worked out over a heap of numbered blocks, its numbers told by their places: it says true. No conditions.
-/
import Derived.Test.YtamcodigpocecaaGreatWithin
import Derived.Test.YtamcodigpocecaaGreatMemoD
import Derived.Test.YtamcodigpocecaaGreatNice41
namespace Go.Proofs.YtamcodigpocecaaGreat.putTurns
open Go Go.Proofs.YtamcodigpocecaaGreat.NICE Go.Proofs.YtamcodigpocecaaGreat.S
set_option maxRecDepth 100000
set_option linter.unusedSectionVars false
variable [Syms]

noncomputable def T15 : WT := [(0, 0, 20, .int .i64 15), (1, 0, 99, .sym .i64 2 0 99)]
noncomputable def base15 (hT : WOk T15) : Env Tryz.prog drStatic := tab.env tab_ok (orKnown (withinKnown 8 T15) envDKnown) (orKnown_ok (within_ok hT) envDKnown_ok)
noncomputable def known15 : CallF := envDKnown
theorem known15_ok (hT : WOk T15) : CallOk Tryz.prog known15 := envDKnown_ok
noncomputable def envL15 (hT : WOk T15) : Env Tryz.prog drStatic := tab.env tab_ok (orKnown (withinKnown 8 T15) known15) (orKnown_ok (within_ok hT) (known15_ok hT))
theorem says15 (hT : WOk T15) : saysTrue (tF Tryz.prog (envL15 hT) 100000 (300 + 1) 4 [.sym .i64 0 (-9223372036854775808) 9223372036854775807, .sym .i64 1 (-9223372036854775808) 9223372036854775807] NHeap.empty) = true := by kernel_rfl
noncomputable def T16 : WT := [(0, 0, 20, .int .i64 16), (1, 0, 99, .sym .i64 2 0 99)]
noncomputable def base16 (hT : WOk T16) : Env Tryz.prog drStatic := tab.env tab_ok (orKnown (withinKnown 8 T16) envDKnown) (orKnown_ok (within_ok hT) envDKnown_ok)
noncomputable def known16 : CallF := envDKnown
theorem known16_ok (hT : WOk T16) : CallOk Tryz.prog known16 := envDKnown_ok
noncomputable def envL16 (hT : WOk T16) : Env Tryz.prog drStatic := tab.env tab_ok (orKnown (withinKnown 8 T16) known16) (orKnown_ok (within_ok hT) (known16_ok hT))
theorem says16 (hT : WOk T16) : saysTrue (tF Tryz.prog (envL16 hT) 100000 (300 + 1) 4 [.sym .i64 0 (-9223372036854775808) 9223372036854775807, .sym .i64 1 (-9223372036854775808) 9223372036854775807] NHeap.empty) = true := by kernel_rfl
noncomputable def T17 : WT := [(0, 0, 20, .int .i64 17), (1, 0, 99, .sym .i64 2 0 99)]
noncomputable def base17 (hT : WOk T17) : Env Tryz.prog drStatic := tab.env tab_ok (orKnown (withinKnown 8 T17) envDKnown) (orKnown_ok (within_ok hT) envDKnown_ok)
noncomputable def known17 : CallF := envDKnown
theorem known17_ok (hT : WOk T17) : CallOk Tryz.prog known17 := envDKnown_ok
noncomputable def envL17 (hT : WOk T17) : Env Tryz.prog drStatic := tab.env tab_ok (orKnown (withinKnown 8 T17) known17) (orKnown_ok (within_ok hT) (known17_ok hT))
theorem says17 (hT : WOk T17) : saysTrue (tF Tryz.prog (envL17 hT) 100000 (300 + 1) 4 [.sym .i64 0 (-9223372036854775808) 9223372036854775807, .sym .i64 1 (-9223372036854775808) 9223372036854775807] NHeap.empty) = true := by kernel_rfl
noncomputable def T18 : WT := [(0, 0, 20, .int .i64 18), (1, 0, 99, .sym .i64 2 0 99)]
noncomputable def base18 (hT : WOk T18) : Env Tryz.prog drStatic := tab.env tab_ok (orKnown (withinKnown 8 T18) envDKnown) (orKnown_ok (within_ok hT) envDKnown_ok)
noncomputable def known18 : CallF := envDKnown
theorem known18_ok (hT : WOk T18) : CallOk Tryz.prog known18 := envDKnown_ok
noncomputable def envL18 (hT : WOk T18) : Env Tryz.prog drStatic := tab.env tab_ok (orKnown (withinKnown 8 T18) known18) (orKnown_ok (within_ok hT) (known18_ok hT))
theorem says18 (hT : WOk T18) : saysTrue (tF Tryz.prog (envL18 hT) 100000 (300 + 1) 4 [.sym .i64 0 (-9223372036854775808) 9223372036854775807, .sym .i64 1 (-9223372036854775808) 9223372036854775807] NHeap.empty) = true := by kernel_rfl
noncomputable def T19 : WT := [(0, 0, 20, .int .i64 19), (1, 0, 99, .sym .i64 2 0 99)]
noncomputable def base19 (hT : WOk T19) : Env Tryz.prog drStatic := tab.env tab_ok (orKnown (withinKnown 8 T19) envDKnown) (orKnown_ok (within_ok hT) envDKnown_ok)
noncomputable def known19 : CallF := envDKnown
theorem known19_ok (hT : WOk T19) : CallOk Tryz.prog known19 := envDKnown_ok
noncomputable def envL19 (hT : WOk T19) : Env Tryz.prog drStatic := tab.env tab_ok (orKnown (withinKnown 8 T19) known19) (orKnown_ok (within_ok hT) (known19_ok hT))
theorem says19 (hT : WOk T19) : saysTrue (tF Tryz.prog (envL19 hT) 100000 (300 + 1) 4 [.sym .i64 0 (-9223372036854775808) 9223372036854775807, .sym .i64 1 (-9223372036854775808) 9223372036854775807] NHeap.empty) = true := by kernel_rfl
noncomputable def T20 : WT := [(0, 0, 20, .int .i64 20), (1, 0, 99, .sym .i64 2 0 99)]
noncomputable def base20 (hT : WOk T20) : Env Tryz.prog drStatic := tab.env tab_ok (orKnown (withinKnown 8 T20) envDKnown) (orKnown_ok (within_ok hT) envDKnown_ok)
noncomputable def known20 : CallF := envDKnown
theorem known20_ok (hT : WOk T20) : CallOk Tryz.prog known20 := envDKnown_ok
noncomputable def envL20 (hT : WOk T20) : Env Tryz.prog drStatic := tab.env tab_ok (orKnown (withinKnown 8 T20) known20) (orKnown_ok (within_ok hT) (known20_ok hT))
theorem says20 (hT : WOk T20) : saysTrue (tF Tryz.prog (envL20 hT) 100000 (300 + 1) 4 [.sym .i64 0 (-9223372036854775808) 9223372036854775807, .sym .i64 1 (-9223372036854775808) 9223372036854775807] NHeap.empty) = true := by kernel_rfl
end Go.Proofs.YtamcodigpocecaaGreat.putTurns
