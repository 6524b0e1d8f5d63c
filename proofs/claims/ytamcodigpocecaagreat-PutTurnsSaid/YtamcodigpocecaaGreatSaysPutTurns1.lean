/-
  PutTurns, worked out over a heap of numbered blocks, its numbers told by their places: it says true. No conditions.
-/
import Derived.Test.YtamcodigpocecaaGreatWithin
import Derived.Test.YtamcodigpocecaaGreatMemoD
import Derived.Test.YtamcodigpocecaaGreatNice41
namespace Go.Proofs.YtamcodigpocecaaGreat.putTurns
open Go Go.Proofs.YtamcodigpocecaaGreat.NICE Go.Proofs.YtamcodigpocecaaGreat.S
set_option maxRecDepth 100000
set_option linter.unusedSectionVars false
variable [Syms]

noncomputable def T5 : WT := [(0, 0, 20, .int .i64 5), (1, 0, 99, .sym .i64 2 0 99)]
noncomputable def base5 (hT : WOk T5) : Env Tryz.prog drStatic := tab.env tab_ok (orKnown (withinKnown 8 T5) envDKnown) (orKnown_ok (within_ok hT) envDKnown_ok)
noncomputable def known5 : CallF := envDKnown
theorem known5_ok (hT : WOk T5) : CallOk Tryz.prog known5 := envDKnown_ok
noncomputable def envL5 (hT : WOk T5) : Env Tryz.prog drStatic := tab.env tab_ok (orKnown (withinKnown 8 T5) known5) (orKnown_ok (within_ok hT) (known5_ok hT))
theorem says5 (hT : WOk T5) : saysTrue (tF Tryz.prog (envL5 hT) 100000 (300 + 1) 4 [.sym .i64 0 (-9223372036854775808) 9223372036854775807, .sym .i64 1 (-9223372036854775808) 9223372036854775807] NHeap.empty) = true := by kernel_rfl
noncomputable def T6 : WT := [(0, 0, 20, .int .i64 6), (1, 0, 99, .sym .i64 2 0 99)]
noncomputable def base6 (hT : WOk T6) : Env Tryz.prog drStatic := tab.env tab_ok (orKnown (withinKnown 8 T6) envDKnown) (orKnown_ok (within_ok hT) envDKnown_ok)
noncomputable def known6 : CallF := envDKnown
theorem known6_ok (hT : WOk T6) : CallOk Tryz.prog known6 := envDKnown_ok
noncomputable def envL6 (hT : WOk T6) : Env Tryz.prog drStatic := tab.env tab_ok (orKnown (withinKnown 8 T6) known6) (orKnown_ok (within_ok hT) (known6_ok hT))
theorem says6 (hT : WOk T6) : saysTrue (tF Tryz.prog (envL6 hT) 100000 (300 + 1) 4 [.sym .i64 0 (-9223372036854775808) 9223372036854775807, .sym .i64 1 (-9223372036854775808) 9223372036854775807] NHeap.empty) = true := by kernel_rfl
noncomputable def T7 : WT := [(0, 0, 20, .int .i64 7), (1, 0, 99, .sym .i64 2 0 99)]
noncomputable def base7 (hT : WOk T7) : Env Tryz.prog drStatic := tab.env tab_ok (orKnown (withinKnown 8 T7) envDKnown) (orKnown_ok (within_ok hT) envDKnown_ok)
noncomputable def known7 : CallF := envDKnown
theorem known7_ok (hT : WOk T7) : CallOk Tryz.prog known7 := envDKnown_ok
noncomputable def envL7 (hT : WOk T7) : Env Tryz.prog drStatic := tab.env tab_ok (orKnown (withinKnown 8 T7) known7) (orKnown_ok (within_ok hT) (known7_ok hT))
theorem says7 (hT : WOk T7) : saysTrue (tF Tryz.prog (envL7 hT) 100000 (300 + 1) 4 [.sym .i64 0 (-9223372036854775808) 9223372036854775807, .sym .i64 1 (-9223372036854775808) 9223372036854775807] NHeap.empty) = true := by kernel_rfl
noncomputable def T8 : WT := [(0, 0, 20, .int .i64 8), (1, 0, 99, .sym .i64 2 0 99)]
noncomputable def base8 (hT : WOk T8) : Env Tryz.prog drStatic := tab.env tab_ok (orKnown (withinKnown 8 T8) envDKnown) (orKnown_ok (within_ok hT) envDKnown_ok)
noncomputable def known8 : CallF := envDKnown
theorem known8_ok (hT : WOk T8) : CallOk Tryz.prog known8 := envDKnown_ok
noncomputable def envL8 (hT : WOk T8) : Env Tryz.prog drStatic := tab.env tab_ok (orKnown (withinKnown 8 T8) known8) (orKnown_ok (within_ok hT) (known8_ok hT))
theorem says8 (hT : WOk T8) : saysTrue (tF Tryz.prog (envL8 hT) 100000 (300 + 1) 4 [.sym .i64 0 (-9223372036854775808) 9223372036854775807, .sym .i64 1 (-9223372036854775808) 9223372036854775807] NHeap.empty) = true := by kernel_rfl
noncomputable def T9 : WT := [(0, 0, 20, .int .i64 9), (1, 0, 99, .sym .i64 2 0 99)]
noncomputable def base9 (hT : WOk T9) : Env Tryz.prog drStatic := tab.env tab_ok (orKnown (withinKnown 8 T9) envDKnown) (orKnown_ok (within_ok hT) envDKnown_ok)
noncomputable def known9 : CallF := envDKnown
theorem known9_ok (hT : WOk T9) : CallOk Tryz.prog known9 := envDKnown_ok
noncomputable def envL9 (hT : WOk T9) : Env Tryz.prog drStatic := tab.env tab_ok (orKnown (withinKnown 8 T9) known9) (orKnown_ok (within_ok hT) (known9_ok hT))
theorem says9 (hT : WOk T9) : saysTrue (tF Tryz.prog (envL9 hT) 100000 (300 + 1) 4 [.sym .i64 0 (-9223372036854775808) 9223372036854775807, .sym .i64 1 (-9223372036854775808) 9223372036854775807] NHeap.empty) = true := by kernel_rfl
end Go.Proofs.YtamcodigpocecaaGreat.putTurns
