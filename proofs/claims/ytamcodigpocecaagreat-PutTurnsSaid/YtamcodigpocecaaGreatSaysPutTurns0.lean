/-
  PutTurns, worked out over a heap of numbered blocks, its numbers told by their places: it says true. No conditions.
-/
import Derived.Test.YtamcodigpocecaaGreatWithin
import Derived.Test.YtamcodigpocecaaGreatMemoD
import Derived.Test.YtamcodigpocecaaGreatNice41
namespace Go.Proofs.YtamcodigpocecaaGreat.putTurns
open Go Go.Proofs.YtamcodigpocecaaGreat.NICE Go.Proofs.YtamcodigpocecaaGreat.S
set_option maxRecDepth 100000
set_option linter.unusedSectionVars false
variable [Syms]

noncomputable def T0 : WT := [(0, 0, 20, .int .i64 0), (1, 0, 99, .sym .i64 2 0 99)]
noncomputable def base0 (hT : WOk T0) : Env Tryz.prog drStatic := tab.env tab_ok (orKnown (withinKnown 8 T0) envDKnown) (orKnown_ok (within_ok hT) envDKnown_ok)
noncomputable def known0 : CallF := envDKnown
theorem known0_ok (hT : WOk T0) : CallOk Tryz.prog known0 := envDKnown_ok
noncomputable def envL0 (hT : WOk T0) : Env Tryz.prog drStatic := tab.env tab_ok (orKnown (withinKnown 8 T0) known0) (orKnown_ok (within_ok hT) (known0_ok hT))
theorem says0 (hT : WOk T0) : saysTrue (tF Tryz.prog (envL0 hT) 100000 (300 + 1) 4 [.sym .i64 0 (-9223372036854775808) 9223372036854775807, .sym .i64 1 (-9223372036854775808) 9223372036854775807] NHeap.empty) = true := by kernel_rfl
noncomputable def T1 : WT := [(0, 0, 20, .int .i64 1), (1, 0, 99, .sym .i64 2 0 99)]
noncomputable def base1 (hT : WOk T1) : Env Tryz.prog drStatic := tab.env tab_ok (orKnown (withinKnown 8 T1) envDKnown) (orKnown_ok (within_ok hT) envDKnown_ok)
noncomputable def known1 : CallF := envDKnown
theorem known1_ok (hT : WOk T1) : CallOk Tryz.prog known1 := envDKnown_ok
noncomputable def envL1 (hT : WOk T1) : Env Tryz.prog drStatic := tab.env tab_ok (orKnown (withinKnown 8 T1) known1) (orKnown_ok (within_ok hT) (known1_ok hT))
theorem says1 (hT : WOk T1) : saysTrue (tF Tryz.prog (envL1 hT) 100000 (300 + 1) 4 [.sym .i64 0 (-9223372036854775808) 9223372036854775807, .sym .i64 1 (-9223372036854775808) 9223372036854775807] NHeap.empty) = true := by kernel_rfl
noncomputable def T2 : WT := [(0, 0, 20, .int .i64 2), (1, 0, 99, .sym .i64 2 0 99)]
noncomputable def base2 (hT : WOk T2) : Env Tryz.prog drStatic := tab.env tab_ok (orKnown (withinKnown 8 T2) envDKnown) (orKnown_ok (within_ok hT) envDKnown_ok)
noncomputable def known2 : CallF := envDKnown
theorem known2_ok (hT : WOk T2) : CallOk Tryz.prog known2 := envDKnown_ok
noncomputable def envL2 (hT : WOk T2) : Env Tryz.prog drStatic := tab.env tab_ok (orKnown (withinKnown 8 T2) known2) (orKnown_ok (within_ok hT) (known2_ok hT))
theorem says2 (hT : WOk T2) : saysTrue (tF Tryz.prog (envL2 hT) 100000 (300 + 1) 4 [.sym .i64 0 (-9223372036854775808) 9223372036854775807, .sym .i64 1 (-9223372036854775808) 9223372036854775807] NHeap.empty) = true := by kernel_rfl
noncomputable def T3 : WT := [(0, 0, 20, .int .i64 3), (1, 0, 99, .sym .i64 2 0 99)]
noncomputable def base3 (hT : WOk T3) : Env Tryz.prog drStatic := tab.env tab_ok (orKnown (withinKnown 8 T3) envDKnown) (orKnown_ok (within_ok hT) envDKnown_ok)
noncomputable def known3 : CallF := envDKnown
theorem known3_ok (hT : WOk T3) : CallOk Tryz.prog known3 := envDKnown_ok
noncomputable def envL3 (hT : WOk T3) : Env Tryz.prog drStatic := tab.env tab_ok (orKnown (withinKnown 8 T3) known3) (orKnown_ok (within_ok hT) (known3_ok hT))
theorem says3 (hT : WOk T3) : saysTrue (tF Tryz.prog (envL3 hT) 100000 (300 + 1) 4 [.sym .i64 0 (-9223372036854775808) 9223372036854775807, .sym .i64 1 (-9223372036854775808) 9223372036854775807] NHeap.empty) = true := by kernel_rfl
noncomputable def T4 : WT := [(0, 0, 20, .int .i64 4), (1, 0, 99, .sym .i64 2 0 99)]
noncomputable def base4 (hT : WOk T4) : Env Tryz.prog drStatic := tab.env tab_ok (orKnown (withinKnown 8 T4) envDKnown) (orKnown_ok (within_ok hT) envDKnown_ok)
noncomputable def known4 : CallF := envDKnown
theorem known4_ok (hT : WOk T4) : CallOk Tryz.prog known4 := envDKnown_ok
noncomputable def envL4 (hT : WOk T4) : Env Tryz.prog drStatic := tab.env tab_ok (orKnown (withinKnown 8 T4) known4) (orKnown_ok (within_ok hT) (known4_ok hT))
theorem says4 (hT : WOk T4) : saysTrue (tF Tryz.prog (envL4 hT) 100000 (300 + 1) 4 [.sym .i64 0 (-9223372036854775808) 9223372036854775807, .sym .i64 1 (-9223372036854775808) 9223372036854775807] NHeap.empty) = true := by kernel_rfl
end Go.Proofs.YtamcodigpocecaaGreat.putTurns
