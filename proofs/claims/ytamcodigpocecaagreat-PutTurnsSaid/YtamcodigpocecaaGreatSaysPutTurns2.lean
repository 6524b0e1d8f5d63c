/-
  PutTurns, worked out over a heap of numbered blocks, its numbers told by their places: it says true. No conditions.
-/
import Derived.Test.YtamcodigpocecaaGreatWithin
import Derived.Test.YtamcodigpocecaaGreatMemoD
import Derived.Test.YtamcodigpocecaaGreatNice41
namespace Go.Proofs.YtamcodigpocecaaGreat.putTurns
open Go Go.Proofs.YtamcodigpocecaaGreat.NICE Go.Proofs.YtamcodigpocecaaGreat.S
set_option maxRecDepth 100000
set_option linter.unusedSectionVars false
variable [Syms]

noncomputable def T10 : WT := [(0, 0, 20, .int .i64 10), (1, 0, 99, .sym .i64 2 0 99)]
noncomputable def base10 (hT : WOk T10) : Env Tryz.prog drStatic := tab.env tab_ok (orKnown (withinKnown 8 T10) envDKnown) (orKnown_ok (within_ok hT) envDKnown_ok)
noncomputable def known10 : CallF := envDKnown
theorem known10_ok (hT : WOk T10) : CallOk Tryz.prog known10 := envDKnown_ok
noncomputable def envL10 (hT : WOk T10) : Env Tryz.prog drStatic := tab.env tab_ok (orKnown (withinKnown 8 T10) known10) (orKnown_ok (within_ok hT) (known10_ok hT))
theorem says10 (hT : WOk T10) : saysTrue (tF Tryz.prog (envL10 hT) 100000 (300 + 1) 4 [.sym .i64 0 (-9223372036854775808) 9223372036854775807, .sym .i64 1 (-9223372036854775808) 9223372036854775807] NHeap.empty) = true := by kernel_rfl
noncomputable def T11 : WT := [(0, 0, 20, .int .i64 11), (1, 0, 99, .sym .i64 2 0 99)]
noncomputable def base11 (hT : WOk T11) : Env Tryz.prog drStatic := tab.env tab_ok (orKnown (withinKnown 8 T11) envDKnown) (orKnown_ok (within_ok hT) envDKnown_ok)
noncomputable def known11 : CallF := envDKnown
theorem known11_ok (hT : WOk T11) : CallOk Tryz.prog known11 := envDKnown_ok
noncomputable def envL11 (hT : WOk T11) : Env Tryz.prog drStatic := tab.env tab_ok (orKnown (withinKnown 8 T11) known11) (orKnown_ok (within_ok hT) (known11_ok hT))
theorem says11 (hT : WOk T11) : saysTrue (tF Tryz.prog (envL11 hT) 100000 (300 + 1) 4 [.sym .i64 0 (-9223372036854775808) 9223372036854775807, .sym .i64 1 (-9223372036854775808) 9223372036854775807] NHeap.empty) = true := by kernel_rfl
noncomputable def T12 : WT := [(0, 0, 20, .int .i64 12), (1, 0, 99, .sym .i64 2 0 99)]
noncomputable def base12 (hT : WOk T12) : Env Tryz.prog drStatic := tab.env tab_ok (orKnown (withinKnown 8 T12) envDKnown) (orKnown_ok (within_ok hT) envDKnown_ok)
noncomputable def known12 : CallF := envDKnown
theorem known12_ok (hT : WOk T12) : CallOk Tryz.prog known12 := envDKnown_ok
noncomputable def envL12 (hT : WOk T12) : Env Tryz.prog drStatic := tab.env tab_ok (orKnown (withinKnown 8 T12) known12) (orKnown_ok (within_ok hT) (known12_ok hT))
theorem says12 (hT : WOk T12) : saysTrue (tF Tryz.prog (envL12 hT) 100000 (300 + 1) 4 [.sym .i64 0 (-9223372036854775808) 9223372036854775807, .sym .i64 1 (-9223372036854775808) 9223372036854775807] NHeap.empty) = true := by kernel_rfl
noncomputable def T13 : WT := [(0, 0, 20, .int .i64 13), (1, 0, 99, .sym .i64 2 0 99)]
noncomputable def base13 (hT : WOk T13) : Env Tryz.prog drStatic := tab.env tab_ok (orKnown (withinKnown 8 T13) envDKnown) (orKnown_ok (within_ok hT) envDKnown_ok)
noncomputable def known13 : CallF := envDKnown
theorem known13_ok (hT : WOk T13) : CallOk Tryz.prog known13 := envDKnown_ok
noncomputable def envL13 (hT : WOk T13) : Env Tryz.prog drStatic := tab.env tab_ok (orKnown (withinKnown 8 T13) known13) (orKnown_ok (within_ok hT) (known13_ok hT))
theorem says13 (hT : WOk T13) : saysTrue (tF Tryz.prog (envL13 hT) 100000 (300 + 1) 4 [.sym .i64 0 (-9223372036854775808) 9223372036854775807, .sym .i64 1 (-9223372036854775808) 9223372036854775807] NHeap.empty) = true := by kernel_rfl
noncomputable def T14 : WT := [(0, 0, 20, .int .i64 14), (1, 0, 99, .sym .i64 2 0 99)]
noncomputable def base14 (hT : WOk T14) : Env Tryz.prog drStatic := tab.env tab_ok (orKnown (withinKnown 8 T14) envDKnown) (orKnown_ok (within_ok hT) envDKnown_ok)
noncomputable def known14 : CallF := envDKnown
theorem known14_ok (hT : WOk T14) : CallOk Tryz.prog known14 := envDKnown_ok
noncomputable def envL14 (hT : WOk T14) : Env Tryz.prog drStatic := tab.env tab_ok (orKnown (withinKnown 8 T14) known14) (orKnown_ok (within_ok hT) (known14_ok hT))
theorem says14 (hT : WOk T14) : saysTrue (tF Tryz.prog (envL14 hT) 100000 (300 + 1) 4 [.sym .i64 0 (-9223372036854775808) 9223372036854775807, .sym .i64 1 (-9223372036854775808) 9223372036854775807] NHeap.empty) = true := by kernel_rfl
end Go.Proofs.YtamcodigpocecaaGreat.putTurns
