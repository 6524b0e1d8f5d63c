/-
  TreeRight: what its row says of the program, fact by fact. No conditions.
-/
import Derived.Test.YtfgoajnoahhghaaGreatRows
import Derived.Test.YtfgoajnoahhghaaGreatNice26
import Derived.WalkKit
import Derived.ProofKit
namespace Go.Proofs.YtfgoajnoahhghaaGreat.treeRight
open Go Go.RowKit Go.Proofs.YtfgoajnoahhghaaGreat.NICE
set_option maxRecDepth 100000

theorem k1 : Rows.treeRightRow.wf (OpenSpec.ofChange Rows.treeRightSpec) = true := by kernel_rfl
theorem k2 : laidOutB Tryz.prog = true := by kernel_rfl
theorem k3 : mapsRowed Tryz.prog = true := by kernel_rfl
theorem k4 : Tryz.f3.params.all (Tryz.prog.readableRec ·) = true := by kernel_rfl
theorem k5 : namedTie Tryz.prog Rows.treeRightRow.named Rows.treeRightSpec.vars = true := by kernel_rfl
theorem k6 : (Rows.treeRightRow.stops == []) = true := by kernel_rfl
theorem k7 : (Tryz.prog.stops == []) = true := by kernel_rfl
theorem k8 : (Rows.treeRightRow.knobs == []) = true := by kernel_rfl
theorem k9 : (Tryz.prog.stopKnobs == []) = true := by kernel_rfl
theorem k10 : (Rows.treeRightRow.inPlace == Tryz.prog.inPlace 3) = true := by kernel_rfl
theorem k11 : (Rows.treeRightRow.unfollowed == Tryz.prog.unfollowed 3) = true := by kernel_rfl
theorem k12 : (Rows.treeRightRow.recurses == Tryz.prog.recurses 3) = true := by kernel_rfl
theorem k13 : (Rows.treeRightRow.named == Tryz.prog.varsNamed 3) = true := by kernel_rfl
theorem k14 : (Rows.treeRightRow.maps == (Tryz.f3.params.toList ++ Rows.treeRightSpec.plain.varTypes Tryz.prog).any (Tryz.prog.mapsRec ·)) = true := by kernel_rfl
theorem k15 : (Rows.treeRightRow.ifaces == (Tryz.f3.params.toList ++ Rows.treeRightSpec.plain.varTypes Tryz.prog).any (Tryz.prog.ifacesRec ·)) = true := by kernel_rfl
theorem k16 : (Rows.treeRightRow.mapsOut == Tryz.prog.mapsAmong Tryz.f3.resultTypes.toList) = true := by kernel_rfl
theorem k17 : (Rows.treeRightRow.loops == (Tryz.f3.params.toList ++ Rows.treeRightSpec.plain.varTypes Tryz.prog).any (Tryz.prog.loopsFrom ·)) = true := by kernel_rfl
theorem k18 : (Rows.treeRightRow.wideKeys == (Tryz.f3.params.toList ++ Rows.treeRightSpec.plain.varTypes Tryz.prog ++ Tryz.f3.resultTypes.toList).any (Tryz.prog.wideKeysFrom ·)) = true := by kernel_rfl
theorem k19 : Rows.treeRightSpec.vars.all (Tryz.prog.varReadable ·) = true := by kernel_rfl
theorem k20 : Tryz.f3.resultTypes.all (fun t => Tryz.prog.readableRec t && decide (t < Tryz.prog.types.size)) = true := by kernel_rfl
theorem k21 : (Rows.treeRightRow.ifacesOut == Tryz.f3.resultTypes.toList.any (Tryz.prog.ifacesRec ·)) = true := by kernel_rfl
theorem k22 : (Rows.treeRightRow.loopsOut == Tryz.f3.resultTypes.toList.any (Tryz.prog.loopsFrom ·)) = true := by kernel_rfl
theorem k23 : (Rows.treeRightRow.plainKeys == Tryz.prog.plainKeys) = true := by kernel_rfl
theorem k24 : Rows.treeRightRow.shortTexts.isNone = true := by kernel_rfl
theorem k25 : Tryz.prog.stopsHeard = true := by kernel_rfl
theorem k26 : Tryz.prog.mayEnter = true := by kernel_rfl
theorem k27 : (Rows.treeRightRow.lifted == Tryz.prog.liftsFinal) = true := by kernel_rfl
theorem k28 : (Tryz.prog.make == some Rows.treeRightRow.make) = true := by kernel_rfl
theorem k29 : (Rows.treeRightRow.kinds == (if Rows.treeRightRow.domain.isEmpty then [] else Tryz.f3.params.toList.map fun t => match Tryz.prog.underlying t with | some (.int k) => some k | _ => none)) = true := by kernel_rfl
theorem k30 : (Rows.treeRightRow.pinned == Rows.treeRightRow.pinnedBy) = true := by kernel_rfl
theorem k31 : (Rows.treeRightRow.veiled == (Tryz.f3.params.toList ++ Rows.treeRightSpec.plain.varTypes Tryz.prog ++ Tryz.f3.resultTypes.toList).any (Tryz.prog.veiledRec ·)) = true := by kernel_rfl
theorem k32 : Rows.treeRightRow.veiledFits Tryz.prog Tryz.f3.params.toList (Tryz.f3.params.toList ++ Rows.treeRightSpec.plain.varTypes Tryz.prog ++ Tryz.f3.resultTypes.toList) = true := by kernel_rfl
theorem facts : joinedFacts Tryz.prog 3 Tryz.f3 Rows.treeRightSpec Rows.treeRightRow = true := joined_mk k1 k2 k3 k4 k5 k6 k7 k8 k9 k10 k11 k12 k13 k14 k15 k16 k17 k18 k19 k20 k21 k22 k23 k24 k25 k26 k27 k28 k29 k30 k31 k32
theorem named : Tryz.prog.funcNamed Rows.treeRightRow.func = some 3 := by kernel_rfl
theorem inst : Tryz.f3.isInstance Tryz.prog Rows.treeRightRow.origin Rows.treeRightRow.targs := of_decide_eq_true (by kernel_rfl)
theorem wrap : Tryz.f3.isWrapper Tryz.prog Rows.treeRightRow.wrapper Rows.treeRightRow.mainSum := by
  unfold Func.isWrapper
  first | (rw [if_pos (by decide +kernel)]; kernel_rfl) | (rw [if_neg (by decide +kernel)]; exact ⟨rfl, rfl⟩)
end Go.Proofs.YtfgoajnoahhghaaGreat.treeRight
