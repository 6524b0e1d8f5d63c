/-
  DropPaths: what its row says of the program, fact by fact. No conditions.
-/
import Derived.Test.YtamcodigpocecaaGreatRows
import Derived.Test.YtamcodigpocecaaGreatNice26
import Derived.WalkKit
import Derived.ProofKit
namespace Go.Proofs.YtamcodigpocecaaGreat.dropPaths
open Go Go.RowKit Go.Proofs.YtamcodigpocecaaGreat.NICE
set_option maxRecDepth 100000

theorem k1 : Rows.dropPathsRow.wf (OpenSpec.ofChange Rows.dropPathsSpec) = true := by kernel_rfl
theorem k2 : laidOutB Tryz.prog = true := by kernel_rfl
theorem k3 : mapsRowed Tryz.prog = true := by kernel_rfl
theorem k4 : Tryz.f6.params.all (Tryz.prog.readableRec ·) = true := by kernel_rfl
theorem k5 : namedTie Tryz.prog Rows.dropPathsRow.named Rows.dropPathsSpec.vars = true := by kernel_rfl
theorem k6 : (Rows.dropPathsRow.stops == []) = true := by kernel_rfl
theorem k7 : (Tryz.prog.stops == []) = true := by kernel_rfl
theorem k8 : (Rows.dropPathsRow.knobs == []) = true := by kernel_rfl
theorem k9 : (Tryz.prog.stopKnobs == []) = true := by kernel_rfl
theorem k10 : (Rows.dropPathsRow.inPlace == Tryz.prog.inPlace 6) = true := by kernel_rfl
theorem k11 : (Rows.dropPathsRow.unfollowed == Tryz.prog.unfollowed 6) = true := by kernel_rfl
theorem k12 : (Rows.dropPathsRow.recurses == Tryz.prog.recurses 6) = true := by kernel_rfl
theorem k13 : (Rows.dropPathsRow.named == Tryz.prog.varsNamed 6) = true := by kernel_rfl
theorem k14 : (Rows.dropPathsRow.maps == (Tryz.f6.params.toList ++ Rows.dropPathsSpec.plain.varTypes Tryz.prog).any (Tryz.prog.mapsRec ·)) = true := by kernel_rfl
theorem k15 : (Rows.dropPathsRow.ifaces == (Tryz.f6.params.toList ++ Rows.dropPathsSpec.plain.varTypes Tryz.prog).any (Tryz.prog.ifacesRec ·)) = true := by kernel_rfl
theorem k16 : (Rows.dropPathsRow.mapsOut == Tryz.prog.mapsAmong Tryz.f6.resultTypes.toList) = true := by kernel_rfl
theorem k17 : (Rows.dropPathsRow.loops == (Tryz.f6.params.toList ++ Rows.dropPathsSpec.plain.varTypes Tryz.prog).any (Tryz.prog.loopsFrom ·)) = true := by kernel_rfl
theorem k18 : (Rows.dropPathsRow.wideKeys == (Tryz.f6.params.toList ++ Rows.dropPathsSpec.plain.varTypes Tryz.prog ++ Tryz.f6.resultTypes.toList).any (Tryz.prog.wideKeysFrom ·)) = true := by kernel_rfl
theorem k19 : Rows.dropPathsSpec.vars.all (Tryz.prog.varReadable ·) = true := by kernel_rfl
theorem k20 : Tryz.f6.resultTypes.all (fun t => Tryz.prog.readableRec t && decide (t < Tryz.prog.types.size)) = true := by kernel_rfl
theorem k21 : (Rows.dropPathsRow.ifacesOut == Tryz.f6.resultTypes.toList.any (Tryz.prog.ifacesRec ·)) = true := by kernel_rfl
theorem k22 : (Rows.dropPathsRow.loopsOut == Tryz.f6.resultTypes.toList.any (Tryz.prog.loopsFrom ·)) = true := by kernel_rfl
theorem k23 : (Rows.dropPathsRow.plainKeys == Tryz.prog.plainKeys) = true := by kernel_rfl
theorem k24 : Rows.dropPathsRow.shortTexts.isNone = true := by kernel_rfl
theorem k25 : Tryz.prog.stopsHeard = true := by kernel_rfl
theorem k26 : Tryz.prog.mayEnter = true := by kernel_rfl
theorem k27 : (Rows.dropPathsRow.lifted == Tryz.prog.liftsFinal) = true := by kernel_rfl
theorem k28 : (Tryz.prog.make == some Rows.dropPathsRow.make) = true := by kernel_rfl
theorem k29 : (Rows.dropPathsRow.kinds == (if Rows.dropPathsRow.domain.isEmpty then [] else Tryz.f6.params.toList.map fun t => match Tryz.prog.underlying t with | some (.int k) => some k | _ => none)) = true := by kernel_rfl
theorem k30 : (Rows.dropPathsRow.pinned == Rows.dropPathsRow.pinnedBy) = true := by kernel_rfl
theorem k31 : (Rows.dropPathsRow.veiled == (Tryz.f6.params.toList ++ Rows.dropPathsSpec.plain.varTypes Tryz.prog ++ Tryz.f6.resultTypes.toList).any (Tryz.prog.veiledRec ·)) = true := by kernel_rfl
theorem k32 : Rows.dropPathsRow.veiledFits Tryz.prog Tryz.f6.params.toList (Tryz.f6.params.toList ++ Rows.dropPathsSpec.plain.varTypes Tryz.prog ++ Tryz.f6.resultTypes.toList) = true := by kernel_rfl
theorem facts : joinedFacts Tryz.prog 6 Tryz.f6 Rows.dropPathsSpec Rows.dropPathsRow = true := joined_mk k1 k2 k3 k4 k5 k6 k7 k8 k9 k10 k11 k12 k13 k14 k15 k16 k17 k18 k19 k20 k21 k22 k23 k24 k25 k26 k27 k28 k29 k30 k31 k32
theorem named : Tryz.prog.funcNamed Rows.dropPathsRow.func = some 6 := by kernel_rfl
theorem inst : Tryz.f6.isInstance Tryz.prog Rows.dropPathsRow.origin Rows.dropPathsRow.targs := of_decide_eq_true (by kernel_rfl)
theorem wrap : Tryz.f6.isWrapper Tryz.prog Rows.dropPathsRow.wrapper Rows.dropPathsRow.mainSum := by
  unfold Func.isWrapper
  first | (rw [if_pos (by decide +kernel)]; kernel_rfl) | (rw [if_neg (by decide +kernel)]; exact ⟨rfl, rfl⟩)
end Go.Proofs.YtamcodigpocecaaGreat.dropPaths
