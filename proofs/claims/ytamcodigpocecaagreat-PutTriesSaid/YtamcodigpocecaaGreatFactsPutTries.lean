/-
  PutTries: what its row says of the program, fact by fact. No conditions.
-/
import Derived.Test.YtamcodigpocecaaGreatRows
import Derived.Test.YtamcodigpocecaaGreatNice26
import Derived.WalkKit
import Derived.ProofKit
namespace Go.Proofs.YtamcodigpocecaaGreat.putTries
open Go Go.RowKit Go.Proofs.YtamcodigpocecaaGreat.NICE
set_option maxRecDepth 100000

theorem k1 : Rows.putTriesRow.wf (OpenSpec.ofChange Rows.putTriesSpec) = true := by kernel_rfl
theorem k2 : laidOutB Tryz.prog = true := by kernel_rfl
theorem k3 : mapsRowed Tryz.prog = true := by kernel_rfl
theorem k4 : Tryz.f5.params.all (Tryz.prog.readableRec ·) = true := by kernel_rfl
theorem k5 : namedTie Tryz.prog Rows.putTriesRow.named Rows.putTriesSpec.vars = true := by kernel_rfl
theorem k6 : (Rows.putTriesRow.stops == []) = true := by kernel_rfl
theorem k7 : (Tryz.prog.stops == []) = true := by kernel_rfl
theorem k8 : (Rows.putTriesRow.knobs == []) = true := by kernel_rfl
theorem k9 : (Tryz.prog.stopKnobs == []) = true := by kernel_rfl
theorem k10 : (Rows.putTriesRow.inPlace == Tryz.prog.inPlace 5) = true := by kernel_rfl
theorem k11 : (Rows.putTriesRow.unfollowed == Tryz.prog.unfollowed 5) = true := by kernel_rfl
theorem k12 : (Rows.putTriesRow.recurses == Tryz.prog.recurses 5) = true := by kernel_rfl
theorem k13 : (Rows.putTriesRow.named == Tryz.prog.varsNamed 5) = true := by kernel_rfl
theorem k14 : (Rows.putTriesRow.maps == (Tryz.f5.params.toList ++ Rows.putTriesSpec.plain.varTypes Tryz.prog).any (Tryz.prog.mapsRec ·)) = true := by kernel_rfl
theorem k15 : (Rows.putTriesRow.ifaces == (Tryz.f5.params.toList ++ Rows.putTriesSpec.plain.varTypes Tryz.prog).any (Tryz.prog.ifacesRec ·)) = true := by kernel_rfl
theorem k16 : (Rows.putTriesRow.mapsOut == Tryz.prog.mapsAmong Tryz.f5.resultTypes.toList) = true := by kernel_rfl
theorem k17 : (Rows.putTriesRow.loops == (Tryz.f5.params.toList ++ Rows.putTriesSpec.plain.varTypes Tryz.prog).any (Tryz.prog.loopsFrom ·)) = true := by kernel_rfl
theorem k18 : (Rows.putTriesRow.wideKeys == (Tryz.f5.params.toList ++ Rows.putTriesSpec.plain.varTypes Tryz.prog ++ Tryz.f5.resultTypes.toList).any (Tryz.prog.wideKeysFrom ·)) = true := by kernel_rfl
theorem k19 : Rows.putTriesSpec.vars.all (Tryz.prog.varReadable ·) = true := by kernel_rfl
theorem k20 : Tryz.f5.resultTypes.all (fun t => Tryz.prog.readableRec t && decide (t < Tryz.prog.types.size)) = true := by kernel_rfl
theorem k21 : (Rows.putTriesRow.ifacesOut == Tryz.f5.resultTypes.toList.any (Tryz.prog.ifacesRec ·)) = true := by kernel_rfl
theorem k22 : (Rows.putTriesRow.loopsOut == Tryz.f5.resultTypes.toList.any (Tryz.prog.loopsFrom ·)) = true := by kernel_rfl
theorem k23 : (Rows.putTriesRow.plainKeys == Tryz.prog.plainKeys) = true := by kernel_rfl
theorem k24 : Rows.putTriesRow.shortTexts.isNone = true := by kernel_rfl
theorem k25 : Tryz.prog.stopsHeard = true := by kernel_rfl
theorem k26 : Tryz.prog.mayEnter = true := by kernel_rfl
theorem k27 : (Rows.putTriesRow.lifted == Tryz.prog.liftsFinal) = true := by kernel_rfl
theorem k28 : (Tryz.prog.make == some Rows.putTriesRow.make) = true := by kernel_rfl
theorem k29 : (Rows.putTriesRow.kinds == (if Rows.putTriesRow.domain.isEmpty then [] else Tryz.f5.params.toList.map fun t => match Tryz.prog.underlying t with | some (.int k) => some k | _ => none)) = true := by kernel_rfl
theorem k30 : (Rows.putTriesRow.pinned == Rows.putTriesRow.pinnedBy) = true := by kernel_rfl
theorem k31 : (Rows.putTriesRow.veiled == (Tryz.f5.params.toList ++ Rows.putTriesSpec.plain.varTypes Tryz.prog ++ Tryz.f5.resultTypes.toList).any (Tryz.prog.veiledRec ·)) = true := by kernel_rfl
theorem k32 : Rows.putTriesRow.veiledFits Tryz.prog Tryz.f5.params.toList (Tryz.f5.params.toList ++ Rows.putTriesSpec.plain.varTypes Tryz.prog ++ Tryz.f5.resultTypes.toList) = true := by kernel_rfl
theorem facts : joinedFacts Tryz.prog 5 Tryz.f5 Rows.putTriesSpec Rows.putTriesRow = true := joined_mk k1 k2 k3 k4 k5 k6 k7 k8 k9 k10 k11 k12 k13 k14 k15 k16 k17 k18 k19 k20 k21 k22 k23 k24 k25 k26 k27 k28 k29 k30 k31 k32
theorem named : Tryz.prog.funcNamed Rows.putTriesRow.func = some 5 := by kernel_rfl
theorem inst : Tryz.f5.isInstance Tryz.prog Rows.putTriesRow.origin Rows.putTriesRow.targs := of_decide_eq_true (by kernel_rfl)
theorem wrap : Tryz.f5.isWrapper Tryz.prog Rows.putTriesRow.wrapper Rows.putTriesRow.mainSum := by
  unfold Func.isWrapper
  first | (rw [if_pos (by decide +kernel)]; kernel_rfl) | (rw [if_neg (by decide +kernel)]; exact ⟨rfl, rfl⟩)
end Go.Proofs.YtamcodigpocecaaGreat.putTries
