/-
  DrainRuns: what its row says of the program, fact by fact. No conditions.
-/
import Derived.Test.YtkffnkhpgdnddaaGreatRows
import Derived.Test.YtkffnkhpgdnddaaGreatNice26
import Derived.WalkKit
import Derived.ProofKit
namespace Go.Proofs.YtkffnkhpgdnddaaGreat.drainRuns
open Go Go.RowKit Go.Proofs.YtkffnkhpgdnddaaGreat.NICE
set_option maxRecDepth 100000

theorem k1 : Rows.drainRunsRow.wf (OpenSpec.ofChange Rows.drainRunsSpec) = true := by kernel_rfl
theorem k2 : laidOutB Tryz.prog = true := by kernel_rfl
theorem k3 : mapsRowed Tryz.prog = true := by kernel_rfl
theorem k4 : Tryz.f8.params.all (Tryz.prog.readableRec ·) = true := by kernel_rfl
theorem k5 : namedTie Tryz.prog Rows.drainRunsRow.named Rows.drainRunsSpec.vars = true := by kernel_rfl
theorem k6 : (Rows.drainRunsRow.stops == []) = true := by kernel_rfl
theorem k7 : (Tryz.prog.stops == []) = true := by kernel_rfl
theorem k8 : (Rows.drainRunsRow.knobs == []) = true := by kernel_rfl
theorem k9 : (Tryz.prog.stopKnobs == []) = true := by kernel_rfl
theorem k10 : (Rows.drainRunsRow.inPlace == Tryz.prog.inPlace 8) = true := by kernel_rfl
theorem k11 : (Rows.drainRunsRow.unfollowed == Tryz.prog.unfollowed 8) = true := by kernel_rfl
theorem k12 : (Rows.drainRunsRow.recurses == Tryz.prog.recurses 8) = true := by kernel_rfl
theorem k13 : (Rows.drainRunsRow.named == Tryz.prog.varsNamed 8) = true := by kernel_rfl
theorem k14 : (Rows.drainRunsRow.maps == (Tryz.f8.params.toList ++ Rows.drainRunsSpec.plain.varTypes Tryz.prog).any (Tryz.prog.mapsRec ·)) = true := by kernel_rfl
theorem k15 : (Rows.drainRunsRow.ifaces == (Tryz.f8.params.toList ++ Rows.drainRunsSpec.plain.varTypes Tryz.prog).any (Tryz.prog.ifacesRec ·)) = true := by kernel_rfl
theorem k16 : (Rows.drainRunsRow.mapsOut == Tryz.prog.mapsAmong Tryz.f8.resultTypes.toList) = true := by kernel_rfl
theorem k17 : (Rows.drainRunsRow.loops == (Tryz.f8.params.toList ++ Rows.drainRunsSpec.plain.varTypes Tryz.prog).any (Tryz.prog.loopsFrom ·)) = true := by kernel_rfl
theorem k18 : (Rows.drainRunsRow.wideKeys == (Tryz.f8.params.toList ++ Rows.drainRunsSpec.plain.varTypes Tryz.prog ++ Tryz.f8.resultTypes.toList).any (Tryz.prog.wideKeysFrom ·)) = true := by kernel_rfl
theorem k19 : Rows.drainRunsSpec.vars.all (Tryz.prog.varReadable ·) = true := by kernel_rfl
theorem k20 : Tryz.f8.resultTypes.all (fun t => Tryz.prog.readableRec t && decide (t < Tryz.prog.types.size)) = true := by kernel_rfl
theorem k21 : (Rows.drainRunsRow.ifacesOut == Tryz.f8.resultTypes.toList.any (Tryz.prog.ifacesRec ·)) = true := by kernel_rfl
theorem k22 : (Rows.drainRunsRow.loopsOut == Tryz.f8.resultTypes.toList.any (Tryz.prog.loopsFrom ·)) = true := by kernel_rfl
theorem k23 : (Rows.drainRunsRow.plainKeys == Tryz.prog.plainKeys) = true := by kernel_rfl
theorem k24 : Rows.drainRunsRow.shortTexts.isNone = true := by kernel_rfl
theorem k25 : Tryz.prog.stopsHeard = true := by kernel_rfl
theorem k26 : Tryz.prog.mayEnter = true := by kernel_rfl
theorem k27 : (Rows.drainRunsRow.lifted == Tryz.prog.liftsFinal) = true := by kernel_rfl
theorem k28 : (Tryz.prog.make == some Rows.drainRunsRow.make) = true := by kernel_rfl
theorem k29 : (Rows.drainRunsRow.kinds == (if Rows.drainRunsRow.domain.isEmpty then [] else Tryz.f8.params.toList.map fun t => match Tryz.prog.underlying t with | some (.int k) => some k | _ => none)) = true := by kernel_rfl
theorem k30 : (Rows.drainRunsRow.pinned == Rows.drainRunsRow.pinnedBy) = true := by kernel_rfl
theorem k31 : (Rows.drainRunsRow.veiled == (Tryz.f8.params.toList ++ Rows.drainRunsSpec.plain.varTypes Tryz.prog ++ Tryz.f8.resultTypes.toList).any (Tryz.prog.veiledRec ·)) = true := by kernel_rfl
theorem k32 : Rows.drainRunsRow.veiledFits Tryz.prog Tryz.f8.params.toList (Tryz.f8.params.toList ++ Rows.drainRunsSpec.plain.varTypes Tryz.prog ++ Tryz.f8.resultTypes.toList) = true := by kernel_rfl
theorem facts : joinedFacts Tryz.prog 8 Tryz.f8 Rows.drainRunsSpec Rows.drainRunsRow = true := joined_mk k1 k2 k3 k4 k5 k6 k7 k8 k9 k10 k11 k12 k13 k14 k15 k16 k17 k18 k19 k20 k21 k22 k23 k24 k25 k26 k27 k28 k29 k30 k31 k32
theorem named : Tryz.prog.funcNamed Rows.drainRunsRow.func = some 8 := by kernel_rfl
theorem inst : Tryz.f8.isInstance Tryz.prog Rows.drainRunsRow.origin Rows.drainRunsRow.targs := of_decide_eq_true (by kernel_rfl)
theorem wrap : Tryz.f8.isWrapper Tryz.prog Rows.drainRunsRow.wrapper Rows.drainRunsRow.mainSum := by
  unfold Func.isWrapper
  first | (rw [if_pos (by decide +kernel)]; kernel_rfl) | (rw [if_neg (by decide +kernel)]; exact ⟨rfl, rfl⟩)
end Go.Proofs.YtkffnkhpgdnddaaGreat.drainRuns
