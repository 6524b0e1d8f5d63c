/-
  ScriptTerms: what its row says of the program, fact by fact. No conditions.
-/
import Derived.Test.YtfgoajnoahhghaaGreatDoorRows
import Derived.Test.YtfgoajnoahhghaaGreatDoorNice26
import Derived.WalkKit
import Derived.ProofKit
namespace Go.Proofs.YtfgoajnoahhghaaGreatDoor.scriptTerms
open Go Go.RowKit Go.Proofs.YtfgoajnoahhghaaGreatDoor.NICE
set_option maxRecDepth 100000

theorem k1 : Rows.scriptTermsRow.wf (OpenSpec.ofChange Rows.scriptTermsSpec) = true := by kernel_rfl
theorem k2 : laidOutB Tryz.prog = true := by kernel_rfl
theorem k3 : mapsRowed Tryz.prog = true := by kernel_rfl
theorem k4 : Tryz.f7.params.all (Tryz.prog.readableRec ·) = true := by kernel_rfl
theorem k5 : namedTie Tryz.prog Rows.scriptTermsRow.named Rows.scriptTermsSpec.vars = true := by kernel_rfl
theorem k6 : (Rows.scriptTermsRow.stops == []) = true := by kernel_rfl
theorem k7 : (Tryz.prog.stops == []) = true := by kernel_rfl
theorem k8 : (Rows.scriptTermsRow.knobs == []) = true := by kernel_rfl
theorem k9 : (Tryz.prog.stopKnobs == []) = true := by kernel_rfl
theorem k10 : (Rows.scriptTermsRow.inPlace == Tryz.prog.inPlace 7) = true := by kernel_rfl
theorem k11 : (Rows.scriptTermsRow.unfollowed == Tryz.prog.unfollowed 7) = true := by kernel_rfl
theorem k12 : (Rows.scriptTermsRow.recurses == Tryz.prog.recurses 7) = true := by kernel_rfl
theorem k13 : (Rows.scriptTermsRow.named == Tryz.prog.varsNamed 7) = true := by kernel_rfl
theorem k14 : (Rows.scriptTermsRow.maps == (Tryz.f7.params.toList ++ Rows.scriptTermsSpec.plain.varTypes Tryz.prog).any (Tryz.prog.mapsRec ·)) = true := by kernel_rfl
theorem k15 : (Rows.scriptTermsRow.ifaces == (Tryz.f7.params.toList ++ Rows.scriptTermsSpec.plain.varTypes Tryz.prog).any (Tryz.prog.ifacesRec ·)) = true := by kernel_rfl
theorem k16 : (Rows.scriptTermsRow.mapsOut == Tryz.prog.mapsAmong Tryz.f7.resultTypes.toList) = true := by kernel_rfl
theorem k17 : (Rows.scriptTermsRow.loops == (Tryz.f7.params.toList ++ Rows.scriptTermsSpec.plain.varTypes Tryz.prog).any (Tryz.prog.loopsFrom ·)) = true := by kernel_rfl
theorem k18 : (Rows.scriptTermsRow.wideKeys == (Tryz.f7.params.toList ++ Rows.scriptTermsSpec.plain.varTypes Tryz.prog ++ Tryz.f7.resultTypes.toList).any (Tryz.prog.wideKeysFrom ·)) = true := by kernel_rfl
theorem k19 : Rows.scriptTermsSpec.vars.all (Tryz.prog.varReadable ·) = true := by kernel_rfl
theorem k20 : Tryz.f7.resultTypes.all (fun t => Tryz.prog.readableRec t && decide (t < Tryz.prog.types.size)) = true := by kernel_rfl
theorem k21 : (Rows.scriptTermsRow.ifacesOut == Tryz.f7.resultTypes.toList.any (Tryz.prog.ifacesRec ·)) = true := by kernel_rfl
theorem k22 : (Rows.scriptTermsRow.loopsOut == Tryz.f7.resultTypes.toList.any (Tryz.prog.loopsFrom ·)) = true := by kernel_rfl
theorem k23 : (Rows.scriptTermsRow.plainKeys == Tryz.prog.plainKeys) = true := by kernel_rfl
theorem k24 : Rows.scriptTermsRow.shortTexts.isNone = true := by kernel_rfl
theorem k25 : Tryz.prog.stopsHeard = true := by kernel_rfl
theorem k26 : Tryz.prog.mayEnter = true := by kernel_rfl
theorem k27 : (Rows.scriptTermsRow.lifted == Tryz.prog.liftsFinal) = true := by kernel_rfl
theorem k28 : (Tryz.prog.make == some Rows.scriptTermsRow.make) = true := by kernel_rfl
theorem k29 : (Rows.scriptTermsRow.kinds == (if Rows.scriptTermsRow.domain.isEmpty then [] else Tryz.f7.params.toList.map fun t => match Tryz.prog.underlying t with | some (.int k) => some k | _ => none)) = true := by kernel_rfl
theorem k30 : (Rows.scriptTermsRow.pinned == Rows.scriptTermsRow.pinnedBy) = true := by kernel_rfl
theorem k31 : (Rows.scriptTermsRow.veiled == (Tryz.f7.params.toList ++ Rows.scriptTermsSpec.plain.varTypes Tryz.prog ++ Tryz.f7.resultTypes.toList).any (Tryz.prog.veiledRec ·)) = true := by kernel_rfl
theorem k32 : Rows.scriptTermsRow.veiledFits Tryz.prog Tryz.f7.params.toList (Tryz.f7.params.toList ++ Rows.scriptTermsSpec.plain.varTypes Tryz.prog ++ Tryz.f7.resultTypes.toList) = true := by kernel_rfl
theorem facts : joinedFacts Tryz.prog 7 Tryz.f7 Rows.scriptTermsSpec Rows.scriptTermsRow = true := joined_mk k1 k2 k3 k4 k5 k6 k7 k8 k9 k10 k11 k12 k13 k14 k15 k16 k17 k18 k19 k20 k21 k22 k23 k24 k25 k26 k27 k28 k29 k30 k31 k32
theorem named : Tryz.prog.funcNamed Rows.scriptTermsRow.func = some 7 := by kernel_rfl
theorem inst : Tryz.f7.isInstance Tryz.prog Rows.scriptTermsRow.origin Rows.scriptTermsRow.targs := of_decide_eq_true (by kernel_rfl)
theorem wrap : Tryz.f7.isWrapper Tryz.prog Rows.scriptTermsRow.wrapper Rows.scriptTermsRow.mainSum := by
  unfold Func.isWrapper
  first | (rw [if_pos (by decide +kernel)]; kernel_rfl) | (rw [if_neg (by decide +kernel)]; exact ⟨rfl, rfl⟩)
end Go.Proofs.YtfgoajnoahhghaaGreatDoor.scriptTerms
