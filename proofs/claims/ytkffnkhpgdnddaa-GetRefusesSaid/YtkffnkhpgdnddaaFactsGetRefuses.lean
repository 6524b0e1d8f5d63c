/-
  GetRefuses: what its row says of the program, fact by fact. No conditions.
-/
import Derived.Test.YtkffnkhpgdnddaaRows
import Derived.Test.YtkffnkhpgdnddaaNice26
import Derived.WalkKit
import Derived.ProofKit
namespace Go.Proofs.Ytkffnkhpgdnddaa.getRefuses
open Go Go.RowKit Go.Proofs.Ytkffnkhpgdnddaa.NICE
set_option maxRecDepth 100000

theorem k1 : Rows.getRefusesRow.wf (OpenSpec.ofChange Rows.getRefusesSpec) = true := by kernel_rfl
theorem k2 : laidOutB Try.prog = true := by kernel_rfl
theorem k3 : mapsRowed Try.prog = true := by kernel_rfl
theorem k4 : Try.f6.params.all (Try.prog.readableRec ·) = true := by kernel_rfl
theorem k5 : namedTie Try.prog Rows.getRefusesRow.named Rows.getRefusesSpec.vars = true := by kernel_rfl
theorem k6 : (Rows.getRefusesRow.stops == []) = true := by kernel_rfl
theorem k7 : (Try.prog.stops == []) = true := by kernel_rfl
theorem k8 : (Rows.getRefusesRow.knobs == []) = true := by kernel_rfl
theorem k9 : (Try.prog.stopKnobs == []) = true := by kernel_rfl
theorem k10 : (Rows.getRefusesRow.inPlace == Try.prog.inPlace 6) = true := by kernel_rfl
theorem k11 : (Rows.getRefusesRow.unfollowed == Try.prog.unfollowed 6) = true := by kernel_rfl
theorem k12 : (Rows.getRefusesRow.recurses == Try.prog.recurses 6) = true := by kernel_rfl
theorem k13 : (Rows.getRefusesRow.named == Try.prog.varsNamed 6) = true := by kernel_rfl
theorem k14 : (Rows.getRefusesRow.maps == (Try.f6.params.toList ++ Rows.getRefusesSpec.plain.varTypes Try.prog).any (Try.prog.mapsRec ·)) = true := by kernel_rfl
theorem k15 : (Rows.getRefusesRow.ifaces == (Try.f6.params.toList ++ Rows.getRefusesSpec.plain.varTypes Try.prog).any (Try.prog.ifacesRec ·)) = true := by kernel_rfl
theorem k16 : (Rows.getRefusesRow.mapsOut == Try.prog.mapsAmong Try.f6.resultTypes.toList) = true := by kernel_rfl
theorem k17 : (Rows.getRefusesRow.loops == (Try.f6.params.toList ++ Rows.getRefusesSpec.plain.varTypes Try.prog).any (Try.prog.loopsFrom ·)) = true := by kernel_rfl
theorem k18 : (Rows.getRefusesRow.wideKeys == (Try.f6.params.toList ++ Rows.getRefusesSpec.plain.varTypes Try.prog ++ Try.f6.resultTypes.toList).any (Try.prog.wideKeysFrom ·)) = true := by kernel_rfl
theorem k19 : Rows.getRefusesSpec.vars.all (Try.prog.varReadable ·) = true := by kernel_rfl
theorem k20 : Try.f6.resultTypes.all (fun t => Try.prog.readableRec t && decide (t < Try.prog.types.size)) = true := by kernel_rfl
theorem k21 : (Rows.getRefusesRow.ifacesOut == Try.f6.resultTypes.toList.any (Try.prog.ifacesRec ·)) = true := by kernel_rfl
theorem k22 : (Rows.getRefusesRow.loopsOut == Try.f6.resultTypes.toList.any (Try.prog.loopsFrom ·)) = true := by kernel_rfl
theorem k23 : (Rows.getRefusesRow.plainKeys == Try.prog.plainKeys) = true := by kernel_rfl
theorem k24 : Rows.getRefusesRow.shortTexts.isNone = true := by kernel_rfl
theorem k25 : Try.prog.stopsHeard = true := by kernel_rfl
theorem k26 : Try.prog.mayEnter = true := by kernel_rfl
theorem k27 : (Rows.getRefusesRow.lifted == Try.prog.liftsFinal) = true := by kernel_rfl
theorem k28 : (Try.prog.make == some Rows.getRefusesRow.make) = true := by kernel_rfl
theorem k29 : (Rows.getRefusesRow.kinds == (if Rows.getRefusesRow.domain.isEmpty then [] else Try.f6.params.toList.map fun t => match Try.prog.underlying t with | some (.int k) => some k | _ => none)) = true := by kernel_rfl
theorem k30 : (Rows.getRefusesRow.pinned == Rows.getRefusesRow.pinnedBy) = true := by kernel_rfl
theorem k31 : (Rows.getRefusesRow.veiled == (Try.f6.params.toList ++ Rows.getRefusesSpec.plain.varTypes Try.prog ++ Try.f6.resultTypes.toList).any (Try.prog.veiledRec ·)) = true := by kernel_rfl
theorem k32 : Rows.getRefusesRow.veiledFits Try.prog Try.f6.params.toList (Try.f6.params.toList ++ Rows.getRefusesSpec.plain.varTypes Try.prog ++ Try.f6.resultTypes.toList) = true := by kernel_rfl
theorem facts : joinedFacts Try.prog 6 Try.f6 Rows.getRefusesSpec Rows.getRefusesRow = true := joined_mk k1 k2 k3 k4 k5 k6 k7 k8 k9 k10 k11 k12 k13 k14 k15 k16 k17 k18 k19 k20 k21 k22 k23 k24 k25 k26 k27 k28 k29 k30 k31 k32
theorem named : Try.prog.funcNamed Rows.getRefusesRow.func = some 6 := by kernel_rfl
theorem inst : Try.f6.isInstance Try.prog Rows.getRefusesRow.origin Rows.getRefusesRow.targs := of_decide_eq_true (by kernel_rfl)
theorem wrap : Try.f6.isWrapper Try.prog Rows.getRefusesRow.wrapper Rows.getRefusesRow.mainSum := by
  unfold Func.isWrapper
  first | (rw [if_pos (by decide +kernel)]; kernel_rfl) | (rw [if_neg (by decide +kernel)]; exact ⟨rfl, rfl⟩)
end Go.Proofs.Ytkffnkhpgdnddaa.getRefuses
