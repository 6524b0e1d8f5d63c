/-
  ScanRefuses: what its row says of the program, fact by fact. No conditions.
-/
import Derived.Test.YtkffnkhpgdnddaaRows
import Derived.Test.YtkffnkhpgdnddaaNice26
import Derived.WalkKit
import Derived.ProofKit
namespace Go.Proofs.Ytkffnkhpgdnddaa.scanRefuses
open Go Go.RowKit Go.Proofs.Ytkffnkhpgdnddaa.NICE
set_option maxRecDepth 100000

theorem k1 : Rows.scanRefusesRow.wf (OpenSpec.ofChange Rows.scanRefusesSpec) = true := by kernel_rfl
theorem k2 : laidOutB Try.prog = true := by kernel_rfl
theorem k3 : mapsRowed Try.prog = true := by kernel_rfl
theorem k4 : Try.f4.params.all (Try.prog.readableRec ·) = true := by kernel_rfl
theorem k5 : namedTie Try.prog Rows.scanRefusesRow.named Rows.scanRefusesSpec.vars = true := by kernel_rfl
theorem k6 : (Rows.scanRefusesRow.stops == []) = true := by kernel_rfl
theorem k7 : (Try.prog.stops == []) = true := by kernel_rfl
theorem k8 : (Rows.scanRefusesRow.knobs == []) = true := by kernel_rfl
theorem k9 : (Try.prog.stopKnobs == []) = true := by kernel_rfl
theorem k10 : (Rows.scanRefusesRow.inPlace == Try.prog.inPlace 4) = true := by kernel_rfl
theorem k11 : (Rows.scanRefusesRow.unfollowed == Try.prog.unfollowed 4) = true := by kernel_rfl
theorem k12 : (Rows.scanRefusesRow.recurses == Try.prog.recurses 4) = true := by kernel_rfl
theorem k13 : (Rows.scanRefusesRow.named == Try.prog.varsNamed 4) = true := by kernel_rfl
theorem k14 : (Rows.scanRefusesRow.maps == (Try.f4.params.toList ++ Rows.scanRefusesSpec.plain.varTypes Try.prog).any (Try.prog.mapsRec ·)) = true := by kernel_rfl
theorem k15 : (Rows.scanRefusesRow.ifaces == (Try.f4.params.toList ++ Rows.scanRefusesSpec.plain.varTypes Try.prog).any (Try.prog.ifacesRec ·)) = true := by kernel_rfl
theorem k16 : (Rows.scanRefusesRow.mapsOut == Try.prog.mapsAmong Try.f4.resultTypes.toList) = true := by kernel_rfl
theorem k17 : (Rows.scanRefusesRow.loops == (Try.f4.params.toList ++ Rows.scanRefusesSpec.plain.varTypes Try.prog).any (Try.prog.loopsFrom ·)) = true := by kernel_rfl
theorem k18 : (Rows.scanRefusesRow.wideKeys == (Try.f4.params.toList ++ Rows.scanRefusesSpec.plain.varTypes Try.prog ++ Try.f4.resultTypes.toList).any (Try.prog.wideKeysFrom ·)) = true := by kernel_rfl
theorem k19 : Rows.scanRefusesSpec.vars.all (Try.prog.varReadable ·) = true := by kernel_rfl
theorem k20 : Try.f4.resultTypes.all (fun t => Try.prog.readableRec t && decide (t < Try.prog.types.size)) = true := by kernel_rfl
theorem k21 : (Rows.scanRefusesRow.ifacesOut == Try.f4.resultTypes.toList.any (Try.prog.ifacesRec ·)) = true := by kernel_rfl
theorem k22 : (Rows.scanRefusesRow.loopsOut == Try.f4.resultTypes.toList.any (Try.prog.loopsFrom ·)) = true := by kernel_rfl
theorem k23 : (Rows.scanRefusesRow.plainKeys == Try.prog.plainKeys) = true := by kernel_rfl
theorem k24 : Rows.scanRefusesRow.shortTexts.isNone = true := by kernel_rfl
theorem k25 : Try.prog.stopsHeard = true := by kernel_rfl
theorem k26 : Try.prog.mayEnter = true := by kernel_rfl
theorem k27 : (Rows.scanRefusesRow.lifted == Try.prog.liftsFinal) = true := by kernel_rfl
theorem k28 : (Try.prog.make == some Rows.scanRefusesRow.make) = true := by kernel_rfl
theorem k29 : (Rows.scanRefusesRow.kinds == (if Rows.scanRefusesRow.domain.isEmpty then [] else Try.f4.params.toList.map fun t => match Try.prog.underlying t with | some (.int k) => some k | _ => none)) = true := by kernel_rfl
theorem k30 : (Rows.scanRefusesRow.pinned == Rows.scanRefusesRow.pinnedBy) = true := by kernel_rfl
theorem k31 : (Rows.scanRefusesRow.veiled == (Try.f4.params.toList ++ Rows.scanRefusesSpec.plain.varTypes Try.prog ++ Try.f4.resultTypes.toList).any (Try.prog.veiledRec ·)) = true := by kernel_rfl
theorem k32 : Rows.scanRefusesRow.veiledFits Try.prog Try.f4.params.toList (Try.f4.params.toList ++ Rows.scanRefusesSpec.plain.varTypes Try.prog ++ Try.f4.resultTypes.toList) = true := by kernel_rfl
theorem facts : joinedFacts Try.prog 4 Try.f4 Rows.scanRefusesSpec Rows.scanRefusesRow = true := joined_mk k1 k2 k3 k4 k5 k6 k7 k8 k9 k10 k11 k12 k13 k14 k15 k16 k17 k18 k19 k20 k21 k22 k23 k24 k25 k26 k27 k28 k29 k30 k31 k32
theorem named : Try.prog.funcNamed Rows.scanRefusesRow.func = some 4 := by kernel_rfl
theorem inst : Try.f4.isInstance Try.prog Rows.scanRefusesRow.origin Rows.scanRefusesRow.targs := of_decide_eq_true (by kernel_rfl)
theorem wrap : Try.f4.isWrapper Try.prog Rows.scanRefusesRow.wrapper Rows.scanRefusesRow.mainSum := by
  unfold Func.isWrapper
  first | (rw [if_pos (by decide +kernel)]; kernel_rfl) | (rw [if_neg (by decide +kernel)]; exact ⟨rfl, rfl⟩)
end Go.Proofs.Ytkffnkhpgdnddaa.scanRefuses
