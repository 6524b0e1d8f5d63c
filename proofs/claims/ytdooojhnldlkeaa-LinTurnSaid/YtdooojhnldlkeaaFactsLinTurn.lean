/-
  LinTurn: what its row says of the program, fact by fact. No conditions.
-/
import Derived.Test.YtdooojhnldlkeaaRows
import Derived.Test.YtdooojhnldlkeaaNice26
import Derived.WalkKit
import Derived.ProofKit
namespace Go.Proofs.Ytdooojhnldlkeaa.linTurn
open Go Go.RowKit Go.Proofs.Ytdooojhnldlkeaa.NICE
set_option maxRecDepth 100000

theorem k1 : Rows.linTurnRow.wf (OpenSpec.ofChange Rows.linTurnSpec) = true := by kernel_rfl
theorem k2 : laidOutB Try.prog = true := by kernel_rfl
theorem k3 : mapsRowed Try.prog = true := by kernel_rfl
theorem k4 : Try.f5.params.all (Try.prog.readableRec ·) = true := by kernel_rfl
theorem k5 : namedTie Try.prog Rows.linTurnRow.named Rows.linTurnSpec.vars = true := by kernel_rfl
theorem k6 : (Rows.linTurnRow.stops == []) = true := by kernel_rfl
theorem k7 : (Try.prog.stops == []) = true := by kernel_rfl
theorem k8 : (Rows.linTurnRow.knobs == []) = true := by kernel_rfl
theorem k9 : (Try.prog.stopKnobs == []) = true := by kernel_rfl
theorem k10 : (Rows.linTurnRow.inPlace == Try.prog.inPlace 5) = true := by kernel_rfl
theorem k11 : (Rows.linTurnRow.unfollowed == Try.prog.unfollowed 5) = true := by kernel_rfl
theorem k12 : (Rows.linTurnRow.recurses == Try.prog.recurses 5) = true := by kernel_rfl
theorem k13 : (Rows.linTurnRow.named == Try.prog.varsNamed 5) = true := by kernel_rfl
theorem k14 : (Rows.linTurnRow.maps == (Try.f5.params.toList ++ Rows.linTurnSpec.plain.varTypes Try.prog).any (Try.prog.mapsRec ·)) = true := by kernel_rfl
theorem k15 : (Rows.linTurnRow.ifaces == (Try.f5.params.toList ++ Rows.linTurnSpec.plain.varTypes Try.prog).any (Try.prog.ifacesRec ·)) = true := by kernel_rfl
theorem k16 : (Rows.linTurnRow.mapsOut == Try.prog.mapsAmong Try.f5.resultTypes.toList) = true := by kernel_rfl
theorem k17 : (Rows.linTurnRow.loops == (Try.f5.params.toList ++ Rows.linTurnSpec.plain.varTypes Try.prog).any (Try.prog.loopsFrom ·)) = true := by kernel_rfl
theorem k18 : (Rows.linTurnRow.wideKeys == (Try.f5.params.toList ++ Rows.linTurnSpec.plain.varTypes Try.prog ++ Try.f5.resultTypes.toList).any (Try.prog.wideKeysFrom ·)) = true := by kernel_rfl
theorem k19 : Rows.linTurnSpec.vars.all (Try.prog.varReadable ·) = true := by kernel_rfl
theorem k20 : Try.f5.resultTypes.all (fun t => Try.prog.readableRec t && decide (t < Try.prog.types.size)) = true := by kernel_rfl
theorem k21 : (Rows.linTurnRow.ifacesOut == Try.f5.resultTypes.toList.any (Try.prog.ifacesRec ·)) = true := by kernel_rfl
theorem k22 : (Rows.linTurnRow.loopsOut == Try.f5.resultTypes.toList.any (Try.prog.loopsFrom ·)) = true := by kernel_rfl
theorem k23 : (Rows.linTurnRow.plainKeys == Try.prog.plainKeys) = true := by kernel_rfl
theorem k24 : Rows.linTurnRow.shortTexts.isNone = true := by kernel_rfl
theorem k25 : Try.prog.stopsHeard = true := by kernel_rfl
theorem k26 : Try.prog.mayEnter = true := by kernel_rfl
theorem k27 : (Rows.linTurnRow.lifted == Try.prog.liftsFinal) = true := by kernel_rfl
theorem k28 : (Try.prog.make == some Rows.linTurnRow.make) = true := by kernel_rfl
theorem k29 : (Rows.linTurnRow.kinds == (if Rows.linTurnRow.domain.isEmpty then [] else Try.f5.params.toList.map fun t => match Try.prog.underlying t with | some (.int k) => some k | _ => none)) = true := by kernel_rfl
theorem k30 : (Rows.linTurnRow.pinned == Rows.linTurnRow.pinnedBy) = true := by kernel_rfl
theorem k31 : (Rows.linTurnRow.veiled == (Try.f5.params.toList ++ Rows.linTurnSpec.plain.varTypes Try.prog ++ Try.f5.resultTypes.toList).any (Try.prog.veiledRec ·)) = true := by kernel_rfl
theorem k32 : Rows.linTurnRow.veiledFits Try.prog Try.f5.params.toList (Try.f5.params.toList ++ Rows.linTurnSpec.plain.varTypes Try.prog ++ Try.f5.resultTypes.toList) = true := by kernel_rfl
theorem facts : joinedFacts Try.prog 5 Try.f5 Rows.linTurnSpec Rows.linTurnRow = true := joined_mk k1 k2 k3 k4 k5 k6 k7 k8 k9 k10 k11 k12 k13 k14 k15 k16 k17 k18 k19 k20 k21 k22 k23 k24 k25 k26 k27 k28 k29 k30 k31 k32
theorem named : Try.prog.funcNamed Rows.linTurnRow.func = some 5 := by kernel_rfl
theorem inst : Try.f5.isInstance Try.prog Rows.linTurnRow.origin Rows.linTurnRow.targs := of_decide_eq_true (by kernel_rfl)
theorem wrap : Try.f5.isWrapper Try.prog Rows.linTurnRow.wrapper Rows.linTurnRow.mainSum := by
  unfold Func.isWrapper
  first | (rw [if_pos (by decide +kernel)]; kernel_rfl) | (rw [if_neg (by decide +kernel)]; exact ⟨rfl, rfl⟩)
end Go.Proofs.Ytdooojhnldlkeaa.linTurn
