/-
  LinMap: what its row says of the program, fact by fact. No conditions.
-/
import Derived.Test.YtblhpikljhholaaRows
import Derived.Test.YtblhpikljhholaaNice26
import Derived.WalkKit
import Derived.ProofKit
namespace Go.Proofs.Ytblhpikljhholaa.linMap
open Go Go.RowKit Go.Proofs.Ytblhpikljhholaa.NICE
set_option maxRecDepth 100000

theorem k1 : Rows.linMapRow.wf (OpenSpec.ofChange Rows.linMapSpec) = true := by kernel_rfl
theorem k2 : laidOutB Try.prog = true := by kernel_rfl
theorem k3 : mapsRowed Try.prog = true := by kernel_rfl
theorem k4 : Try.f3.params.all (Try.prog.readableRec ·) = true := by kernel_rfl
theorem k5 : namedTie Try.prog Rows.linMapRow.named Rows.linMapSpec.vars = true := by kernel_rfl
theorem k6 : (Rows.linMapRow.stops == []) = true := by kernel_rfl
theorem k7 : (Try.prog.stops == []) = true := by kernel_rfl
theorem k8 : (Rows.linMapRow.knobs == []) = true := by kernel_rfl
theorem k9 : (Try.prog.stopKnobs == []) = true := by kernel_rfl
theorem k10 : (Rows.linMapRow.inPlace == Try.prog.inPlace 3) = true := by kernel_rfl
theorem k11 : (Rows.linMapRow.unfollowed == Try.prog.unfollowed 3) = true := by kernel_rfl
theorem k12 : (Rows.linMapRow.recurses == Try.prog.recurses 3) = true := by kernel_rfl
theorem k13 : (Rows.linMapRow.named == Try.prog.varsNamed 3) = true := by kernel_rfl
theorem k14 : (Rows.linMapRow.maps == (Try.f3.params.toList ++ Rows.linMapSpec.plain.varTypes Try.prog).any (Try.prog.mapsRec ·)) = true := by kernel_rfl
theorem k15 : (Rows.linMapRow.ifaces == (Try.f3.params.toList ++ Rows.linMapSpec.plain.varTypes Try.prog).any (Try.prog.ifacesRec ·)) = true := by kernel_rfl
theorem k16 : (Rows.linMapRow.mapsOut == Try.prog.mapsAmong Try.f3.resultTypes.toList) = true := by kernel_rfl
theorem k17 : (Rows.linMapRow.loops == (Try.f3.params.toList ++ Rows.linMapSpec.plain.varTypes Try.prog).any (Try.prog.loopsFrom ·)) = true := by kernel_rfl
theorem k18 : (Rows.linMapRow.wideKeys == (Try.f3.params.toList ++ Rows.linMapSpec.plain.varTypes Try.prog ++ Try.f3.resultTypes.toList).any (Try.prog.wideKeysFrom ·)) = true := by kernel_rfl
theorem k19 : Rows.linMapSpec.vars.all (Try.prog.varReadable ·) = true := by kernel_rfl
theorem k20 : Try.f3.resultTypes.all (fun t => Try.prog.readableRec t && decide (t < Try.prog.types.size)) = true := by kernel_rfl
theorem k21 : (Rows.linMapRow.ifacesOut == Try.f3.resultTypes.toList.any (Try.prog.ifacesRec ·)) = true := by kernel_rfl
theorem k22 : (Rows.linMapRow.loopsOut == Try.f3.resultTypes.toList.any (Try.prog.loopsFrom ·)) = true := by kernel_rfl
theorem k23 : (Rows.linMapRow.plainKeys == Try.prog.plainKeys) = true := by kernel_rfl
theorem k24 : Rows.linMapRow.shortTexts.isNone = true := by kernel_rfl
theorem k25 : Try.prog.stopsHeard = true := by kernel_rfl
theorem k26 : Try.prog.mayEnter = true := by kernel_rfl
theorem k27 : (Rows.linMapRow.lifted == Try.prog.liftsFinal) = true := by kernel_rfl
theorem k28 : (Try.prog.make == some Rows.linMapRow.make) = true := by kernel_rfl
theorem k29 : (Rows.linMapRow.kinds == (if Rows.linMapRow.domain.isEmpty then [] else Try.f3.params.toList.map fun t => match Try.prog.underlying t with | some (.int k) => some k | _ => none)) = true := by kernel_rfl
theorem k30 : (Rows.linMapRow.pinned == Rows.linMapRow.pinnedBy) = true := by kernel_rfl
theorem k31 : (Rows.linMapRow.veiled == (Try.f3.params.toList ++ Rows.linMapSpec.plain.varTypes Try.prog ++ Try.f3.resultTypes.toList).any (Try.prog.veiledRec ·)) = true := by kernel_rfl
theorem k32 : Rows.linMapRow.veiledFits Try.prog Try.f3.params.toList (Try.f3.params.toList ++ Rows.linMapSpec.plain.varTypes Try.prog ++ Try.f3.resultTypes.toList) = true := by kernel_rfl
theorem facts : joinedFacts Try.prog 3 Try.f3 Rows.linMapSpec Rows.linMapRow = true := joined_mk k1 k2 k3 k4 k5 k6 k7 k8 k9 k10 k11 k12 k13 k14 k15 k16 k17 k18 k19 k20 k21 k22 k23 k24 k25 k26 k27 k28 k29 k30 k31 k32
theorem named : Try.prog.funcNamed Rows.linMapRow.func = some 3 := by kernel_rfl
theorem inst : Try.f3.isInstance Try.prog Rows.linMapRow.origin Rows.linMapRow.targs := of_decide_eq_true (by kernel_rfl)
theorem wrap : Try.f3.isWrapper Try.prog Rows.linMapRow.wrapper Rows.linMapRow.mainSum := by
  unfold Func.isWrapper
  first | (rw [if_pos (by decide +kernel)]; kernel_rfl) | (rw [if_neg (by decide +kernel)]; exact ⟨rfl, rfl⟩)
end Go.Proofs.Ytblhpikljhholaa.linMap
