/-
  LinScans: what its row says of the program, fact by fact. No conditions.
-/
import Derived.Test.YtblhpikljhholaaRows
import Derived.Test.YtblhpikljhholaaNice26
import Derived.WalkKit
import Derived.ProofKit
namespace Go.Proofs.Ytblhpikljhholaa.linScans
open Go Go.RowKit Go.Proofs.Ytblhpikljhholaa.NICE
set_option maxRecDepth 100000

theorem k1 : Rows.linScansRow.wf (OpenSpec.ofChange Rows.linScansSpec) = true := by kernel_rfl
theorem k2 : laidOutB Try.prog = true := by kernel_rfl
theorem k3 : mapsRowed Try.prog = true := by kernel_rfl
theorem k4 : Try.f4.params.all (Try.prog.readableRec ·) = true := by kernel_rfl
theorem k5 : namedTie Try.prog Rows.linScansRow.named Rows.linScansSpec.vars = true := by kernel_rfl
theorem k6 : (Rows.linScansRow.stops == []) = true := by kernel_rfl
theorem k7 : (Try.prog.stops == []) = true := by kernel_rfl
theorem k8 : (Rows.linScansRow.knobs == []) = true := by kernel_rfl
theorem k9 : (Try.prog.stopKnobs == []) = true := by kernel_rfl
theorem k10 : (Rows.linScansRow.inPlace == Try.prog.inPlace 4) = true := by kernel_rfl
theorem k11 : (Rows.linScansRow.unfollowed == Try.prog.unfollowed 4) = true := by kernel_rfl
theorem k12 : (Rows.linScansRow.recurses == Try.prog.recurses 4) = true := by kernel_rfl
theorem k13 : (Rows.linScansRow.named == Try.prog.varsNamed 4) = true := by kernel_rfl
theorem k14 : (Rows.linScansRow.maps == (Try.f4.params.toList ++ Rows.linScansSpec.plain.varTypes Try.prog).any (Try.prog.mapsRec ·)) = true := by kernel_rfl
theorem k15 : (Rows.linScansRow.ifaces == (Try.f4.params.toList ++ Rows.linScansSpec.plain.varTypes Try.prog).any (Try.prog.ifacesRec ·)) = true := by kernel_rfl
theorem k16 : (Rows.linScansRow.mapsOut == Try.prog.mapsAmong Try.f4.resultTypes.toList) = true := by kernel_rfl
theorem k17 : (Rows.linScansRow.loops == (Try.f4.params.toList ++ Rows.linScansSpec.plain.varTypes Try.prog).any (Try.prog.loopsFrom ·)) = true := by kernel_rfl
theorem k18 : (Rows.linScansRow.wideKeys == (Try.f4.params.toList ++ Rows.linScansSpec.plain.varTypes Try.prog ++ Try.f4.resultTypes.toList).any (Try.prog.wideKeysFrom ·)) = true := by kernel_rfl
theorem k19 : Rows.linScansSpec.vars.all (Try.prog.varReadable ·) = true := by kernel_rfl
theorem k20 : Try.f4.resultTypes.all (fun t => Try.prog.readableRec t && decide (t < Try.prog.types.size)) = true := by kernel_rfl
theorem k21 : (Rows.linScansRow.ifacesOut == Try.f4.resultTypes.toList.any (Try.prog.ifacesRec ·)) = true := by kernel_rfl
theorem k22 : (Rows.linScansRow.loopsOut == Try.f4.resultTypes.toList.any (Try.prog.loopsFrom ·)) = true := by kernel_rfl
theorem k23 : (Rows.linScansRow.plainKeys == Try.prog.plainKeys) = true := by kernel_rfl
theorem k24 : Rows.linScansRow.shortTexts.isNone = true := by kernel_rfl
theorem k25 : Try.prog.stopsHeard = true := by kernel_rfl
theorem k26 : Try.prog.mayEnter = true := by kernel_rfl
theorem k27 : (Rows.linScansRow.lifted == Try.prog.liftsFinal) = true := by kernel_rfl
theorem k28 : (Try.prog.make == some Rows.linScansRow.make) = true := by kernel_rfl
theorem k29 : (Rows.linScansRow.kinds == (if Rows.linScansRow.domain.isEmpty then [] else Try.f4.params.toList.map fun t => match Try.prog.underlying t with | some (.int k) => some k | _ => none)) = true := by kernel_rfl
theorem k30 : (Rows.linScansRow.pinned == Rows.linScansRow.pinnedBy) = true := by kernel_rfl
theorem k31 : (Rows.linScansRow.veiled == (Try.f4.params.toList ++ Rows.linScansSpec.plain.varTypes Try.prog ++ Try.f4.resultTypes.toList).any (Try.prog.veiledRec ·)) = true := by kernel_rfl
theorem k32 : Rows.linScansRow.veiledFits Try.prog Try.f4.params.toList (Try.f4.params.toList ++ Rows.linScansSpec.plain.varTypes Try.prog ++ Try.f4.resultTypes.toList) = true := by kernel_rfl
theorem facts : joinedFacts Try.prog 4 Try.f4 Rows.linScansSpec Rows.linScansRow = true := joined_mk k1 k2 k3 k4 k5 k6 k7 k8 k9 k10 k11 k12 k13 k14 k15 k16 k17 k18 k19 k20 k21 k22 k23 k24 k25 k26 k27 k28 k29 k30 k31 k32
theorem named : Try.prog.funcNamed Rows.linScansRow.func = some 4 := by kernel_rfl
theorem inst : Try.f4.isInstance Try.prog Rows.linScansRow.origin Rows.linScansRow.targs := of_decide_eq_true (by kernel_rfl)
theorem wrap : Try.f4.isWrapper Try.prog Rows.linScansRow.wrapper Rows.linScansRow.mainSum := by
  unfold Func.isWrapper
  first | (rw [if_pos (by decide +kernel)]; kernel_rfl) | (rw [if_neg (by decide +kernel)]; exact ⟨rfl, rfl⟩)
end Go.Proofs.Ytblhpikljhholaa.linScans
