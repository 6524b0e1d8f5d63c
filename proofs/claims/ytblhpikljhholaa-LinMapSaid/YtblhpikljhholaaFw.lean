/-
  What the seat's types are, and each function's first step. No conditions.
-/
import Derived.Test.YtblhpikljhholaaIns
import Derived.Test.YtblhpikljhholaaNice42
import Derived.Test.YtblhpikljhholaaSaysLinRuns
namespace Go.Proofs.Ytblhpikljhholaa.S
open Go Go.RowKit Go.Proofs.Ytblhpikljhholaa.NICE
set_option maxRecDepth 100000
set_option linter.unusedSimpArgs false

theorem known_at14 : (Go.Proofs.Ytblhpikljhholaa.env).known 14 [] NHeap.empty = none := by kernel_rfl
theorem known_ex14 : ∃ c, CallOk Try.prog (trueKnown 14 c) := trueKnown_ok (Checked.mixed Try.checked) Go.Proofs.Ytblhpikljhholaa.env known_at14 Go.Proofs.Ytblhpikljhholaa.linRuns.says
noncomputable def runsN14 : Nat := Classical.choose known_ex14
theorem runsN14_ok : CallOk Try.prog (trueKnown 14 runsN14) := Classical.choose_spec known_ex14
noncomputable def env : Env Try.prog drStatic := tab.env tab_ok (orKnown (trueKnown 14 runsN14) insAll) (orKnown_ok runsN14_ok insAll_ok)
theorem runs_ok14 (h : NHeap) : ∃ h', K env 14 [] h = some (.bool true, h') ∧ Ext h h' :=
  ⟨layAll h.next (List.replicate runsN14 .dead) h, K_known (by simp [env, Tb.env, orKnown, trueKnown]), layAll_ext _ _ _⟩
theorem insNone17 {l h} (e : insKnown17 17 l h = none) : env.known 17 l h = none := (orKnown_none (F := trueKnown 14 runsN14) (by unfold trueKnown; rw [if_neg (by decide)]) (orKnown_none (F := insKnown17) e (orKnown_none (F := ovKnown 25) (by unfold ovKnown; rw [if_neg (by decide)]) rfl)))
theorem kI17 (l : List NVal) (h : NHeap) (hk : insKnown17 17 l h = none) (hl : l.length ≤ 95) : K env 17 l h = outF Try.prog [.tmp 6] (C env (bodyOf Try.f17) (toL 95 (argF l)) h) := K_bodyF (insNone17 hk) (by kernel_rfl) hl
theorem insEnv17 {l h r} (e : insKnown17 17 l h = some r) : env.known 17 l h = some r := (orKnown_right (F := trueKnown 14 runsN14) (by unfold trueKnown; rw [if_neg (by decide)]) (orKnown_left (F := insKnown17) e))
theorem k2 (l : List NVal) (h : NHeap) (hl : l.length ≤ 1) : K env 2 l h = outF Try.prog [] (C env (bodyOf Try.f2) (toL 1 (argF l)) h) := K_bodyF rfl (by kernel_rfl) hl
theorem k3 (l : List NVal) (h : NHeap) (hl : l.length ≤ 135) : K env 3 l h = outF Try.prog [.tmp 4] (C env (bodyOf Try.f3) (toL 135 (argF l)) h) := K_bodyF rfl (by kernel_rfl) hl
theorem k4 (l : List NVal) (h : NHeap) (hl : l.length ≤ 161) : K env 4 l h = outF Try.prog [.tmp 8] (C env (bodyOf Try.f4) (toL 161 (argF l)) h) := K_bodyF rfl (by kernel_rfl) hl
theorem k5 (l : List NVal) (h : NHeap) (hl : l.length ≤ 69) : K env 5 l h = outF Try.prog [.tmp 4] (C env (bodyOf Try.f5) (toL 69 (argF l)) h) := K_bodyF rfl (by kernel_rfl) hl
theorem k6 (l : List NVal) (h : NHeap) (hl : l.length ≤ 24) : K env 6 l h = outF Try.prog [.tmp 6] (C env (bodyOf Try.f6) (toL 24 (argF l)) h) := K_bodyF rfl (by kernel_rfl) hl
theorem k7 (l : List NVal) (h : NHeap) (hl : l.length ≤ 22) : K env 7 l h = outF Try.prog [.tmp 4] (C env (bodyOf Try.f7) (toL 22 (argF l)) h) := K_bodyF rfl (by kernel_rfl) hl
theorem k8 (l : List NVal) (h : NHeap) (hl : l.length ≤ 44) : K env 8 l h = outF Try.prog [.tmp 4, .tmp 5, .tmp 6] (C env (bodyOf Try.f8) (toL 44 (argF l)) h) := K_bodyF rfl (by kernel_rfl) hl
theorem k9 (l : List NVal) (h : NHeap) (hl : l.length ≤ 37) : K env 9 l h = outF Try.prog [.tmp 4, .tmp 5, .tmp 6] (C env (bodyOf Try.f9) (toL 37 (argF l)) h) := K_bodyF rfl (by kernel_rfl) hl
theorem k10 (l : List NVal) (h : NHeap) (hl : l.length ≤ 60) : K env 10 l h = outF Try.prog [.tmp 2, .tmp 3] (C env (bodyOf Try.f10) (toL 60 (argF l)) h) := K_bodyF rfl (by kernel_rfl) hl
theorem k11 (l : List NVal) (h : NHeap) (hl : l.length ≤ 26) : K env 11 l h = outF Try.prog [.tmp 4] (C env (bodyOf Try.f11) (toL 26 (argF l)) h) := K_bodyF rfl (by kernel_rfl) hl
theorem k12 (l : List NVal) (h : NHeap) (hl : l.length ≤ 45) : K env 12 l h = outF Try.prog [.tmp 4] (C env (bodyOf Try.f12) (toL 45 (argF l)) h) := K_bodyF rfl (by kernel_rfl) hl
theorem k13 (l : List NVal) (h : NHeap) (hl : l.length ≤ 72) : K env 13 l h = outF Try.prog [.tmp 4] (C env (bodyOf Try.f13) (toL 72 (argF l)) h) := K_bodyF rfl (by kernel_rfl) hl
theorem k15 (l : List NVal) (h : NHeap) (hl : l.length ≤ 33) : K env 15 l h = outF Try.prog [.tmp 2] (C env (bodyOf Try.f15) (toL 33 (argF l)) h) := K_bodyF rfl (by kernel_rfl) hl
theorem k16 (l : List NVal) (h : NHeap) (hl : l.length ≤ 8) : K env 16 l h = outF Try.prog [.tmp 2] (C env (bodyOf Try.f16) (toL 8 (argF l)) h) := K_bodyF rfl (by kernel_rfl) hl
theorem k18 (l : List NVal) (h : NHeap) (hl : l.length ≤ 33) : K env 18 l h = outF Try.prog [.tmp 6] (C env (bodyOf Try.f18) (toL 33 (argF l)) h) := K_bodyF rfl (by kernel_rfl) hl
theorem k19 (l : List NVal) (h : NHeap) (hl : l.length ≤ 89) : K env 19 l h = outF Try.prog [.tmp 4, .cell 5 32, .tmp 6] (C env (bodyOf Try.f19) (toL 89 (argF l)) h) := K_bodyF rfl (by kernel_rfl) hl
theorem k20 (l : List NVal) (h : NHeap) (hl : l.length ≤ 38) : K env 20 l h = outF Try.prog [.tmp 4] (C env (bodyOf Try.f20) (toL 38 (argF l)) h) := K_bodyF rfl (by kernel_rfl) hl
theorem k21 (l : List NVal) (h : NHeap) (hl : l.length ≤ 42) : K env 21 l h = outF Try.prog [.tmp 4] (C env (bodyOf Try.f21) (toL 42 (argF l)) h) := K_bodyF rfl (by kernel_rfl) hl
theorem k22 (l : List NVal) (h : NHeap) (hl : l.length ≤ 46) : K env 22 l h = outF Try.prog [.tmp 2] (C env (bodyOf Try.f22) (toL 46 (argF l)) h) := K_bodyF rfl (by kernel_rfl) hl
theorem k23 (l : List NVal) (h : NHeap) (hl : l.length ≤ 53) : K env 23 l h = outF Try.prog [.tmp 6, .tmp 7] (C env (bodyOf Try.f23) (toL 53 (argF l)) h) := K_bodyF rfl (by kernel_rfl) hl
theorem k24 (l : List NVal) (h : NHeap) (hl : l.length ≤ 105) : K env 24 l h = outF Try.prog [.tmp 4] (C env (bodyOf Try.f24) (toL 105 (argF l)) h) := K_bodyF rfl (by kernel_rfl) hl
theorem k26 (l : List NVal) (h : NHeap) (hl : l.length ≤ 10) : K env 26 l h = outF Try.prog [] (C env (bodyOf Try.f26) (toL 10 (argF l)) h) := K_bodyF rfl (by kernel_rfl) hl
theorem k27 (l : List NVal) (h : NHeap) (hl : l.length ≤ 20) : K env 27 l h = outF Try.prog [.tmp 4] (C env (bodyOf Try.f27) (toL 20 (argF l)) h) := K_bodyF rfl (by kernel_rfl) hl
theorem k28 (l : List NVal) (h : NHeap) (hl : l.length ≤ 28) : K env 28 l h = outF Try.prog [.tmp 4, .tmp 5] (C env (bodyOf Try.f28) (toL 28 (argF l)) h) := K_bodyF rfl (by kernel_rfl) hl
theorem k29 (l : List NVal) (h : NHeap) (hl : l.length ≤ 43) : K env 29 l h = outF Try.prog [.tmp 2] (C env (bodyOf Try.f29) (toL 43 (argF l)) h) := K_bodyF rfl (by kernel_rfl) hl
theorem k30 (l : List NVal) (h : NHeap) (hl : l.length ≤ 14) : K env 30 l h = outF Try.prog [] (C env (bodyOf Try.f30) (toL 14 (argF l)) h) := K_bodyF rfl (by kernel_rfl) hl
theorem k31 (l : List NVal) (h : NHeap) (hl : l.length ≤ 28) : K env 31 l h = outF Try.prog [] (C env (bodyOf Try.f31) (toL 28 (argF l)) h) := K_bodyF rfl (by kernel_rfl) hl
end Go.Proofs.Ytblhpikljhholaa.S
