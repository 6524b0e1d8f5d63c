/- The functions of the seat as a tree, each looked at once. -/
import Derived.Test.YtblhpikljhholaaRows
import Derived.Test.YtblhpikljhholaaNice26
namespace Go.Proofs.Ytblhpikljhholaa
open Go Go.RowKit Go.Proofs.Ytblhpikljhholaa.NICE
set_option maxRecDepth 100000
noncomputable def tab : Tb := .node none (.node none (.node none (.node none (.node none .leaf (.node (some Try.f16) .leaf .leaf)) (.node (some Try.f8) .leaf (.node (some Try.f24) .leaf .leaf))) (.node (some Try.f4) (.node none .leaf (.node (some Try.f20) .leaf .leaf)) (.node (some Try.f12) .leaf (.node (some Try.f28) .leaf .leaf)))) (.node (some Try.f2) (.node none (.node none .leaf (.node (some Try.f18) .leaf .leaf)) (.node (some Try.f10) .leaf (.node (some Try.f26) .leaf .leaf))) (.node (some Try.f6) (.node none .leaf (.node (some Try.f22) .leaf .leaf)) (.node (some Try.f14) .leaf (.node (some Try.f30) .leaf .leaf))))) (.node none (.node none (.node none (.node none .leaf (.node (some Try.f17) .leaf .leaf)) (.node (some Try.f9) .leaf .leaf)) (.node (some Try.f5) (.node none .leaf (.node (some Try.f21) .leaf .leaf)) (.node (some Try.f13) .leaf (.node (some Try.f29) .leaf .leaf)))) (.node (some Try.f3) (.node none (.node none .leaf (.node (some Try.f19) .leaf .leaf)) (.node (some Try.f11) .leaf (.node (some Try.f27) .leaf .leaf))) (.node (some Try.f7) (.node none .leaf (.node (some Try.f23) .leaf .leaf)) (.node (some Try.f15) .leaf (.node (some Try.f31) .leaf .leaf)))))
theorem good2 : Try.prog.funcs[2]? = some Try.f2 ∧ fnGood Try.f2 = true := ⟨Try.func2, by kernel_rfl⟩
theorem good3 : Try.prog.funcs[3]? = some Try.f3 ∧ fnGood Try.f3 = true := ⟨Try.func3, by kernel_rfl⟩
theorem good4 : Try.prog.funcs[4]? = some Try.f4 ∧ fnGood Try.f4 = true := ⟨Try.func4, by kernel_rfl⟩
theorem good5 : Try.prog.funcs[5]? = some Try.f5 ∧ fnGood Try.f5 = true := ⟨Try.func5, by kernel_rfl⟩
theorem good6 : Try.prog.funcs[6]? = some Try.f6 ∧ fnGood Try.f6 = true := ⟨Try.func6, by kernel_rfl⟩
theorem good7 : Try.prog.funcs[7]? = some Try.f7 ∧ fnGood Try.f7 = true := ⟨Try.func7, by kernel_rfl⟩
theorem good8 : Try.prog.funcs[8]? = some Try.f8 ∧ fnGood Try.f8 = true := ⟨Try.func8, by kernel_rfl⟩
theorem good9 : Try.prog.funcs[9]? = some Try.f9 ∧ fnGood Try.f9 = true := ⟨Try.func9, by kernel_rfl⟩
theorem good10 : Try.prog.funcs[10]? = some Try.f10 ∧ fnGood Try.f10 = true := ⟨Try.func10, by kernel_rfl⟩
theorem good11 : Try.prog.funcs[11]? = some Try.f11 ∧ fnGood Try.f11 = true := ⟨Try.func11, by kernel_rfl⟩
theorem good12 : Try.prog.funcs[12]? = some Try.f12 ∧ fnGood Try.f12 = true := ⟨Try.func12, by kernel_rfl⟩
theorem good13 : Try.prog.funcs[13]? = some Try.f13 ∧ fnGood Try.f13 = true := ⟨Try.func13, by kernel_rfl⟩
theorem good14 : Try.prog.funcs[14]? = some Try.f14 ∧ fnGood Try.f14 = true := ⟨Try.func14, by kernel_rfl⟩
theorem good15 : Try.prog.funcs[15]? = some Try.f15 ∧ fnGood Try.f15 = true := ⟨Try.func15, by kernel_rfl⟩
theorem good16 : Try.prog.funcs[16]? = some Try.f16 ∧ fnGood Try.f16 = true := ⟨Try.func16, by kernel_rfl⟩
theorem good17 : Try.prog.funcs[17]? = some Try.f17 ∧ fnGood Try.f17 = true := ⟨Try.func17, by kernel_rfl⟩
theorem good18 : Try.prog.funcs[18]? = some Try.f18 ∧ fnGood Try.f18 = true := ⟨Try.func18, by kernel_rfl⟩
theorem good19 : Try.prog.funcs[19]? = some Try.f19 ∧ fnGood Try.f19 = true := ⟨Try.func19, by kernel_rfl⟩
theorem good20 : Try.prog.funcs[20]? = some Try.f20 ∧ fnGood Try.f20 = true := ⟨Try.func20, by kernel_rfl⟩
theorem good21 : Try.prog.funcs[21]? = some Try.f21 ∧ fnGood Try.f21 = true := ⟨Try.func21, by kernel_rfl⟩
theorem good22 : Try.prog.funcs[22]? = some Try.f22 ∧ fnGood Try.f22 = true := ⟨Try.func22, by kernel_rfl⟩
theorem good23 : Try.prog.funcs[23]? = some Try.f23 ∧ fnGood Try.f23 = true := ⟨Try.func23, by kernel_rfl⟩
theorem good24 : Try.prog.funcs[24]? = some Try.f24 ∧ fnGood Try.f24 = true := ⟨Try.func24, by kernel_rfl⟩
theorem good26 : Try.prog.funcs[26]? = some Try.f26 ∧ fnGood Try.f26 = true := ⟨Try.func26, by kernel_rfl⟩
theorem good27 : Try.prog.funcs[27]? = some Try.f27 ∧ fnGood Try.f27 = true := ⟨Try.func27, by kernel_rfl⟩
theorem good28 : Try.prog.funcs[28]? = some Try.f28 ∧ fnGood Try.f28 = true := ⟨Try.func28, by kernel_rfl⟩
theorem good29 : Try.prog.funcs[29]? = some Try.f29 ∧ fnGood Try.f29 = true := ⟨Try.func29, by kernel_rfl⟩
theorem good30 : Try.prog.funcs[30]? = some Try.f30 ∧ fnGood Try.f30 = true := ⟨Try.func30, by kernel_rfl⟩
theorem good31 : Try.prog.funcs[31]? = some Try.f31 ∧ fnGood Try.f31 = true := ⟨Try.func31, by kernel_rfl⟩
theorem tab_ok : tab.All fun n f => Try.prog.funcs[n]? = some f ∧ fnGood f = true := (And.intro trivial (And.intro (And.intro trivial (And.intro (And.intro trivial (And.intro (And.intro trivial (And.intro (And.intro trivial (And.intro trivial (And.intro good16 (And.intro trivial trivial)))) (And.intro good8 (And.intro trivial (And.intro good24 (And.intro trivial trivial)))))) (And.intro good4 (And.intro (And.intro trivial (And.intro trivial (And.intro good20 (And.intro trivial trivial)))) (And.intro good12 (And.intro trivial (And.intro good28 (And.intro trivial trivial)))))))) (And.intro good2 (And.intro (And.intro trivial (And.intro (And.intro trivial (And.intro trivial (And.intro good18 (And.intro trivial trivial)))) (And.intro good10 (And.intro trivial (And.intro good26 (And.intro trivial trivial)))))) (And.intro good6 (And.intro (And.intro trivial (And.intro trivial (And.intro good22 (And.intro trivial trivial)))) (And.intro good14 (And.intro trivial (And.intro good30 (And.intro trivial trivial)))))))))) (And.intro trivial (And.intro (And.intro trivial (And.intro (And.intro trivial (And.intro (And.intro trivial (And.intro trivial (And.intro good17 (And.intro trivial trivial)))) (And.intro good9 (And.intro trivial trivial)))) (And.intro good5 (And.intro (And.intro trivial (And.intro trivial (And.intro good21 (And.intro trivial trivial)))) (And.intro good13 (And.intro trivial (And.intro good29 (And.intro trivial trivial)))))))) (And.intro good3 (And.intro (And.intro trivial (And.intro (And.intro trivial (And.intro trivial (And.intro good19 (And.intro trivial trivial)))) (And.intro good11 (And.intro trivial (And.intro good27 (And.intro trivial trivial)))))) (And.intro good7 (And.intro (And.intro trivial (And.intro trivial (And.intro good23 (And.intro trivial trivial)))) (And.intro good15 (And.intro trivial (And.intro good31 (And.intro trivial trivial))))))))))))
noncomputable def env : Env Try.prog drStatic := tab.env tab_ok noneKnown noneKnown_ok
end Go.Proofs.Ytblhpikljhholaa
