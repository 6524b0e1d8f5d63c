/- The functions of the seat as a tree, each looked at once. -/
import Derived.Test.YtkffnkhpgdnddaaRows
import Derived.Test.YtkffnkhpgdnddaaNice26
namespace Go.Proofs.Ytkffnkhpgdnddaa
open Go Go.RowKit Go.Proofs.Ytkffnkhpgdnddaa.NICE
set_option maxRecDepth 100000
noncomputable def tab : Tb := .node none (.node none (.node none (.node none (.node none (.node none (.node none .leaf (.node (some Try.f64) .leaf .leaf)) (.node (some Try.f32) .leaf .leaf)) (.node (some Try.f16) (.node none .leaf (.node (some Try.f80) .leaf .leaf)) (.node (some Try.f48) .leaf .leaf))) (.node (some Try.f8) (.node none (.node none .leaf (.node (some Try.f72) .leaf .leaf)) (.node (some Try.f40) .leaf .leaf)) (.node (some Try.f24) .leaf (.node (some Try.f56) .leaf .leaf)))) (.node (some Try.f4) (.node none (.node none (.node none .leaf (.node (some Try.f68) .leaf .leaf)) (.node (some Try.f36) .leaf .leaf)) (.node (some Try.f20) .leaf (.node (some Try.f52) .leaf .leaf))) (.node (some Try.f12) (.node none (.node none .leaf (.node (some Try.f76) .leaf .leaf)) (.node (some Try.f44) .leaf .leaf)) (.node (some Try.f28) .leaf (.node (some Try.f60) .leaf .leaf))))) (.node (some Try.f2) (.node none (.node none (.node none (.node none .leaf (.node (some Try.f66) .leaf .leaf)) (.node (some Try.f34) .leaf .leaf)) (.node (some Try.f18) (.node none .leaf (.node (some Try.f82) .leaf .leaf)) (.node (some Try.f50) .leaf .leaf))) (.node (some Try.f10) (.node none (.node none .leaf (.node (some Try.f74) .leaf .leaf)) (.node (some Try.f42) .leaf .leaf)) (.node (some Try.f26) .leaf (.node (some Try.f58) .leaf .leaf)))) (.node (some Try.f6) (.node none (.node none (.node none .leaf (.node (some Try.f70) .leaf .leaf)) (.node (some Try.f38) .leaf .leaf)) (.node (some Try.f22) .leaf (.node (some Try.f54) .leaf .leaf))) (.node (some Try.f14) (.node none (.node none .leaf (.node (some Try.f78) .leaf .leaf)) (.node (some Try.f46) .leaf .leaf)) (.node (some Try.f30) .leaf (.node (some Try.f62) .leaf .leaf)))))) (.node none (.node none (.node none (.node none (.node none (.node none .leaf (.node (some Try.f65) .leaf .leaf)) (.node (some Try.f33) .leaf .leaf)) (.node (some Try.f17) (.node none .leaf (.node (some Try.f81) .leaf .leaf)) (.node (some Try.f49) .leaf .leaf))) (.node (some Try.f9) (.node none (.node none .leaf (.node (some Try.f73) .leaf .leaf)) .leaf) (.node (some Try.f25) .leaf (.node (some Try.f57) .leaf .leaf)))) (.node (some Try.f5) (.node none (.node none (.node none .leaf (.node (some Try.f69) .leaf .leaf)) (.node (some Try.f37) .leaf .leaf)) (.node (some Try.f21) .leaf (.node (some Try.f53) .leaf .leaf))) (.node (some Try.f13) (.node none (.node none .leaf (.node (some Try.f77) .leaf .leaf)) (.node (some Try.f45) .leaf .leaf)) (.node (some Try.f29) .leaf (.node (some Try.f61) .leaf .leaf))))) (.node (some Try.f3) (.node none (.node none (.node none (.node none .leaf (.node (some Try.f67) .leaf .leaf)) (.node (some Try.f35) .leaf .leaf)) (.node (some Try.f19) (.node none .leaf (.node (some Try.f83) .leaf .leaf)) (.node (some Try.f51) .leaf .leaf))) (.node (some Try.f11) (.node none (.node none .leaf (.node (some Try.f75) .leaf .leaf)) (.node (some Try.f43) .leaf .leaf)) (.node (some Try.f27) .leaf (.node (some Try.f59) .leaf .leaf)))) (.node (some Try.f7) (.node none (.node none (.node none .leaf (.node (some Try.f71) .leaf .leaf)) (.node (some Try.f39) .leaf .leaf)) (.node (some Try.f23) .leaf (.node (some Try.f55) .leaf .leaf))) (.node (some Try.f15) (.node none (.node none .leaf (.node (some Try.f79) .leaf .leaf)) (.node (some Try.f47) .leaf .leaf)) (.node (some Try.f31) .leaf (.node (some Try.f63) .leaf .leaf))))))
theorem good2 : Try.prog.funcs[2]? = some Try.f2 ∧ fnGood Try.f2 = true := ⟨Try.func2, by kernel_rfl⟩
theorem good3 : Try.prog.funcs[3]? = some Try.f3 ∧ fnGood Try.f3 = true := ⟨Try.func3, by kernel_rfl⟩
theorem good4 : Try.prog.funcs[4]? = some Try.f4 ∧ fnGood Try.f4 = true := ⟨Try.func4, by kernel_rfl⟩
theorem good5 : Try.prog.funcs[5]? = some Try.f5 ∧ fnGood Try.f5 = true := ⟨Try.func5, by kernel_rfl⟩
theorem good6 : Try.prog.funcs[6]? = some Try.f6 ∧ fnGood Try.f6 = true := ⟨Try.func6, by kernel_rfl⟩
theorem good7 : Try.prog.funcs[7]? = some Try.f7 ∧ fnGood Try.f7 = true := ⟨Try.func7, by kernel_rfl⟩
theorem good8 : Try.prog.funcs[8]? = some Try.f8 ∧ fnGood Try.f8 = true := ⟨Try.func8, by kernel_rfl⟩
theorem good9 : Try.prog.funcs[9]? = some Try.f9 ∧ fnGood Try.f9 = true := ⟨Try.func9, by kernel_rfl⟩
theorem good10 : Try.prog.funcs[10]? = some Try.f10 ∧ fnGood Try.f10 = true := ⟨Try.func10, by kernel_rfl⟩
theorem good11 : Try.prog.funcs[11]? = some Try.f11 ∧ fnGood Try.f11 = true := ⟨Try.func11, by kernel_rfl⟩
theorem good12 : Try.prog.funcs[12]? = some Try.f12 ∧ fnGood Try.f12 = true := ⟨Try.func12, by kernel_rfl⟩
theorem good13 : Try.prog.funcs[13]? = some Try.f13 ∧ fnGood Try.f13 = true := ⟨Try.func13, by kernel_rfl⟩
theorem good14 : Try.prog.funcs[14]? = some Try.f14 ∧ fnGood Try.f14 = true := ⟨Try.func14, by kernel_rfl⟩
theorem good15 : Try.prog.funcs[15]? = some Try.f15 ∧ fnGood Try.f15 = true := ⟨Try.func15, by kernel_rfl⟩
theorem good16 : Try.prog.funcs[16]? = some Try.f16 ∧ fnGood Try.f16 = true := ⟨Try.func16, by kernel_rfl⟩
theorem good17 : Try.prog.funcs[17]? = some Try.f17 ∧ fnGood Try.f17 = true := ⟨Try.func17, by kernel_rfl⟩
theorem good18 : Try.prog.funcs[18]? = some Try.f18 ∧ fnGood Try.f18 = true := ⟨Try.func18, by kernel_rfl⟩
theorem good19 : Try.prog.funcs[19]? = some Try.f19 ∧ fnGood Try.f19 = true := ⟨Try.func19, by kernel_rfl⟩
theorem good20 : Try.prog.funcs[20]? = some Try.f20 ∧ fnGood Try.f20 = true := ⟨Try.func20, by kernel_rfl⟩
theorem good21 : Try.prog.funcs[21]? = some Try.f21 ∧ fnGood Try.f21 = true := ⟨Try.func21, by kernel_rfl⟩
theorem good22 : Try.prog.funcs[22]? = some Try.f22 ∧ fnGood Try.f22 = true := ⟨Try.func22, by kernel_rfl⟩
theorem good23 : Try.prog.funcs[23]? = some Try.f23 ∧ fnGood Try.f23 = true := ⟨Try.func23, by kernel_rfl⟩
theorem good24 : Try.prog.funcs[24]? = some Try.f24 ∧ fnGood Try.f24 = true := ⟨Try.func24, by kernel_rfl⟩
theorem good25 : Try.prog.funcs[25]? = some Try.f25 ∧ fnGood Try.f25 = true := ⟨Try.func25, by kernel_rfl⟩
theorem good26 : Try.prog.funcs[26]? = some Try.f26 ∧ fnGood Try.f26 = true := ⟨Try.func26, by kernel_rfl⟩
theorem good27 : Try.prog.funcs[27]? = some Try.f27 ∧ fnGood Try.f27 = true := ⟨Try.func27, by kernel_rfl⟩
theorem good28 : Try.prog.funcs[28]? = some Try.f28 ∧ fnGood Try.f28 = true := ⟨Try.func28, by kernel_rfl⟩
theorem good29 : Try.prog.funcs[29]? = some Try.f29 ∧ fnGood Try.f29 = true := ⟨Try.func29, by kernel_rfl⟩
theorem good30 : Try.prog.funcs[30]? = some Try.f30 ∧ fnGood Try.f30 = true := ⟨Try.func30, by kernel_rfl⟩
theorem good31 : Try.prog.funcs[31]? = some Try.f31 ∧ fnGood Try.f31 = true := ⟨Try.func31, by kernel_rfl⟩
theorem good32 : Try.prog.funcs[32]? = some Try.f32 ∧ fnGood Try.f32 = true := ⟨Try.func32, by kernel_rfl⟩
theorem good33 : Try.prog.funcs[33]? = some Try.f33 ∧ fnGood Try.f33 = true := ⟨Try.func33, by kernel_rfl⟩
theorem good34 : Try.prog.funcs[34]? = some Try.f34 ∧ fnGood Try.f34 = true := ⟨Try.func34, by kernel_rfl⟩
theorem good35 : Try.prog.funcs[35]? = some Try.f35 ∧ fnGood Try.f35 = true := ⟨Try.func35, by kernel_rfl⟩
theorem good36 : Try.prog.funcs[36]? = some Try.f36 ∧ fnGood Try.f36 = true := ⟨Try.func36, by kernel_rfl⟩
theorem good37 : Try.prog.funcs[37]? = some Try.f37 ∧ fnGood Try.f37 = true := ⟨Try.func37, by kernel_rfl⟩
theorem good38 : Try.prog.funcs[38]? = some Try.f38 ∧ fnGood Try.f38 = true := ⟨Try.func38, by kernel_rfl⟩
theorem good39 : Try.prog.funcs[39]? = some Try.f39 ∧ fnGood Try.f39 = true := ⟨Try.func39, by kernel_rfl⟩
theorem good40 : Try.prog.funcs[40]? = some Try.f40 ∧ fnGood Try.f40 = true := ⟨Try.func40, by kernel_rfl⟩
theorem good42 : Try.prog.funcs[42]? = some Try.f42 ∧ fnGood Try.f42 = true := ⟨Try.func42, by kernel_rfl⟩
theorem good43 : Try.prog.funcs[43]? = some Try.f43 ∧ fnGood Try.f43 = true := ⟨Try.func43, by kernel_rfl⟩
theorem good44 : Try.prog.funcs[44]? = some Try.f44 ∧ fnGood Try.f44 = true := ⟨Try.func44, by kernel_rfl⟩
theorem good45 : Try.prog.funcs[45]? = some Try.f45 ∧ fnGood Try.f45 = true := ⟨Try.func45, by kernel_rfl⟩
theorem good46 : Try.prog.funcs[46]? = some Try.f46 ∧ fnGood Try.f46 = true := ⟨Try.func46, by kernel_rfl⟩
theorem good47 : Try.prog.funcs[47]? = some Try.f47 ∧ fnGood Try.f47 = true := ⟨Try.func47, by kernel_rfl⟩
theorem good48 : Try.prog.funcs[48]? = some Try.f48 ∧ fnGood Try.f48 = true := ⟨Try.func48, by kernel_rfl⟩
theorem good49 : Try.prog.funcs[49]? = some Try.f49 ∧ fnGood Try.f49 = true := ⟨Try.func49, by kernel_rfl⟩
theorem good50 : Try.prog.funcs[50]? = some Try.f50 ∧ fnGood Try.f50 = true := ⟨Try.func50, by kernel_rfl⟩
theorem good51 : Try.prog.funcs[51]? = some Try.f51 ∧ fnGood Try.f51 = true := ⟨Try.func51, by kernel_rfl⟩
theorem good52 : Try.prog.funcs[52]? = some Try.f52 ∧ fnGood Try.f52 = true := ⟨Try.func52, by kernel_rfl⟩
theorem good53 : Try.prog.funcs[53]? = some Try.f53 ∧ fnGood Try.f53 = true := ⟨Try.func53, by kernel_rfl⟩
theorem good54 : Try.prog.funcs[54]? = some Try.f54 ∧ fnGood Try.f54 = true := ⟨Try.func54, by kernel_rfl⟩
theorem good55 : Try.prog.funcs[55]? = some Try.f55 ∧ fnGood Try.f55 = true := ⟨Try.func55, by kernel_rfl⟩
theorem good56 : Try.prog.funcs[56]? = some Try.f56 ∧ fnGood Try.f56 = true := ⟨Try.func56, by kernel_rfl⟩
theorem good57 : Try.prog.funcs[57]? = some Try.f57 ∧ fnGood Try.f57 = true := ⟨Try.func57, by kernel_rfl⟩
theorem good58 : Try.prog.funcs[58]? = some Try.f58 ∧ fnGood Try.f58 = true := ⟨Try.func58, by kernel_rfl⟩
theorem good59 : Try.prog.funcs[59]? = some Try.f59 ∧ fnGood Try.f59 = true := ⟨Try.func59, by kernel_rfl⟩
theorem good60 : Try.prog.funcs[60]? = some Try.f60 ∧ fnGood Try.f60 = true := ⟨Try.func60, by kernel_rfl⟩
theorem good61 : Try.prog.funcs[61]? = some Try.f61 ∧ fnGood Try.f61 = true := ⟨Try.func61, by kernel_rfl⟩
theorem good62 : Try.prog.funcs[62]? = some Try.f62 ∧ fnGood Try.f62 = true := ⟨Try.func62, by kernel_rfl⟩
theorem good63 : Try.prog.funcs[63]? = some Try.f63 ∧ fnGood Try.f63 = true := ⟨Try.func63, by kernel_rfl⟩
theorem good64 : Try.prog.funcs[64]? = some Try.f64 ∧ fnGood Try.f64 = true := ⟨Try.func64, by kernel_rfl⟩
theorem good65 : Try.prog.funcs[65]? = some Try.f65 ∧ fnGood Try.f65 = true := ⟨Try.func65, by kernel_rfl⟩
theorem good66 : Try.prog.funcs[66]? = some Try.f66 ∧ fnGood Try.f66 = true := ⟨Try.func66, by kernel_rfl⟩
theorem good67 : Try.prog.funcs[67]? = some Try.f67 ∧ fnGood Try.f67 = true := ⟨Try.func67, by kernel_rfl⟩
theorem good68 : Try.prog.funcs[68]? = some Try.f68 ∧ fnGood Try.f68 = true := ⟨Try.func68, by kernel_rfl⟩
theorem good69 : Try.prog.funcs[69]? = some Try.f69 ∧ fnGood Try.f69 = true := ⟨Try.func69, by kernel_rfl⟩
theorem good70 : Try.prog.funcs[70]? = some Try.f70 ∧ fnGood Try.f70 = true := ⟨Try.func70, by kernel_rfl⟩
theorem good71 : Try.prog.funcs[71]? = some Try.f71 ∧ fnGood Try.f71 = true := ⟨Try.func71, by kernel_rfl⟩
theorem good72 : Try.prog.funcs[72]? = some Try.f72 ∧ fnGood Try.f72 = true := ⟨Try.func72, by kernel_rfl⟩
theorem good73 : Try.prog.funcs[73]? = some Try.f73 ∧ fnGood Try.f73 = true := ⟨Try.func73, by kernel_rfl⟩
theorem good74 : Try.prog.funcs[74]? = some Try.f74 ∧ fnGood Try.f74 = true := ⟨Try.func74, by kernel_rfl⟩
theorem good75 : Try.prog.funcs[75]? = some Try.f75 ∧ fnGood Try.f75 = true := ⟨Try.func75, by kernel_rfl⟩
theorem good76 : Try.prog.funcs[76]? = some Try.f76 ∧ fnGood Try.f76 = true := ⟨Try.func76, by kernel_rfl⟩
theorem good77 : Try.prog.funcs[77]? = some Try.f77 ∧ fnGood Try.f77 = true := ⟨Try.func77, by kernel_rfl⟩
theorem good78 : Try.prog.funcs[78]? = some Try.f78 ∧ fnGood Try.f78 = true := ⟨Try.func78, by kernel_rfl⟩
theorem good79 : Try.prog.funcs[79]? = some Try.f79 ∧ fnGood Try.f79 = true := ⟨Try.func79, by kernel_rfl⟩
theorem good80 : Try.prog.funcs[80]? = some Try.f80 ∧ fnGood Try.f80 = true := ⟨Try.func80, by kernel_rfl⟩
theorem good81 : Try.prog.funcs[81]? = some Try.f81 ∧ fnGood Try.f81 = true := ⟨Try.func81, by kernel_rfl⟩
theorem good82 : Try.prog.funcs[82]? = some Try.f82 ∧ fnGood Try.f82 = true := ⟨Try.func82, by kernel_rfl⟩
theorem good83 : Try.prog.funcs[83]? = some Try.f83 ∧ fnGood Try.f83 = true := ⟨Try.func83, by kernel_rfl⟩
theorem tab_ok : tab.All fun n f => Try.prog.funcs[n]? = some f ∧ fnGood f = true := (And.intro trivial (And.intro (And.intro trivial (And.intro (And.intro trivial (And.intro (And.intro trivial (And.intro (And.intro trivial (And.intro (And.intro trivial (And.intro (And.intro trivial (And.intro trivial (And.intro good64 (And.intro trivial trivial)))) (And.intro good32 (And.intro trivial trivial)))) (And.intro good16 (And.intro (And.intro trivial (And.intro trivial (And.intro good80 (And.intro trivial trivial)))) (And.intro good48 (And.intro trivial trivial)))))) (And.intro good8 (And.intro (And.intro trivial (And.intro (And.intro trivial (And.intro trivial (And.intro good72 (And.intro trivial trivial)))) (And.intro good40 (And.intro trivial trivial)))) (And.intro good24 (And.intro trivial (And.intro good56 (And.intro trivial trivial)))))))) (And.intro good4 (And.intro (And.intro trivial (And.intro (And.intro trivial (And.intro (And.intro trivial (And.intro trivial (And.intro good68 (And.intro trivial trivial)))) (And.intro good36 (And.intro trivial trivial)))) (And.intro good20 (And.intro trivial (And.intro good52 (And.intro trivial trivial)))))) (And.intro good12 (And.intro (And.intro trivial (And.intro (And.intro trivial (And.intro trivial (And.intro good76 (And.intro trivial trivial)))) (And.intro good44 (And.intro trivial trivial)))) (And.intro good28 (And.intro trivial (And.intro good60 (And.intro trivial trivial)))))))))) (And.intro good2 (And.intro (And.intro trivial (And.intro (And.intro trivial (And.intro (And.intro trivial (And.intro (And.intro trivial (And.intro trivial (And.intro good66 (And.intro trivial trivial)))) (And.intro good34 (And.intro trivial trivial)))) (And.intro good18 (And.intro (And.intro trivial (And.intro trivial (And.intro good82 (And.intro trivial trivial)))) (And.intro good50 (And.intro trivial trivial)))))) (And.intro good10 (And.intro (And.intro trivial (And.intro (And.intro trivial (And.intro trivial (And.intro good74 (And.intro trivial trivial)))) (And.intro good42 (And.intro trivial trivial)))) (And.intro good26 (And.intro trivial (And.intro good58 (And.intro trivial trivial)))))))) (And.intro good6 (And.intro (And.intro trivial (And.intro (And.intro trivial (And.intro (And.intro trivial (And.intro trivial (And.intro good70 (And.intro trivial trivial)))) (And.intro good38 (And.intro trivial trivial)))) (And.intro good22 (And.intro trivial (And.intro good54 (And.intro trivial trivial)))))) (And.intro good14 (And.intro (And.intro trivial (And.intro (And.intro trivial (And.intro trivial (And.intro good78 (And.intro trivial trivial)))) (And.intro good46 (And.intro trivial trivial)))) (And.intro good30 (And.intro trivial (And.intro good62 (And.intro trivial trivial)))))))))))) (And.intro trivial (And.intro (And.intro trivial (And.intro (And.intro trivial (And.intro (And.intro trivial (And.intro (And.intro trivial (And.intro (And.intro trivial (And.intro trivial (And.intro good65 (And.intro trivial trivial)))) (And.intro good33 (And.intro trivial trivial)))) (And.intro good17 (And.intro (And.intro trivial (And.intro trivial (And.intro good81 (And.intro trivial trivial)))) (And.intro good49 (And.intro trivial trivial)))))) (And.intro good9 (And.intro (And.intro trivial (And.intro (And.intro trivial (And.intro trivial (And.intro good73 (And.intro trivial trivial)))) trivial)) (And.intro good25 (And.intro trivial (And.intro good57 (And.intro trivial trivial)))))))) (And.intro good5 (And.intro (And.intro trivial (And.intro (And.intro trivial (And.intro (And.intro trivial (And.intro trivial (And.intro good69 (And.intro trivial trivial)))) (And.intro good37 (And.intro trivial trivial)))) (And.intro good21 (And.intro trivial (And.intro good53 (And.intro trivial trivial)))))) (And.intro good13 (And.intro (And.intro trivial (And.intro (And.intro trivial (And.intro trivial (And.intro good77 (And.intro trivial trivial)))) (And.intro good45 (And.intro trivial trivial)))) (And.intro good29 (And.intro trivial (And.intro good61 (And.intro trivial trivial)))))))))) (And.intro good3 (And.intro (And.intro trivial (And.intro (And.intro trivial (And.intro (And.intro trivial (And.intro (And.intro trivial (And.intro trivial (And.intro good67 (And.intro trivial trivial)))) (And.intro good35 (And.intro trivial trivial)))) (And.intro good19 (And.intro (And.intro trivial (And.intro trivial (And.intro good83 (And.intro trivial trivial)))) (And.intro good51 (And.intro trivial trivial)))))) (And.intro good11 (And.intro (And.intro trivial (And.intro (And.intro trivial (And.intro trivial (And.intro good75 (And.intro trivial trivial)))) (And.intro good43 (And.intro trivial trivial)))) (And.intro good27 (And.intro trivial (And.intro good59 (And.intro trivial trivial)))))))) (And.intro good7 (And.intro (And.intro trivial (And.intro (And.intro trivial (And.intro (And.intro trivial (And.intro trivial (And.intro good71 (And.intro trivial trivial)))) (And.intro good39 (And.intro trivial trivial)))) (And.intro good23 (And.intro trivial (And.intro good55 (And.intro trivial trivial)))))) (And.intro good15 (And.intro (And.intro trivial (And.intro (And.intro trivial (And.intro trivial (And.intro good79 (And.intro trivial trivial)))) (And.intro good47 (And.intro trivial trivial)))) (And.intro good31 (And.intro trivial (And.intro good63 (And.intro trivial trivial))))))))))))))
theorem idx_ok : CallOk Try.prog (idxKnown 41) := idxKnown_ok Try.func41 (by kernel_rfl) (by kernel_rfl) (by kernel_rfl) (by kernel_rfl)
noncomputable def env : Env Try.prog drStatic := tab.env tab_ok (idxKnown 41) idx_ok
end Go.Proofs.Ytkffnkhpgdnddaa
