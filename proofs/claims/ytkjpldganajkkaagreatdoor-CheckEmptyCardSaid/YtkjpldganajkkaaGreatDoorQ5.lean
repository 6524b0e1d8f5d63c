/-
  Tab, Nice27, as one text. Proved step by step; no conditions beside what is said.
-/
import Derived.Test.YtkjpldganajkkaaGreatDoorRows
import Derived.Test.YtkjpldganajkkaaGreatDoorQ4
set_option linter.unusedSimpArgs false
set_option linter.unusedVariables false
set_option linter.unusedSectionVars false
set_option maxRecDepth 100000
namespace Go.Proofs.YtkjpldganajkkaaGreatDoor
open Go Go.RowKit Go.Proofs.YtkjpldganajkkaaGreatDoor.NICE
noncomputable def tab:Tb:=.node none (.node none (.node none (.node none (.node none (.node none (.node none (.node none (.node none .leaf (.node (some Tryz.f256) .leaf .leaf)) (.node (some Tryz.f128) .leaf .leaf)) (.node (some Tryz.f64) (.node none .leaf (.node (some Tryz.f320) .leaf .leaf)) (.node (some Tryz.f192) .leaf .leaf))) (.node (some Tryz.f32) (.node none (.node none .leaf (.node (some Tryz.f288) .leaf .leaf)) (.node (some Tryz.f160) .leaf .leaf)) (.node (some Tryz.f96) (.node none .leaf (.node (some Tryz.f352) .leaf .leaf)) (.node (some Tryz.f224) .leaf .leaf)))) (.node (some Tryz.f16) (.node none (.node none (.node none .leaf (.node (some Tryz.f272) .leaf .leaf)) (.node (some Tryz.f144) .leaf .leaf)) (.node (some Tryz.f80) .leaf (.node (some Tryz.f208) .leaf .leaf))) (.node (some Tryz.f48) (.node none (.node none .leaf (.node (some Tryz.f304) .leaf .leaf)) (.node (some Tryz.f176) .leaf .leaf)) (.node (some Tryz.f112) .leaf (.node (some Tryz.f240) .leaf .leaf))))) (.node (some Tryz.f8) (.node none (.node none (.node none (.node none .leaf (.node (some Tryz.f264) .leaf .leaf)) (.node (some Tryz.f136) .leaf .leaf)) (.node (some Tryz.f72) (.node none .leaf (.node (some Tryz.f328) .leaf .leaf)) (.node (some Tryz.f200) .leaf .leaf))) (.node (some Tryz.f40) (.node none (.node none .leaf (.node (some Tryz.f296) .leaf .leaf)) (.node (some Tryz.f168) .leaf .leaf)) (.node (some Tryz.f104) .leaf (.node (some Tryz.f232) .leaf .leaf)))) (.node (some Tryz.f24) (.node none (.node none (.node none .leaf (.node (some Tryz.f280) .leaf .leaf)) (.node (some Tryz.f152) .leaf .leaf)) (.node (some Tryz.f88) .leaf (.node (some Tryz.f216) .leaf .leaf))) (.node (some Tryz.f56) (.node none (.node none .leaf (.node (some Tryz.f312) .leaf .leaf)) (.node (some Tryz.f184) .leaf .leaf)) (.node (some Tryz.f120) .leaf (.node (some Tryz.f248) .leaf .leaf)))))) (.node (some Tryz.f4) (.node none (.node none (.node none (.node none (.node none .leaf (.node (some Tryz.f260) .leaf .leaf)) (.node (some Tryz.f132) .leaf .leaf)) (.node (some Tryz.f68) (.node none .leaf (.node (some Tryz.f324) .leaf .leaf)) (.node (some Tryz.f196) .leaf .leaf))) (.node (some Tryz.f36) (.node none (.node none .leaf (.node (some Tryz.f292) .leaf .leaf)) (.node (some Tryz.f164) .leaf .leaf)) (.node (some Tryz.f100) (.node none .leaf (.node (some Tryz.f356) .leaf .leaf)) (.node (some Tryz.f228) .leaf .leaf)))) (.node (some Tryz.f20) (.node none (.node none (.node none .leaf (.node (some Tryz.f276) .leaf .leaf)) (.node (some Tryz.f148) .leaf .leaf)) (.node (some Tryz.f84) .leaf (.node (some Tryz.f212) .leaf .leaf))) (.node (some Tryz.f52) (.node none (.node none .leaf (.node (some Tryz.f308) .leaf .leaf)) (.node (some Tryz.f180) .leaf .leaf)) (.node (some Tryz.f116) .leaf (.node (some Tryz.f244) .leaf .leaf))))) (.node (some Tryz.f12) (.node none (.node none (.node none (.node none .leaf (.node (some Tryz.f268) .leaf .leaf)) (.node (some Tryz.f140) .leaf .leaf)) (.node (some Tryz.f76) (.node none .leaf (.node (some Tryz.f332) .leaf .leaf)) (.node (some Tryz.f204) .leaf .leaf))) (.node (some Tryz.f44) (.node none (.node none .leaf (.node (some Tryz.f300) .leaf .leaf)) (.node (some Tryz.f172) .leaf .leaf)) (.node (some Tryz.f108) .leaf (.node (some Tryz.f236) .leaf .leaf)))) (.node (some Tryz.f28) (.node none (.node none (.node none .leaf (.node (some Tryz.f284) .leaf .leaf)) (.node (some Tryz.f156) .leaf .leaf)) (.node (some Tryz.f92) .leaf (.node (some Tryz.f220) .leaf .leaf))) (.node (some Tryz.f60) (.node none (.node none .leaf (.node (some Tryz.f316) .leaf .leaf)) (.node (some Tryz.f188) .leaf .leaf)) (.node (some Tryz.f124) .leaf (.node (some Tryz.f252) .leaf .leaf))))))) (.node (some Tryz.f2) (.node none (.node none (.node none (.node none (.node none (.node none .leaf (.node (some Tryz.f258) .leaf .leaf)) (.node (some Tryz.f130) .leaf .leaf)) (.node (some Tryz.f66) (.node none .leaf (.node (some Tryz.f322) .leaf .leaf)) (.node (some Tryz.f194) .leaf .leaf))) (.node (some Tryz.f34) (.node none (.node none .leaf (.node (some Tryz.f290) .leaf .leaf)) (.node (some Tryz.f162) .leaf .leaf)) (.node (some Tryz.f98) (.node none .leaf (.node (some Tryz.f354) .leaf .leaf)) (.node (some Tryz.f226) .leaf .leaf)))) (.node (some Tryz.f18) (.node none (.node none (.node none .leaf (.node (some Tryz.f274) .leaf .leaf)) (.node (some Tryz.f146) .leaf .leaf)) (.node (some Tryz.f82) .leaf (.node (some Tryz.f210) .leaf .leaf))) (.node (some Tryz.f50) (.node none (.node none .leaf (.node (some Tryz.f306) .leaf .leaf)) (.node (some Tryz.f178) .leaf .leaf)) (.node (some Tryz.f114) .leaf (.node (some Tryz.f242) .leaf .leaf))))) (.node (some Tryz.f10) (.node none (.node none (.node none (.node none .leaf (.node (some Tryz.f266) .leaf .leaf)) (.node (some Tryz.f138) .leaf .leaf)) (.node (some Tryz.f74) (.node none .leaf (.node (some Tryz.f330) .leaf .leaf)) (.node (some Tryz.f202) .leaf .leaf))) (.node (some Tryz.f42) (.node none (.node none .leaf (.node (some Tryz.f298) .leaf .leaf)) (.node (some Tryz.f170) .leaf .leaf)) (.node (some Tryz.f106) .leaf (.node (some Tryz.f234) .leaf .leaf)))) (.node (some Tryz.f26) (.node none (.node none (.node none .leaf (.node (some Tryz.f282) .leaf .leaf)) (.node (some Tryz.f154) .leaf .leaf)) (.node (some Tryz.f90) .leaf (.node (some Tryz.f218) .leaf .leaf))) (.node (some Tryz.f58) (.node none (.node none .leaf (.node (some Tryz.f314) .leaf .leaf)) (.node (some Tryz.f186) .leaf .leaf)) (.node (some Tryz.f122) .leaf (.node (some Tryz.f250) .leaf .leaf)))))) (.node (some Tryz.f6) (.node none (.node none (.node none (.node none (.node none .leaf (.node (some Tryz.f262) .leaf .leaf)) (.node (some Tryz.f134) .leaf .leaf)) (.node (some Tryz.f70) (.node none .leaf (.node (some Tryz.f326) .leaf .leaf)) (.node (some Tryz.f198) .leaf .leaf))) (.node (some Tryz.f38) (.node none (.node none .leaf (.node (some Tryz.f294) .leaf .leaf)) (.node (some Tryz.f166) .leaf .leaf)) (.node (some Tryz.f102) .leaf (.node (some Tryz.f230) .leaf .leaf)))) (.node (some Tryz.f22) (.node none (.node none (.node none .leaf (.node (some Tryz.f278) .leaf .leaf)) (.node (some Tryz.f150) .leaf .leaf)) (.node (some Tryz.f86) .leaf (.node (some Tryz.f214) .leaf .leaf))) (.node (some Tryz.f54) (.node none (.node none .leaf (.node (some Tryz.f310) .leaf .leaf)) (.node (some Tryz.f182) .leaf .leaf)) (.node (some Tryz.f118) .leaf (.node (some Tryz.f246) .leaf .leaf))))) (.node (some Tryz.f14) (.node none (.node none (.node none (.node none .leaf (.node (some Tryz.f270) .leaf .leaf)) (.node (some Tryz.f142) .leaf .leaf)) (.node (some Tryz.f78) .leaf (.node (some Tryz.f206) .leaf .leaf))) (.node (some Tryz.f46) (.node none (.node none .leaf (.node (some Tryz.f302) .leaf .leaf)) (.node (some Tryz.f174) .leaf .leaf)) (.node (some Tryz.f110) .leaf (.node (some Tryz.f238) .leaf .leaf)))) (.node (some Tryz.f30) (.node none (.node none (.node none .leaf (.node (some Tryz.f286) .leaf .leaf)) (.node (some Tryz.f158) .leaf .leaf)) (.node (some Tryz.f94) (.node none .leaf (.node (some Tryz.f350) .leaf .leaf)) (.node (some Tryz.f222) .leaf .leaf))) (.node (some Tryz.f62) (.node none (.node none .leaf (.node (some Tryz.f318) .leaf .leaf)) (.node (some Tryz.f190) .leaf .leaf)) (.node (some Tryz.f126) .leaf (.node (some Tryz.f254) .leaf .leaf)))))))) (.node none (.node none (.node none (.node none (.node none (.node none (.node none (.node none .leaf (.node (some Tryz.f257) .leaf .leaf)) (.node (some Tryz.f129) .leaf .leaf)) (.node (some Tryz.f65) (.node none .leaf (.node (some Tryz.f321) .leaf .leaf)) (.node (some Tryz.f193) .leaf .leaf))) (.node (some Tryz.f33) (.node none (.node none .leaf (.node (some Tryz.f289) .leaf .leaf)) (.node (some Tryz.f161) .leaf .leaf)) (.node (some Tryz.f97) (.node none .leaf (.node (some Tryz.f353) .leaf .leaf)) (.node (some Tryz.f225) .leaf .leaf)))) (.node (some Tryz.f17) (.node none (.node none (.node none .leaf (.node (some Tryz.f273) .leaf .leaf)) (.node (some Tryz.f145) .leaf .leaf)) (.node (some Tryz.f81) .leaf (.node (some Tryz.f209) .leaf .leaf))) (.node (some Tryz.f49) (.node none (.node none .leaf (.node (some Tryz.f305) .leaf .leaf)) (.node (some Tryz.f177) .leaf .leaf)) (.node (some Tryz.f113) .leaf (.node (some Tryz.f241) .leaf .leaf))))) (.node (some Tryz.f9) (.node none (.node none (.node none (.node none .leaf (.node (some Tryz.f265) .leaf .leaf)) (.node (some Tryz.f137) .leaf .leaf)) (.node (some Tryz.f73) (.node none .leaf (.node (some Tryz.f329) .leaf .leaf)) (.node (some Tryz.f201) .leaf .leaf))) (.node (some Tryz.f41) (.node none (.node none .leaf (.node (some Tryz.f297) .leaf .leaf)) (.node (some Tryz.f169) .leaf .leaf)) (.node (some Tryz.f105) .leaf (.node (some Tryz.f233) .leaf .leaf)))) (.node (some Tryz.f25) (.node none (.node none .leaf (.node (some Tryz.f153) .leaf .leaf)) (.node (some Tryz.f89) .leaf (.node (some Tryz.f217) .leaf .leaf))) (.node (some Tryz.f57) (.node none (.node none .leaf (.node (some Tryz.f313) .leaf .leaf)) (.node (some Tryz.f185) .leaf .leaf)) (.node (some Tryz.f121) .leaf (.node (some Tryz.f249) .leaf .leaf)))))) (.node (some Tryz.f5) (.node none (.node none (.node none (.node none (.node none .leaf (.node (some Tryz.f261) .leaf .leaf)) (.node (some Tryz.f133) .leaf .leaf)) (.node (some Tryz.f69) (.node none .leaf (.node (some Tryz.f325) .leaf .leaf)) (.node (some Tryz.f197) .leaf .leaf))) (.node (some Tryz.f37) (.node none (.node none .leaf (.node (some Tryz.f293) .leaf .leaf)) (.node (some Tryz.f165) .leaf .leaf)) (.node (some Tryz.f101) .leaf (.node (some Tryz.f229) .leaf .leaf)))) (.node (some Tryz.f21) (.node none (.node none (.node none .leaf (.node (some Tryz.f277) .leaf .leaf)) (.node (some Tryz.f149) .leaf .leaf)) (.node (some Tryz.f85) .leaf (.node (some Tryz.f213) .leaf .leaf))) (.node (some Tryz.f53) (.node none (.node none .leaf (.node (some Tryz.f309) .leaf .leaf)) (.node (some Tryz.f181) .leaf .leaf)) (.node none .leaf (.node (some Tryz.f245) .leaf .leaf))))) (.node (some Tryz.f13) (.node none (.node none (.node none (.node none .leaf (.node (some Tryz.f269) .leaf .leaf)) (.node (some Tryz.f141) .leaf .leaf)) (.node (some Tryz.f77) .leaf (.node (some Tryz.f205) .leaf .leaf))) (.node (some Tryz.f45) (.node none (.node none .leaf (.node (some Tryz.f301) .leaf .leaf)) (.node (some Tryz.f173) .leaf .leaf)) (.node (some Tryz.f109) .leaf (.node (some Tryz.f237) .leaf .leaf)))) (.node (some Tryz.f29) (.node none (.node none (.node none .leaf (.node (some Tryz.f285) .leaf .leaf)) (.node (some Tryz.f157) .leaf .leaf)) (.node (some Tryz.f93) .leaf (.node (some Tryz.f221) .leaf .leaf))) (.node (some Tryz.f61) (.node none (.node none .leaf (.node (some Tryz.f317) .leaf .leaf)) .leaf) (.node (some Tryz.f125) .leaf (.node (some Tryz.f253) .leaf .leaf))))))) (.node (some Tryz.f3) (.node none (.node none (.node none (.node none (.node none (.node none .leaf (.node (some Tryz.f259) .leaf .leaf)) (.node (some Tryz.f131) .leaf .leaf)) (.node (some Tryz.f67) (.node none .leaf (.node (some Tryz.f323) .leaf .leaf)) (.node (some Tryz.f195) .leaf .leaf))) (.node (some Tryz.f35) (.node none (.node none .leaf (.node (some Tryz.f291) .leaf .leaf)) (.node (some Tryz.f163) .leaf .leaf)) (.node (some Tryz.f99) (.node none .leaf (.node (some Tryz.f355) .leaf .leaf)) (.node (some Tryz.f227) .leaf .leaf)))) (.node (some Tryz.f19) (.node none (.node none (.node none .leaf (.node (some Tryz.f275) .leaf .leaf)) (.node (some Tryz.f147) .leaf .leaf)) (.node (some Tryz.f83) .leaf (.node (some Tryz.f211) .leaf .leaf))) (.node (some Tryz.f51) (.node none (.node none .leaf (.node (some Tryz.f307) .leaf .leaf)) (.node (some Tryz.f179) .leaf .leaf)) (.node (some Tryz.f115) .leaf (.node (some Tryz.f243) .leaf .leaf))))) (.node (some Tryz.f11) (.node none (.node none (.node none (.node none .leaf (.node (some Tryz.f267) .leaf .leaf)) (.node (some Tryz.f139) .leaf .leaf)) (.node (some Tryz.f75) (.node none .leaf (.node (some Tryz.f331) .leaf .leaf)) (.node (some Tryz.f203) .leaf .leaf))) (.node (some Tryz.f43) (.node none (.node none .leaf (.node (some Tryz.f299) .leaf .leaf)) (.node (some Tryz.f171) .leaf .leaf)) (.node (some Tryz.f107) (.node none .leaf (.node (some Tryz.f363) .leaf .leaf)) (.node (some Tryz.f235) .leaf .leaf)))) (.node (some Tryz.f27) (.node none (.node none (.node none .leaf (.node (some Tryz.f283) .leaf .leaf)) (.node (some Tryz.f155) .leaf .leaf)) (.node (some Tryz.f91) .leaf (.node (some Tryz.f219) .leaf .leaf))) (.node (some Tryz.f59) (.node none (.node none .leaf (.node (some Tryz.f315) .leaf .leaf)) (.node (some Tryz.f187) .leaf .leaf)) (.node (some Tryz.f123) .leaf (.node (some Tryz.f251) .leaf .leaf)))))) (.node (some Tryz.f7) (.node none (.node none (.node none (.node none (.node none .leaf (.node (some Tryz.f263) .leaf .leaf)) (.node (some Tryz.f135) .leaf .leaf)) (.node (some Tryz.f71) (.node none .leaf (.node (some Tryz.f327) .leaf .leaf)) (.node (some Tryz.f199) .leaf .leaf))) (.node (some Tryz.f39) (.node none (.node none .leaf (.node (some Tryz.f295) .leaf .leaf)) (.node (some Tryz.f167) .leaf .leaf)) (.node (some Tryz.f103) .leaf (.node (some Tryz.f231) .leaf .leaf)))) (.node (some Tryz.f23) (.node none (.node none .leaf (.node (some Tryz.f151) .leaf .leaf)) (.node (some Tryz.f87) .leaf (.node (some Tryz.f215) .leaf .leaf))) (.node (some Tryz.f55) (.node none (.node none .leaf (.node (some Tryz.f311) .leaf .leaf)) (.node (some Tryz.f183) .leaf .leaf)) (.node (some Tryz.f119) .leaf (.node (some Tryz.f247) .leaf .leaf))))) (.node (some Tryz.f15) (.node none (.node none (.node none (.node none .leaf (.node (some Tryz.f271) .leaf .leaf)) (.node (some Tryz.f143) .leaf .leaf)) (.node (some Tryz.f79) .leaf (.node (some Tryz.f207) .leaf .leaf))) (.node (some Tryz.f47) (.node none (.node none .leaf (.node (some Tryz.f303) .leaf .leaf)) (.node (some Tryz.f175) .leaf .leaf)) (.node (some Tryz.f111) .leaf (.node (some Tryz.f239) .leaf .leaf)))) (.node (some Tryz.f31) (.node none (.node none (.node none .leaf (.node (some Tryz.f287) .leaf .leaf)) (.node (some Tryz.f159) .leaf .leaf)) (.node (some Tryz.f95) .leaf (.node (some Tryz.f223) .leaf .leaf))) (.node (some Tryz.f63) (.node none (.node none .leaf (.node (some Tryz.f319) .leaf .leaf)) (.node (some Tryz.f191) .leaf .leaf)) (.node (some Tryz.f127) .leaf (.node (some Tryz.f255) .leaf .leaf))))))))
theorem good2:Tryz.prog.funcs[2]? =some Tryz.f2∧fnGood Tryz.f2=true:=⟨Tryz.func2,by kernel_rfl⟩
theorem good3:Tryz.prog.funcs[3]? =some Tryz.f3∧fnGood Tryz.f3=true:=⟨Tryz.func3,by kernel_rfl⟩
theorem good4:Tryz.prog.funcs[4]? =some Tryz.f4∧fnGood Tryz.f4=true:=⟨Tryz.func4,by kernel_rfl⟩
theorem good5:Tryz.prog.funcs[5]? =some Tryz.f5∧fnGood Tryz.f5=true:=⟨Tryz.func5,by kernel_rfl⟩
theorem good6:Tryz.prog.funcs[6]? =some Tryz.f6∧fnGood Tryz.f6=true:=⟨Tryz.func6,by kernel_rfl⟩
theorem good7:Tryz.prog.funcs[7]? =some Tryz.f7∧fnGood Tryz.f7=true:=⟨Tryz.func7,by kernel_rfl⟩
theorem good8:Tryz.prog.funcs[8]? =some Tryz.f8∧fnGood Tryz.f8=true:=⟨Tryz.func8,by kernel_rfl⟩
theorem good9:Tryz.prog.funcs[9]? =some Tryz.f9∧fnGood Tryz.f9=true:=⟨Tryz.func9,by kernel_rfl⟩
theorem good10:Tryz.prog.funcs[10]? =some Tryz.f10∧fnGood Tryz.f10=true:=⟨Tryz.func10,by kernel_rfl⟩
theorem good11:Tryz.prog.funcs[11]? =some Tryz.f11∧fnGood Tryz.f11=true:=⟨Tryz.func11,by kernel_rfl⟩
theorem good12:Tryz.prog.funcs[12]? =some Tryz.f12∧fnGood Tryz.f12=true:=⟨Tryz.func12,by kernel_rfl⟩
theorem good13:Tryz.prog.funcs[13]? =some Tryz.f13∧fnGood Tryz.f13=true:=⟨Tryz.func13,by kernel_rfl⟩
theorem good14:Tryz.prog.funcs[14]? =some Tryz.f14∧fnGood Tryz.f14=true:=⟨Tryz.func14,by kernel_rfl⟩
theorem good15:Tryz.prog.funcs[15]? =some Tryz.f15∧fnGood Tryz.f15=true:=⟨Tryz.func15,by kernel_rfl⟩
theorem good16:Tryz.prog.funcs[16]? =some Tryz.f16∧fnGood Tryz.f16=true:=⟨Tryz.func16,by kernel_rfl⟩
theorem good17:Tryz.prog.funcs[17]? =some Tryz.f17∧fnGood Tryz.f17=true:=⟨Tryz.func17,by kernel_rfl⟩
theorem good18:Tryz.prog.funcs[18]? =some Tryz.f18∧fnGood Tryz.f18=true:=⟨Tryz.func18,by kernel_rfl⟩
theorem good19:Tryz.prog.funcs[19]? =some Tryz.f19∧fnGood Tryz.f19=true:=⟨Tryz.func19,by kernel_rfl⟩
theorem good20:Tryz.prog.funcs[20]? =some Tryz.f20∧fnGood Tryz.f20=true:=⟨Tryz.func20,by kernel_rfl⟩
theorem good21:Tryz.prog.funcs[21]? =some Tryz.f21∧fnGood Tryz.f21=true:=⟨Tryz.func21,by kernel_rfl⟩
theorem good22:Tryz.prog.funcs[22]? =some Tryz.f22∧fnGood Tryz.f22=true:=⟨Tryz.func22,by kernel_rfl⟩
theorem good23:Tryz.prog.funcs[23]? =some Tryz.f23∧fnGood Tryz.f23=true:=⟨Tryz.func23,by kernel_rfl⟩
theorem good24:Tryz.prog.funcs[24]? =some Tryz.f24∧fnGood Tryz.f24=true:=⟨Tryz.func24,by kernel_rfl⟩
theorem good25:Tryz.prog.funcs[25]? =some Tryz.f25∧fnGood Tryz.f25=true:=⟨Tryz.func25,by kernel_rfl⟩
theorem good26:Tryz.prog.funcs[26]? =some Tryz.f26∧fnGood Tryz.f26=true:=⟨Tryz.func26,by kernel_rfl⟩
theorem good27:Tryz.prog.funcs[27]? =some Tryz.f27∧fnGood Tryz.f27=true:=⟨Tryz.func27,by kernel_rfl⟩
theorem good28:Tryz.prog.funcs[28]? =some Tryz.f28∧fnGood Tryz.f28=true:=⟨Tryz.func28,by kernel_rfl⟩
theorem good29:Tryz.prog.funcs[29]? =some Tryz.f29∧fnGood Tryz.f29=true:=⟨Tryz.func29,by kernel_rfl⟩
theorem good30:Tryz.prog.funcs[30]? =some Tryz.f30∧fnGood Tryz.f30=true:=⟨Tryz.func30,by kernel_rfl⟩
theorem good31:Tryz.prog.funcs[31]? =some Tryz.f31∧fnGood Tryz.f31=true:=⟨Tryz.func31,by kernel_rfl⟩
theorem good32:Tryz.prog.funcs[32]? =some Tryz.f32∧fnGood Tryz.f32=true:=⟨Tryz.func32,by kernel_rfl⟩
theorem good33:Tryz.prog.funcs[33]? =some Tryz.f33∧fnGood Tryz.f33=true:=⟨Tryz.func33,by kernel_rfl⟩
theorem good34:Tryz.prog.funcs[34]? =some Tryz.f34∧fnGood Tryz.f34=true:=⟨Tryz.func34,by kernel_rfl⟩
theorem good35:Tryz.prog.funcs[35]? =some Tryz.f35∧fnGood Tryz.f35=true:=⟨Tryz.func35,by kernel_rfl⟩
theorem good36:Tryz.prog.funcs[36]? =some Tryz.f36∧fnGood Tryz.f36=true:=⟨Tryz.func36,by kernel_rfl⟩
theorem good37:Tryz.prog.funcs[37]? =some Tryz.f37∧fnGood Tryz.f37=true:=⟨Tryz.func37,by kernel_rfl⟩
theorem good38:Tryz.prog.funcs[38]? =some Tryz.f38∧fnGood Tryz.f38=true:=⟨Tryz.func38,by kernel_rfl⟩
theorem good39:Tryz.prog.funcs[39]? =some Tryz.f39∧fnGood Tryz.f39=true:=⟨Tryz.func39,by kernel_rfl⟩
theorem good40:Tryz.prog.funcs[40]? =some Tryz.f40∧fnGood Tryz.f40=true:=⟨Tryz.func40,by kernel_rfl⟩
theorem good41:Tryz.prog.funcs[41]? =some Tryz.f41∧fnGood Tryz.f41=true:=⟨Tryz.func41,by kernel_rfl⟩
theorem good42:Tryz.prog.funcs[42]? =some Tryz.f42∧fnGood Tryz.f42=true:=⟨Tryz.func42,by kernel_rfl⟩
theorem good43:Tryz.prog.funcs[43]? =some Tryz.f43∧fnGood Tryz.f43=true:=⟨Tryz.func43,by kernel_rfl⟩
theorem good44:Tryz.prog.funcs[44]? =some Tryz.f44∧fnGood Tryz.f44=true:=⟨Tryz.func44,by kernel_rfl⟩
theorem good45:Tryz.prog.funcs[45]? =some Tryz.f45∧fnGood Tryz.f45=true:=⟨Tryz.func45,by kernel_rfl⟩
theorem good46:Tryz.prog.funcs[46]? =some Tryz.f46∧fnGood Tryz.f46=true:=⟨Tryz.func46,by kernel_rfl⟩
theorem good47:Tryz.prog.funcs[47]? =some Tryz.f47∧fnGood Tryz.f47=true:=⟨Tryz.func47,by kernel_rfl⟩
theorem good48:Tryz.prog.funcs[48]? =some Tryz.f48∧fnGood Tryz.f48=true:=⟨Tryz.func48,by kernel_rfl⟩
theorem good49:Tryz.prog.funcs[49]? =some Tryz.f49∧fnGood Tryz.f49=true:=⟨Tryz.func49,by kernel_rfl⟩
theorem good50:Tryz.prog.funcs[50]? =some Tryz.f50∧fnGood Tryz.f50=true:=⟨Tryz.func50,by kernel_rfl⟩
theorem good51:Tryz.prog.funcs[51]? =some Tryz.f51∧fnGood Tryz.f51=true:=⟨Tryz.func51,by kernel_rfl⟩
theorem good52:Tryz.prog.funcs[52]? =some Tryz.f52∧fnGood Tryz.f52=true:=⟨Tryz.func52,by kernel_rfl⟩
theorem good53:Tryz.prog.funcs[53]? =some Tryz.f53∧fnGood Tryz.f53=true:=⟨Tryz.func53,by kernel_rfl⟩
theorem good54:Tryz.prog.funcs[54]? =some Tryz.f54∧fnGood Tryz.f54=true:=⟨Tryz.func54,by kernel_rfl⟩
theorem good55:Tryz.prog.funcs[55]? =some Tryz.f55∧fnGood Tryz.f55=true:=⟨Tryz.func55,by kernel_rfl⟩
theorem good56:Tryz.prog.funcs[56]? =some Tryz.f56∧fnGood Tryz.f56=true:=⟨Tryz.func56,by kernel_rfl⟩
theorem good57:Tryz.prog.funcs[57]? =some Tryz.f57∧fnGood Tryz.f57=true:=⟨Tryz.func57,by kernel_rfl⟩
theorem good58:Tryz.prog.funcs[58]? =some Tryz.f58∧fnGood Tryz.f58=true:=⟨Tryz.func58,by kernel_rfl⟩
theorem good59:Tryz.prog.funcs[59]? =some Tryz.f59∧fnGood Tryz.f59=true:=⟨Tryz.func59,by kernel_rfl⟩
theorem good60:Tryz.prog.funcs[60]? =some Tryz.f60∧fnGood Tryz.f60=true:=⟨Tryz.func60,by kernel_rfl⟩
theorem good61:Tryz.prog.funcs[61]? =some Tryz.f61∧fnGood Tryz.f61=true:=⟨Tryz.func61,by kernel_rfl⟩
theorem good62:Tryz.prog.funcs[62]? =some Tryz.f62∧fnGood Tryz.f62=true:=⟨Tryz.func62,by kernel_rfl⟩
theorem good63:Tryz.prog.funcs[63]? =some Tryz.f63∧fnGood Tryz.f63=true:=⟨Tryz.func63,by kernel_rfl⟩
theorem good64:Tryz.prog.funcs[64]? =some Tryz.f64∧fnGood Tryz.f64=true:=⟨Tryz.func64,by kernel_rfl⟩
theorem good65:Tryz.prog.funcs[65]? =some Tryz.f65∧fnGood Tryz.f65=true:=⟨Tryz.func65,by kernel_rfl⟩
theorem good66:Tryz.prog.funcs[66]? =some Tryz.f66∧fnGood Tryz.f66=true:=⟨Tryz.func66,by kernel_rfl⟩
theorem good67:Tryz.prog.funcs[67]? =some Tryz.f67∧fnGood Tryz.f67=true:=⟨Tryz.func67,by kernel_rfl⟩
theorem good68:Tryz.prog.funcs[68]? =some Tryz.f68∧fnGood Tryz.f68=true:=⟨Tryz.func68,by kernel_rfl⟩
theorem good69:Tryz.prog.funcs[69]? =some Tryz.f69∧fnGood Tryz.f69=true:=⟨Tryz.func69,by kernel_rfl⟩
theorem good70:Tryz.prog.funcs[70]? =some Tryz.f70∧fnGood Tryz.f70=true:=⟨Tryz.func70,by kernel_rfl⟩
theorem good71:Tryz.prog.funcs[71]? =some Tryz.f71∧fnGood Tryz.f71=true:=⟨Tryz.func71,by kernel_rfl⟩
theorem good72:Tryz.prog.funcs[72]? =some Tryz.f72∧fnGood Tryz.f72=true:=⟨Tryz.func72,by kernel_rfl⟩
theorem good73:Tryz.prog.funcs[73]? =some Tryz.f73∧fnGood Tryz.f73=true:=⟨Tryz.func73,by kernel_rfl⟩
theorem good74:Tryz.prog.funcs[74]? =some Tryz.f74∧fnGood Tryz.f74=true:=⟨Tryz.func74,by kernel_rfl⟩
theorem good75:Tryz.prog.funcs[75]? =some Tryz.f75∧fnGood Tryz.f75=true:=⟨Tryz.func75,by kernel_rfl⟩
theorem good76:Tryz.prog.funcs[76]? =some Tryz.f76∧fnGood Tryz.f76=true:=⟨Tryz.func76,by kernel_rfl⟩
theorem good77:Tryz.prog.funcs[77]? =some Tryz.f77∧fnGood Tryz.f77=true:=⟨Tryz.func77,by kernel_rfl⟩
theorem good78:Tryz.prog.funcs[78]? =some Tryz.f78∧fnGood Tryz.f78=true:=⟨Tryz.func78,by kernel_rfl⟩
theorem good79:Tryz.prog.funcs[79]? =some Tryz.f79∧fnGood Tryz.f79=true:=⟨Tryz.func79,by kernel_rfl⟩
theorem good80:Tryz.prog.funcs[80]? =some Tryz.f80∧fnGood Tryz.f80=true:=⟨Tryz.func80,by kernel_rfl⟩
theorem good81:Tryz.prog.funcs[81]? =some Tryz.f81∧fnGood Tryz.f81=true:=⟨Tryz.func81,by kernel_rfl⟩
theorem good82:Tryz.prog.funcs[82]? =some Tryz.f82∧fnGood Tryz.f82=true:=⟨Tryz.func82,by kernel_rfl⟩
theorem good83:Tryz.prog.funcs[83]? =some Tryz.f83∧fnGood Tryz.f83=true:=⟨Tryz.func83,by kernel_rfl⟩
theorem good84:Tryz.prog.funcs[84]? =some Tryz.f84∧fnGood Tryz.f84=true:=⟨Tryz.func84,by kernel_rfl⟩
theorem good85:Tryz.prog.funcs[85]? =some Tryz.f85∧fnGood Tryz.f85=true:=⟨Tryz.func85,by kernel_rfl⟩
theorem good86:Tryz.prog.funcs[86]? =some Tryz.f86∧fnGood Tryz.f86=true:=⟨Tryz.func86,by kernel_rfl⟩
theorem good87:Tryz.prog.funcs[87]? =some Tryz.f87∧fnGood Tryz.f87=true:=⟨Tryz.func87,by kernel_rfl⟩
theorem good88:Tryz.prog.funcs[88]? =some Tryz.f88∧fnGood Tryz.f88=true:=⟨Tryz.func88,by kernel_rfl⟩
theorem good89:Tryz.prog.funcs[89]? =some Tryz.f89∧fnGood Tryz.f89=true:=⟨Tryz.func89,by kernel_rfl⟩
theorem good90:Tryz.prog.funcs[90]? =some Tryz.f90∧fnGood Tryz.f90=true:=⟨Tryz.func90,by kernel_rfl⟩
theorem good91:Tryz.prog.funcs[91]? =some Tryz.f91∧fnGood Tryz.f91=true:=⟨Tryz.func91,by kernel_rfl⟩
theorem good92:Tryz.prog.funcs[92]? =some Tryz.f92∧fnGood Tryz.f92=true:=⟨Tryz.func92,by kernel_rfl⟩
theorem good93:Tryz.prog.funcs[93]? =some Tryz.f93∧fnGood Tryz.f93=true:=⟨Tryz.func93,by kernel_rfl⟩
theorem good94:Tryz.prog.funcs[94]? =some Tryz.f94∧fnGood Tryz.f94=true:=⟨Tryz.func94,by kernel_rfl⟩
theorem good95:Tryz.prog.funcs[95]? =some Tryz.f95∧fnGood Tryz.f95=true:=⟨Tryz.func95,by kernel_rfl⟩
theorem good96:Tryz.prog.funcs[96]? =some Tryz.f96∧fnGood Tryz.f96=true:=⟨Tryz.func96,by kernel_rfl⟩
theorem good97:Tryz.prog.funcs[97]? =some Tryz.f97∧fnGood Tryz.f97=true:=⟨Tryz.func97,by kernel_rfl⟩
theorem good98:Tryz.prog.funcs[98]? =some Tryz.f98∧fnGood Tryz.f98=true:=⟨Tryz.func98,by kernel_rfl⟩
theorem good99:Tryz.prog.funcs[99]? =some Tryz.f99∧fnGood Tryz.f99=true:=⟨Tryz.func99,by kernel_rfl⟩
theorem good100:Tryz.prog.funcs[100]? =some Tryz.f100∧fnGood Tryz.f100=true:=⟨Tryz.func100,by kernel_rfl⟩
theorem good101:Tryz.prog.funcs[101]? =some Tryz.f101∧fnGood Tryz.f101=true:=⟨Tryz.func101,by kernel_rfl⟩
theorem good102:Tryz.prog.funcs[102]? =some Tryz.f102∧fnGood Tryz.f102=true:=⟨Tryz.func102,by kernel_rfl⟩
theorem good103:Tryz.prog.funcs[103]? =some Tryz.f103∧fnGood Tryz.f103=true:=⟨Tryz.func103,by kernel_rfl⟩
theorem good104:Tryz.prog.funcs[104]? =some Tryz.f104∧fnGood Tryz.f104=true:=⟨Tryz.func104,by kernel_rfl⟩
theorem good105:Tryz.prog.funcs[105]? =some Tryz.f105∧fnGood Tryz.f105=true:=⟨Tryz.func105,by kernel_rfl⟩
theorem good106:Tryz.prog.funcs[106]? =some Tryz.f106∧fnGood Tryz.f106=true:=⟨Tryz.func106,by kernel_rfl⟩
theorem good107:Tryz.prog.funcs[107]? =some Tryz.f107∧fnGood Tryz.f107=true:=⟨Tryz.func107,by kernel_rfl⟩
theorem good108:Tryz.prog.funcs[108]? =some Tryz.f108∧fnGood Tryz.f108=true:=⟨Tryz.func108,by kernel_rfl⟩
theorem good109:Tryz.prog.funcs[109]? =some Tryz.f109∧fnGood Tryz.f109=true:=⟨Tryz.func109,by kernel_rfl⟩
theorem good110:Tryz.prog.funcs[110]? =some Tryz.f110∧fnGood Tryz.f110=true:=⟨Tryz.func110,by kernel_rfl⟩
theorem good111:Tryz.prog.funcs[111]? =some Tryz.f111∧fnGood Tryz.f111=true:=⟨Tryz.func111,by kernel_rfl⟩
theorem good112:Tryz.prog.funcs[112]? =some Tryz.f112∧fnGood Tryz.f112=true:=⟨Tryz.func112,by kernel_rfl⟩
theorem good113:Tryz.prog.funcs[113]? =some Tryz.f113∧fnGood Tryz.f113=true:=⟨Tryz.func113,by kernel_rfl⟩
theorem good114:Tryz.prog.funcs[114]? =some Tryz.f114∧fnGood Tryz.f114=true:=⟨Tryz.func114,by kernel_rfl⟩
theorem good115:Tryz.prog.funcs[115]? =some Tryz.f115∧fnGood Tryz.f115=true:=⟨Tryz.func115,by kernel_rfl⟩
theorem good116:Tryz.prog.funcs[116]? =some Tryz.f116∧fnGood Tryz.f116=true:=⟨Tryz.func116,by kernel_rfl⟩
theorem good118:Tryz.prog.funcs[118]? =some Tryz.f118∧fnGood Tryz.f118=true:=⟨Tryz.func118,by kernel_rfl⟩
theorem good119:Tryz.prog.funcs[119]? =some Tryz.f119∧fnGood Tryz.f119=true:=⟨Tryz.func119,by kernel_rfl⟩
theorem good120:Tryz.prog.funcs[120]? =some Tryz.f120∧fnGood Tryz.f120=true:=⟨Tryz.func120,by kernel_rfl⟩
theorem good121:Tryz.prog.funcs[121]? =some Tryz.f121∧fnGood Tryz.f121=true:=⟨Tryz.func121,by kernel_rfl⟩
theorem good122:Tryz.prog.funcs[122]? =some Tryz.f122∧fnGood Tryz.f122=true:=⟨Tryz.func122,by kernel_rfl⟩
theorem good123:Tryz.prog.funcs[123]? =some Tryz.f123∧fnGood Tryz.f123=true:=⟨Tryz.func123,by kernel_rfl⟩
theorem good124:Tryz.prog.funcs[124]? =some Tryz.f124∧fnGood Tryz.f124=true:=⟨Tryz.func124,by kernel_rfl⟩
theorem good125:Tryz.prog.funcs[125]? =some Tryz.f125∧fnGood Tryz.f125=true:=⟨Tryz.func125,by kernel_rfl⟩
theorem good126:Tryz.prog.funcs[126]? =some Tryz.f126∧fnGood Tryz.f126=true:=⟨Tryz.func126,by kernel_rfl⟩
theorem good127:Tryz.prog.funcs[127]? =some Tryz.f127∧fnGood Tryz.f127=true:=⟨Tryz.func127,by kernel_rfl⟩
theorem good128:Tryz.prog.funcs[128]? =some Tryz.f128∧fnGood Tryz.f128=true:=⟨Tryz.func128,by kernel_rfl⟩
theorem good129:Tryz.prog.funcs[129]? =some Tryz.f129∧fnGood Tryz.f129=true:=⟨Tryz.func129,by kernel_rfl⟩
theorem good130:Tryz.prog.funcs[130]? =some Tryz.f130∧fnGood Tryz.f130=true:=⟨Tryz.func130,by kernel_rfl⟩
theorem good131:Tryz.prog.funcs[131]? =some Tryz.f131∧fnGood Tryz.f131=true:=⟨Tryz.func131,by kernel_rfl⟩
theorem good132:Tryz.prog.funcs[132]? =some Tryz.f132∧fnGood Tryz.f132=true:=⟨Tryz.func132,by kernel_rfl⟩
theorem good133:Tryz.prog.funcs[133]? =some Tryz.f133∧fnGood Tryz.f133=true:=⟨Tryz.func133,by kernel_rfl⟩
theorem good134:Tryz.prog.funcs[134]? =some Tryz.f134∧fnGood Tryz.f134=true:=⟨Tryz.func134,by kernel_rfl⟩
theorem good135:Tryz.prog.funcs[135]? =some Tryz.f135∧fnGood Tryz.f135=true:=⟨Tryz.func135,by kernel_rfl⟩
theorem good136:Tryz.prog.funcs[136]? =some Tryz.f136∧fnGood Tryz.f136=true:=⟨Tryz.func136,by kernel_rfl⟩
theorem good137:Tryz.prog.funcs[137]? =some Tryz.f137∧fnGood Tryz.f137=true:=⟨Tryz.func137,by kernel_rfl⟩
theorem good138:Tryz.prog.funcs[138]? =some Tryz.f138∧fnGood Tryz.f138=true:=⟨Tryz.func138,by kernel_rfl⟩
theorem good139:Tryz.prog.funcs[139]? =some Tryz.f139∧fnGood Tryz.f139=true:=⟨Tryz.func139,by kernel_rfl⟩
theorem good140:Tryz.prog.funcs[140]? =some Tryz.f140∧fnGood Tryz.f140=true:=⟨Tryz.func140,by kernel_rfl⟩
theorem good141:Tryz.prog.funcs[141]? =some Tryz.f141∧fnGood Tryz.f141=true:=⟨Tryz.func141,by kernel_rfl⟩
theorem good142:Tryz.prog.funcs[142]? =some Tryz.f142∧fnGood Tryz.f142=true:=⟨Tryz.func142,by kernel_rfl⟩
theorem good143:Tryz.prog.funcs[143]? =some Tryz.f143∧fnGood Tryz.f143=true:=⟨Tryz.func143,by kernel_rfl⟩
theorem good144:Tryz.prog.funcs[144]? =some Tryz.f144∧fnGood Tryz.f144=true:=⟨Tryz.func144,by kernel_rfl⟩
theorem good145:Tryz.prog.funcs[145]? =some Tryz.f145∧fnGood Tryz.f145=true:=⟨Tryz.func145,by kernel_rfl⟩
theorem good146:Tryz.prog.funcs[146]? =some Tryz.f146∧fnGood Tryz.f146=true:=⟨Tryz.func146,by kernel_rfl⟩
theorem good147:Tryz.prog.funcs[147]? =some Tryz.f147∧fnGood Tryz.f147=true:=⟨Tryz.func147,by kernel_rfl⟩
theorem good148:Tryz.prog.funcs[148]? =some Tryz.f148∧fnGood Tryz.f148=true:=⟨Tryz.func148,by kernel_rfl⟩
theorem good149:Tryz.prog.funcs[149]? =some Tryz.f149∧fnGood Tryz.f149=true:=⟨Tryz.func149,by kernel_rfl⟩
theorem good150:Tryz.prog.funcs[150]? =some Tryz.f150∧fnGood Tryz.f150=true:=⟨Tryz.func150,by kernel_rfl⟩
theorem good151:Tryz.prog.funcs[151]? =some Tryz.f151∧fnGood Tryz.f151=true:=⟨Tryz.func151,by kernel_rfl⟩
theorem good152:Tryz.prog.funcs[152]? =some Tryz.f152∧fnGood Tryz.f152=true:=⟨Tryz.func152,by kernel_rfl⟩
theorem good153:Tryz.prog.funcs[153]? =some Tryz.f153∧fnGood Tryz.f153=true:=⟨Tryz.func153,by kernel_rfl⟩
theorem good154:Tryz.prog.funcs[154]? =some Tryz.f154∧fnGood Tryz.f154=true:=⟨Tryz.func154,by kernel_rfl⟩
theorem good155:Tryz.prog.funcs[155]? =some Tryz.f155∧fnGood Tryz.f155=true:=⟨Tryz.func155,by kernel_rfl⟩
theorem good156:Tryz.prog.funcs[156]? =some Tryz.f156∧fnGood Tryz.f156=true:=⟨Tryz.func156,by kernel_rfl⟩
theorem good157:Tryz.prog.funcs[157]? =some Tryz.f157∧fnGood Tryz.f157=true:=⟨Tryz.func157,by kernel_rfl⟩
theorem good158:Tryz.prog.funcs[158]? =some Tryz.f158∧fnGood Tryz.f158=true:=⟨Tryz.func158,by kernel_rfl⟩
theorem good159:Tryz.prog.funcs[159]? =some Tryz.f159∧fnGood Tryz.f159=true:=⟨Tryz.func159,by kernel_rfl⟩
theorem good160:Tryz.prog.funcs[160]? =some Tryz.f160∧fnGood Tryz.f160=true:=⟨Tryz.func160,by kernel_rfl⟩
theorem good161:Tryz.prog.funcs[161]? =some Tryz.f161∧fnGood Tryz.f161=true:=⟨Tryz.func161,by kernel_rfl⟩
theorem good162:Tryz.prog.funcs[162]? =some Tryz.f162∧fnGood Tryz.f162=true:=⟨Tryz.func162,by kernel_rfl⟩
theorem good163:Tryz.prog.funcs[163]? =some Tryz.f163∧fnGood Tryz.f163=true:=⟨Tryz.func163,by kernel_rfl⟩
theorem good164:Tryz.prog.funcs[164]? =some Tryz.f164∧fnGood Tryz.f164=true:=⟨Tryz.func164,by kernel_rfl⟩
theorem good165:Tryz.prog.funcs[165]? =some Tryz.f165∧fnGood Tryz.f165=true:=⟨Tryz.func165,by kernel_rfl⟩
theorem good166:Tryz.prog.funcs[166]? =some Tryz.f166∧fnGood Tryz.f166=true:=⟨Tryz.func166,by kernel_rfl⟩
theorem good167:Tryz.prog.funcs[167]? =some Tryz.f167∧fnGood Tryz.f167=true:=⟨Tryz.func167,by kernel_rfl⟩
theorem good168:Tryz.prog.funcs[168]? =some Tryz.f168∧fnGood Tryz.f168=true:=⟨Tryz.func168,by kernel_rfl⟩
theorem good169:Tryz.prog.funcs[169]? =some Tryz.f169∧fnGood Tryz.f169=true:=⟨Tryz.func169,by kernel_rfl⟩
theorem good170:Tryz.prog.funcs[170]? =some Tryz.f170∧fnGood Tryz.f170=true:=⟨Tryz.func170,by kernel_rfl⟩
theorem good171:Tryz.prog.funcs[171]? =some Tryz.f171∧fnGood Tryz.f171=true:=⟨Tryz.func171,by kernel_rfl⟩
theorem good172:Tryz.prog.funcs[172]? =some Tryz.f172∧fnGood Tryz.f172=true:=⟨Tryz.func172,by kernel_rfl⟩
theorem good173:Tryz.prog.funcs[173]? =some Tryz.f173∧fnGood Tryz.f173=true:=⟨Tryz.func173,by kernel_rfl⟩
theorem good174:Tryz.prog.funcs[174]? =some Tryz.f174∧fnGood Tryz.f174=true:=⟨Tryz.func174,by kernel_rfl⟩
theorem good175:Tryz.prog.funcs[175]? =some Tryz.f175∧fnGood Tryz.f175=true:=⟨Tryz.func175,by kernel_rfl⟩
theorem good176:Tryz.prog.funcs[176]? =some Tryz.f176∧fnGood Tryz.f176=true:=⟨Tryz.func176,by kernel_rfl⟩
theorem good177:Tryz.prog.funcs[177]? =some Tryz.f177∧fnGood Tryz.f177=true:=⟨Tryz.func177,by kernel_rfl⟩
theorem good178:Tryz.prog.funcs[178]? =some Tryz.f178∧fnGood Tryz.f178=true:=⟨Tryz.func178,by kernel_rfl⟩
theorem good179:Tryz.prog.funcs[179]? =some Tryz.f179∧fnGood Tryz.f179=true:=⟨Tryz.func179,by kernel_rfl⟩
theorem good180:Tryz.prog.funcs[180]? =some Tryz.f180∧fnGood Tryz.f180=true:=⟨Tryz.func180,by kernel_rfl⟩
theorem good181:Tryz.prog.funcs[181]? =some Tryz.f181∧fnGood Tryz.f181=true:=⟨Tryz.func181,by kernel_rfl⟩
theorem good182:Tryz.prog.funcs[182]? =some Tryz.f182∧fnGood Tryz.f182=true:=⟨Tryz.func182,by kernel_rfl⟩
theorem good183:Tryz.prog.funcs[183]? =some Tryz.f183∧fnGood Tryz.f183=true:=⟨Tryz.func183,by kernel_rfl⟩
theorem good184:Tryz.prog.funcs[184]? =some Tryz.f184∧fnGood Tryz.f184=true:=⟨Tryz.func184,by kernel_rfl⟩
theorem good185:Tryz.prog.funcs[185]? =some Tryz.f185∧fnGood Tryz.f185=true:=⟨Tryz.func185,by kernel_rfl⟩
theorem good186:Tryz.prog.funcs[186]? =some Tryz.f186∧fnGood Tryz.f186=true:=⟨Tryz.func186,by kernel_rfl⟩
theorem good187:Tryz.prog.funcs[187]? =some Tryz.f187∧fnGood Tryz.f187=true:=⟨Tryz.func187,by kernel_rfl⟩
theorem good188:Tryz.prog.funcs[188]? =some Tryz.f188∧fnGood Tryz.f188=true:=⟨Tryz.func188,by kernel_rfl⟩
theorem good190:Tryz.prog.funcs[190]? =some Tryz.f190∧fnGood Tryz.f190=true:=⟨Tryz.func190,by kernel_rfl⟩
theorem good191:Tryz.prog.funcs[191]? =some Tryz.f191∧fnGood Tryz.f191=true:=⟨Tryz.func191,by kernel_rfl⟩
theorem good192:Tryz.prog.funcs[192]? =some Tryz.f192∧fnGood Tryz.f192=true:=⟨Tryz.func192,by kernel_rfl⟩
theorem good193:Tryz.prog.funcs[193]? =some Tryz.f193∧fnGood Tryz.f193=true:=⟨Tryz.func193,by kernel_rfl⟩
theorem good194:Tryz.prog.funcs[194]? =some Tryz.f194∧fnGood Tryz.f194=true:=⟨Tryz.func194,by kernel_rfl⟩
theorem good195:Tryz.prog.funcs[195]? =some Tryz.f195∧fnGood Tryz.f195=true:=⟨Tryz.func195,by kernel_rfl⟩
theorem good196:Tryz.prog.funcs[196]? =some Tryz.f196∧fnGood Tryz.f196=true:=⟨Tryz.func196,by kernel_rfl⟩
theorem good197:Tryz.prog.funcs[197]? =some Tryz.f197∧fnGood Tryz.f197=true:=⟨Tryz.func197,by kernel_rfl⟩
theorem good198:Tryz.prog.funcs[198]? =some Tryz.f198∧fnGood Tryz.f198=true:=⟨Tryz.func198,by kernel_rfl⟩
theorem good199:Tryz.prog.funcs[199]? =some Tryz.f199∧fnGood Tryz.f199=true:=⟨Tryz.func199,by kernel_rfl⟩
theorem good200:Tryz.prog.funcs[200]? =some Tryz.f200∧fnGood Tryz.f200=true:=⟨Tryz.func200,by kernel_rfl⟩
theorem good201:Tryz.prog.funcs[201]? =some Tryz.f201∧fnGood Tryz.f201=true:=⟨Tryz.func201,by kernel_rfl⟩
theorem good202:Tryz.prog.funcs[202]? =some Tryz.f202∧fnGood Tryz.f202=true:=⟨Tryz.func202,by kernel_rfl⟩
theorem good203:Tryz.prog.funcs[203]? =some Tryz.f203∧fnGood Tryz.f203=true:=⟨Tryz.func203,by kernel_rfl⟩
theorem good204:Tryz.prog.funcs[204]? =some Tryz.f204∧fnGood Tryz.f204=true:=⟨Tryz.func204,by kernel_rfl⟩
theorem good205:Tryz.prog.funcs[205]? =some Tryz.f205∧fnGood Tryz.f205=true:=⟨Tryz.func205,by kernel_rfl⟩
theorem good206:Tryz.prog.funcs[206]? =some Tryz.f206∧fnGood Tryz.f206=true:=⟨Tryz.func206,by kernel_rfl⟩
theorem good207:Tryz.prog.funcs[207]? =some Tryz.f207∧fnGood Tryz.f207=true:=⟨Tryz.func207,by kernel_rfl⟩
theorem good208:Tryz.prog.funcs[208]? =some Tryz.f208∧fnGood Tryz.f208=true:=⟨Tryz.func208,by kernel_rfl⟩
theorem good209:Tryz.prog.funcs[209]? =some Tryz.f209∧fnGood Tryz.f209=true:=⟨Tryz.func209,by kernel_rfl⟩
theorem good210:Tryz.prog.funcs[210]? =some Tryz.f210∧fnGood Tryz.f210=true:=⟨Tryz.func210,by kernel_rfl⟩
theorem good211:Tryz.prog.funcs[211]? =some Tryz.f211∧fnGood Tryz.f211=true:=⟨Tryz.func211,by kernel_rfl⟩
theorem good212:Tryz.prog.funcs[212]? =some Tryz.f212∧fnGood Tryz.f212=true:=⟨Tryz.func212,by kernel_rfl⟩
theorem good213:Tryz.prog.funcs[213]? =some Tryz.f213∧fnGood Tryz.f213=true:=⟨Tryz.func213,by kernel_rfl⟩
theorem good214:Tryz.prog.funcs[214]? =some Tryz.f214∧fnGood Tryz.f214=true:=⟨Tryz.func214,by kernel_rfl⟩
theorem good215:Tryz.prog.funcs[215]? =some Tryz.f215∧fnGood Tryz.f215=true:=⟨Tryz.func215,by kernel_rfl⟩
theorem good216:Tryz.prog.funcs[216]? =some Tryz.f216∧fnGood Tryz.f216=true:=⟨Tryz.func216,by kernel_rfl⟩
theorem good217:Tryz.prog.funcs[217]? =some Tryz.f217∧fnGood Tryz.f217=true:=⟨Tryz.func217,by kernel_rfl⟩
theorem good218:Tryz.prog.funcs[218]? =some Tryz.f218∧fnGood Tryz.f218=true:=⟨Tryz.func218,by kernel_rfl⟩
theorem good219:Tryz.prog.funcs[219]? =some Tryz.f219∧fnGood Tryz.f219=true:=⟨Tryz.func219,by kernel_rfl⟩
theorem good220:Tryz.prog.funcs[220]? =some Tryz.f220∧fnGood Tryz.f220=true:=⟨Tryz.func220,by kernel_rfl⟩
theorem good221:Tryz.prog.funcs[221]? =some Tryz.f221∧fnGood Tryz.f221=true:=⟨Tryz.func221,by kernel_rfl⟩
theorem good222:Tryz.prog.funcs[222]? =some Tryz.f222∧fnGood Tryz.f222=true:=⟨Tryz.func222,by kernel_rfl⟩
theorem good223:Tryz.prog.funcs[223]? =some Tryz.f223∧fnGood Tryz.f223=true:=⟨Tryz.func223,by kernel_rfl⟩
theorem good224:Tryz.prog.funcs[224]? =some Tryz.f224∧fnGood Tryz.f224=true:=⟨Tryz.func224,by kernel_rfl⟩
theorem good225:Tryz.prog.funcs[225]? =some Tryz.f225∧fnGood Tryz.f225=true:=⟨Tryz.func225,by kernel_rfl⟩
theorem good226:Tryz.prog.funcs[226]? =some Tryz.f226∧fnGood Tryz.f226=true:=⟨Tryz.func226,by kernel_rfl⟩
theorem good227:Tryz.prog.funcs[227]? =some Tryz.f227∧fnGood Tryz.f227=true:=⟨Tryz.func227,by kernel_rfl⟩
theorem good228:Tryz.prog.funcs[228]? =some Tryz.f228∧fnGood Tryz.f228=true:=⟨Tryz.func228,by kernel_rfl⟩
theorem good229:Tryz.prog.funcs[229]? =some Tryz.f229∧fnGood Tryz.f229=true:=⟨Tryz.func229,by kernel_rfl⟩
theorem good230:Tryz.prog.funcs[230]? =some Tryz.f230∧fnGood Tryz.f230=true:=⟨Tryz.func230,by kernel_rfl⟩
theorem good231:Tryz.prog.funcs[231]? =some Tryz.f231∧fnGood Tryz.f231=true:=⟨Tryz.func231,by kernel_rfl⟩
theorem good232:Tryz.prog.funcs[232]? =some Tryz.f232∧fnGood Tryz.f232=true:=⟨Tryz.func232,by kernel_rfl⟩
theorem good233:Tryz.prog.funcs[233]? =some Tryz.f233∧fnGood Tryz.f233=true:=⟨Tryz.func233,by kernel_rfl⟩
theorem good234:Tryz.prog.funcs[234]? =some Tryz.f234∧fnGood Tryz.f234=true:=⟨Tryz.func234,by kernel_rfl⟩
theorem good235:Tryz.prog.funcs[235]? =some Tryz.f235∧fnGood Tryz.f235=true:=⟨Tryz.func235,by kernel_rfl⟩
theorem good236:Tryz.prog.funcs[236]? =some Tryz.f236∧fnGood Tryz.f236=true:=⟨Tryz.func236,by kernel_rfl⟩
theorem good237:Tryz.prog.funcs[237]? =some Tryz.f237∧fnGood Tryz.f237=true:=⟨Tryz.func237,by kernel_rfl⟩
theorem good238:Tryz.prog.funcs[238]? =some Tryz.f238∧fnGood Tryz.f238=true:=⟨Tryz.func238,by kernel_rfl⟩
theorem good239:Tryz.prog.funcs[239]? =some Tryz.f239∧fnGood Tryz.f239=true:=⟨Tryz.func239,by kernel_rfl⟩
theorem good240:Tryz.prog.funcs[240]? =some Tryz.f240∧fnGood Tryz.f240=true:=⟨Tryz.func240,by kernel_rfl⟩
theorem good241:Tryz.prog.funcs[241]? =some Tryz.f241∧fnGood Tryz.f241=true:=⟨Tryz.func241,by kernel_rfl⟩
theorem good242:Tryz.prog.funcs[242]? =some Tryz.f242∧fnGood Tryz.f242=true:=⟨Tryz.func242,by kernel_rfl⟩
theorem good243:Tryz.prog.funcs[243]? =some Tryz.f243∧fnGood Tryz.f243=true:=⟨Tryz.func243,by kernel_rfl⟩
theorem good244:Tryz.prog.funcs[244]? =some Tryz.f244∧fnGood Tryz.f244=true:=⟨Tryz.func244,by kernel_rfl⟩
theorem good245:Tryz.prog.funcs[245]? =some Tryz.f245∧fnGood Tryz.f245=true:=⟨Tryz.func245,by kernel_rfl⟩
theorem good246:Tryz.prog.funcs[246]? =some Tryz.f246∧fnGood Tryz.f246=true:=⟨Tryz.func246,by kernel_rfl⟩
theorem good247:Tryz.prog.funcs[247]? =some Tryz.f247∧fnGood Tryz.f247=true:=⟨Tryz.func247,by kernel_rfl⟩
theorem good248:Tryz.prog.funcs[248]? =some Tryz.f248∧fnGood Tryz.f248=true:=⟨Tryz.func248,by kernel_rfl⟩
theorem good249:Tryz.prog.funcs[249]? =some Tryz.f249∧fnGood Tryz.f249=true:=⟨Tryz.func249,by kernel_rfl⟩
theorem good250:Tryz.prog.funcs[250]? =some Tryz.f250∧fnGood Tryz.f250=true:=⟨Tryz.func250,by kernel_rfl⟩
theorem good251:Tryz.prog.funcs[251]? =some Tryz.f251∧fnGood Tryz.f251=true:=⟨Tryz.func251,by kernel_rfl⟩
theorem good252:Tryz.prog.funcs[252]? =some Tryz.f252∧fnGood Tryz.f252=true:=⟨Tryz.func252,by kernel_rfl⟩
theorem good253:Tryz.prog.funcs[253]? =some Tryz.f253∧fnGood Tryz.f253=true:=⟨Tryz.func253,by kernel_rfl⟩
theorem good254:Tryz.prog.funcs[254]? =some Tryz.f254∧fnGood Tryz.f254=true:=⟨Tryz.func254,by kernel_rfl⟩
theorem good255:Tryz.prog.funcs[255]? =some Tryz.f255∧fnGood Tryz.f255=true:=⟨Tryz.func255,by kernel_rfl⟩
theorem good256:Tryz.prog.funcs[256]? =some Tryz.f256∧fnGood Tryz.f256=true:=⟨Tryz.func256,by kernel_rfl⟩
theorem good257:Tryz.prog.funcs[257]? =some Tryz.f257∧fnGood Tryz.f257=true:=⟨Tryz.func257,by kernel_rfl⟩
theorem good258:Tryz.prog.funcs[258]? =some Tryz.f258∧fnGood Tryz.f258=true:=⟨Tryz.func258,by kernel_rfl⟩
theorem good259:Tryz.prog.funcs[259]? =some Tryz.f259∧fnGood Tryz.f259=true:=⟨Tryz.func259,by kernel_rfl⟩
theorem good260:Tryz.prog.funcs[260]? =some Tryz.f260∧fnGood Tryz.f260=true:=⟨Tryz.func260,by kernel_rfl⟩
theorem good261:Tryz.prog.funcs[261]? =some Tryz.f261∧fnGood Tryz.f261=true:=⟨Tryz.func261,by kernel_rfl⟩
theorem good262:Tryz.prog.funcs[262]? =some Tryz.f262∧fnGood Tryz.f262=true:=⟨Tryz.func262,by kernel_rfl⟩
theorem good263:Tryz.prog.funcs[263]? =some Tryz.f263∧fnGood Tryz.f263=true:=⟨Tryz.func263,by kernel_rfl⟩
theorem good264:Tryz.prog.funcs[264]? =some Tryz.f264∧fnGood Tryz.f264=true:=⟨Tryz.func264,by kernel_rfl⟩
theorem good265:Tryz.prog.funcs[265]? =some Tryz.f265∧fnGood Tryz.f265=true:=⟨Tryz.func265,by kernel_rfl⟩
theorem good266:Tryz.prog.funcs[266]? =some Tryz.f266∧fnGood Tryz.f266=true:=⟨Tryz.func266,by kernel_rfl⟩
theorem good267:Tryz.prog.funcs[267]? =some Tryz.f267∧fnGood Tryz.f267=true:=⟨Tryz.func267,by kernel_rfl⟩
theorem good268:Tryz.prog.funcs[268]? =some Tryz.f268∧fnGood Tryz.f268=true:=⟨Tryz.func268,by kernel_rfl⟩
theorem good269:Tryz.prog.funcs[269]? =some Tryz.f269∧fnGood Tryz.f269=true:=⟨Tryz.func269,by kernel_rfl⟩
theorem good270:Tryz.prog.funcs[270]? =some Tryz.f270∧fnGood Tryz.f270=true:=⟨Tryz.func270,by kernel_rfl⟩
theorem good271:Tryz.prog.funcs[271]? =some Tryz.f271∧fnGood Tryz.f271=true:=⟨Tryz.func271,by kernel_rfl⟩
theorem good272:Tryz.prog.funcs[272]? =some Tryz.f272∧fnGood Tryz.f272=true:=⟨Tryz.func272,by kernel_rfl⟩
theorem good273:Tryz.prog.funcs[273]? =some Tryz.f273∧fnGood Tryz.f273=true:=⟨Tryz.func273,by kernel_rfl⟩
theorem good274:Tryz.prog.funcs[274]? =some Tryz.f274∧fnGood Tryz.f274=true:=⟨Tryz.func274,by kernel_rfl⟩
theorem good275:Tryz.prog.funcs[275]? =some Tryz.f275∧fnGood Tryz.f275=true:=⟨Tryz.func275,by kernel_rfl⟩
theorem good276:Tryz.prog.funcs[276]? =some Tryz.f276∧fnGood Tryz.f276=true:=⟨Tryz.func276,by kernel_rfl⟩
theorem good277:Tryz.prog.funcs[277]? =some Tryz.f277∧fnGood Tryz.f277=true:=⟨Tryz.func277,by kernel_rfl⟩
theorem good278:Tryz.prog.funcs[278]? =some Tryz.f278∧fnGood Tryz.f278=true:=⟨Tryz.func278,by kernel_rfl⟩
theorem good280:Tryz.prog.funcs[280]? =some Tryz.f280∧fnGood Tryz.f280=true:=⟨Tryz.func280,by kernel_rfl⟩
theorem good282:Tryz.prog.funcs[282]? =some Tryz.f282∧fnGood Tryz.f282=true:=⟨Tryz.func282,by kernel_rfl⟩
theorem good283:Tryz.prog.funcs[283]? =some Tryz.f283∧fnGood Tryz.f283=true:=⟨Tryz.func283,by kernel_rfl⟩
theorem good284:Tryz.prog.funcs[284]? =some Tryz.f284∧fnGood Tryz.f284=true:=⟨Tryz.func284,by kernel_rfl⟩
theorem good285:Tryz.prog.funcs[285]? =some Tryz.f285∧fnGood Tryz.f285=true:=⟨Tryz.func285,by kernel_rfl⟩
theorem good286:Tryz.prog.funcs[286]? =some Tryz.f286∧fnGood Tryz.f286=true:=⟨Tryz.func286,by kernel_rfl⟩
theorem good287:Tryz.prog.funcs[287]? =some Tryz.f287∧fnGood Tryz.f287=true:=⟨Tryz.func287,by kernel_rfl⟩
theorem good288:Tryz.prog.funcs[288]? =some Tryz.f288∧fnGood Tryz.f288=true:=⟨Tryz.func288,by kernel_rfl⟩
theorem good289:Tryz.prog.funcs[289]? =some Tryz.f289∧fnGood Tryz.f289=true:=⟨Tryz.func289,by kernel_rfl⟩
theorem good290:Tryz.prog.funcs[290]? =some Tryz.f290∧fnGood Tryz.f290=true:=⟨Tryz.func290,by kernel_rfl⟩
theorem good291:Tryz.prog.funcs[291]? =some Tryz.f291∧fnGood Tryz.f291=true:=⟨Tryz.func291,by kernel_rfl⟩
theorem good292:Tryz.prog.funcs[292]? =some Tryz.f292∧fnGood Tryz.f292=true:=⟨Tryz.func292,by kernel_rfl⟩
theorem good293:Tryz.prog.funcs[293]? =some Tryz.f293∧fnGood Tryz.f293=true:=⟨Tryz.func293,by kernel_rfl⟩
theorem good294:Tryz.prog.funcs[294]? =some Tryz.f294∧fnGood Tryz.f294=true:=⟨Tryz.func294,by kernel_rfl⟩
theorem good295:Tryz.prog.funcs[295]? =some Tryz.f295∧fnGood Tryz.f295=true:=⟨Tryz.func295,by kernel_rfl⟩
theorem good296:Tryz.prog.funcs[296]? =some Tryz.f296∧fnGood Tryz.f296=true:=⟨Tryz.func296,by kernel_rfl⟩
theorem good297:Tryz.prog.funcs[297]? =some Tryz.f297∧fnGood Tryz.f297=true:=⟨Tryz.func297,by kernel_rfl⟩
theorem good298:Tryz.prog.funcs[298]? =some Tryz.f298∧fnGood Tryz.f298=true:=⟨Tryz.func298,by kernel_rfl⟩
theorem good299:Tryz.prog.funcs[299]? =some Tryz.f299∧fnGood Tryz.f299=true:=⟨Tryz.func299,by kernel_rfl⟩
theorem good300:Tryz.prog.funcs[300]? =some Tryz.f300∧fnGood Tryz.f300=true:=⟨Tryz.func300,by kernel_rfl⟩
theorem good301:Tryz.prog.funcs[301]? =some Tryz.f301∧fnGood Tryz.f301=true:=⟨Tryz.func301,by kernel_rfl⟩
theorem good302:Tryz.prog.funcs[302]? =some Tryz.f302∧fnGood Tryz.f302=true:=⟨Tryz.func302,by kernel_rfl⟩
theorem good303:Tryz.prog.funcs[303]? =some Tryz.f303∧fnGood Tryz.f303=true:=⟨Tryz.func303,by kernel_rfl⟩
theorem good304:Tryz.prog.funcs[304]? =some Tryz.f304∧fnGood Tryz.f304=true:=⟨Tryz.func304,by kernel_rfl⟩
theorem good305:Tryz.prog.funcs[305]? =some Tryz.f305∧fnGood Tryz.f305=true:=⟨Tryz.func305,by kernel_rfl⟩
theorem good306:Tryz.prog.funcs[306]? =some Tryz.f306∧fnGood Tryz.f306=true:=⟨Tryz.func306,by kernel_rfl⟩
theorem good307:Tryz.prog.funcs[307]? =some Tryz.f307∧fnGood Tryz.f307=true:=⟨Tryz.func307,by kernel_rfl⟩
theorem good308:Tryz.prog.funcs[308]? =some Tryz.f308∧fnGood Tryz.f308=true:=⟨Tryz.func308,by kernel_rfl⟩
theorem good309:Tryz.prog.funcs[309]? =some Tryz.f309∧fnGood Tryz.f309=true:=⟨Tryz.func309,by kernel_rfl⟩
theorem good310:Tryz.prog.funcs[310]? =some Tryz.f310∧fnGood Tryz.f310=true:=⟨Tryz.func310,by kernel_rfl⟩
theorem good311:Tryz.prog.funcs[311]? =some Tryz.f311∧fnGood Tryz.f311=true:=⟨Tryz.func311,by kernel_rfl⟩
theorem good312:Tryz.prog.funcs[312]? =some Tryz.f312∧fnGood Tryz.f312=true:=⟨Tryz.func312,by kernel_rfl⟩
theorem good313:Tryz.prog.funcs[313]? =some Tryz.f313∧fnGood Tryz.f313=true:=⟨Tryz.func313,by kernel_rfl⟩
theorem good314:Tryz.prog.funcs[314]? =some Tryz.f314∧fnGood Tryz.f314=true:=⟨Tryz.func314,by kernel_rfl⟩
theorem good315:Tryz.prog.funcs[315]? =some Tryz.f315∧fnGood Tryz.f315=true:=⟨Tryz.func315,by kernel_rfl⟩
theorem good316:Tryz.prog.funcs[316]? =some Tryz.f316∧fnGood Tryz.f316=true:=⟨Tryz.func316,by kernel_rfl⟩
theorem good317:Tryz.prog.funcs[317]? =some Tryz.f317∧fnGood Tryz.f317=true:=⟨Tryz.func317,by kernel_rfl⟩
theorem good318:Tryz.prog.funcs[318]? =some Tryz.f318∧fnGood Tryz.f318=true:=⟨Tryz.func318,by kernel_rfl⟩
theorem good319:Tryz.prog.funcs[319]? =some Tryz.f319∧fnGood Tryz.f319=true:=⟨Tryz.func319,by kernel_rfl⟩
theorem good320:Tryz.prog.funcs[320]? =some Tryz.f320∧fnGood Tryz.f320=true:=⟨Tryz.func320,by kernel_rfl⟩
theorem good321:Tryz.prog.funcs[321]? =some Tryz.f321∧fnGood Tryz.f321=true:=⟨Tryz.func321,by kernel_rfl⟩
theorem good322:Tryz.prog.funcs[322]? =some Tryz.f322∧fnGood Tryz.f322=true:=⟨Tryz.func322,by kernel_rfl⟩
theorem good323:Tryz.prog.funcs[323]? =some Tryz.f323∧fnGood Tryz.f323=true:=⟨Tryz.func323,by kernel_rfl⟩
theorem good324:Tryz.prog.funcs[324]? =some Tryz.f324∧fnGood Tryz.f324=true:=⟨Tryz.func324,by kernel_rfl⟩
theorem good325:Tryz.prog.funcs[325]? =some Tryz.f325∧fnGood Tryz.f325=true:=⟨Tryz.func325,by kernel_rfl⟩
theorem good326:Tryz.prog.funcs[326]? =some Tryz.f326∧fnGood Tryz.f326=true:=⟨Tryz.func326,by kernel_rfl⟩
theorem good327:Tryz.prog.funcs[327]? =some Tryz.f327∧fnGood Tryz.f327=true:=⟨Tryz.func327,by kernel_rfl⟩
theorem good328:Tryz.prog.funcs[328]? =some Tryz.f328∧fnGood Tryz.f328=true:=⟨Tryz.func328,by kernel_rfl⟩
theorem good329:Tryz.prog.funcs[329]? =some Tryz.f329∧fnGood Tryz.f329=true:=⟨Tryz.func329,by kernel_rfl⟩
theorem good330:Tryz.prog.funcs[330]? =some Tryz.f330∧fnGood Tryz.f330=true:=⟨Tryz.func330,by kernel_rfl⟩
theorem good331:Tryz.prog.funcs[331]? =some Tryz.f331∧fnGood Tryz.f331=true:=⟨Tryz.func331,by kernel_rfl⟩
theorem good332:Tryz.prog.funcs[332]? =some Tryz.f332∧fnGood Tryz.f332=true:=⟨Tryz.func332,by kernel_rfl⟩
theorem good350:Tryz.prog.funcs[350]? =some Tryz.f350∧fnGood Tryz.f350=true:=⟨Tryz.func350,by kernel_rfl⟩
theorem good352:Tryz.prog.funcs[352]? =some Tryz.f352∧fnGood Tryz.f352=true:=⟨Tryz.func352,by kernel_rfl⟩
theorem good353:Tryz.prog.funcs[353]? =some Tryz.f353∧fnGood Tryz.f353=true:=⟨Tryz.func353,by kernel_rfl⟩
theorem good354:Tryz.prog.funcs[354]? =some Tryz.f354∧fnGood Tryz.f354=true:=⟨Tryz.func354,by kernel_rfl⟩
theorem good355:Tryz.prog.funcs[355]? =some Tryz.f355∧fnGood Tryz.f355=true:=⟨Tryz.func355,by kernel_rfl⟩
theorem good356:Tryz.prog.funcs[356]? =some Tryz.f356∧fnGood Tryz.f356=true:=⟨Tryz.func356,by kernel_rfl⟩
theorem good363:Tryz.prog.funcs[363]? =some Tryz.f363∧fnGood Tryz.f363=true:=⟨Tryz.func363,by kernel_rfl⟩
theorem tab_ok:tab.All fun n f=>Tryz.prog.funcs[n]? =some f∧fnGood f=true:=(And.intro trivial (And.intro (And.intro trivial (And.intro (And.intro trivial (And.intro (And.intro trivial (And.intro (And.intro trivial (And.intro (And.intro trivial (And.intro (And.intro trivial (And.intro (And.intro trivial (And.intro (And.intro trivial (And.intro trivial (And.intro good256 (And.intro trivial trivial)))) (And.intro good128 (And.intro trivial trivial)))) (And.intro good64 (And.intro (And.intro trivial (And.intro trivial (And.intro good320 (And.intro trivial trivial)))) (And.intro good192 (And.intro trivial trivial)))))) (And.intro good32 (And.intro (And.intro trivial (And.intro (And.intro trivial (And.intro trivial (And.intro good288 (And.intro trivial trivial)))) (And.intro good160 (And.intro trivial trivial)))) (And.intro good96 (And.intro (And.intro trivial (And.intro trivial (And.intro good352 (And.intro trivial trivial)))) (And.intro good224 (And.intro trivial trivial)))))))) (And.intro good16 (And.intro (And.intro trivial (And.intro (And.intro trivial (And.intro (And.intro trivial (And.intro trivial (And.intro good272 (And.intro trivial trivial)))) (And.intro good144 (And.intro trivial trivial)))) (And.intro good80 (And.intro trivial (And.intro good208 (And.intro trivial trivial)))))) (And.intro good48 (And.intro (And.intro trivial (And.intro (And.intro trivial (And.intro trivial (And.intro good304 (And.intro trivial trivial)))) (And.intro good176 (And.intro trivial trivial)))) (And.intro good112 (And.intro trivial (And.intro good240 (And.intro trivial trivial)))))))))) (And.intro good8 (And.intro (And.intro trivial (And.intro (And.intro trivial (And.intro (And.intro trivial (And.intro (And.intro trivial (And.intro trivial (And.intro good264 (And.intro trivial trivial)))) (And.intro good136 (And.intro trivial trivial)))) (And.intro good72 (And.intro (And.intro trivial (And.intro trivial (And.intro good328 (And.intro trivial trivial)))) (And.intro good200 (And.intro trivial trivial)))))) (And.intro good40 (And.intro (And.intro trivial (And.intro (And.intro trivial (And.intro trivial (And.intro good296 (And.intro trivial trivial)))) (And.intro good168 (And.intro trivial trivial)))) (And.intro good104 (And.intro trivial (And.intro good232 (And.intro trivial trivial)))))))) (And.intro good24 (And.intro (And.intro trivial (And.intro (And.intro trivial (And.intro (And.intro trivial (And.intro trivial (And.intro good280 (And.intro trivial trivial)))) (And.intro good152 (And.intro trivial trivial)))) (And.intro good88 (And.intro trivial (And.intro good216 (And.intro trivial trivial)))))) (And.intro good56 (And.intro (And.intro trivial (And.intro (And.intro trivial (And.intro trivial (And.intro good312 (And.intro trivial trivial)))) (And.intro good184 (And.intro trivial trivial)))) (And.intro good120 (And.intro trivial (And.intro good248 (And.intro trivial trivial)))))))))))) (And.intro good4 (And.intro (And.intro trivial (And.intro (And.intro trivial (And.intro (And.intro trivial (And.intro (And.intro trivial (And.intro (And.intro trivial (And.intro trivial (And.intro good260 (And.intro trivial trivial)))) (And.intro good132 (And.intro trivial trivial)))) (And.intro good68 (And.intro (And.intro trivial (And.intro trivial (And.intro good324 (And.intro trivial trivial)))) (And.intro good196 (And.intro trivial trivial)))))) (And.intro good36 (And.intro (And.intro trivial (And.intro (And.intro trivial (And.intro trivial (And.intro good292 (And.intro trivial trivial)))) (And.intro good164 (And.intro trivial trivial)))) (And.intro good100 (And.intro (And.intro trivial (And.intro trivial (And.intro good356 (And.intro trivial trivial)))) (And.intro good228 (And.intro trivial trivial)))))))) (And.intro good20 (And.intro (And.intro trivial (And.intro (And.intro trivial (And.intro (And.intro trivial (And.intro trivial (And.intro good276 (And.intro trivial trivial)))) (And.intro good148 (And.intro trivial trivial)))) (And.intro good84 (And.intro trivial (And.intro good212 (And.intro trivial trivial)))))) (And.intro good52 (And.intro (And.intro trivial (And.intro (And.intro trivial (And.intro trivial (And.intro good308 (And.intro trivial trivial)))) (And.intro good180 (And.intro trivial trivial)))) (And.intro good116 (And.intro trivial (And.intro good244 (And.intro trivial trivial)))))))))) (And.intro good12 (And.intro (And.intro trivial (And.intro (And.intro trivial (And.intro (And.intro trivial (And.intro (And.intro trivial (And.intro trivial (And.intro good268 (And.intro trivial trivial)))) (And.intro good140 (And.intro trivial trivial)))) (And.intro good76 (And.intro (And.intro trivial (And.intro trivial (And.intro good332 (And.intro trivial trivial)))) (And.intro good204 (And.intro trivial trivial)))))) (And.intro good44 (And.intro (And.intro trivial (And.intro (And.intro trivial (And.intro trivial (And.intro good300 (And.intro trivial trivial)))) (And.intro good172 (And.intro trivial trivial)))) (And.intro good108 (And.intro trivial (And.intro good236 (And.intro trivial trivial)))))))) (And.intro good28 (And.intro (And.intro trivial (And.intro (And.intro trivial (And.intro (And.intro trivial (And.intro trivial (And.intro good284 (And.intro trivial trivial)))) (And.intro good156 (And.intro trivial trivial)))) (And.intro good92 (And.intro trivial (And.intro good220 (And.intro trivial trivial)))))) (And.intro good60 (And.intro (And.intro trivial (And.intro (And.intro trivial (And.intro trivial (And.intro good316 (And.intro trivial trivial)))) (And.intro good188 (And.intro trivial trivial)))) (And.intro good124 (And.intro trivial (And.intro good252 (And.intro trivial trivial)))))))))))))) (And.intro good2 (And.intro (And.intro trivial (And.intro (And.intro trivial (And.intro (And.intro trivial (And.intro (And.intro trivial (And.intro (And.intro trivial (And.intro (And.intro trivial (And.intro trivial (And.intro good258 (And.intro trivial trivial)))) (And.intro good130 (And.intro trivial trivial)))) (And.intro good66 (And.intro (And.intro trivial (And.intro trivial (And.intro good322 (And.intro trivial trivial)))) (And.intro good194 (And.intro trivial trivial)))))) (And.intro good34 (And.intro (And.intro trivial (And.intro (And.intro trivial (And.intro trivial (And.intro good290 (And.intro trivial trivial)))) (And.intro good162 (And.intro trivial trivial)))) (And.intro good98 (And.intro (And.intro trivial (And.intro trivial (And.intro good354 (And.intro trivial trivial)))) (And.intro good226 (And.intro trivial trivial)))))))) (And.intro good18 (And.intro (And.intro trivial (And.intro (And.intro trivial (And.intro (And.intro trivial (And.intro trivial (And.intro good274 (And.intro trivial trivial)))) (And.intro good146 (And.intro trivial trivial)))) (And.intro good82 (And.intro trivial (And.intro good210 (And.intro trivial trivial)))))) (And.intro good50 (And.intro (And.intro trivial (And.intro (And.intro trivial (And.intro trivial (And.intro good306 (And.intro trivial trivial)))) (And.intro good178 (And.intro trivial trivial)))) (And.intro good114 (And.intro trivial (And.intro good242 (And.intro trivial trivial)))))))))) (And.intro good10 (And.intro (And.intro trivial (And.intro (And.intro trivial (And.intro (And.intro trivial (And.intro (And.intro trivial (And.intro trivial (And.intro good266 (And.intro trivial trivial)))) (And.intro good138 (And.intro trivial trivial)))) (And.intro good74 (And.intro (And.intro trivial (And.intro trivial (And.intro good330 (And.intro trivial trivial)))) (And.intro good202 (And.intro trivial trivial)))))) (And.intro good42 (And.intro (And.intro trivial (And.intro (And.intro trivial (And.intro trivial (And.intro good298 (And.intro trivial trivial)))) (And.intro good170 (And.intro trivial trivial)))) (And.intro good106 (And.intro trivial (And.intro good234 (And.intro trivial trivial)))))))) (And.intro good26 (And.intro (And.intro trivial (And.intro (And.intro trivial (And.intro (And.intro trivial (And.intro trivial (And.intro good282 (And.intro trivial trivial)))) (And.intro good154 (And.intro trivial trivial)))) (And.intro good90 (And.intro trivial (And.intro good218 (And.intro trivial trivial)))))) (And.intro good58 (And.intro (And.intro trivial (And.intro (And.intro trivial (And.intro trivial (And.intro good314 (And.intro trivial trivial)))) (And.intro good186 (And.intro trivial trivial)))) (And.intro good122 (And.intro trivial (And.intro good250 (And.intro trivial trivial)))))))))))) (And.intro good6 (And.intro (And.intro trivial (And.intro (And.intro trivial (And.intro (And.intro trivial (And.intro (And.intro trivial (And.intro (And.intro trivial (And.intro trivial (And.intro good262 (And.intro trivial trivial)))) (And.intro good134 (And.intro trivial trivial)))) (And.intro good70 (And.intro (And.intro trivial (And.intro trivial (And.intro good326 (And.intro trivial trivial)))) (And.intro good198 (And.intro trivial trivial)))))) (And.intro good38 (And.intro (And.intro trivial (And.intro (And.intro trivial (And.intro trivial (And.intro good294 (And.intro trivial trivial)))) (And.intro good166 (And.intro trivial trivial)))) (And.intro good102 (And.intro trivial (And.intro good230 (And.intro trivial trivial)))))))) (And.intro good22 (And.intro (And.intro trivial (And.intro (And.intro trivial (And.intro (And.intro trivial (And.intro trivial (And.intro good278 (And.intro trivial trivial)))) (And.intro good150 (And.intro trivial trivial)))) (And.intro good86 (And.intro trivial (And.intro good214 (And.intro trivial trivial)))))) (And.intro good54 (And.intro (And.intro trivial (And.intro (And.intro trivial (And.intro trivial (And.intro good310 (And.intro trivial trivial)))) (And.intro good182 (And.intro trivial trivial)))) (And.intro good118 (And.intro trivial (And.intro good246 (And.intro trivial trivial)))))))))) (And.intro good14 (And.intro (And.intro trivial (And.intro (And.intro trivial (And.intro (And.intro trivial (And.intro (And.intro trivial (And.intro trivial (And.intro good270 (And.intro trivial trivial)))) (And.intro good142 (And.intro trivial trivial)))) (And.intro good78 (And.intro trivial (And.intro good206 (And.intro trivial trivial)))))) (And.intro good46 (And.intro (And.intro trivial (And.intro (And.intro trivial (And.intro trivial (And.intro good302 (And.intro trivial trivial)))) (And.intro good174 (And.intro trivial trivial)))) (And.intro good110 (And.intro trivial (And.intro good238 (And.intro trivial trivial)))))))) (And.intro good30 (And.intro (And.intro trivial (And.intro (And.intro trivial (And.intro (And.intro trivial (And.intro trivial (And.intro good286 (And.intro trivial trivial)))) (And.intro good158 (And.intro trivial trivial)))) (And.intro good94 (And.intro (And.intro trivial (And.intro trivial (And.intro good350 (And.intro trivial trivial)))) (And.intro good222 (And.intro trivial trivial)))))) (And.intro good62 (And.intro (And.intro trivial (And.intro (And.intro trivial (And.intro trivial (And.intro good318 (And.intro trivial trivial)))) (And.intro good190 (And.intro trivial trivial)))) (And.intro good126 (And.intro trivial (And.intro good254 (And.intro trivial trivial)))))))))))))))) (And.intro trivial (And.intro (And.intro trivial (And.intro (And.intro trivial (And.intro (And.intro trivial (And.intro (And.intro trivial (And.intro (And.intro trivial (And.intro (And.intro trivial (And.intro (And.intro trivial (And.intro trivial (And.intro good257 (And.intro trivial trivial)))) (And.intro good129 (And.intro trivial trivial)))) (And.intro good65 (And.intro (And.intro trivial (And.intro trivial (And.intro good321 (And.intro trivial trivial)))) (And.intro good193 (And.intro trivial trivial)))))) (And.intro good33 (And.intro (And.intro trivial (And.intro (And.intro trivial (And.intro trivial (And.intro good289 (And.intro trivial trivial)))) (And.intro good161 (And.intro trivial trivial)))) (And.intro good97 (And.intro (And.intro trivial (And.intro trivial (And.intro good353 (And.intro trivial trivial)))) (And.intro good225 (And.intro trivial trivial)))))))) (And.intro good17 (And.intro (And.intro trivial (And.intro (And.intro trivial (And.intro (And.intro trivial (And.intro trivial (And.intro good273 (And.intro trivial trivial)))) (And.intro good145 (And.intro trivial trivial)))) (And.intro good81 (And.intro trivial (And.intro good209 (And.intro trivial trivial)))))) (And.intro good49 (And.intro (And.intro trivial (And.intro (And.intro trivial (And.intro trivial (And.intro good305 (And.intro trivial trivial)))) (And.intro good177 (And.intro trivial trivial)))) (And.intro good113 (And.intro trivial (And.intro good241 (And.intro trivial trivial)))))))))) (And.intro good9 (And.intro (And.intro trivial (And.intro (And.intro trivial (And.intro (And.intro trivial (And.intro (And.intro trivial (And.intro trivial (And.intro good265 (And.intro trivial trivial)))) (And.intro good137 (And.intro trivial trivial)))) (And.intro good73 (And.intro (And.intro trivial (And.intro trivial (And.intro good329 (And.intro trivial trivial)))) (And.intro good201 (And.intro trivial trivial)))))) (And.intro good41 (And.intro (And.intro trivial (And.intro (And.intro trivial (And.intro trivial (And.intro good297 (And.intro trivial trivial)))) (And.intro good169 (And.intro trivial trivial)))) (And.intro good105 (And.intro trivial (And.intro good233 (And.intro trivial trivial)))))))) (And.intro good25 (And.intro (And.intro trivial (And.intro (And.intro trivial (And.intro trivial (And.intro good153 (And.intro trivial trivial)))) (And.intro good89 (And.intro trivial (And.intro good217 (And.intro trivial trivial)))))) (And.intro good57 (And.intro (And.intro trivial (And.intro (And.intro trivial (And.intro trivial (And.intro good313 (And.intro trivial trivial)))) (And.intro good185 (And.intro trivial trivial)))) (And.intro good121 (And.intro trivial (And.intro good249 (And.intro trivial trivial)))))))))))) (And.intro good5 (And.intro (And.intro trivial (And.intro (And.intro trivial (And.intro (And.intro trivial (And.intro (And.intro trivial (And.intro (And.intro trivial (And.intro trivial (And.intro good261 (And.intro trivial trivial)))) (And.intro good133 (And.intro trivial trivial)))) (And.intro good69 (And.intro (And.intro trivial (And.intro trivial (And.intro good325 (And.intro trivial trivial)))) (And.intro good197 (And.intro trivial trivial)))))) (And.intro good37 (And.intro (And.intro trivial (And.intro (And.intro trivial (And.intro trivial (And.intro good293 (And.intro trivial trivial)))) (And.intro good165 (And.intro trivial trivial)))) (And.intro good101 (And.intro trivial (And.intro good229 (And.intro trivial trivial)))))))) (And.intro good21 (And.intro (And.intro trivial (And.intro (And.intro trivial (And.intro (And.intro trivial (And.intro trivial (And.intro good277 (And.intro trivial trivial)))) (And.intro good149 (And.intro trivial trivial)))) (And.intro good85 (And.intro trivial (And.intro good213 (And.intro trivial trivial)))))) (And.intro good53 (And.intro (And.intro trivial (And.intro (And.intro trivial (And.intro trivial (And.intro good309 (And.intro trivial trivial)))) (And.intro good181 (And.intro trivial trivial)))) (And.intro trivial (And.intro trivial (And.intro good245 (And.intro trivial trivial)))))))))) (And.intro good13 (And.intro (And.intro trivial (And.intro (And.intro trivial (And.intro (And.intro trivial (And.intro (And.intro trivial (And.intro trivial (And.intro good269 (And.intro trivial trivial)))) (And.intro good141 (And.intro trivial trivial)))) (And.intro good77 (And.intro trivial (And.intro good205 (And.intro trivial trivial)))))) (And.intro good45 (And.intro (And.intro trivial (And.intro (And.intro trivial (And.intro trivial (And.intro good301 (And.intro trivial trivial)))) (And.intro good173 (And.intro trivial trivial)))) (And.intro good109 (And.intro trivial (And.intro good237 (And.intro trivial trivial)))))))) (And.intro good29 (And.intro (And.intro trivial (And.intro (And.intro trivial (And.intro (And.intro trivial (And.intro trivial (And.intro good285 (And.intro trivial trivial)))) (And.intro good157 (And.intro trivial trivial)))) (And.intro good93 (And.intro trivial (And.intro good221 (And.intro trivial trivial)))))) (And.intro good61 (And.intro (And.intro trivial (And.intro (And.intro trivial (And.intro trivial (And.intro good317 (And.intro trivial trivial)))) trivial)) (And.intro good125 (And.intro trivial (And.intro good253 (And.intro trivial trivial)))))))))))))) (And.intro good3 (And.intro (And.intro trivial (And.intro (And.intro trivial (And.intro (And.intro trivial (And.intro (And.intro trivial (And.intro (And.intro trivial (And.intro (And.intro trivial (And.intro trivial (And.intro good259 (And.intro trivial trivial)))) (And.intro good131 (And.intro trivial trivial)))) (And.intro good67 (And.intro (And.intro trivial (And.intro trivial (And.intro good323 (And.intro trivial trivial)))) (And.intro good195 (And.intro trivial trivial)))))) (And.intro good35 (And.intro (And.intro trivial (And.intro (And.intro trivial (And.intro trivial (And.intro good291 (And.intro trivial trivial)))) (And.intro good163 (And.intro trivial trivial)))) (And.intro good99 (And.intro (And.intro trivial (And.intro trivial (And.intro good355 (And.intro trivial trivial)))) (And.intro good227 (And.intro trivial trivial)))))))) (And.intro good19 (And.intro (And.intro trivial (And.intro (And.intro trivial (And.intro (And.intro trivial (And.intro trivial (And.intro good275 (And.intro trivial trivial)))) (And.intro good147 (And.intro trivial trivial)))) (And.intro good83 (And.intro trivial (And.intro good211 (And.intro trivial trivial)))))) (And.intro good51 (And.intro (And.intro trivial (And.intro (And.intro trivial (And.intro trivial (And.intro good307 (And.intro trivial trivial)))) (And.intro good179 (And.intro trivial trivial)))) (And.intro good115 (And.intro trivial (And.intro good243 (And.intro trivial trivial)))))))))) (And.intro good11 (And.intro (And.intro trivial (And.intro (And.intro trivial (And.intro (And.intro trivial (And.intro (And.intro trivial (And.intro trivial (And.intro good267 (And.intro trivial trivial)))) (And.intro good139 (And.intro trivial trivial)))) (And.intro good75 (And.intro (And.intro trivial (And.intro trivial (And.intro good331 (And.intro trivial trivial)))) (And.intro good203 (And.intro trivial trivial)))))) (And.intro good43 (And.intro (And.intro trivial (And.intro (And.intro trivial (And.intro trivial (And.intro good299 (And.intro trivial trivial)))) (And.intro good171 (And.intro trivial trivial)))) (And.intro good107 (And.intro (And.intro trivial (And.intro trivial (And.intro good363 (And.intro trivial trivial)))) (And.intro good235 (And.intro trivial trivial)))))))) (And.intro good27 (And.intro (And.intro trivial (And.intro (And.intro trivial (And.intro (And.intro trivial (And.intro trivial (And.intro good283 (And.intro trivial trivial)))) (And.intro good155 (And.intro trivial trivial)))) (And.intro good91 (And.intro trivial (And.intro good219 (And.intro trivial trivial)))))) (And.intro good59 (And.intro (And.intro trivial (And.intro (And.intro trivial (And.intro trivial (And.intro good315 (And.intro trivial trivial)))) (And.intro good187 (And.intro trivial trivial)))) (And.intro good123 (And.intro trivial (And.intro good251 (And.intro trivial trivial)))))))))))) (And.intro good7 (And.intro (And.intro trivial (And.intro (And.intro trivial (And.intro (And.intro trivial (And.intro (And.intro trivial (And.intro (And.intro trivial (And.intro trivial (And.intro good263 (And.intro trivial trivial)))) (And.intro good135 (And.intro trivial trivial)))) (And.intro good71 (And.intro (And.intro trivial (And.intro trivial (And.intro good327 (And.intro trivial trivial)))) (And.intro good199 (And.intro trivial trivial)))))) (And.intro good39 (And.intro (And.intro trivial (And.intro (And.intro trivial (And.intro trivial (And.intro good295 (And.intro trivial trivial)))) (And.intro good167 (And.intro trivial trivial)))) (And.intro good103 (And.intro trivial (And.intro good231 (And.intro trivial trivial)))))))) (And.intro good23 (And.intro (And.intro trivial (And.intro (And.intro trivial (And.intro trivial (And.intro good151 (And.intro trivial trivial)))) (And.intro good87 (And.intro trivial (And.intro good215 (And.intro trivial trivial)))))) (And.intro good55 (And.intro (And.intro trivial (And.intro (And.intro trivial (And.intro trivial (And.intro good311 (And.intro trivial trivial)))) (And.intro good183 (And.intro trivial trivial)))) (And.intro good119 (And.intro trivial (And.intro good247 (And.intro trivial trivial)))))))))) (And.intro good15 (And.intro (And.intro trivial (And.intro (And.intro trivial (And.intro (And.intro trivial (And.intro (And.intro trivial (And.intro trivial (And.intro good271 (And.intro trivial trivial)))) (And.intro good143 (And.intro trivial trivial)))) (And.intro good79 (And.intro trivial (And.intro good207 (And.intro trivial trivial)))))) (And.intro good47 (And.intro (And.intro trivial (And.intro (And.intro trivial (And.intro trivial (And.intro good303 (And.intro trivial trivial)))) (And.intro good175 (And.intro trivial trivial)))) (And.intro good111 (And.intro trivial (And.intro good239 (And.intro trivial trivial)))))))) (And.intro good31 (And.intro (And.intro trivial (And.intro (And.intro trivial (And.intro (And.intro trivial (And.intro trivial (And.intro good287 (And.intro trivial trivial)))) (And.intro good159 (And.intro trivial trivial)))) (And.intro good95 (And.intro trivial (And.intro good223 (And.intro trivial trivial)))))) (And.intro good63 (And.intro (And.intro trivial (And.intro (And.intro trivial (And.intro trivial (And.intro good319 (And.intro trivial trivial)))) (And.intro good191 (And.intro trivial trivial)))) (And.intro good127 (And.intro trivial (And.intro good255 (And.intro trivial trivial))))))))))))))))))
theorem esc_ok:CallOk Tryz.prog (sameKnown 117):=sameKnown_ok Tryz.func117 (by kernel_rfl) (by kernel_rfl) (by kernel_rfl) (by kernel_rfl)
theorem idx_ok:CallOk Tryz.prog (idxKnown 189):=idxKnown_ok Tryz.func189 (by kernel_rfl) (by kernel_rfl) (by kernel_rfl) (by kernel_rfl)
noncomputable def env:Env Tryz.prog drStatic:=tab.env tab_ok (orKnown (idxKnown 189) (sameKnown 117)) (orKnown_ok idx_ok esc_ok)
end Go.Proofs.YtkjpldganajkkaaGreatDoor
namespace Go.Proofs.YtkjpldganajkkaaGreatDoor.NICE
open Go Go.RowKit
variable {P:Program}
mutual
def shiftV (d:Nat):NVal→NVal
 | .bool b=>.bool b
 | .int k n=>.int k n
 | .str s=>.str s
 | .ptr none=>.ptr none
 | .ptr (some (b,o))=>.ptr (some (d+b,o))
 | .slice none l c x=>.slice none l c x
 | .slice (some (b,o)) l c x=>.slice (some (d+b,o)) l c x
 | .map none=>.map none
 | .map (some b)=>.map (some (d+b))
 | .func f a c=>.func f (shiftVs d a) (shiftVs d c)
 | .nilFunc=>.nilFunc
 | .iface t v=>.iface t (shiftV d v)
 | .nilIface=>.nilIface
 | .agg cs=>.agg (shiftVs d cs)
 | .tuple cs=>.tuple (shiftVs d cs)
 | .junk=>.junk
def shiftVs (d:Nat):List NVal→List NVal
 |[]=>[]
 |v::l=>shiftV d v::shiftVs d l
end
theorem shiftVs_map (d:Nat):∀l:List NVal,shiftVs d l=l.map (shiftV d)
 |[]=>rfl
 |v::l=>by simp[shiftVs,shiftVs_map d l]
def joinI (n:Nat) (ι ι1:Inj):Inj:=fun b=>if b<n then ι b else ι1 (b-n)
theorem joinI_new {n:Nat} {ι ι1:Inj} {b:Nat} {x} (h:ι1 b=some x):joinI n ι ι1 (n+b)=some x:=by
 unfold joinI;rw[if_neg (by omega),show n+b-n=b by omega];exact h
theorem VR.shift {n:Nat} {ι ι1:Inj} {u:NVal} {v:Value} (h:VR ι1 u v):VR (joinI n ι ι1) (shiftV n u) v:=by
 induction h with
 |bool b=>exact .bool b
 |int k n=>exact .int k n
 |str s=>exact .str s
 |ptrNil=>exact .ptrNil
 |ptr h=>exact .ptr (joinI_new h)
 |sliceNil=>exact .sliceNil
 |slice h hl hc=>exact .slice (joinI_new h) hl hc
 |sliceMore h hl hc hm=>exact .sliceMore (joinI_new h) hl hc hm
 |sliceEmpty=>exact .sliceEmpty
 |mapNil=>exact .mapNil
 |map h=>exact .map (joinI_new h)
 |func hf hc _ _ ih ih'=>
  simp only[shiftV,shiftVs_map]
  refine .func (by simpa using hf) (by simpa using hc) (fun i u v hu hv=>?_) (fun i u v hu hv=>?_)
  ·rw[List.getElem?_map] at hu
   obtain⟨w,hw,rfl⟩:=Option.map_eq_some_iff.1 hu
   exact ih i w v hw hv
  ·rw[List.getElem?_map] at hu
   obtain⟨w,hw,rfl⟩:=Option.map_eq_some_iff.1 hu
   exact ih' i w v hw hv
 |nilFunc=>exact .nilFunc
 |iface _ ih=>exact .iface ih
 |nilIface=>exact .nilIface
 |agg hl _ ih=>
  simp only[shiftV,shiftVs_map]
  refine .agg (by simpa using hl) (fun i u v hu hv=>?_)
  rw[List.getElem?_map] at hu
  obtain⟨w,hw,rfl⟩:=Option.map_eq_some_iff.1 hu
  exact ih i w v hw hv
 |tuple hl _ ih=>
  simp only[shiftV,shiftVs_map]
  refine .tuple (by simpa using hl) (fun i u v hu hv=>?_)
  rw[List.getElem?_map] at hu
  obtain⟨w,hw,rfl⟩:=Option.map_eq_some_iff.1 hu
  exact ih i w v hw hv
 |junk h=>exact .junk h
def shiftO (d:Nat):NObj→NObj
 | .cells cs m=>.cells (shiftVs d cs) m
 | .map es=>.map (es.map fun p=>(shiftV d p.1,shiftV d p.2))
 | .dead=>.dead
def layAll (d:Nat):List NObj→NHeap→NHeap
 |[],h=>h
 |o::l,h=>layAll d l (h.alloc (shiftO d o))
theorem layAll_next (d:Nat):∀(l:List NObj) (h:NHeap),(layAll d l h).next=h.next+l.length
 |[],h=>rfl
 |o::l,h=>by simp only[layAll,layAll_next d l,NHeap.next_alloc,List.length_cons];omega
theorem layAll_get (d:Nat):∀(l:List NObj) (h:NHeap) (b:Nat),(layAll d l h).get b=if b<h.next then h.get b else(l[b-h.next]?).map (shiftO d)
 |[],h,b=>by
  simp only[layAll,List.getElem?_nil,Option.map_none]
  split
  ·rfl
  ·exact NHeap.get_ge (by omega)
 |o::l,h,b=>by
  simp only[layAll,layAll_get d l,NHeap.next_alloc,NHeap.get_alloc]
  by_cases h1:b<h.next
  ·rw[if_pos (by omega),if_pos h1,if_neg (by omega)]
  ·by_cases h2:b=h.next
   ·subst h2;rw[if_pos (by omega),if_neg h1,if_pos rfl];simp
   ·rw[if_neg (by omega),if_neg h1,show b-h.next=(b-(h.next+1))+1 by omega];simp
def bare:NVal→Bool
 | .bool _=>true
 | .int _ _=>true
 | .str _=>true
 | .ptr none=>true
 | .slice none _ _ _=>true
 | .map none=>true
 | .nilFunc=>true
 | .nilIface=>true
 | .agg cs=>cs.all fun v=>match v with| .bool _=>true| .int _ _=>true| .str _=>true| .ptr none=>true| .slice none _ _ _=>true| .map none=>true|_=>false
 |_=>false
theorem VR.of_plain {ι ι1:Inj} {u:NVal} {v:Value} (hb:(match u with| .bool _=>true| .int _ _=>true| .str _=>true| .ptr none=>true| .slice none _ _ _=>true| .map none=>true|_=>false)=true) (h:VR ι u v):VR ι1 u v:=by
 cases h with
 |bool b=>exact .bool b
 |int k n=>exact .int k n
 |str s=>exact .str s
 |ptrNil=>exact .ptrNil
 |sliceNil=>exact .sliceNil
 |mapNil=>exact .mapNil
 |_=>cases hb
theorem VR.of_bare {ι ι1:Inj} {u:NVal} {v:Value} (hb:bare u=true) (h:VR ι u v):VR ι1 u v:=by
 cases h with
 |bool b=>exact .bool b
 |int k n=>exact .int k n
 |str s=>exact .str s
 |ptrNil=>exact .ptrNil
 |sliceNil=>exact .sliceNil
 |mapNil=>exact .mapNil
 |nilFunc=>exact .nilFunc
 |nilIface=>exact .nilIface
 |agg hl h=>
  refine .agg hl fun i x y hx hy=>?_
  have:=List.all_eq_true.1 hb x (List.mem_of_getElem? hx)
  exact VR.of_plain this (h i x y hx hy)
 |_=>cases hb
def Lists (h:NHeap) (l:List NObj):Prop:=h.next=l.length∧∀b o,l[b]? =some o→o=.dead∨h.get b=some o
def noRo (l:List NObj):Bool:=l.all fun o=>match o with| .cells _ .ro=>false|_=>true
theorem SimF.frame {f:FuncId} {args:List NVal} {v:NVal} {h1:NHeap} {l:List NObj} (hs:SimF P f args NHeap.empty v h1) (hargs:args.all bare=true) (hl:Lists h1 l) (hro:noRo l=true) (h:NHeap):
  SimF P f args h (shiftV h.next v) (layAll h.next l h):=by
 intro w0 ι w ra R I hra hR
 have hra0:VRs (fun _=>none) args ra.toList:=by
  have key:∀{l:List NVal} {m:List Value},l.all bare=true→VRs ι l m→VRs (fun _=>none) l m:=by
   intro l m hb h
   induction h with
   |nil=>exact .nil
   |cons a b ih=>
    simp only[List.all_cons,Bool.and_eq_true] at hb
    exact .cons (VR.of_bare hb.1 a) (ih hb.2)
  exact key hargs hra
 refine hs w (fun _=>none) w ra R (Inv.start w) hra0 fun ι1 w' rv hv I1 S1=>?_
 have hold:∀{rb:Nat} {o:Obj},w.heap[rb]? =some o→w'.heap[rb]? =some o:=by
  intro rb o e
  have hlt:rb<w.heap.size:=(Array.getElem?_eq_some_iff.1 e).1
  rw[I1.below.block rb hlt];exact e
 have get:∀{b:Nat} {ob:NObj},(layAll h.next l h).get b=some ob→(b<h.next∧h.get b=some ob)∨(h.next≤b∧∃o1,(o1=.dead∨(h1.get (b-h.next)=some o1∧l[b-h.next]? =some o1))∧ob=shiftO h.next o1):=by
  intro b ob e
  rw[layAll_get] at e
  split at e
  ·exact .inl ⟨by assumption,e⟩
  ·obtain⟨o1,e1,rfl⟩:=Option.map_eq_some_iff.1 e
   exact .inr ⟨by omega,o1,(hl.2 _ _ e1).imp id fun q=>⟨q,e1⟩,rfl⟩
 have jold:∀{b:Nat},b<h.next→joinI h.next ι ι1 b=ι b:=fun{b} hb=>by unfold joinI;rw[if_pos hb]
 have jnew:∀{b:Nat},h.next≤b→joinI h.next ι ι1 b=ι1 (b-h.next):=fun{b} hb=>by unfold joinI;rw[if_neg (by omega)]
 have hle:ι.le (joinI h.next ι ι1):=fun b x e=>by rw[jold (I.fresh b x e)];exact e
 have hI:Inv w0 (joinI h.next ι ι1) (layAll h.next l h) w':=by
  refine⟨I.below.trans (I1.below.mono I.below.size),?_,?_,?_,?_,?_,?_⟩
  ·intro b x e
   rw[layAll_next]
   by_cases hb:b<h.next
   ·omega
   ·rw[jnew (by omega)] at e
    have:=I1.fresh _ _ e
    rw[hl.1] at this;omega
  ·intro b cs t e
   rcases get e with⟨hb,e'⟩|⟨hb,o1,e1,e2⟩
   ·obtain⟨rb,s,m,c,et,fz,a1,a2,a3,a4,a5,a6,a7⟩:=I.cells b cs e'
    exact⟨rb,s,m,c,et,fz,by rw[jold hb];exact a1,a2,hold a3,a4,a5,a6,fun i v hv=>by
     obtain⟨r,r1,r2⟩:=a7 i v hv;exact⟨r,r1,r2.mono hle⟩⟩
   ·cases o1 with
    |cells cs1 m1=>
     simp only[shiftO] at e2
     injection e2 with e2 e3
     subst e2 e3
     obtain⟨rb,s,m,c,et,fz,a1,a2,a3,a4,a5,a6,a7⟩:=I1.cells _ cs1 (e1.resolve_left (by simp)).1
     refine⟨rb,s,m,c,et,fz,by rw[jnew hb];exact a1,Nat.le_trans I.below.size a2,a3,a4,by rw[shiftVs_map];simpa using a5,a6,fun i v hv=>?_⟩
     rw[shiftVs_map,List.getElem?_map] at hv
     obtain⟨u,hu,rfl⟩:=Option.map_eq_some_iff.1 hv
     obtain⟨r,r1,r2⟩:=a7 i u hu
     exact⟨r,r1,r2.shift⟩
    |map es=>cases e2
    |dead=>cases e2
  ·intro b cs T k e
   rcases get e with⟨hb,e'⟩|⟨hb,o1,e1,e2⟩
   ·obtain⟨rb,c,a1,a2,a3⟩:=I.typed b cs T k e'
    exact⟨rb,c,by rw[jold hb];exact a1,hold a2,a3⟩
   ·cases o1 with
    |cells cs1 m1=>
     simp only[shiftO] at e2
     injection e2 with e2 e3
     subst e2 e3
     obtain⟨rb,c,a1,a2,a3⟩:=I1.typed _ cs1 T k (e1.resolve_left (by simp)).1
     exact⟨rb,c,by rw[jnew hb];exact a1,a2,a3⟩
    |map es=>cases e2
    |dead=>cases e2
  ·intro b cs e
   rcases get e with⟨hb,e'⟩|⟨hb,o1,e1,e2⟩
   ·obtain⟨rb,s,m,a1,a2⟩:=I.ro b cs e'
    exact⟨rb,s,m,by rw[jold hb];exact a1,fun i v hv=>by obtain⟨r,r1,r2⟩:=a2 i v hv;exact⟨r,r1,r2.mono hle⟩⟩
   ·exfalso
    cases o1 with
    |cells cs1 m1=>
     simp only[shiftO] at e2
     injection e2 with e2 e3
     subst e3
     have:=List.all_eq_true.1 hro _ (List.mem_of_getElem? (e1.resolve_left (by simp)).2)
     simp at this
    |map es=>cases e2
    |dead=>cases e2
  ·intro b es e
   rcases get e with⟨hb,e'⟩|⟨hb,o1,e1,e2⟩
   ·obtain⟨rb,s,m,ents,clock,a1,a2,a3,a4⟩:=I.maps b es e'
    exact⟨rb,s,m,ents,clock,by rw[jold hb];exact a1,a2,hold a3,a4.imp fun _ _ q=>⟨q.1.mono hle,q.2.mono hle⟩⟩
   ·cases o1 with
    |map es1=>
     simp only[shiftO] at e2
     injection e2 with e2
     subst e2
     obtain⟨rb,s,m,ents,clock,a1,a2,a3,a4⟩:=I1.maps _ es1 (e1.resolve_left (by simp)).1
     refine⟨rb,s,m,ents,clock,by rw[jnew hb];exact a1,Nat.le_trans I.below.size a2,a3,?_⟩
     have key:∀{l:List (NVal×NVal)} {m:List MapEntry},All2 (fun p e=>VR ι1 p.1 e.key∧VR ι1 p.2 e.val) l m→All2 (fun p e=>VR (joinI h.next ι ι1) p.1 e.key∧VR (joinI h.next ι ι1) p.2 e.val) (l.map fun p=>(shiftV h.next p.1,shiftV h.next p.2)) m:=by
      intro l m q
      induction q with
      |nil=>exact .nil
      |cons a b ih=>exact .cons ⟨a.1.shift,a.2.shift⟩ ih
     exact key a4
    |cells cs1 m1=>cases e2
    |dead=>cases e2
  ·have oldB:∀{b o rb s m},h.get b=some o→o.owned=true→ι b=some (rb,s,m)→rb<w.heap.size:=by
    intro b o rb s m e ho hi
    cases o with
    |cells cs mine=>
     cases mine with
     |own t=>
      obtain⟨rb',s',m',c,et,fz,a1,a2,a3,_⟩:=I.cells b cs e
      rw[hi] at a1;cases a1
      exact(Array.getElem?_eq_some_iff.1 a3).1
     |ro=>cases ho
    |map es=>
     obtain⟨rb',s',m',ents,clock,a1,a2,a3,_⟩:=I.maps b es e
     rw[hi] at a1;cases a1
     exact(Array.getElem?_eq_some_iff.1 a3).1
    |dead=>cases ho
   have newB:∀{b o rb s m},h1.get b=some o→o.owned=true→ι1 b=some (rb,s,m)→w.heap.size≤rb:=by
    intro b o rb s m e ho hi
    cases o with
    |cells cs mine=>
     cases mine with
     |own t=>
      obtain⟨rb',s',m',c,et,fz,a1,a2,a3,_⟩:=I1.cells b cs e
      rw[hi] at a1;cases a1
      exact a2
     |ro=>cases ho
    |map es=>
     obtain⟨rb',s',m',ents,clock,a1,a2,a3,_⟩:=I1.maps b es e
     rw[hi] at a1;cases a1
     exact a2
    |dead=>cases ho
   have own1:∀o:NObj,(shiftO h.next o).owned=o.owned:=fun o=>by cases o<;>rfl
   have live:∀{o:NObj} {b:Nat} {X:Prop},(o=.dead∨(h1.get b=some o∧X))→o.owned=true→h1.get b=some o:=fun q ho=>by
    rcases q with rfl|q
    ·cases ho
    ·exact q.1
   intro b b' o o' rb s s' m m' e1 ho1 e2 ho2 hi1 hi2
   rcases get e1 with⟨hb,e1'⟩|⟨hb,o1,e1',rfl⟩<;>rcases get e2 with⟨hb',e2'⟩|⟨hb',o2,e2',rfl⟩
   ·rw[jold hb] at hi1;rw[jold hb'] at hi2
    exact I.inj b b' o o' rb s s' m m' e1' ho1 e2' ho2 hi1 hi2
   ·rw[jold hb] at hi1;rw[jnew hb'] at hi2
    have:=oldB e1' ho1 hi1
    rw[own1] at ho2
    have:=newB (live e2' ho2) ho2 hi2
    omega
   ·rw[jnew hb] at hi1;rw[jold hb'] at hi2
    have:=oldB e2' ho2 hi2
    rw[own1] at ho1
    have:=newB (live e1' ho1) ho1 hi1
    omega
   ·rw[jnew hb] at hi1;rw[jnew hb'] at hi2
    rw[own1] at ho1 ho2
    have:=I1.inj _ _ o1 o2 rb s s' m m' (live e1' ho1) ho1 (live e2' ho2) ho2 hi1 hi2
    omega
 refine hR (joinI h.next ι ι1) w' rv hv.shift hI ⟨hle,fun b x e=>?_,S1.size,fun rb hlt _=>I1.below.block rb hlt,fun rb ho=>?_,by rw[layAll_next];omega⟩
 ·by_cases hb:b<h.next
  ·rw[jold hb] at e;exact .inl e
  ·exact .inr (by omega)
 ·obtain⟨b,o,s,m,e,ho,hi⟩:=ho
  rcases get e with⟨hb,e'⟩|⟨hb,o1,e1,rfl⟩
  ·rw[jold hb] at hi;exact .inl ⟨b,o,s,m,e',ho,hi⟩
  ·rw[jnew hb] at hi
   refine .inr ?_
   have own1:∀o:NObj,(shiftO h.next o).owned=o.owned:=fun o=>by cases o<;>rfl
   rw[own1] at ho
   cases o1 with
   |cells cs mine=>
    cases mine with
    |own t=>
     obtain⟨rb',s',m',c,et,fz,a1,a2,a3,_⟩:=I1.cells _ cs (e1.resolve_left (by simp)).1
     rw[hi] at a1;cases a1
     exact a2
    |ro=>cases ho
   |map es=>
    obtain⟨rb',s',m',ents,clock,a1,a2,a3,_⟩:=I1.maps _ es (e1.resolve_left (by simp)).1
    rw[hi] at a1;cases a1
    exact a2
   |dead=>cases ho
end Go.Proofs.YtkjpldganajkkaaGreatDoor.NICE
