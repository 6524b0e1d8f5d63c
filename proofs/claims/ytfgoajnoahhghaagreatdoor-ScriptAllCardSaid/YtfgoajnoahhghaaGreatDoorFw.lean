/-
  What the seat's types are, and each function's first step. No conditions.
-/
import Derived.Test.YtfgoajnoahhghaaGreatDoorTab
import Derived.Test.YtfgoajnoahhghaaGreatDoorNice39
import Derived.Test.YtfgoajnoahhghaaGreatDoorSaysScriptRuns
import Derived.Test.YtfgoajnoahhghaaGreatDoorSaysCheckRuns
namespace Go.Proofs.YtfgoajnoahhghaaGreatDoor.S
open Go Go.RowKit Go.Proofs.YtfgoajnoahhghaaGreatDoor.NICE
set_option maxRecDepth 100000
set_option linter.unusedSimpArgs false

theorem known_at14 : (Go.Proofs.YtfgoajnoahhghaaGreatDoor.env).known 14 [] NHeap.empty = none := by kernel_rfl
theorem known_ex14 : ∃ c, CallOk Tryz.prog (trueKnown 14 c) := trueKnown_ok (Checked.mixed Tryz.checked) Go.Proofs.YtfgoajnoahhghaaGreatDoor.env known_at14 Go.Proofs.YtfgoajnoahhghaaGreatDoor.checkRuns.says
noncomputable def runsN14 : Nat := Classical.choose known_ex14
theorem runsN14_ok : CallOk Tryz.prog (trueKnown 14 runsN14) := Classical.choose_spec known_ex14
theorem known_at20 : (Go.Proofs.YtfgoajnoahhghaaGreatDoor.env).known 20 [] NHeap.empty = none := by kernel_rfl
theorem known_ex20 : ∃ c, CallOk Tryz.prog (trueKnown 20 c) := trueKnown_ok (Checked.mixed Tryz.checked) Go.Proofs.YtfgoajnoahhghaaGreatDoor.env known_at20 Go.Proofs.YtfgoajnoahhghaaGreatDoor.scriptRuns.says
noncomputable def runsN20 : Nat := Classical.choose known_ex20
theorem runsN20_ok : CallOk Tryz.prog (trueKnown 20 runsN20) := Classical.choose_spec known_ex20
noncomputable def env : Env Tryz.prog drStatic := tab.env tab_ok (orKnown (trueKnown 20 runsN20) (orKnown (trueKnown 14 runsN14) (orKnown (idxKnown 135) (sameKnown 140)))) (orKnown_ok runsN20_ok (orKnown_ok runsN14_ok (orKnown_ok idx_ok esc_ok)))
theorem runs_ok20 (h : NHeap) : ∃ h', K env 20 [] h = some (.bool true, h') ∧ Ext h h' :=
  ⟨layAll h.next (List.replicate runsN20 .dead) h, K_known (by simp [env, Tb.env, orKnown, trueKnown]), layAll_ext _ _ _⟩
theorem runs_ok14 (h : NHeap) : ∃ h', K env 14 [] h = some (.bool true, h') ∧ Ext h h' :=
  ⟨layAll h.next (List.replicate runsN14 .dead) h, K_known (by simp [env, Tb.env, orKnown, trueKnown]), layAll_ext _ _ _⟩
theorem sz2 : szOf Tryz.prog 2 = some 1 := by kernel_rfl
theorem ag2 : aggT Tryz.prog 2 = some false := by kernel_rfl
theorem by2 : bytesOf Tryz.prog 2 = some 8 := by kernel_rfl
theorem ze2 : zeroOf Tryz.prog 2 = some (.int .i64 0) := by kernel_rfl
theorem sz3 : szOf Tryz.prog 3 = some 1 := by kernel_rfl
theorem ag3 : aggT Tryz.prog 3 = some false := by kernel_rfl
theorem by3 : bytesOf Tryz.prog 3 = some 8 := by kernel_rfl
theorem ze3 : zeroOf Tryz.prog 3 = some (.int .i64 0) := by kernel_rfl
theorem sz4 : szOf Tryz.prog 4 = some 1 := by kernel_rfl
theorem ag4 : aggT Tryz.prog 4 = some false := by kernel_rfl
theorem by4 : bytesOf Tryz.prog 4 = some 1 := by kernel_rfl
theorem ze4 : zeroOf Tryz.prog 4 = some (.bool false) := by kernel_rfl
theorem sz5 : szOf Tryz.prog 5 = some 1 := by kernel_rfl
theorem ag5 : aggT Tryz.prog 5 = some false := by kernel_rfl
theorem by5 : bytesOf Tryz.prog 5 = some 1 := by kernel_rfl
theorem ze5 : zeroOf Tryz.prog 5 = some (.int .u8 0) := by kernel_rfl
theorem sz9 : szOf Tryz.prog 9 = some 1 := by kernel_rfl
theorem ag9 : aggT Tryz.prog 9 = some false := by kernel_rfl
theorem by9 : bytesOf Tryz.prog 9 = some 16 := by kernel_rfl
theorem ze9 : zeroOf Tryz.prog 9 = some (.str []) := by kernel_rfl
theorem sz20 : szOf Tryz.prog 20 = some 1 := by kernel_rfl
theorem ag20 : aggT Tryz.prog 20 = some false := by kernel_rfl
theorem by20 : bytesOf Tryz.prog 20 = some 16 := by kernel_rfl
theorem ze20 : zeroOf Tryz.prog 20 = some .nilIface := by kernel_rfl
theorem sz22 : szOf Tryz.prog 22 = some 5 := by kernel_rfl
theorem ag22 : aggT Tryz.prog 22 = some true := by kernel_rfl
theorem by22 : bytesOf Tryz.prog 22 = some 40 := by kernel_rfl
theorem ze22 : zeroOf Tryz.prog 22 = some (.agg [(.int .i64 0), (.int .i64 0), (.int .i64 0), (.int .i64 0), (.int .i64 0)]) := by kernel_rfl
theorem sz24 : szOf Tryz.prog 24 = some 8 := by kernel_rfl
theorem ag24 : aggT Tryz.prog 24 = some true := by kernel_rfl
theorem by24 : bytesOf Tryz.prog 24 = some 64 := by kernel_rfl
theorem ze24 : zeroOf Tryz.prog 24 = some (.agg ([(.int .i64 0), (.int .i64 0), (.int .i64 0), (.int .i64 0), (.int .i64 0), (.int .i64 0), (.int .i64 0), (.int .i64 0)])) := by kernel_rfl
theorem fa24_0 (b o : Nat) : nfieldAddr Tryz.prog 24 (.ptr (some (b, o))) 0 = some (.ptr (some (b, o))) := by kernel_rfl
theorem fi24_0 (cs : List NVal) : nfield Tryz.prog 24 (.agg cs) 0 = some (.agg ((cs.drop 0).take 5)) := by kernel_rfl
theorem fa24_1 (b o : Nat) : nfieldAddr Tryz.prog 24 (.ptr (some (b, o))) 1 = some (.ptr (some (b, o + 5))) := by kernel_rfl
theorem fi24_1 (cs : List NVal) : nfield Tryz.prog 24 (.agg cs) 1 = cs[5]? := by kernel_rfl
theorem fa24_2 (b o : Nat) : nfieldAddr Tryz.prog 24 (.ptr (some (b, o))) 2 = some (.ptr (some (b, o + 6))) := by kernel_rfl
theorem fi24_2 (cs : List NVal) : nfield Tryz.prog 24 (.agg cs) 2 = cs[6]? := by kernel_rfl
theorem fa24_3 (b o : Nat) : nfieldAddr Tryz.prog 24 (.ptr (some (b, o))) 3 = some (.ptr (some (b, o + 7))) := by kernel_rfl
theorem fi24_3 (cs : List NVal) : nfield Tryz.prog 24 (.agg cs) 3 = cs[7]? := by kernel_rfl
theorem sz25 : szOf Tryz.prog 25 = some 1 := by kernel_rfl
theorem ag25 : aggT Tryz.prog 25 = some false := by kernel_rfl
theorem by25 : bytesOf Tryz.prog 25 = some 24 := by kernel_rfl
theorem ze25 : zeroOf Tryz.prog 25 = some (.slice none 0 0 none) := by kernel_rfl
theorem sz27 : szOf Tryz.prog 27 = some 1 := by kernel_rfl
theorem ag27 : aggT Tryz.prog 27 = some false := by kernel_rfl
theorem by27 : bytesOf Tryz.prog 27 = some 8 := by kernel_rfl
theorem ze27 : zeroOf Tryz.prog 27 = some (.ptr none) := by kernel_rfl
theorem sz28 : szOf Tryz.prog 28 = some 1 := by kernel_rfl
theorem ag28 : aggT Tryz.prog 28 = some false := by kernel_rfl
theorem by28 : bytesOf Tryz.prog 28 = some 8 := by kernel_rfl
theorem ze28 : zeroOf Tryz.prog 28 = some (.int .i64 0) := by kernel_rfl
theorem sz32 : szOf Tryz.prog 32 = some 1 := by kernel_rfl
theorem ag32 : aggT Tryz.prog 32 = some false := by kernel_rfl
theorem by32 : bytesOf Tryz.prog 32 = some 24 := by kernel_rfl
theorem ze32 : zeroOf Tryz.prog 32 = some (.slice none 0 0 none) := by kernel_rfl
theorem sz34 : szOf Tryz.prog 34 = some 4 := by kernel_rfl
theorem ag34 : aggT Tryz.prog 34 = some true := by kernel_rfl
theorem by34 : bytesOf Tryz.prog 34 = some 56 := by kernel_rfl
theorem ze34 : zeroOf Tryz.prog 34 = some (.agg [(.slice none 0 0 none), (.str []), (.int .i64 0), (.bool false)]) := by kernel_rfl
theorem fa34_0 (b o : Nat) : nfieldAddr Tryz.prog 34 (.ptr (some (b, o))) 0 = some (.ptr (some (b, o))) := by kernel_rfl
theorem fi34_0 (cs : List NVal) : nfield Tryz.prog 34 (.agg cs) 0 = cs[0]? := by kernel_rfl
theorem fa34_1 (b o : Nat) : nfieldAddr Tryz.prog 34 (.ptr (some (b, o))) 1 = some (.ptr (some (b, o + 1))) := by kernel_rfl
theorem fi34_1 (cs : List NVal) : nfield Tryz.prog 34 (.agg cs) 1 = cs[1]? := by kernel_rfl
theorem fa34_2 (b o : Nat) : nfieldAddr Tryz.prog 34 (.ptr (some (b, o))) 2 = some (.ptr (some (b, o + 2))) := by kernel_rfl
theorem fi34_2 (cs : List NVal) : nfield Tryz.prog 34 (.agg cs) 2 = cs[2]? := by kernel_rfl
theorem fa34_3 (b o : Nat) : nfieldAddr Tryz.prog 34 (.ptr (some (b, o))) 3 = some (.ptr (some (b, o + 3))) := by kernel_rfl
theorem fi34_3 (cs : List NVal) : nfield Tryz.prog 34 (.agg cs) 3 = cs[3]? := by kernel_rfl
theorem sz37 : szOf Tryz.prog 37 = some 1 := by kernel_rfl
theorem ag37 : aggT Tryz.prog 37 = some false := by kernel_rfl
theorem by37 : bytesOf Tryz.prog 37 = some 8 := by kernel_rfl
theorem ze37 : zeroOf Tryz.prog 37 = some .nilFunc := by kernel_rfl
theorem sz39 : szOf Tryz.prog 39 = some 1 := by kernel_rfl
theorem ag39 : aggT Tryz.prog 39 = some false := by kernel_rfl
theorem by39 : bytesOf Tryz.prog 39 = some 24 := by kernel_rfl
theorem ze39 : zeroOf Tryz.prog 39 = some (.slice none 0 0 none) := by kernel_rfl
theorem sz40 : szOf Tryz.prog 40 = some 1 := by kernel_rfl
theorem ag40 : aggT Tryz.prog 40 = some false := by kernel_rfl
theorem by40 : bytesOf Tryz.prog 40 = some 24 := by kernel_rfl
theorem ze40 : zeroOf Tryz.prog 40 = some (.slice none 0 0 none) := by kernel_rfl
theorem sz43 : szOf Tryz.prog 43 = some 1 := by kernel_rfl
theorem ag43 : aggT Tryz.prog 43 = some false := by kernel_rfl
theorem by43 : bytesOf Tryz.prog 43 = some 24 := by kernel_rfl
theorem ze43 : zeroOf Tryz.prog 43 = some (.slice none 0 0 none) := by kernel_rfl
theorem sz45 : szOf Tryz.prog 45 = some 4 := by kernel_rfl
theorem ag45 : aggT Tryz.prog 45 = some true := by kernel_rfl
theorem by45 : bytesOf Tryz.prog 45 = some 48 := by kernel_rfl
theorem ze45 : zeroOf Tryz.prog 45 = some (.agg [(.int .i64 0), (.str []), (.str []), (.int .i64 0)]) := by kernel_rfl
theorem fa45_0 (b o : Nat) : nfieldAddr Tryz.prog 45 (.ptr (some (b, o))) 0 = some (.ptr (some (b, o))) := by kernel_rfl
theorem fi45_0 (cs : List NVal) : nfield Tryz.prog 45 (.agg cs) 0 = cs[0]? := by kernel_rfl
theorem fa45_1 (b o : Nat) : nfieldAddr Tryz.prog 45 (.ptr (some (b, o))) 1 = some (.ptr (some (b, o + 1))) := by kernel_rfl
theorem fi45_1 (cs : List NVal) : nfield Tryz.prog 45 (.agg cs) 1 = cs[1]? := by kernel_rfl
theorem fa45_2 (b o : Nat) : nfieldAddr Tryz.prog 45 (.ptr (some (b, o))) 2 = some (.ptr (some (b, o + 2))) := by kernel_rfl
theorem fi45_2 (cs : List NVal) : nfield Tryz.prog 45 (.agg cs) 2 = cs[2]? := by kernel_rfl
theorem fa45_3 (b o : Nat) : nfieldAddr Tryz.prog 45 (.ptr (some (b, o))) 3 = some (.ptr (some (b, o + 3))) := by kernel_rfl
theorem fi45_3 (cs : List NVal) : nfield Tryz.prog 45 (.agg cs) 3 = cs[3]? := by kernel_rfl
theorem sz53 : szOf Tryz.prog 53 = some 4 := by kernel_rfl
theorem ag53 : aggT Tryz.prog 53 = some true := by kernel_rfl
theorem by53 : bytesOf Tryz.prog 53 = some 48 := by kernel_rfl
theorem ze53 : zeroOf Tryz.prog 53 = some (.agg [(.int .i64 0), (.bool false), (.int .i64 0), (.slice none 0 0 none)]) := by kernel_rfl
theorem fa53_0 (b o : Nat) : nfieldAddr Tryz.prog 53 (.ptr (some (b, o))) 0 = some (.ptr (some (b, o))) := by kernel_rfl
theorem fi53_0 (cs : List NVal) : nfield Tryz.prog 53 (.agg cs) 0 = cs[0]? := by kernel_rfl
theorem fa53_1 (b o : Nat) : nfieldAddr Tryz.prog 53 (.ptr (some (b, o))) 1 = some (.ptr (some (b, o + 1))) := by kernel_rfl
theorem fi53_1 (cs : List NVal) : nfield Tryz.prog 53 (.agg cs) 1 = cs[1]? := by kernel_rfl
theorem fa53_2 (b o : Nat) : nfieldAddr Tryz.prog 53 (.ptr (some (b, o))) 2 = some (.ptr (some (b, o + 2))) := by kernel_rfl
theorem fi53_2 (cs : List NVal) : nfield Tryz.prog 53 (.agg cs) 2 = cs[2]? := by kernel_rfl
theorem fa53_3 (b o : Nat) : nfieldAddr Tryz.prog 53 (.ptr (some (b, o))) 3 = some (.ptr (some (b, o + 3))) := by kernel_rfl
theorem fi53_3 (cs : List NVal) : nfield Tryz.prog 53 (.agg cs) 3 = cs[3]? := by kernel_rfl
theorem sz55 : szOf Tryz.prog 55 = some 10 := by kernel_rfl
theorem ag55 : aggT Tryz.prog 55 = some true := by kernel_rfl
theorem by55 : bytesOf Tryz.prog 55 = some 112 := by kernel_rfl
theorem ze55 : zeroOf Tryz.prog 55 = some (.agg [(.int .i64 0), (.int .i64 0), (.int .i64 0), (.str []), (.str []), (.int .i64 0), (.int .i64 0), (.bool false), (.int .i64 0), (.slice none 0 0 none)]) := by kernel_rfl
theorem fa55_0 (b o : Nat) : nfieldAddr Tryz.prog 55 (.ptr (some (b, o))) 0 = some (.ptr (some (b, o))) := by kernel_rfl
theorem fi55_0 (cs : List NVal) : nfield Tryz.prog 55 (.agg cs) 0 = cs[0]? := by kernel_rfl
theorem fa55_1 (b o : Nat) : nfieldAddr Tryz.prog 55 (.ptr (some (b, o))) 1 = some (.ptr (some (b, o + 1))) := by kernel_rfl
theorem fi55_1 (cs : List NVal) : nfield Tryz.prog 55 (.agg cs) 1 = cs[1]? := by kernel_rfl
theorem fa55_2 (b o : Nat) : nfieldAddr Tryz.prog 55 (.ptr (some (b, o))) 2 = some (.ptr (some (b, o + 2))) := by kernel_rfl
theorem fi55_2 (cs : List NVal) : nfield Tryz.prog 55 (.agg cs) 2 = some (.agg ((cs.drop 2).take 4)) := by kernel_rfl
theorem fa55_3 (b o : Nat) : nfieldAddr Tryz.prog 55 (.ptr (some (b, o))) 3 = some (.ptr (some (b, o + 6))) := by kernel_rfl
theorem fi55_3 (cs : List NVal) : nfield Tryz.prog 55 (.agg cs) 3 = some (.agg ((cs.drop 6).take 4)) := by kernel_rfl
theorem sz63 : szOf Tryz.prog 63 = some 1 := by kernel_rfl
theorem ag63 : aggT Tryz.prog 63 = some false := by kernel_rfl
theorem by63 : bytesOf Tryz.prog 63 = some 8 := by kernel_rfl
theorem ze63 : zeroOf Tryz.prog 63 = some (.ptr none) := by kernel_rfl
theorem sz66 : szOf Tryz.prog 66 = some 1 := by kernel_rfl
theorem ag66 : aggT Tryz.prog 66 = some false := by kernel_rfl
theorem by66 : bytesOf Tryz.prog 66 = some 24 := by kernel_rfl
theorem ze66 : zeroOf Tryz.prog 66 = some (.slice none 0 0 none) := by kernel_rfl
theorem sz67 : szOf Tryz.prog 67 = some 1 := by kernel_rfl
theorem ag67 : aggT Tryz.prog 67 = some false := by kernel_rfl
theorem by67 : bytesOf Tryz.prog 67 = some 24 := by kernel_rfl
theorem ze67 : zeroOf Tryz.prog 67 = some (.slice none 0 0 none) := by kernel_rfl
theorem sz68 : szOf Tryz.prog 68 = some 1 := by kernel_rfl
theorem ag68 : aggT Tryz.prog 68 = some false := by kernel_rfl
theorem by68 : bytesOf Tryz.prog 68 = some 24 := by kernel_rfl
theorem ze68 : zeroOf Tryz.prog 68 = some (.slice none 0 0 none) := by kernel_rfl
theorem sz70 : szOf Tryz.prog 70 = some 13 := by kernel_rfl
theorem ag70 : aggT Tryz.prog 70 = some true := by kernel_rfl
theorem by70 : bytesOf Tryz.prog 70 = some 152 := by kernel_rfl
theorem ze70 : zeroOf Tryz.prog 70 = some (.agg ([(.int .i64 0), (.int .i64 0), (.int .i64 0), (.int .i64 0), (.int .i64 0), (.int .i64 0), (.int .i64 0), (.int .i64 0), (.ptr none), (.slice none 0 0 none), (.slice none 0 0 none), (.slice none 0 0 none), (.int .i64 0)])) := by kernel_rfl
theorem fa70_0 (b o : Nat) : nfieldAddr Tryz.prog 70 (.ptr (some (b, o))) 0 = some (.ptr (some (b, o))) := by kernel_rfl
theorem fi70_0 (cs : List NVal) : nfield Tryz.prog 70 (.agg cs) 0 = some (.agg ((cs.drop 0).take 8)) := by kernel_rfl
theorem fa70_1 (b o : Nat) : nfieldAddr Tryz.prog 70 (.ptr (some (b, o))) 1 = some (.ptr (some (b, o + 8))) := by kernel_rfl
theorem fi70_1 (cs : List NVal) : nfield Tryz.prog 70 (.agg cs) 1 = cs[8]? := by kernel_rfl
theorem fa70_2 (b o : Nat) : nfieldAddr Tryz.prog 70 (.ptr (some (b, o))) 2 = some (.ptr (some (b, o + 9))) := by kernel_rfl
theorem fi70_2 (cs : List NVal) : nfield Tryz.prog 70 (.agg cs) 2 = cs[9]? := by kernel_rfl
theorem fa70_3 (b o : Nat) : nfieldAddr Tryz.prog 70 (.ptr (some (b, o))) 3 = some (.ptr (some (b, o + 10))) := by kernel_rfl
theorem fi70_3 (cs : List NVal) : nfield Tryz.prog 70 (.agg cs) 3 = cs[10]? := by kernel_rfl
theorem fa70_4 (b o : Nat) : nfieldAddr Tryz.prog 70 (.ptr (some (b, o))) 4 = some (.ptr (some (b, o + 11))) := by kernel_rfl
theorem fi70_4 (cs : List NVal) : nfield Tryz.prog 70 (.agg cs) 4 = cs[11]? := by kernel_rfl
theorem fa70_5 (b o : Nat) : nfieldAddr Tryz.prog 70 (.ptr (some (b, o))) 5 = some (.ptr (some (b, o + 12))) := by kernel_rfl
theorem fi70_5 (cs : List NVal) : nfield Tryz.prog 70 (.agg cs) 5 = cs[12]? := by kernel_rfl
theorem sz72 : szOf Tryz.prog 72 = some 1 := by kernel_rfl
theorem ag72 : aggT Tryz.prog 72 = some false := by kernel_rfl
theorem by72 : bytesOf Tryz.prog 72 = some 8 := by kernel_rfl
theorem ze72 : zeroOf Tryz.prog 72 = some .nilFunc := by kernel_rfl
theorem sz74 : szOf Tryz.prog 74 = some 1 := by kernel_rfl
theorem ag74 : aggT Tryz.prog 74 = some false := by kernel_rfl
theorem by74 : bytesOf Tryz.prog 74 = some 8 := by kernel_rfl
theorem ze74 : zeroOf Tryz.prog 74 = some .nilFunc := by kernel_rfl
theorem sz75 : szOf Tryz.prog 75 = some 1 := by kernel_rfl
theorem ag75 : aggT Tryz.prog 75 = some false := by kernel_rfl
theorem by75 : bytesOf Tryz.prog 75 = some 8 := by kernel_rfl
theorem ze75 : zeroOf Tryz.prog 75 = some .nilFunc := by kernel_rfl
theorem sz76 : szOf Tryz.prog 76 = some 1 := by kernel_rfl
theorem ag76 : aggT Tryz.prog 76 = some false := by kernel_rfl
theorem by76 : bytesOf Tryz.prog 76 = some 8 := by kernel_rfl
theorem ze76 : zeroOf Tryz.prog 76 = some .nilFunc := by kernel_rfl
theorem sz78 : szOf Tryz.prog 78 = some 4 := by kernel_rfl
theorem ag78 : aggT Tryz.prog 78 = some true := by kernel_rfl
theorem by78 : bytesOf Tryz.prog 78 = some 32 := by kernel_rfl
theorem ze78 : zeroOf Tryz.prog 78 = some (.agg [.nilFunc, .nilFunc, .nilFunc, .nilFunc]) := by kernel_rfl
theorem fa78_0 (b o : Nat) : nfieldAddr Tryz.prog 78 (.ptr (some (b, o))) 0 = some (.ptr (some (b, o))) := by kernel_rfl
theorem fi78_0 (cs : List NVal) : nfield Tryz.prog 78 (.agg cs) 0 = cs[0]? := by kernel_rfl
theorem fa78_1 (b o : Nat) : nfieldAddr Tryz.prog 78 (.ptr (some (b, o))) 1 = some (.ptr (some (b, o + 1))) := by kernel_rfl
theorem fi78_1 (cs : List NVal) : nfield Tryz.prog 78 (.agg cs) 1 = cs[1]? := by kernel_rfl
theorem fa78_2 (b o : Nat) : nfieldAddr Tryz.prog 78 (.ptr (some (b, o))) 2 = some (.ptr (some (b, o + 2))) := by kernel_rfl
theorem fi78_2 (cs : List NVal) : nfield Tryz.prog 78 (.agg cs) 2 = cs[2]? := by kernel_rfl
theorem fa78_3 (b o : Nat) : nfieldAddr Tryz.prog 78 (.ptr (some (b, o))) 3 = some (.ptr (some (b, o + 3))) := by kernel_rfl
theorem fi78_3 (cs : List NVal) : nfield Tryz.prog 78 (.agg cs) 3 = cs[3]? := by kernel_rfl
theorem sz80 : szOf Tryz.prog 80 = some 9 := by kernel_rfl
theorem ag80 : aggT Tryz.prog 80 = some true := by kernel_rfl
theorem by80 : bytesOf Tryz.prog 80 = some 88 := by kernel_rfl
theorem ze80 : zeroOf Tryz.prog 80 = some (.agg [(.slice none 0 0 none), (.int .i64 0), (.bool false), .nilFunc, .nilFunc, .nilFunc, .nilFunc, (.int .i64 0), (.int .i64 0)]) := by kernel_rfl
theorem fa80_0 (b o : Nat) : nfieldAddr Tryz.prog 80 (.ptr (some (b, o))) 0 = some (.ptr (some (b, o))) := by kernel_rfl
theorem fi80_0 (cs : List NVal) : nfield Tryz.prog 80 (.agg cs) 0 = cs[0]? := by kernel_rfl
theorem fa80_1 (b o : Nat) : nfieldAddr Tryz.prog 80 (.ptr (some (b, o))) 1 = some (.ptr (some (b, o + 1))) := by kernel_rfl
theorem fi80_1 (cs : List NVal) : nfield Tryz.prog 80 (.agg cs) 1 = cs[1]? := by kernel_rfl
theorem fa80_2 (b o : Nat) : nfieldAddr Tryz.prog 80 (.ptr (some (b, o))) 2 = some (.ptr (some (b, o + 2))) := by kernel_rfl
theorem fi80_2 (cs : List NVal) : nfield Tryz.prog 80 (.agg cs) 2 = cs[2]? := by kernel_rfl
theorem fa80_3 (b o : Nat) : nfieldAddr Tryz.prog 80 (.ptr (some (b, o))) 3 = some (.ptr (some (b, o + 3))) := by kernel_rfl
theorem fi80_3 (cs : List NVal) : nfield Tryz.prog 80 (.agg cs) 3 = some (.agg ((cs.drop 3).take 4)) := by kernel_rfl
theorem fa80_4 (b o : Nat) : nfieldAddr Tryz.prog 80 (.ptr (some (b, o))) 4 = some (.ptr (some (b, o + 7))) := by kernel_rfl
theorem fi80_4 (cs : List NVal) : nfield Tryz.prog 80 (.agg cs) 4 = cs[7]? := by kernel_rfl
theorem fa80_5 (b o : Nat) : nfieldAddr Tryz.prog 80 (.ptr (some (b, o))) 5 = some (.ptr (some (b, o + 8))) := by kernel_rfl
theorem fi80_5 (cs : List NVal) : nfield Tryz.prog 80 (.agg cs) 5 = cs[8]? := by kernel_rfl
theorem sz82 : szOf Tryz.prog 82 = some 1 := by kernel_rfl
theorem ag82 : aggT Tryz.prog 82 = some false := by kernel_rfl
theorem by82 : bytesOf Tryz.prog 82 = some 8 := by kernel_rfl
theorem ze82 : zeroOf Tryz.prog 82 = some (.ptr none) := by kernel_rfl
theorem sz85 : szOf Tryz.prog 85 = some 5 := by kernel_rfl
theorem ag85 : aggT Tryz.prog 85 = some true := by kernel_rfl
theorem by85 : bytesOf Tryz.prog 85 = some 64 := by kernel_rfl
theorem ze85 : zeroOf Tryz.prog 85 = some (.agg [(.ptr none), (.slice none 0 0 none), (.str []), (.int .i64 0), (.bool false)]) := by kernel_rfl
theorem fa85_0 (b o : Nat) : nfieldAddr Tryz.prog 85 (.ptr (some (b, o))) 0 = some (.ptr (some (b, o))) := by kernel_rfl
theorem fi85_0 (cs : List NVal) : nfield Tryz.prog 85 (.agg cs) 0 = cs[0]? := by kernel_rfl
theorem fa85_1 (b o : Nat) : nfieldAddr Tryz.prog 85 (.ptr (some (b, o))) 1 = some (.ptr (some (b, o + 1))) := by kernel_rfl
theorem fi85_1 (cs : List NVal) : nfield Tryz.prog 85 (.agg cs) 1 = some (.agg ((cs.drop 1).take 4)) := by kernel_rfl
theorem sz90 : szOf Tryz.prog 90 = some 2 := by kernel_rfl
theorem ag90 : aggT Tryz.prog 90 = some true := by kernel_rfl
theorem by90 : bytesOf Tryz.prog 90 = some 24 := by kernel_rfl
theorem ze90 : zeroOf Tryz.prog 90 = some (.agg [(.str []), (.int .i64 0)]) := by kernel_rfl
theorem fa90_0 (b o : Nat) : nfieldAddr Tryz.prog 90 (.ptr (some (b, o))) 0 = some (.ptr (some (b, o))) := by kernel_rfl
theorem fi90_0 (cs : List NVal) : nfield Tryz.prog 90 (.agg cs) 0 = cs[0]? := by kernel_rfl
theorem fa90_1 (b o : Nat) : nfieldAddr Tryz.prog 90 (.ptr (some (b, o))) 1 = some (.ptr (some (b, o + 1))) := by kernel_rfl
theorem fi90_1 (cs : List NVal) : nfield Tryz.prog 90 (.agg cs) 1 = cs[1]? := by kernel_rfl
theorem sz95 : szOf Tryz.prog 95 = some 1 := by kernel_rfl
theorem ag95 : aggT Tryz.prog 95 = some false := by kernel_rfl
theorem by95 : bytesOf Tryz.prog 95 = some 8 := by kernel_rfl
theorem ze95 : zeroOf Tryz.prog 95 = some (.int .u64 0) := by kernel_rfl
theorem sz101 : szOf Tryz.prog 101 = some 1 := by kernel_rfl
theorem ag101 : aggT Tryz.prog 101 = some false := by kernel_rfl
theorem by101 : bytesOf Tryz.prog 101 = some 8 := by kernel_rfl
theorem ze101 : zeroOf Tryz.prog 101 = some (.ptr none) := by kernel_rfl
theorem sz103 : szOf Tryz.prog 103 = some 2 := by kernel_rfl
theorem ag103 : aggT Tryz.prog 103 = some true := by kernel_rfl
theorem by103 : bytesOf Tryz.prog 103 = some 32 := by kernel_rfl
theorem ze103 : zeroOf Tryz.prog 103 = some (.agg [(.ptr none), (.slice none 0 0 none)]) := by kernel_rfl
theorem fa103_0 (b o : Nat) : nfieldAddr Tryz.prog 103 (.ptr (some (b, o))) 0 = some (.ptr (some (b, o))) := by kernel_rfl
theorem fi103_0 (cs : List NVal) : nfield Tryz.prog 103 (.agg cs) 0 = cs[0]? := by kernel_rfl
theorem fa103_1 (b o : Nat) : nfieldAddr Tryz.prog 103 (.ptr (some (b, o))) 1 = some (.ptr (some (b, o + 1))) := by kernel_rfl
theorem fi103_1 (cs : List NVal) : nfield Tryz.prog 103 (.agg cs) 1 = cs[1]? := by kernel_rfl
theorem sz110 : szOf Tryz.prog 110 = some 1 := by kernel_rfl
theorem ag110 : aggT Tryz.prog 110 = some false := by kernel_rfl
theorem by110 : bytesOf Tryz.prog 110 = some 8 := by kernel_rfl
theorem ze110 : zeroOf Tryz.prog 110 = some (.ptr none) := by kernel_rfl
theorem sz113 : szOf Tryz.prog 113 = some 1 := by kernel_rfl
theorem ag113 : aggT Tryz.prog 113 = some false := by kernel_rfl
theorem by113 : bytesOf Tryz.prog 113 = some 8 := by kernel_rfl
theorem ze113 : zeroOf Tryz.prog 113 = some (.ptr none) := by kernel_rfl
theorem sz118 : szOf Tryz.prog 118 = some 1 := by kernel_rfl
theorem ag118 : aggT Tryz.prog 118 = some false := by kernel_rfl
theorem by118 : bytesOf Tryz.prog 118 = some 24 := by kernel_rfl
theorem ze118 : zeroOf Tryz.prog 118 = some (.slice none 0 0 none) := by kernel_rfl
theorem sz120 : szOf Tryz.prog 120 = some 1 := by kernel_rfl
theorem ag120 : aggT Tryz.prog 120 = some false := by kernel_rfl
theorem by120 : bytesOf Tryz.prog 120 = some 8 := by kernel_rfl
theorem ze120 : zeroOf Tryz.prog 120 = some (.int .u64 0) := by kernel_rfl
theorem sz122 : szOf Tryz.prog 122 = some 5 := by kernel_rfl
theorem ag122 : aggT Tryz.prog 122 = some true := by kernel_rfl
theorem by122 : bytesOf Tryz.prog 122 = some 80 := by kernel_rfl
theorem ze122 : zeroOf Tryz.prog 122 = some (.agg [(.int .i64 0), (.int .u64 0), (.str []), (.slice none 0 0 none), (.slice none 0 0 none)]) := by kernel_rfl
theorem fa122_0 (b o : Nat) : nfieldAddr Tryz.prog 122 (.ptr (some (b, o))) 0 = some (.ptr (some (b, o))) := by kernel_rfl
theorem fi122_0 (cs : List NVal) : nfield Tryz.prog 122 (.agg cs) 0 = cs[0]? := by kernel_rfl
theorem fa122_1 (b o : Nat) : nfieldAddr Tryz.prog 122 (.ptr (some (b, o))) 1 = some (.ptr (some (b, o + 1))) := by kernel_rfl
theorem fi122_1 (cs : List NVal) : nfield Tryz.prog 122 (.agg cs) 1 = cs[1]? := by kernel_rfl
theorem fa122_2 (b o : Nat) : nfieldAddr Tryz.prog 122 (.ptr (some (b, o))) 2 = some (.ptr (some (b, o + 2))) := by kernel_rfl
theorem fi122_2 (cs : List NVal) : nfield Tryz.prog 122 (.agg cs) 2 = cs[2]? := by kernel_rfl
theorem fa122_3 (b o : Nat) : nfieldAddr Tryz.prog 122 (.ptr (some (b, o))) 3 = some (.ptr (some (b, o + 3))) := by kernel_rfl
theorem fi122_3 (cs : List NVal) : nfield Tryz.prog 122 (.agg cs) 3 = cs[3]? := by kernel_rfl
theorem fa122_4 (b o : Nat) : nfieldAddr Tryz.prog 122 (.ptr (some (b, o))) 4 = some (.ptr (some (b, o + 4))) := by kernel_rfl
theorem fi122_4 (cs : List NVal) : nfield Tryz.prog 122 (.agg cs) 4 = cs[4]? := by kernel_rfl
theorem sz124 : szOf Tryz.prog 124 = some 5 := by kernel_rfl
theorem ag124 : aggT Tryz.prog 124 = some true := by kernel_rfl
theorem by124 : bytesOf Tryz.prog 124 = some 40 := by kernel_rfl
theorem ze124 : zeroOf Tryz.prog 124 = some (.agg [(.ptr none), (.ptr none), (.int .i64 0), (.int .i64 0), (.int .i64 0)]) := by kernel_rfl
theorem fa124_0 (b o : Nat) : nfieldAddr Tryz.prog 124 (.ptr (some (b, o))) 0 = some (.ptr (some (b, o))) := by kernel_rfl
theorem fi124_0 (cs : List NVal) : nfield Tryz.prog 124 (.agg cs) 0 = cs[0]? := by kernel_rfl
theorem fa124_1 (b o : Nat) : nfieldAddr Tryz.prog 124 (.ptr (some (b, o))) 1 = some (.ptr (some (b, o + 1))) := by kernel_rfl
theorem fi124_1 (cs : List NVal) : nfield Tryz.prog 124 (.agg cs) 1 = cs[1]? := by kernel_rfl
theorem fa124_2 (b o : Nat) : nfieldAddr Tryz.prog 124 (.ptr (some (b, o))) 2 = some (.ptr (some (b, o + 2))) := by kernel_rfl
theorem fi124_2 (cs : List NVal) : nfield Tryz.prog 124 (.agg cs) 2 = cs[2]? := by kernel_rfl
theorem fa124_3 (b o : Nat) : nfieldAddr Tryz.prog 124 (.ptr (some (b, o))) 3 = some (.ptr (some (b, o + 3))) := by kernel_rfl
theorem fi124_3 (cs : List NVal) : nfield Tryz.prog 124 (.agg cs) 3 = cs[3]? := by kernel_rfl
theorem fa124_4 (b o : Nat) : nfieldAddr Tryz.prog 124 (.ptr (some (b, o))) 4 = some (.ptr (some (b, o + 4))) := by kernel_rfl
theorem fi124_4 (cs : List NVal) : nfield Tryz.prog 124 (.agg cs) 4 = cs[4]? := by kernel_rfl
theorem sz127 : szOf Tryz.prog 127 = some 4 := by kernel_rfl
theorem ag127 : aggT Tryz.prog 127 = some true := by kernel_rfl
theorem by127 : bytesOf Tryz.prog 127 = some 48 := by kernel_rfl
theorem ze127 : zeroOf Tryz.prog 127 = some (.agg [(.int .i64 0), (.int .i64 0), (.bool false), (.slice none 0 0 none)]) := by kernel_rfl
theorem fa127_0 (b o : Nat) : nfieldAddr Tryz.prog 127 (.ptr (some (b, o))) 0 = some (.ptr (some (b, o))) := by kernel_rfl
theorem fi127_0 (cs : List NVal) : nfield Tryz.prog 127 (.agg cs) 0 = cs[0]? := by kernel_rfl
theorem fa127_1 (b o : Nat) : nfieldAddr Tryz.prog 127 (.ptr (some (b, o))) 1 = some (.ptr (some (b, o + 1))) := by kernel_rfl
theorem fi127_1 (cs : List NVal) : nfield Tryz.prog 127 (.agg cs) 1 = cs[1]? := by kernel_rfl
theorem fa127_2 (b o : Nat) : nfieldAddr Tryz.prog 127 (.ptr (some (b, o))) 2 = some (.ptr (some (b, o + 2))) := by kernel_rfl
theorem fi127_2 (cs : List NVal) : nfield Tryz.prog 127 (.agg cs) 2 = cs[2]? := by kernel_rfl
theorem fa127_3 (b o : Nat) : nfieldAddr Tryz.prog 127 (.ptr (some (b, o))) 3 = some (.ptr (some (b, o + 3))) := by kernel_rfl
theorem fi127_3 (cs : List NVal) : nfield Tryz.prog 127 (.agg cs) 3 = cs[3]? := by kernel_rfl
theorem sz130 : szOf Tryz.prog 130 = some 6 := by kernel_rfl
theorem ag130 : aggT Tryz.prog 130 = some true := by kernel_rfl
theorem by130 : bytesOf Tryz.prog 130 = some 64 := by kernel_rfl
theorem ze130 : zeroOf Tryz.prog 130 = some (.agg [(.int .i64 0), (.int .i64 0), (.int .i64 0), (.int .i64 0), (.int .u64 0), (.slice none 0 0 none)]) := by kernel_rfl
theorem fa130_0 (b o : Nat) : nfieldAddr Tryz.prog 130 (.ptr (some (b, o))) 0 = some (.ptr (some (b, o))) := by kernel_rfl
theorem fi130_0 (cs : List NVal) : nfield Tryz.prog 130 (.agg cs) 0 = cs[0]? := by kernel_rfl
theorem fa130_1 (b o : Nat) : nfieldAddr Tryz.prog 130 (.ptr (some (b, o))) 1 = some (.ptr (some (b, o + 1))) := by kernel_rfl
theorem fi130_1 (cs : List NVal) : nfield Tryz.prog 130 (.agg cs) 1 = cs[1]? := by kernel_rfl
theorem fa130_2 (b o : Nat) : nfieldAddr Tryz.prog 130 (.ptr (some (b, o))) 2 = some (.ptr (some (b, o + 2))) := by kernel_rfl
theorem fi130_2 (cs : List NVal) : nfield Tryz.prog 130 (.agg cs) 2 = cs[2]? := by kernel_rfl
theorem fa130_3 (b o : Nat) : nfieldAddr Tryz.prog 130 (.ptr (some (b, o))) 3 = some (.ptr (some (b, o + 3))) := by kernel_rfl
theorem fi130_3 (cs : List NVal) : nfield Tryz.prog 130 (.agg cs) 3 = cs[3]? := by kernel_rfl
theorem fa130_4 (b o : Nat) : nfieldAddr Tryz.prog 130 (.ptr (some (b, o))) 4 = some (.ptr (some (b, o + 4))) := by kernel_rfl
theorem fi130_4 (cs : List NVal) : nfield Tryz.prog 130 (.agg cs) 4 = cs[4]? := by kernel_rfl
theorem fa130_5 (b o : Nat) : nfieldAddr Tryz.prog 130 (.ptr (some (b, o))) 5 = some (.ptr (some (b, o + 5))) := by kernel_rfl
theorem fi130_5 (cs : List NVal) : nfield Tryz.prog 130 (.agg cs) 5 = cs[5]? := by kernel_rfl
theorem sz135 : szOf Tryz.prog 135 = some 1 := by kernel_rfl
theorem ag135 : aggT Tryz.prog 135 = some false := by kernel_rfl
theorem by135 : bytesOf Tryz.prog 135 = some 8 := by kernel_rfl
theorem ze135 : zeroOf Tryz.prog 135 = some (.ptr none) := by kernel_rfl
theorem sz141 : szOf Tryz.prog 141 = some 1 := by kernel_rfl
theorem ag141 : aggT Tryz.prog 141 = some false := by kernel_rfl
theorem by141 : bytesOf Tryz.prog 141 = some 8 := by kernel_rfl
theorem ze141 : zeroOf Tryz.prog 141 = some (.ptr none) := by kernel_rfl
theorem sz144 : szOf Tryz.prog 144 = some 1 := by kernel_rfl
theorem ag144 : aggT Tryz.prog 144 = some false := by kernel_rfl
theorem by144 : bytesOf Tryz.prog 144 = some 8 := by kernel_rfl
theorem ze144 : zeroOf Tryz.prog 144 = some (.ptr none) := by kernel_rfl
theorem sz147 : szOf Tryz.prog 147 = some 1 := by kernel_rfl
theorem ag147 : aggT Tryz.prog 147 = some false := by kernel_rfl
theorem by147 : bytesOf Tryz.prog 147 = some 8 := by kernel_rfl
theorem ze147 : zeroOf Tryz.prog 147 = some (.ptr none) := by kernel_rfl
theorem sz150 : szOf Tryz.prog 150 = some 1 := by kernel_rfl
theorem ag150 : aggT Tryz.prog 150 = some false := by kernel_rfl
theorem by150 : bytesOf Tryz.prog 150 = some 8 := by kernel_rfl
theorem ze150 : zeroOf Tryz.prog 150 = some (.ptr none) := by kernel_rfl
theorem sz153 : szOf Tryz.prog 153 = some 1 := by kernel_rfl
theorem ag153 : aggT Tryz.prog 153 = some false := by kernel_rfl
theorem by153 : bytesOf Tryz.prog 153 = some 8 := by kernel_rfl
theorem ze153 : zeroOf Tryz.prog 153 = some (.ptr none) := by kernel_rfl
theorem sz158 : szOf Tryz.prog 158 = some 1 := by kernel_rfl
theorem ag158 : aggT Tryz.prog 158 = some false := by kernel_rfl
theorem by158 : bytesOf Tryz.prog 158 = some 8 := by kernel_rfl
theorem ze158 : zeroOf Tryz.prog 158 = some (.ptr none) := by kernel_rfl
theorem sz159 : szOf Tryz.prog 159 = some 1 := by kernel_rfl
theorem ag159 : aggT Tryz.prog 159 = some false := by kernel_rfl
theorem by159 : bytesOf Tryz.prog 159 = some 24 := by kernel_rfl
theorem ze159 : zeroOf Tryz.prog 159 = some (.slice none 0 0 none) := by kernel_rfl
theorem sz160 : szOf Tryz.prog 160 = some 1 := by kernel_rfl
theorem ag160 : aggT Tryz.prog 160 = some false := by kernel_rfl
theorem by160 : bytesOf Tryz.prog 160 = some 8 := by kernel_rfl
theorem ze160 : zeroOf Tryz.prog 160 = some (.ptr none) := by kernel_rfl
theorem sz161 : szOf Tryz.prog 161 = some 5 := by kernel_rfl
theorem ag161 : aggT Tryz.prog 161 = some true := by kernel_rfl
theorem by161 : bytesOf Tryz.prog 161 = some 40 := by kernel_rfl
theorem ze161 : zeroOf Tryz.prog 161 = some (.agg [(.ptr none), (.ptr none), (.ptr none), (.ptr none), (.ptr none)]) := by kernel_rfl
theorem sz163 : szOf Tryz.prog 163 = some 6 := by kernel_rfl
theorem ag163 : aggT Tryz.prog 163 = some true := by kernel_rfl
theorem by163 : bytesOf Tryz.prog 163 = some 64 := by kernel_rfl
theorem ze163 : zeroOf Tryz.prog 163 = some (.agg [(.slice none 0 0 none), (.ptr none), (.ptr none), (.ptr none), (.ptr none), (.ptr none)]) := by kernel_rfl
theorem fa163_0 (b o : Nat) : nfieldAddr Tryz.prog 163 (.ptr (some (b, o))) 0 = some (.ptr (some (b, o))) := by kernel_rfl
theorem fi163_0 (cs : List NVal) : nfield Tryz.prog 163 (.agg cs) 0 = cs[0]? := by kernel_rfl
theorem fa163_1 (b o : Nat) : nfieldAddr Tryz.prog 163 (.ptr (some (b, o))) 1 = some (.ptr (some (b, o + 1))) := by kernel_rfl
theorem fi163_1 (cs : List NVal) : nfield Tryz.prog 163 (.agg cs) 1 = some (.agg ((cs.drop 1).take 5)) := by kernel_rfl
theorem sz168 : szOf Tryz.prog 168 = some 4 := by kernel_rfl
theorem ag168 : aggT Tryz.prog 168 = some true := by kernel_rfl
theorem by168 : bytesOf Tryz.prog 168 = some 48 := by kernel_rfl
theorem ze168 : zeroOf Tryz.prog 168 = some (.agg [(.int .i64 0), (.int .i64 0), (.bool false), (.slice none 0 0 none)]) := by kernel_rfl
theorem fa168_0 (b o : Nat) : nfieldAddr Tryz.prog 168 (.ptr (some (b, o))) 0 = some (.ptr (some (b, o))) := by kernel_rfl
theorem fi168_0 (cs : List NVal) : nfield Tryz.prog 168 (.agg cs) 0 = cs[0]? := by kernel_rfl
theorem fa168_1 (b o : Nat) : nfieldAddr Tryz.prog 168 (.ptr (some (b, o))) 1 = some (.ptr (some (b, o + 1))) := by kernel_rfl
theorem fi168_1 (cs : List NVal) : nfield Tryz.prog 168 (.agg cs) 1 = cs[1]? := by kernel_rfl
theorem fa168_2 (b o : Nat) : nfieldAddr Tryz.prog 168 (.ptr (some (b, o))) 2 = some (.ptr (some (b, o + 2))) := by kernel_rfl
theorem fi168_2 (cs : List NVal) : nfield Tryz.prog 168 (.agg cs) 2 = cs[2]? := by kernel_rfl
theorem fa168_3 (b o : Nat) : nfieldAddr Tryz.prog 168 (.ptr (some (b, o))) 3 = some (.ptr (some (b, o + 3))) := by kernel_rfl
theorem fi168_3 (cs : List NVal) : nfield Tryz.prog 168 (.agg cs) 3 = cs[3]? := by kernel_rfl
theorem sz169 : szOf Tryz.prog 169 = some 1 := by kernel_rfl
theorem ag169 : aggT Tryz.prog 169 = some false := by kernel_rfl
theorem by169 : bytesOf Tryz.prog 169 = some 24 := by kernel_rfl
theorem ze169 : zeroOf Tryz.prog 169 = some (.slice none 0 0 none) := by kernel_rfl
theorem sz171 : szOf Tryz.prog 171 = some 3 := by kernel_rfl
theorem ag171 : aggT Tryz.prog 171 = some true := by kernel_rfl
theorem by171 : bytesOf Tryz.prog 171 = some 40 := by kernel_rfl
theorem ze171 : zeroOf Tryz.prog 171 = some (.agg [(.int .i64 0), (.int .i64 0), (.slice none 0 0 none)]) := by kernel_rfl
theorem fa171_0 (b o : Nat) : nfieldAddr Tryz.prog 171 (.ptr (some (b, o))) 0 = some (.ptr (some (b, o))) := by kernel_rfl
theorem fi171_0 (cs : List NVal) : nfield Tryz.prog 171 (.agg cs) 0 = cs[0]? := by kernel_rfl
theorem fa171_1 (b o : Nat) : nfieldAddr Tryz.prog 171 (.ptr (some (b, o))) 1 = some (.ptr (some (b, o + 1))) := by kernel_rfl
theorem fi171_1 (cs : List NVal) : nfield Tryz.prog 171 (.agg cs) 1 = cs[1]? := by kernel_rfl
theorem fa171_2 (b o : Nat) : nfieldAddr Tryz.prog 171 (.ptr (some (b, o))) 2 = some (.ptr (some (b, o + 2))) := by kernel_rfl
theorem fi171_2 (cs : List NVal) : nfield Tryz.prog 171 (.agg cs) 2 = cs[2]? := by kernel_rfl
theorem sz172 : szOf Tryz.prog 172 = some 1 := by kernel_rfl
theorem ag172 : aggT Tryz.prog 172 = some false := by kernel_rfl
theorem by172 : bytesOf Tryz.prog 172 = some 24 := by kernel_rfl
theorem ze172 : zeroOf Tryz.prog 172 = some (.slice none 0 0 none) := by kernel_rfl
theorem sz174 : szOf Tryz.prog 174 = some 2 := by kernel_rfl
theorem ag174 : aggT Tryz.prog 174 = some true := by kernel_rfl
theorem by174 : bytesOf Tryz.prog 174 = some 32 := by kernel_rfl
theorem ze174 : zeroOf Tryz.prog 174 = some (.agg [(.int .i64 0), (.slice none 0 0 none)]) := by kernel_rfl
theorem fa174_0 (b o : Nat) : nfieldAddr Tryz.prog 174 (.ptr (some (b, o))) 0 = some (.ptr (some (b, o))) := by kernel_rfl
theorem fi174_0 (cs : List NVal) : nfield Tryz.prog 174 (.agg cs) 0 = cs[0]? := by kernel_rfl
theorem fa174_1 (b o : Nat) : nfieldAddr Tryz.prog 174 (.ptr (some (b, o))) 1 = some (.ptr (some (b, o + 1))) := by kernel_rfl
theorem fi174_1 (cs : List NVal) : nfield Tryz.prog 174 (.agg cs) 1 = cs[1]? := by kernel_rfl
theorem sz178 : szOf Tryz.prog 178 = some 1 := by kernel_rfl
theorem ag178 : aggT Tryz.prog 178 = some false := by kernel_rfl
theorem by178 : bytesOf Tryz.prog 178 = some 8 := by kernel_rfl
theorem ze178 : zeroOf Tryz.prog 178 = some (.ptr none) := by kernel_rfl
theorem sz190 : szOf Tryz.prog 190 = some 2 := by kernel_rfl
theorem ag190 : aggT Tryz.prog 190 = some true := by kernel_rfl
theorem by190 : bytesOf Tryz.prog 190 = some 24 := by kernel_rfl
theorem ze190 : zeroOf Tryz.prog 190 = some (.agg [(.str []), (.int .i64 0)]) := by kernel_rfl
theorem fa190_0 (b o : Nat) : nfieldAddr Tryz.prog 190 (.ptr (some (b, o))) 0 = some (.ptr (some (b, o))) := by kernel_rfl
theorem fi190_0 (cs : List NVal) : nfield Tryz.prog 190 (.agg cs) 0 = cs[0]? := by kernel_rfl
theorem fa190_1 (b o : Nat) : nfieldAddr Tryz.prog 190 (.ptr (some (b, o))) 1 = some (.ptr (some (b, o + 1))) := by kernel_rfl
theorem fi190_1 (cs : List NVal) : nfield Tryz.prog 190 (.agg cs) 1 = cs[1]? := by kernel_rfl
theorem sz201 : szOf Tryz.prog 201 = some 10 := by kernel_rfl
theorem ag201 : aggT Tryz.prog 201 = some true := by kernel_rfl
theorem by201 : bytesOf Tryz.prog 201 = some 112 := by kernel_rfl
theorem ze201 : zeroOf Tryz.prog 201 = some (.agg [(.int .i64 0), (.int .i64 0), (.int .i64 0), (.str []), (.str []), (.int .i64 0), (.int .i64 0), (.bool false), (.int .i64 0), (.slice none 0 0 none)]) := by kernel_rfl
theorem fa201_0 (b o : Nat) : nfieldAddr Tryz.prog 201 (.ptr (some (b, o))) 0 = some (.ptr (some (b, o))) := by kernel_rfl
theorem fi201_0 (cs : List NVal) : nfield Tryz.prog 201 (.agg cs) 0 = cs[0]? := by kernel_rfl
theorem fa201_1 (b o : Nat) : nfieldAddr Tryz.prog 201 (.ptr (some (b, o))) 1 = some (.ptr (some (b, o + 1))) := by kernel_rfl
theorem fi201_1 (cs : List NVal) : nfield Tryz.prog 201 (.agg cs) 1 = cs[1]? := by kernel_rfl
theorem fa201_2 (b o : Nat) : nfieldAddr Tryz.prog 201 (.ptr (some (b, o))) 2 = some (.ptr (some (b, o + 2))) := by kernel_rfl
theorem fi201_2 (cs : List NVal) : nfield Tryz.prog 201 (.agg cs) 2 = some (.agg ((cs.drop 2).take 4)) := by kernel_rfl
theorem fa201_3 (b o : Nat) : nfieldAddr Tryz.prog 201 (.ptr (some (b, o))) 3 = some (.ptr (some (b, o + 6))) := by kernel_rfl
theorem fi201_3 (cs : List NVal) : nfield Tryz.prog 201 (.agg cs) 3 = some (.agg ((cs.drop 6).take 4)) := by kernel_rfl
theorem sz202 : szOf Tryz.prog 202 = some 1 := by kernel_rfl
theorem ag202 : aggT Tryz.prog 202 = some false := by kernel_rfl
theorem by202 : bytesOf Tryz.prog 202 = some 8 := by kernel_rfl
theorem ze202 : zeroOf Tryz.prog 202 = some .nilFunc := by kernel_rfl
theorem sz204 : szOf Tryz.prog 204 = some 17 := by kernel_rfl
theorem ag204 : aggT Tryz.prog 204 = some true := by kernel_rfl
theorem by204 : bytesOf Tryz.prog 204 = some 176 := by kernel_rfl
theorem ze204 : zeroOf Tryz.prog 204 = some (.agg [(.str []), (.str []), (.int .i64 0), (.int .i64 0), (.int .i64 0), (.int .i64 0), (.int .i64 0), (.int .u64 0), (.slice none 0 0 none), .nilFunc, (.int .i64 0), (.bool false), (.bool false), (.int .i64 0), (.bool false), (.int .i64 0), (.slice none 0 0 none)]) := by kernel_rfl
theorem fa204_0 (b o : Nat) : nfieldAddr Tryz.prog 204 (.ptr (some (b, o))) 0 = some (.ptr (some (b, o))) := by kernel_rfl
theorem fi204_0 (cs : List NVal) : nfield Tryz.prog 204 (.agg cs) 0 = cs[0]? := by kernel_rfl
theorem fa204_1 (b o : Nat) : nfieldAddr Tryz.prog 204 (.ptr (some (b, o))) 1 = some (.ptr (some (b, o + 1))) := by kernel_rfl
theorem fi204_1 (cs : List NVal) : nfield Tryz.prog 204 (.agg cs) 1 = cs[1]? := by kernel_rfl
theorem fa204_2 (b o : Nat) : nfieldAddr Tryz.prog 204 (.ptr (some (b, o))) 2 = some (.ptr (some (b, o + 2))) := by kernel_rfl
theorem fi204_2 (cs : List NVal) : nfield Tryz.prog 204 (.agg cs) 2 = cs[2]? := by kernel_rfl
theorem fa204_3 (b o : Nat) : nfieldAddr Tryz.prog 204 (.ptr (some (b, o))) 3 = some (.ptr (some (b, o + 3))) := by kernel_rfl
theorem fi204_3 (cs : List NVal) : nfield Tryz.prog 204 (.agg cs) 3 = some (.agg ((cs.drop 3).take 6)) := by kernel_rfl
theorem fa204_4 (b o : Nat) : nfieldAddr Tryz.prog 204 (.ptr (some (b, o))) 4 = some (.ptr (some (b, o + 9))) := by kernel_rfl
theorem fi204_4 (cs : List NVal) : nfield Tryz.prog 204 (.agg cs) 4 = cs[9]? := by kernel_rfl
theorem fa204_5 (b o : Nat) : nfieldAddr Tryz.prog 204 (.ptr (some (b, o))) 5 = some (.ptr (some (b, o + 10))) := by kernel_rfl
theorem fi204_5 (cs : List NVal) : nfield Tryz.prog 204 (.agg cs) 5 = cs[10]? := by kernel_rfl
theorem fa204_6 (b o : Nat) : nfieldAddr Tryz.prog 204 (.ptr (some (b, o))) 6 = some (.ptr (some (b, o + 11))) := by kernel_rfl
theorem fi204_6 (cs : List NVal) : nfield Tryz.prog 204 (.agg cs) 6 = cs[11]? := by kernel_rfl
theorem fa204_7 (b o : Nat) : nfieldAddr Tryz.prog 204 (.ptr (some (b, o))) 7 = some (.ptr (some (b, o + 12))) := by kernel_rfl
theorem fi204_7 (cs : List NVal) : nfield Tryz.prog 204 (.agg cs) 7 = cs[12]? := by kernel_rfl
theorem fa204_8 (b o : Nat) : nfieldAddr Tryz.prog 204 (.ptr (some (b, o))) 8 = some (.ptr (some (b, o + 13))) := by kernel_rfl
theorem fi204_8 (cs : List NVal) : nfield Tryz.prog 204 (.agg cs) 8 = some (.agg ((cs.drop 13).take 4)) := by kernel_rfl
theorem sz206 : szOf Tryz.prog 206 = some 1 := by kernel_rfl
theorem ag206 : aggT Tryz.prog 206 = some false := by kernel_rfl
theorem by206 : bytesOf Tryz.prog 206 = some 8 := by kernel_rfl
theorem ze206 : zeroOf Tryz.prog 206 = some .nilFunc := by kernel_rfl
theorem sz207 : szOf Tryz.prog 207 = some 1 := by kernel_rfl
theorem ag207 : aggT Tryz.prog 207 = some false := by kernel_rfl
theorem by207 : bytesOf Tryz.prog 207 = some 24 := by kernel_rfl
theorem ze207 : zeroOf Tryz.prog 207 = some (.slice none 0 0 none) := by kernel_rfl
theorem sz209 : szOf Tryz.prog 209 = some 18 := by kernel_rfl
theorem ag209 : aggT Tryz.prog 209 = some true := by kernel_rfl
theorem by209 : bytesOf Tryz.prog 209 = some 216 := by kernel_rfl
theorem ze209 : zeroOf Tryz.prog 209 = some (.agg ([(.str []), (.str []), (.int .i64 0), (.int .i64 0), (.int .i64 0), (.int .i64 0), (.int .i64 0), (.int .i64 0), (.int .u64 0), (.slice none 0 0 none), .nilFunc, (.str []), (.slice none 0 0 none), (.bool false), (.int .i64 0), (.bool false), (.int .i64 0), (.slice none 0 0 none)])) := by kernel_rfl
theorem fa209_0 (b o : Nat) : nfieldAddr Tryz.prog 209 (.ptr (some (b, o))) 0 = some (.ptr (some (b, o))) := by kernel_rfl
theorem fi209_0 (cs : List NVal) : nfield Tryz.prog 209 (.agg cs) 0 = cs[0]? := by kernel_rfl
theorem fa209_1 (b o : Nat) : nfieldAddr Tryz.prog 209 (.ptr (some (b, o))) 1 = some (.ptr (some (b, o + 1))) := by kernel_rfl
theorem fi209_1 (cs : List NVal) : nfield Tryz.prog 209 (.agg cs) 1 = cs[1]? := by kernel_rfl
theorem fa209_2 (b o : Nat) : nfieldAddr Tryz.prog 209 (.ptr (some (b, o))) 2 = some (.ptr (some (b, o + 2))) := by kernel_rfl
theorem fi209_2 (cs : List NVal) : nfield Tryz.prog 209 (.agg cs) 2 = cs[2]? := by kernel_rfl
theorem fa209_3 (b o : Nat) : nfieldAddr Tryz.prog 209 (.ptr (some (b, o))) 3 = some (.ptr (some (b, o + 3))) := by kernel_rfl
theorem fi209_3 (cs : List NVal) : nfield Tryz.prog 209 (.agg cs) 3 = cs[3]? := by kernel_rfl
theorem fa209_4 (b o : Nat) : nfieldAddr Tryz.prog 209 (.ptr (some (b, o))) 4 = some (.ptr (some (b, o + 4))) := by kernel_rfl
theorem fi209_4 (cs : List NVal) : nfield Tryz.prog 209 (.agg cs) 4 = some (.agg ((cs.drop 4).take 6)) := by kernel_rfl
theorem fa209_5 (b o : Nat) : nfieldAddr Tryz.prog 209 (.ptr (some (b, o))) 5 = some (.ptr (some (b, o + 10))) := by kernel_rfl
theorem fi209_5 (cs : List NVal) : nfield Tryz.prog 209 (.agg cs) 5 = cs[10]? := by kernel_rfl
theorem fa209_6 (b o : Nat) : nfieldAddr Tryz.prog 209 (.ptr (some (b, o))) 6 = some (.ptr (some (b, o + 11))) := by kernel_rfl
theorem fi209_6 (cs : List NVal) : nfield Tryz.prog 209 (.agg cs) 6 = cs[11]? := by kernel_rfl
theorem fa209_7 (b o : Nat) : nfieldAddr Tryz.prog 209 (.ptr (some (b, o))) 7 = some (.ptr (some (b, o + 12))) := by kernel_rfl
theorem fi209_7 (cs : List NVal) : nfield Tryz.prog 209 (.agg cs) 7 = cs[12]? := by kernel_rfl
theorem fa209_8 (b o : Nat) : nfieldAddr Tryz.prog 209 (.ptr (some (b, o))) 8 = some (.ptr (some (b, o + 13))) := by kernel_rfl
theorem fi209_8 (cs : List NVal) : nfield Tryz.prog 209 (.agg cs) 8 = cs[13]? := by kernel_rfl
theorem fa209_9 (b o : Nat) : nfieldAddr Tryz.prog 209 (.ptr (some (b, o))) 9 = some (.ptr (some (b, o + 14))) := by kernel_rfl
theorem fi209_9 (cs : List NVal) : nfield Tryz.prog 209 (.agg cs) 9 = some (.agg ((cs.drop 14).take 4)) := by kernel_rfl
theorem sz212 : szOf Tryz.prog 212 = some 1 := by kernel_rfl
theorem ag212 : aggT Tryz.prog 212 = some false := by kernel_rfl
theorem by212 : bytesOf Tryz.prog 212 = some 8 := by kernel_rfl
theorem ze212 : zeroOf Tryz.prog 212 = some .nilFunc := by kernel_rfl
theorem sz213 : szOf Tryz.prog 213 = some 1 := by kernel_rfl
theorem ag213 : aggT Tryz.prog 213 = some false := by kernel_rfl
theorem by213 : bytesOf Tryz.prog 213 = some 8 := by kernel_rfl
theorem ze213 : zeroOf Tryz.prog 213 = some .nilFunc := by kernel_rfl
theorem sz215 : szOf Tryz.prog 215 = some 7 := by kernel_rfl
theorem ag215 : aggT Tryz.prog 215 = some true := by kernel_rfl
theorem by215 : bytesOf Tryz.prog 215 = some 96 := by kernel_rfl
theorem ze215 : zeroOf Tryz.prog 215 = some (.agg [(.int .i64 0), (.int .i64 0), (.int .u64 0), (.str []), (.slice none 0 0 none), (.slice none 0 0 none), (.int .u8 0)]) := by kernel_rfl
theorem fa215_0 (b o : Nat) : nfieldAddr Tryz.prog 215 (.ptr (some (b, o))) 0 = some (.ptr (some (b, o))) := by kernel_rfl
theorem fi215_0 (cs : List NVal) : nfield Tryz.prog 215 (.agg cs) 0 = cs[0]? := by kernel_rfl
theorem fa215_1 (b o : Nat) : nfieldAddr Tryz.prog 215 (.ptr (some (b, o))) 1 = some (.ptr (some (b, o + 1))) := by kernel_rfl
theorem fi215_1 (cs : List NVal) : nfield Tryz.prog 215 (.agg cs) 1 = some (.agg ((cs.drop 1).take 5)) := by kernel_rfl
theorem fa215_2 (b o : Nat) : nfieldAddr Tryz.prog 215 (.ptr (some (b, o))) 2 = some (.ptr (some (b, o + 6))) := by kernel_rfl
theorem fi215_2 (cs : List NVal) : nfield Tryz.prog 215 (.agg cs) 2 = cs[6]? := by kernel_rfl
theorem sz216 : szOf Tryz.prog 216 = some 1 := by kernel_rfl
theorem ag216 : aggT Tryz.prog 216 = some false := by kernel_rfl
theorem by216 : bytesOf Tryz.prog 216 = some 24 := by kernel_rfl
theorem ze216 : zeroOf Tryz.prog 216 = some (.slice none 0 0 none) := by kernel_rfl
theorem sz218 : szOf Tryz.prog 218 = some 38 := by kernel_rfl
theorem ag218 : aggT Tryz.prog 218 = some true := by kernel_rfl
theorem by218 : bytesOf Tryz.prog 218 = some 472 := by kernel_rfl
theorem ze218 : zeroOf Tryz.prog 218 = some (.agg [(.str []), (.str []), (.int .i64 0), (.int .i64 0), (.int .i64 0), (.int .i64 0), (.bool false), (.int .i64 0), (.int .i64 0), (.int .i64 0), (.int .i64 0), (.int .u64 0), (.slice none 0 0 none), .nilFunc, .nilFunc, (.int .i64 0), (.int .i64 0), (.int .u64 0), (.str []), (.slice none 0 0 none), (.slice none 0 0 none), (.int .u8 0), (.int .i64 0), (.int .i64 0), (.int .u64 0), (.str []), (.slice none 0 0 none), (.slice none 0 0 none), (.int .u8 0), (.slice none 0 0 none), (.slice none 0 0 none), (.slice none 0 0 none), (.bool false), (.bool false), (.int .i64 0), (.bool false), (.int .i64 0), (.slice none 0 0 none)]) := by kernel_rfl
theorem fa218_0 (b o : Nat) : nfieldAddr Tryz.prog 218 (.ptr (some (b, o))) 0 = some (.ptr (some (b, o))) := by kernel_rfl
theorem fi218_0 (cs : List NVal) : nfield Tryz.prog 218 (.agg cs) 0 = cs[0]? := by kernel_rfl
theorem fa218_1 (b o : Nat) : nfieldAddr Tryz.prog 218 (.ptr (some (b, o))) 1 = some (.ptr (some (b, o + 1))) := by kernel_rfl
theorem fi218_1 (cs : List NVal) : nfield Tryz.prog 218 (.agg cs) 1 = cs[1]? := by kernel_rfl
theorem fa218_2 (b o : Nat) : nfieldAddr Tryz.prog 218 (.ptr (some (b, o))) 2 = some (.ptr (some (b, o + 2))) := by kernel_rfl
theorem fi218_2 (cs : List NVal) : nfield Tryz.prog 218 (.agg cs) 2 = cs[2]? := by kernel_rfl
theorem fa218_3 (b o : Nat) : nfieldAddr Tryz.prog 218 (.ptr (some (b, o))) 3 = some (.ptr (some (b, o + 3))) := by kernel_rfl
theorem fi218_3 (cs : List NVal) : nfield Tryz.prog 218 (.agg cs) 3 = cs[3]? := by kernel_rfl
theorem fa218_4 (b o : Nat) : nfieldAddr Tryz.prog 218 (.ptr (some (b, o))) 4 = some (.ptr (some (b, o + 4))) := by kernel_rfl
theorem fi218_4 (cs : List NVal) : nfield Tryz.prog 218 (.agg cs) 4 = cs[4]? := by kernel_rfl
theorem fa218_5 (b o : Nat) : nfieldAddr Tryz.prog 218 (.ptr (some (b, o))) 5 = some (.ptr (some (b, o + 5))) := by kernel_rfl
theorem fi218_5 (cs : List NVal) : nfield Tryz.prog 218 (.agg cs) 5 = cs[5]? := by kernel_rfl
theorem fa218_6 (b o : Nat) : nfieldAddr Tryz.prog 218 (.ptr (some (b, o))) 6 = some (.ptr (some (b, o + 6))) := by kernel_rfl
theorem fi218_6 (cs : List NVal) : nfield Tryz.prog 218 (.agg cs) 6 = cs[6]? := by kernel_rfl
theorem fa218_7 (b o : Nat) : nfieldAddr Tryz.prog 218 (.ptr (some (b, o))) 7 = some (.ptr (some (b, o + 7))) := by kernel_rfl
theorem fi218_7 (cs : List NVal) : nfield Tryz.prog 218 (.agg cs) 7 = some (.agg ((cs.drop 7).take 6)) := by kernel_rfl
theorem fa218_8 (b o : Nat) : nfieldAddr Tryz.prog 218 (.ptr (some (b, o))) 8 = some (.ptr (some (b, o + 13))) := by kernel_rfl
theorem fi218_8 (cs : List NVal) : nfield Tryz.prog 218 (.agg cs) 8 = cs[13]? := by kernel_rfl
theorem fa218_9 (b o : Nat) : nfieldAddr Tryz.prog 218 (.ptr (some (b, o))) 9 = some (.ptr (some (b, o + 14))) := by kernel_rfl
theorem fi218_9 (cs : List NVal) : nfield Tryz.prog 218 (.agg cs) 9 = cs[14]? := by kernel_rfl
theorem fa218_10 (b o : Nat) : nfieldAddr Tryz.prog 218 (.ptr (some (b, o))) 10 = some (.ptr (some (b, o + 15))) := by kernel_rfl
theorem fi218_10 (cs : List NVal) : nfield Tryz.prog 218 (.agg cs) 10 = some (.agg ((cs.drop 15).take 7)) := by kernel_rfl
theorem fa218_11 (b o : Nat) : nfieldAddr Tryz.prog 218 (.ptr (some (b, o))) 11 = some (.ptr (some (b, o + 22))) := by kernel_rfl
theorem fi218_11 (cs : List NVal) : nfield Tryz.prog 218 (.agg cs) 11 = some (.agg ((cs.drop 22).take 7)) := by kernel_rfl
theorem fa218_12 (b o : Nat) : nfieldAddr Tryz.prog 218 (.ptr (some (b, o))) 12 = some (.ptr (some (b, o + 29))) := by kernel_rfl
theorem fi218_12 (cs : List NVal) : nfield Tryz.prog 218 (.agg cs) 12 = cs[29]? := by kernel_rfl
theorem fa218_13 (b o : Nat) : nfieldAddr Tryz.prog 218 (.ptr (some (b, o))) 13 = some (.ptr (some (b, o + 30))) := by kernel_rfl
theorem fi218_13 (cs : List NVal) : nfield Tryz.prog 218 (.agg cs) 13 = cs[30]? := by kernel_rfl
theorem fa218_14 (b o : Nat) : nfieldAddr Tryz.prog 218 (.ptr (some (b, o))) 14 = some (.ptr (some (b, o + 31))) := by kernel_rfl
theorem fi218_14 (cs : List NVal) : nfield Tryz.prog 218 (.agg cs) 14 = cs[31]? := by kernel_rfl
theorem fa218_15 (b o : Nat) : nfieldAddr Tryz.prog 218 (.ptr (some (b, o))) 15 = some (.ptr (some (b, o + 32))) := by kernel_rfl
theorem fi218_15 (cs : List NVal) : nfield Tryz.prog 218 (.agg cs) 15 = cs[32]? := by kernel_rfl
theorem fa218_16 (b o : Nat) : nfieldAddr Tryz.prog 218 (.ptr (some (b, o))) 16 = some (.ptr (some (b, o + 33))) := by kernel_rfl
theorem fi218_16 (cs : List NVal) : nfield Tryz.prog 218 (.agg cs) 16 = cs[33]? := by kernel_rfl
theorem fa218_17 (b o : Nat) : nfieldAddr Tryz.prog 218 (.ptr (some (b, o))) 17 = some (.ptr (some (b, o + 34))) := by kernel_rfl
theorem fi218_17 (cs : List NVal) : nfield Tryz.prog 218 (.agg cs) 17 = some (.agg ((cs.drop 34).take 4)) := by kernel_rfl
theorem sz221 : szOf Tryz.prog 221 = some 1 := by kernel_rfl
theorem ag221 : aggT Tryz.prog 221 = some false := by kernel_rfl
theorem by221 : bytesOf Tryz.prog 221 = some 8 := by kernel_rfl
theorem ze221 : zeroOf Tryz.prog 221 = some .nilFunc := by kernel_rfl
theorem sz222 : szOf Tryz.prog 222 = some 1 := by kernel_rfl
theorem ag222 : aggT Tryz.prog 222 = some false := by kernel_rfl
theorem by222 : bytesOf Tryz.prog 222 = some 8 := by kernel_rfl
theorem ze222 : zeroOf Tryz.prog 222 = some .nilFunc := by kernel_rfl
theorem sz224 : szOf Tryz.prog 224 = some 7 := by kernel_rfl
theorem ag224 : aggT Tryz.prog 224 = some true := by kernel_rfl
theorem by224 : bytesOf Tryz.prog 224 = some 96 := by kernel_rfl
theorem ze224 : zeroOf Tryz.prog 224 = some (.agg [(.int .i64 0), (.int .i64 0), (.int .u64 0), (.str []), (.slice none 0 0 none), (.slice none 0 0 none), (.int .u8 0)]) := by kernel_rfl
theorem fa224_0 (b o : Nat) : nfieldAddr Tryz.prog 224 (.ptr (some (b, o))) 0 = some (.ptr (some (b, o))) := by kernel_rfl
theorem fi224_0 (cs : List NVal) : nfield Tryz.prog 224 (.agg cs) 0 = cs[0]? := by kernel_rfl
theorem fa224_1 (b o : Nat) : nfieldAddr Tryz.prog 224 (.ptr (some (b, o))) 1 = some (.ptr (some (b, o + 1))) := by kernel_rfl
theorem fi224_1 (cs : List NVal) : nfield Tryz.prog 224 (.agg cs) 1 = some (.agg ((cs.drop 1).take 5)) := by kernel_rfl
theorem fa224_2 (b o : Nat) : nfieldAddr Tryz.prog 224 (.ptr (some (b, o))) 2 = some (.ptr (some (b, o + 6))) := by kernel_rfl
theorem fi224_2 (cs : List NVal) : nfield Tryz.prog 224 (.agg cs) 2 = cs[6]? := by kernel_rfl
theorem sz226 : szOf Tryz.prog 226 = some 45 := by kernel_rfl
theorem ag226 : aggT Tryz.prog 226 = some true := by kernel_rfl
theorem by226 : bytesOf Tryz.prog 226 = some 568 := by kernel_rfl
theorem ze226 : zeroOf Tryz.prog 226 = some (.agg [(.str []), (.str []), (.int .i64 0), (.int .i64 0), (.int .i64 0), (.bool false), (.int .i64 0), (.int .i64 0), (.int .i64 0), (.int .i64 0), (.int .u64 0), (.slice none 0 0 none), .nilFunc, .nilFunc, (.int .i64 0), (.int .i64 0), (.int .u64 0), (.str []), (.slice none 0 0 none), (.slice none 0 0 none), (.int .u8 0), (.int .i64 0), (.int .i64 0), (.int .u64 0), (.str []), (.slice none 0 0 none), (.slice none 0 0 none), (.int .u8 0), (.int .i64 0), (.int .i64 0), (.int .u64 0), (.str []), (.slice none 0 0 none), (.slice none 0 0 none), (.int .u8 0), (.int .i64 0), (.slice none 0 0 none), (.slice none 0 0 none), (.slice none 0 0 none), (.bool false), (.bool false), (.int .i64 0), (.bool false), (.int .i64 0), (.slice none 0 0 none)]) := by kernel_rfl
theorem fa226_0 (b o : Nat) : nfieldAddr Tryz.prog 226 (.ptr (some (b, o))) 0 = some (.ptr (some (b, o))) := by kernel_rfl
theorem fi226_0 (cs : List NVal) : nfield Tryz.prog 226 (.agg cs) 0 = cs[0]? := by kernel_rfl
theorem fa226_1 (b o : Nat) : nfieldAddr Tryz.prog 226 (.ptr (some (b, o))) 1 = some (.ptr (some (b, o + 1))) := by kernel_rfl
theorem fi226_1 (cs : List NVal) : nfield Tryz.prog 226 (.agg cs) 1 = cs[1]? := by kernel_rfl
theorem fa226_2 (b o : Nat) : nfieldAddr Tryz.prog 226 (.ptr (some (b, o))) 2 = some (.ptr (some (b, o + 2))) := by kernel_rfl
theorem fi226_2 (cs : List NVal) : nfield Tryz.prog 226 (.agg cs) 2 = cs[2]? := by kernel_rfl
theorem fa226_3 (b o : Nat) : nfieldAddr Tryz.prog 226 (.ptr (some (b, o))) 3 = some (.ptr (some (b, o + 3))) := by kernel_rfl
theorem fi226_3 (cs : List NVal) : nfield Tryz.prog 226 (.agg cs) 3 = cs[3]? := by kernel_rfl
theorem fa226_4 (b o : Nat) : nfieldAddr Tryz.prog 226 (.ptr (some (b, o))) 4 = some (.ptr (some (b, o + 4))) := by kernel_rfl
theorem fi226_4 (cs : List NVal) : nfield Tryz.prog 226 (.agg cs) 4 = cs[4]? := by kernel_rfl
theorem fa226_5 (b o : Nat) : nfieldAddr Tryz.prog 226 (.ptr (some (b, o))) 5 = some (.ptr (some (b, o + 5))) := by kernel_rfl
theorem fi226_5 (cs : List NVal) : nfield Tryz.prog 226 (.agg cs) 5 = cs[5]? := by kernel_rfl
theorem fa226_6 (b o : Nat) : nfieldAddr Tryz.prog 226 (.ptr (some (b, o))) 6 = some (.ptr (some (b, o + 6))) := by kernel_rfl
theorem fi226_6 (cs : List NVal) : nfield Tryz.prog 226 (.agg cs) 6 = some (.agg ((cs.drop 6).take 6)) := by kernel_rfl
theorem fa226_7 (b o : Nat) : nfieldAddr Tryz.prog 226 (.ptr (some (b, o))) 7 = some (.ptr (some (b, o + 12))) := by kernel_rfl
theorem fi226_7 (cs : List NVal) : nfield Tryz.prog 226 (.agg cs) 7 = cs[12]? := by kernel_rfl
theorem fa226_8 (b o : Nat) : nfieldAddr Tryz.prog 226 (.ptr (some (b, o))) 8 = some (.ptr (some (b, o + 13))) := by kernel_rfl
theorem fi226_8 (cs : List NVal) : nfield Tryz.prog 226 (.agg cs) 8 = cs[13]? := by kernel_rfl
theorem fa226_9 (b o : Nat) : nfieldAddr Tryz.prog 226 (.ptr (some (b, o))) 9 = some (.ptr (some (b, o + 14))) := by kernel_rfl
theorem fi226_9 (cs : List NVal) : nfield Tryz.prog 226 (.agg cs) 9 = some (.agg ((cs.drop 14).take 7)) := by kernel_rfl
theorem fa226_10 (b o : Nat) : nfieldAddr Tryz.prog 226 (.ptr (some (b, o))) 10 = some (.ptr (some (b, o + 21))) := by kernel_rfl
theorem fi226_10 (cs : List NVal) : nfield Tryz.prog 226 (.agg cs) 10 = some (.agg ((cs.drop 21).take 7)) := by kernel_rfl
theorem fa226_11 (b o : Nat) : nfieldAddr Tryz.prog 226 (.ptr (some (b, o))) 11 = some (.ptr (some (b, o + 28))) := by kernel_rfl
theorem fi226_11 (cs : List NVal) : nfield Tryz.prog 226 (.agg cs) 11 = some (.agg ((cs.drop 28).take 7)) := by kernel_rfl
theorem fa226_12 (b o : Nat) : nfieldAddr Tryz.prog 226 (.ptr (some (b, o))) 12 = some (.ptr (some (b, o + 35))) := by kernel_rfl
theorem fi226_12 (cs : List NVal) : nfield Tryz.prog 226 (.agg cs) 12 = cs[35]? := by kernel_rfl
theorem fa226_13 (b o : Nat) : nfieldAddr Tryz.prog 226 (.ptr (some (b, o))) 13 = some (.ptr (some (b, o + 36))) := by kernel_rfl
theorem fi226_13 (cs : List NVal) : nfield Tryz.prog 226 (.agg cs) 13 = cs[36]? := by kernel_rfl
theorem fa226_14 (b o : Nat) : nfieldAddr Tryz.prog 226 (.ptr (some (b, o))) 14 = some (.ptr (some (b, o + 37))) := by kernel_rfl
theorem fi226_14 (cs : List NVal) : nfield Tryz.prog 226 (.agg cs) 14 = cs[37]? := by kernel_rfl
theorem fa226_15 (b o : Nat) : nfieldAddr Tryz.prog 226 (.ptr (some (b, o))) 15 = some (.ptr (some (b, o + 38))) := by kernel_rfl
theorem fi226_15 (cs : List NVal) : nfield Tryz.prog 226 (.agg cs) 15 = cs[38]? := by kernel_rfl
theorem fa226_16 (b o : Nat) : nfieldAddr Tryz.prog 226 (.ptr (some (b, o))) 16 = some (.ptr (some (b, o + 39))) := by kernel_rfl
theorem fi226_16 (cs : List NVal) : nfield Tryz.prog 226 (.agg cs) 16 = cs[39]? := by kernel_rfl
theorem fa226_17 (b o : Nat) : nfieldAddr Tryz.prog 226 (.ptr (some (b, o))) 17 = some (.ptr (some (b, o + 40))) := by kernel_rfl
theorem fi226_17 (cs : List NVal) : nfield Tryz.prog 226 (.agg cs) 17 = cs[40]? := by kernel_rfl
theorem fa226_18 (b o : Nat) : nfieldAddr Tryz.prog 226 (.ptr (some (b, o))) 18 = some (.ptr (some (b, o + 41))) := by kernel_rfl
theorem fi226_18 (cs : List NVal) : nfield Tryz.prog 226 (.agg cs) 18 = some (.agg ((cs.drop 41).take 4)) := by kernel_rfl
theorem sz228 : szOf Tryz.prog 228 = some 1 := by kernel_rfl
theorem ag228 : aggT Tryz.prog 228 = some false := by kernel_rfl
theorem by228 : bytesOf Tryz.prog 228 = some 8 := by kernel_rfl
theorem ze228 : zeroOf Tryz.prog 228 = some .nilFunc := by kernel_rfl
theorem sz230 : szOf Tryz.prog 230 = some 10 := by kernel_rfl
theorem ag230 : aggT Tryz.prog 230 = some true := by kernel_rfl
theorem by230 : bytesOf Tryz.prog 230 = some 96 := by kernel_rfl
theorem ze230 : zeroOf Tryz.prog 230 = some (.agg [(.int .i64 0), (.int .i64 0), (.int .i64 0), (.int .i64 0), (.int .i64 0), (.int .u64 0), (.slice none 0 0 none), .nilFunc, (.int .i64 0), (.bool false)]) := by kernel_rfl
theorem fa230_0 (b o : Nat) : nfieldAddr Tryz.prog 230 (.ptr (some (b, o))) 0 = some (.ptr (some (b, o))) := by kernel_rfl
theorem fi230_0 (cs : List NVal) : nfield Tryz.prog 230 (.agg cs) 0 = cs[0]? := by kernel_rfl
theorem fa230_1 (b o : Nat) : nfieldAddr Tryz.prog 230 (.ptr (some (b, o))) 1 = some (.ptr (some (b, o + 1))) := by kernel_rfl
theorem fi230_1 (cs : List NVal) : nfield Tryz.prog 230 (.agg cs) 1 = some (.agg ((cs.drop 1).take 6)) := by kernel_rfl
theorem fa230_2 (b o : Nat) : nfieldAddr Tryz.prog 230 (.ptr (some (b, o))) 2 = some (.ptr (some (b, o + 7))) := by kernel_rfl
theorem fi230_2 (cs : List NVal) : nfield Tryz.prog 230 (.agg cs) 2 = cs[7]? := by kernel_rfl
theorem fa230_3 (b o : Nat) : nfieldAddr Tryz.prog 230 (.ptr (some (b, o))) 3 = some (.ptr (some (b, o + 8))) := by kernel_rfl
theorem fi230_3 (cs : List NVal) : nfield Tryz.prog 230 (.agg cs) 3 = cs[8]? := by kernel_rfl
theorem fa230_4 (b o : Nat) : nfieldAddr Tryz.prog 230 (.ptr (some (b, o))) 4 = some (.ptr (some (b, o + 9))) := by kernel_rfl
theorem fi230_4 (cs : List NVal) : nfield Tryz.prog 230 (.agg cs) 4 = cs[9]? := by kernel_rfl
theorem sz234 : szOf Tryz.prog 234 = some 1 := by kernel_rfl
theorem ag234 : aggT Tryz.prog 234 = some false := by kernel_rfl
theorem by234 : bytesOf Tryz.prog 234 = some 8 := by kernel_rfl
theorem ze234 : zeroOf Tryz.prog 234 = some .nilFunc := by kernel_rfl
theorem sz236 : szOf Tryz.prog 236 = some 1 := by kernel_rfl
theorem ag236 : aggT Tryz.prog 236 = some false := by kernel_rfl
theorem by236 : bytesOf Tryz.prog 236 = some 8 := by kernel_rfl
theorem ze236 : zeroOf Tryz.prog 236 = some (.ptr none) := by kernel_rfl
theorem sz238 : szOf Tryz.prog 238 = some 1 := by kernel_rfl
theorem ag238 : aggT Tryz.prog 238 = some false := by kernel_rfl
theorem by238 : bytesOf Tryz.prog 238 = some 8 := by kernel_rfl
theorem ze238 : zeroOf Tryz.prog 238 = some (.map none) := by kernel_rfl
theorem sz239 : szOf Tryz.prog 239 = some 1 := by kernel_rfl
theorem ag239 : aggT Tryz.prog 239 = some false := by kernel_rfl
theorem by239 : bytesOf Tryz.prog 239 = some 24 := by kernel_rfl
theorem ze239 : zeroOf Tryz.prog 239 = some (.slice none 0 0 none) := by kernel_rfl
theorem sz241 : szOf Tryz.prog 241 = some 3 := by kernel_rfl
theorem ag241 : aggT Tryz.prog 241 = some true := by kernel_rfl
theorem by241 : bytesOf Tryz.prog 241 = some 40 := by kernel_rfl
theorem ze241 : zeroOf Tryz.prog 241 = some (.agg [(.int .i64 0), (.slice none 0 0 none), (.map none)]) := by kernel_rfl
theorem fa241_0 (b o : Nat) : nfieldAddr Tryz.prog 241 (.ptr (some (b, o))) 0 = some (.ptr (some (b, o))) := by kernel_rfl
theorem fi241_0 (cs : List NVal) : nfield Tryz.prog 241 (.agg cs) 0 = cs[0]? := by kernel_rfl
theorem fa241_1 (b o : Nat) : nfieldAddr Tryz.prog 241 (.ptr (some (b, o))) 1 = some (.ptr (some (b, o + 1))) := by kernel_rfl
theorem fi241_1 (cs : List NVal) : nfield Tryz.prog 241 (.agg cs) 1 = cs[1]? := by kernel_rfl
theorem fa241_2 (b o : Nat) : nfieldAddr Tryz.prog 241 (.ptr (some (b, o))) 2 = some (.ptr (some (b, o + 2))) := by kernel_rfl
theorem fi241_2 (cs : List NVal) : nfield Tryz.prog 241 (.agg cs) 2 = cs[2]? := by kernel_rfl
theorem sz242 : szOf Tryz.prog 242 = some 0 := by kernel_rfl
theorem ag242 : aggT Tryz.prog 242 = some true := by kernel_rfl
theorem by242 : bytesOf Tryz.prog 242 = some 0 := by kernel_rfl
theorem ze242 : zeroOf Tryz.prog 242 = some (.agg []) := by kernel_rfl
theorem sz244 : szOf Tryz.prog 244 = some 1 := by kernel_rfl
theorem ag244 : aggT Tryz.prog 244 = some false := by kernel_rfl
theorem by244 : bytesOf Tryz.prog 244 = some 8 := by kernel_rfl
theorem ze244 : zeroOf Tryz.prog 244 = some (.ptr none) := by kernel_rfl
theorem sz253 : szOf Tryz.prog 253 = some 1 := by kernel_rfl
theorem ag253 : aggT Tryz.prog 253 = some false := by kernel_rfl
theorem by253 : bytesOf Tryz.prog 253 = some 8 := by kernel_rfl
theorem ze253 : zeroOf Tryz.prog 253 = some (.ptr none) := by kernel_rfl
theorem sz256 : szOf Tryz.prog 256 = some 2 := by kernel_rfl
theorem ag256 : aggT Tryz.prog 256 = some true := by kernel_rfl
theorem by256 : bytesOf Tryz.prog 256 = some 16 := by kernel_rfl
theorem ze256 : zeroOf Tryz.prog 256 = some (.agg [(.int .i64 0), (.int .i64 0)]) := by kernel_rfl
theorem fa256_0 (b o : Nat) : nfieldAddr Tryz.prog 256 (.ptr (some (b, o))) 0 = some (.ptr (some (b, o))) := by kernel_rfl
theorem fi256_0 (cs : List NVal) : nfield Tryz.prog 256 (.agg cs) 0 = cs[0]? := by kernel_rfl
theorem fa256_1 (b o : Nat) : nfieldAddr Tryz.prog 256 (.ptr (some (b, o))) 1 = some (.ptr (some (b, o + 1))) := by kernel_rfl
theorem fi256_1 (cs : List NVal) : nfield Tryz.prog 256 (.agg cs) 1 = cs[1]? := by kernel_rfl
theorem sz265 : szOf Tryz.prog 265 = some 24 := by kernel_rfl
theorem ag265 : aggT Tryz.prog 265 = some true := by kernel_rfl
theorem by265 : bytesOf Tryz.prog 265 = some 24 := by kernel_rfl
theorem ze265 : zeroOf Tryz.prog 265 = some (.agg ([(.int .u8 0), (.int .u8 0), (.int .u8 0), (.int .u8 0), (.int .u8 0), (.int .u8 0), (.int .u8 0), (.int .u8 0), (.int .u8 0), (.int .u8 0), (.int .u8 0), (.int .u8 0), (.int .u8 0), (.int .u8 0), (.int .u8 0), (.int .u8 0), (.int .u8 0), (.int .u8 0), (.int .u8 0), (.int .u8 0), (.int .u8 0), (.int .u8 0), (.int .u8 0), (.int .u8 0)])) := by kernel_rfl
theorem sz273 : szOf Tryz.prog 273 = some 1 := by kernel_rfl
theorem ag273 : aggT Tryz.prog 273 = some false := by kernel_rfl
theorem by273 : bytesOf Tryz.prog 273 = some 16 := by kernel_rfl
theorem ze273 : zeroOf Tryz.prog 273 = some .nilIface := by kernel_rfl
theorem sz286 : szOf Tryz.prog 286 = some 20 := by kernel_rfl
theorem ag286 : aggT Tryz.prog 286 = some true := by kernel_rfl
theorem by286 : bytesOf Tryz.prog 286 = some 160 := by kernel_rfl
theorem ze286 : zeroOf Tryz.prog 286 = some (.agg ([(.int .u64 0), (.int .u64 0), (.int .u64 0), (.int .u64 0), (.int .u64 0), (.int .u64 0), (.int .u64 0), (.int .u64 0), (.int .u64 0), (.int .u64 0), (.int .u64 0), (.int .u64 0), (.int .u64 0), (.int .u64 0), (.int .u64 0), (.int .u64 0), (.int .u64 0), (.int .u64 0), (.int .u64 0), (.int .u64 0)])) := by kernel_rfl
theorem sz287 : szOf Tryz.prog 287 = some 1 := by kernel_rfl
theorem ag287 : aggT Tryz.prog 287 = some false := by kernel_rfl
theorem by287 : bytesOf Tryz.prog 287 = some 4 := by kernel_rfl
theorem ze287 : zeroOf Tryz.prog 287 = some (.int .u32 0) := by kernel_rfl
theorem sz288 : szOf Tryz.prog 288 = some 65 := by kernel_rfl
theorem ag288 : aggT Tryz.prog 288 = some true := by kernel_rfl
theorem by288 : bytesOf Tryz.prog 288 = some 65 := by kernel_rfl
theorem sz299 : szOf Tryz.prog 299 = some 7 := by kernel_rfl
theorem ag299 : aggT Tryz.prog 299 = some true := by kernel_rfl
theorem by299 : bytesOf Tryz.prog 299 = some 104 := by kernel_rfl
theorem ze299 : zeroOf Tryz.prog 299 = some (.agg [(.int .i64 0), (.int .u64 0), (.str []), (.slice none 0 0 none), (.slice none 0 0 none), (.str []), (.int .i64 0)]) := by kernel_rfl
theorem fa299_0 (b o : Nat) : nfieldAddr Tryz.prog 299 (.ptr (some (b, o))) 0 = some (.ptr (some (b, o))) := by kernel_rfl
theorem fi299_0 (cs : List NVal) : nfield Tryz.prog 299 (.agg cs) 0 = some (.agg ((cs.drop 0).take 5)) := by kernel_rfl
theorem fa299_1 (b o : Nat) : nfieldAddr Tryz.prog 299 (.ptr (some (b, o))) 1 = some (.ptr (some (b, o + 5))) := by kernel_rfl
theorem fi299_1 (cs : List NVal) : nfield Tryz.prog 299 (.agg cs) 1 = cs[5]? := by kernel_rfl
theorem fa299_2 (b o : Nat) : nfieldAddr Tryz.prog 299 (.ptr (some (b, o))) 2 = some (.ptr (some (b, o + 6))) := by kernel_rfl
theorem fi299_2 (cs : List NVal) : nfield Tryz.prog 299 (.agg cs) 2 = cs[6]? := by kernel_rfl
theorem sz300 : szOf Tryz.prog 300 = some 32 := by kernel_rfl
theorem ag300 : aggT Tryz.prog 300 = some true := by kernel_rfl
theorem by300 : bytesOf Tryz.prog 300 = some 32 := by kernel_rfl
theorem ze300 : zeroOf Tryz.prog 300 = some (.agg ([(.int .u8 0), (.int .u8 0), (.int .u8 0), (.int .u8 0), (.int .u8 0), (.int .u8 0), (.int .u8 0), (.int .u8 0), (.int .u8 0), (.int .u8 0), (.int .u8 0), (.int .u8 0), (.int .u8 0), (.int .u8 0), (.int .u8 0), (.int .u8 0), (.int .u8 0), (.int .u8 0), (.int .u8 0), (.int .u8 0), (.int .u8 0), (.int .u8 0), (.int .u8 0), (.int .u8 0), (.int .u8 0), (.int .u8 0), (.int .u8 0), (.int .u8 0), (.int .u8 0), (.int .u8 0), (.int .u8 0), (.int .u8 0)])) := by kernel_rfl
theorem sz301 : szOf Tryz.prog 301 = some 64 := by kernel_rfl
theorem ag301 : aggT Tryz.prog 301 = some true := by kernel_rfl
theorem by301 : bytesOf Tryz.prog 301 = some 64 := by kernel_rfl
theorem ze301 : zeroOf Tryz.prog 301 = some (.agg ([(.int .u8 0), (.int .u8 0), (.int .u8 0), (.int .u8 0), (.int .u8 0), (.int .u8 0), (.int .u8 0), (.int .u8 0), (.int .u8 0), (.int .u8 0), (.int .u8 0), (.int .u8 0), (.int .u8 0), (.int .u8 0), (.int .u8 0), (.int .u8 0), (.int .u8 0), (.int .u8 0), (.int .u8 0), (.int .u8 0), (.int .u8 0), (.int .u8 0), (.int .u8 0), (.int .u8 0), (.int .u8 0), (.int .u8 0), (.int .u8 0), (.int .u8 0), (.int .u8 0), (.int .u8 0), (.int .u8 0), (.int .u8 0), (.int .u8 0), (.int .u8 0), (.int .u8 0), (.int .u8 0), (.int .u8 0), (.int .u8 0), (.int .u8 0), (.int .u8 0), (.int .u8 0), (.int .u8 0), (.int .u8 0), (.int .u8 0), (.int .u8 0), (.int .u8 0), (.int .u8 0), (.int .u8 0), (.int .u8 0), (.int .u8 0), (.int .u8 0), (.int .u8 0), (.int .u8 0), (.int .u8 0), (.int .u8 0), (.int .u8 0), (.int .u8 0), (.int .u8 0), (.int .u8 0), (.int .u8 0), (.int .u8 0), (.int .u8 0), (.int .u8 0), (.int .u8 0)])) := by kernel_rfl
theorem sz312 : szOf Tryz.prog 312 = some 1 := by kernel_rfl
theorem ag312 : aggT Tryz.prog 312 = some false := by kernel_rfl
theorem by312 : bytesOf Tryz.prog 312 = some 8 := by kernel_rfl
theorem ze312 : zeroOf Tryz.prog 312 = some .nilFunc := by kernel_rfl
theorem sz314 : szOf Tryz.prog 314 = some 1 := by kernel_rfl
theorem ag314 : aggT Tryz.prog 314 = some false := by kernel_rfl
theorem by314 : bytesOf Tryz.prog 314 = some 8 := by kernel_rfl
theorem ze314 : zeroOf Tryz.prog 314 = some .nilFunc := by kernel_rfl
theorem sz338 : szOf Tryz.prog 338 = some 1 := by kernel_rfl
theorem ag338 : aggT Tryz.prog 338 = some false := by kernel_rfl
theorem by338 : bytesOf Tryz.prog 338 = some 24 := by kernel_rfl
theorem ze338 : zeroOf Tryz.prog 338 = some (.slice none 0 0 none) := by kernel_rfl
theorem sz340 : szOf Tryz.prog 340 = some 1 := by kernel_rfl
theorem ag340 : aggT Tryz.prog 340 = some false := by kernel_rfl
theorem by340 : bytesOf Tryz.prog 340 = some 24 := by kernel_rfl
theorem ze340 : zeroOf Tryz.prog 340 = some (.slice none 0 0 none) := by kernel_rfl
theorem be4 (a b : Bool) : nbin Tryz.prog .eql 4 (.bool a) (.bool b) = some (.bool (a == b)) := bool_eql Tryz.underlying4 a b
theorem bn4 (a b : Bool) : nbin Tryz.prog .neq 4 (.bool a) (.bool b) = some (.bool !(a == b)) := bool_neq Tryz.underlying4 a b
theorem bu24 (l : List (Nat × NVal)) : kBuild Tryz.prog 24 (some l) = (match nfill (fun i => ([(0, 5), (5, 1), (6, 1), (7, 1)] : List (Nat × Nat))[i]?) ([(.int .i64 0), (.int .i64 0), (.int .i64 0), (.int .i64 0), (.int .i64 0), (.int .i64 0), (.int .i64 0), (.int .i64 0)]) l with | none => none | some cs => some (.agg cs)) := kBuild_struct ze24 Tryz.underlying24 (by kernel_rfl) l
theorem ia25 (b o n c : Nat) (x k) (i : Int) (h0 : 0 ≤ i) (h1 : i < (n : Int)) : nindexAddr Tryz.prog 25 (.slice (some (b, o)) n c x) (.int k i) = some (.ptr (some (b, o + i.toNat * 1))) := indexAddr_slice Tryz.underlying25 sz43 b o n c x k i h0 h1
theorem se25 (a n c x) : nbin Tryz.prog .eql 25 (.slice a n c x) (.slice none 0 0 none) = some (.bool a.isNone) := slice_eql Tryz.underlying25 a n c x
theorem sn25 (a n c x) : nbin Tryz.prog .neq 25 (.slice a n c x) (.slice none 0 0 none) = some (.bool !a.isNone) := slice_neq Tryz.underlying25 a n c x
theorem pe27 (a) : nbin Tryz.prog .eql 27 (.ptr a) (.ptr none) = some (.bool a.isNone) := ptr_eql Tryz.underlying27 a
theorem pn27 (a) : nbin Tryz.prog .neq 27 (.ptr a) (.ptr none) = some (.bool !a.isNone) := ptr_neq Tryz.underlying27 a
theorem ia32 (b o n c : Nat) (x k) (i : Int) (h0 : 0 ≤ i) (h1 : i < (n : Int)) : nindexAddr Tryz.prog 32 (.slice (some (b, o)) n c x) (.int k i) = some (.ptr (some (b, o + i.toNat * 2))) := indexAddr_slice Tryz.underlying32 sz90 b o n c x k i h0 h1
theorem se32 (a n c x) : nbin Tryz.prog .eql 32 (.slice a n c x) (.slice none 0 0 none) = some (.bool a.isNone) := slice_eql Tryz.underlying32 a n c x
theorem sn32 (a n c x) : nbin Tryz.prog .neq 32 (.slice a n c x) (.slice none 0 0 none) = some (.bool !a.isNone) := slice_neq Tryz.underlying32 a n c x
theorem bu34 (l : List (Nat × NVal)) : kBuild Tryz.prog 34 (some l) = (match nfill (fun i => ([(0, 1), (1, 1), (2, 1), (3, 1)] : List (Nat × Nat))[i]?) [(.slice none 0 0 none), (.str []), (.int .i64 0), (.bool false)] l with | none => none | some cs => some (.agg cs)) := kBuild_struct ze34 Tryz.underlying34 (by kernel_rfl) l
theorem ia39 (b o n c : Nat) (x k) (i : Int) (h0 : 0 ≤ i) (h1 : i < (n : Int)) : nindexAddr Tryz.prog 39 (.slice (some (b, o)) n c x) (.int k i) = some (.ptr (some (b, o + i.toNat * 1))) := indexAddr_slice Tryz.underlying39 sz5 b o n c x k i h0 h1
theorem se39 (a n c x) : nbin Tryz.prog .eql 39 (.slice a n c x) (.slice none 0 0 none) = some (.bool a.isNone) := slice_eql Tryz.underlying39 a n c x
theorem sn39 (a n c x) : nbin Tryz.prog .neq 39 (.slice a n c x) (.slice none 0 0 none) = some (.bool !a.isNone) := slice_neq Tryz.underlying39 a n c x
theorem ia40 (b o n c : Nat) (x k) (i : Int) (h0 : 0 ≤ i) (h1 : i < (n : Int)) : nindexAddr Tryz.prog 40 (.slice (some (b, o)) n c x) (.int k i) = some (.ptr (some (b, o + i.toNat * 1))) := indexAddr_slice Tryz.underlying40 sz3 b o n c x k i h0 h1
theorem se40 (a n c x) : nbin Tryz.prog .eql 40 (.slice a n c x) (.slice none 0 0 none) = some (.bool a.isNone) := slice_eql Tryz.underlying40 a n c x
theorem sn40 (a n c x) : nbin Tryz.prog .neq 40 (.slice a n c x) (.slice none 0 0 none) = some (.bool !a.isNone) := slice_neq Tryz.underlying40 a n c x
theorem ia43 (b o n c : Nat) (x k) (i : Int) (h0 : 0 ≤ i) (h1 : i < (n : Int)) : nindexAddr Tryz.prog 43 (.slice (some (b, o)) n c x) (.int k i) = some (.ptr (some (b, o + i.toNat * 4))) := indexAddr_slice Tryz.underlying43 sz45 b o n c x k i h0 h1
theorem se43 (a n c x) : nbin Tryz.prog .eql 43 (.slice a n c x) (.slice none 0 0 none) = some (.bool a.isNone) := slice_eql Tryz.underlying43 a n c x
theorem sn43 (a n c x) : nbin Tryz.prog .neq 43 (.slice a n c x) (.slice none 0 0 none) = some (.bool !a.isNone) := slice_neq Tryz.underlying43 a n c x
theorem bu45 (l : List (Nat × NVal)) : kBuild Tryz.prog 45 (some l) = (match nfill (fun i => ([(0, 1), (1, 1), (2, 1), (3, 1)] : List (Nat × Nat))[i]?) [(.int .i64 0), (.str []), (.str []), (.int .i64 0)] l with | none => none | some cs => some (.agg cs)) := kBuild_struct ze45 Tryz.underlying45 (by kernel_rfl) l
theorem bu53 (l : List (Nat × NVal)) : kBuild Tryz.prog 53 (some l) = (match nfill (fun i => ([(0, 1), (1, 1), (2, 1), (3, 1)] : List (Nat × Nat))[i]?) [(.int .i64 0), (.bool false), (.int .i64 0), (.slice none 0 0 none)] l with | none => none | some cs => some (.agg cs)) := kBuild_struct ze53 Tryz.underlying53 (by kernel_rfl) l
theorem bu55 (l : List (Nat × NVal)) : kBuild Tryz.prog 55 (some l) = (match nfill (fun i => ([(0, 1), (1, 1), (2, 4), (6, 4)] : List (Nat × Nat))[i]?) [(.int .i64 0), (.int .i64 0), (.int .i64 0), (.str []), (.str []), (.int .i64 0), (.int .i64 0), (.bool false), (.int .i64 0), (.slice none 0 0 none)] l with | none => none | some cs => some (.agg cs)) := kBuild_struct ze55 Tryz.underlying55 (by kernel_rfl) l
theorem pe63 (a) : nbin Tryz.prog .eql 63 (.ptr a) (.ptr none) = some (.bool a.isNone) := ptr_eql Tryz.underlying63 a
theorem pn63 (a) : nbin Tryz.prog .neq 63 (.ptr a) (.ptr none) = some (.bool !a.isNone) := ptr_neq Tryz.underlying63 a
theorem ia66 (b o n c : Nat) (x k) (i : Int) (h0 : 0 ≤ i) (h1 : i < (n : Int)) : nindexAddr Tryz.prog 66 (.slice (some (b, o)) n c x) (.int k i) = some (.ptr (some (b, o + i.toNat * 9))) := indexAddr_slice Tryz.underlying66 sz80 b o n c x k i h0 h1
theorem se66 (a n c x) : nbin Tryz.prog .eql 66 (.slice a n c x) (.slice none 0 0 none) = some (.bool a.isNone) := slice_eql Tryz.underlying66 a n c x
theorem sn66 (a n c x) : nbin Tryz.prog .neq 66 (.slice a n c x) (.slice none 0 0 none) = some (.bool !a.isNone) := slice_neq Tryz.underlying66 a n c x
theorem ia67 (b o n c : Nat) (x k) (i : Int) (h0 : 0 ≤ i) (h1 : i < (n : Int)) : nindexAddr Tryz.prog 67 (.slice (some (b, o)) n c x) (.int k i) = some (.ptr (some (b, o + i.toNat * 10))) := indexAddr_slice Tryz.underlying67 sz55 b o n c x k i h0 h1
theorem se67 (a n c x) : nbin Tryz.prog .eql 67 (.slice a n c x) (.slice none 0 0 none) = some (.bool a.isNone) := slice_eql Tryz.underlying67 a n c x
theorem sn67 (a n c x) : nbin Tryz.prog .neq 67 (.slice a n c x) (.slice none 0 0 none) = some (.bool !a.isNone) := slice_neq Tryz.underlying67 a n c x
theorem ia68 (b o n c : Nat) (x k) (i : Int) (h0 : 0 ≤ i) (h1 : i < (n : Int)) : nindexAddr Tryz.prog 68 (.slice (some (b, o)) n c x) (.int k i) = some (.ptr (some (b, o + i.toNat * 10))) := indexAddr_slice Tryz.underlying68 sz201 b o n c x k i h0 h1
theorem se68 (a n c x) : nbin Tryz.prog .eql 68 (.slice a n c x) (.slice none 0 0 none) = some (.bool a.isNone) := slice_eql Tryz.underlying68 a n c x
theorem sn68 (a n c x) : nbin Tryz.prog .neq 68 (.slice a n c x) (.slice none 0 0 none) = some (.bool !a.isNone) := slice_neq Tryz.underlying68 a n c x
theorem bu70 (l : List (Nat × NVal)) : kBuild Tryz.prog 70 (some l) = (match nfill (fun i => ([(0, 8), (8, 1), (9, 1), (10, 1), (11, 1), (12, 1)] : List (Nat × Nat))[i]?) ([(.int .i64 0), (.int .i64 0), (.int .i64 0), (.int .i64 0), (.int .i64 0), (.int .i64 0), (.int .i64 0), (.int .i64 0), (.ptr none), (.slice none 0 0 none), (.slice none 0 0 none), (.slice none 0 0 none), (.int .i64 0)]) l with | none => none | some cs => some (.agg cs)) := kBuild_struct ze70 Tryz.underlying70 (by kernel_rfl) l
theorem bu78 (l : List (Nat × NVal)) : kBuild Tryz.prog 78 (some l) = (match nfill (fun i => ([(0, 1), (1, 1), (2, 1), (3, 1)] : List (Nat × Nat))[i]?) [.nilFunc, .nilFunc, .nilFunc, .nilFunc] l with | none => none | some cs => some (.agg cs)) := kBuild_struct ze78 Tryz.underlying78 (by kernel_rfl) l
theorem bu80 (l : List (Nat × NVal)) : kBuild Tryz.prog 80 (some l) = (match nfill (fun i => ([(0, 1), (1, 1), (2, 1), (3, 4), (7, 1), (8, 1)] : List (Nat × Nat))[i]?) [(.slice none 0 0 none), (.int .i64 0), (.bool false), .nilFunc, .nilFunc, .nilFunc, .nilFunc, (.int .i64 0), (.int .i64 0)] l with | none => none | some cs => some (.agg cs)) := kBuild_struct ze80 Tryz.underlying80 (by kernel_rfl) l
theorem pe82 (a) : nbin Tryz.prog .eql 82 (.ptr a) (.ptr none) = some (.bool a.isNone) := ptr_eql Tryz.underlying82 a
theorem pn82 (a) : nbin Tryz.prog .neq 82 (.ptr a) (.ptr none) = some (.bool !a.isNone) := ptr_neq Tryz.underlying82 a
theorem bu85 (l : List (Nat × NVal)) : kBuild Tryz.prog 85 (some l) = (match nfill (fun i => ([(0, 1), (1, 4)] : List (Nat × Nat))[i]?) [(.ptr none), (.slice none 0 0 none), (.str []), (.int .i64 0), (.bool false)] l with | none => none | some cs => some (.agg cs)) := kBuild_struct ze85 Tryz.underlying85 (by kernel_rfl) l
theorem bu90 (l : List (Nat × NVal)) : kBuild Tryz.prog 90 (some l) = (match nfill (fun i => ([(0, 1), (1, 1)] : List (Nat × Nat))[i]?) [(.str []), (.int .i64 0)] l with | none => none | some cs => some (.agg cs)) := kBuild_struct ze90 Tryz.underlying90 (by kernel_rfl) l
theorem pe101 (a) : nbin Tryz.prog .eql 101 (.ptr a) (.ptr none) = some (.bool a.isNone) := ptr_eql Tryz.underlying101 a
theorem pn101 (a) : nbin Tryz.prog .neq 101 (.ptr a) (.ptr none) = some (.bool !a.isNone) := ptr_neq Tryz.underlying101 a
theorem bu103 (l : List (Nat × NVal)) : kBuild Tryz.prog 103 (some l) = (match nfill (fun i => ([(0, 1), (1, 1)] : List (Nat × Nat))[i]?) [(.ptr none), (.slice none 0 0 none)] l with | none => none | some cs => some (.agg cs)) := kBuild_struct ze103 Tryz.underlying103 (by kernel_rfl) l
theorem pe110 (a) : nbin Tryz.prog .eql 110 (.ptr a) (.ptr none) = some (.bool a.isNone) := ptr_eql Tryz.underlying110 a
theorem pn110 (a) : nbin Tryz.prog .neq 110 (.ptr a) (.ptr none) = some (.bool !a.isNone) := ptr_neq Tryz.underlying110 a
theorem pe113 (a) : nbin Tryz.prog .eql 113 (.ptr a) (.ptr none) = some (.bool a.isNone) := ptr_eql Tryz.underlying113 a
theorem pn113 (a) : nbin Tryz.prog .neq 113 (.ptr a) (.ptr none) = some (.bool !a.isNone) := ptr_neq Tryz.underlying113 a
theorem ia118 (b o n c : Nat) (x k) (i : Int) (h0 : 0 ≤ i) (h1 : i < (n : Int)) : nindexAddr Tryz.prog 118 (.slice (some (b, o)) n c x) (.int k i) = some (.ptr (some (b, o + i.toNat * 1))) := indexAddr_slice Tryz.underlying118 sz120 b o n c x k i h0 h1
theorem se118 (a n c x) : nbin Tryz.prog .eql 118 (.slice a n c x) (.slice none 0 0 none) = some (.bool a.isNone) := slice_eql Tryz.underlying118 a n c x
theorem sn118 (a n c x) : nbin Tryz.prog .neq 118 (.slice a n c x) (.slice none 0 0 none) = some (.bool !a.isNone) := slice_neq Tryz.underlying118 a n c x
theorem bu122 (l : List (Nat × NVal)) : kBuild Tryz.prog 122 (some l) = (match nfill (fun i => ([(0, 1), (1, 1), (2, 1), (3, 1), (4, 1)] : List (Nat × Nat))[i]?) [(.int .i64 0), (.int .u64 0), (.str []), (.slice none 0 0 none), (.slice none 0 0 none)] l with | none => none | some cs => some (.agg cs)) := kBuild_struct ze122 Tryz.underlying122 (by kernel_rfl) l
theorem bu124 (l : List (Nat × NVal)) : kBuild Tryz.prog 124 (some l) = (match nfill (fun i => ([(0, 1), (1, 1), (2, 1), (3, 1), (4, 1)] : List (Nat × Nat))[i]?) [(.ptr none), (.ptr none), (.int .i64 0), (.int .i64 0), (.int .i64 0)] l with | none => none | some cs => some (.agg cs)) := kBuild_struct ze124 Tryz.underlying124 (by kernel_rfl) l
theorem bu127 (l : List (Nat × NVal)) : kBuild Tryz.prog 127 (some l) = (match nfill (fun i => ([(0, 1), (1, 1), (2, 1), (3, 1)] : List (Nat × Nat))[i]?) [(.int .i64 0), (.int .i64 0), (.bool false), (.slice none 0 0 none)] l with | none => none | some cs => some (.agg cs)) := kBuild_struct ze127 Tryz.underlying127 (by kernel_rfl) l
theorem bu130 (l : List (Nat × NVal)) : kBuild Tryz.prog 130 (some l) = (match nfill (fun i => ([(0, 1), (1, 1), (2, 1), (3, 1), (4, 1), (5, 1)] : List (Nat × Nat))[i]?) [(.int .i64 0), (.int .i64 0), (.int .i64 0), (.int .i64 0), (.int .u64 0), (.slice none 0 0 none)] l with | none => none | some cs => some (.agg cs)) := kBuild_struct ze130 Tryz.underlying130 (by kernel_rfl) l
theorem pe135 (a) : nbin Tryz.prog .eql 135 (.ptr a) (.ptr none) = some (.bool a.isNone) := ptr_eql Tryz.underlying135 a
theorem pn135 (a) : nbin Tryz.prog .neq 135 (.ptr a) (.ptr none) = some (.bool !a.isNone) := ptr_neq Tryz.underlying135 a
theorem pe141 (a) : nbin Tryz.prog .eql 141 (.ptr a) (.ptr none) = some (.bool a.isNone) := ptr_eql Tryz.underlying141 a
theorem pn141 (a) : nbin Tryz.prog .neq 141 (.ptr a) (.ptr none) = some (.bool !a.isNone) := ptr_neq Tryz.underlying141 a
theorem pe144 (a) : nbin Tryz.prog .eql 144 (.ptr a) (.ptr none) = some (.bool a.isNone) := ptr_eql Tryz.underlying144 a
theorem pn144 (a) : nbin Tryz.prog .neq 144 (.ptr a) (.ptr none) = some (.bool !a.isNone) := ptr_neq Tryz.underlying144 a
theorem pe147 (a) : nbin Tryz.prog .eql 147 (.ptr a) (.ptr none) = some (.bool a.isNone) := ptr_eql Tryz.underlying147 a
theorem pn147 (a) : nbin Tryz.prog .neq 147 (.ptr a) (.ptr none) = some (.bool !a.isNone) := ptr_neq Tryz.underlying147 a
theorem pe150 (a) : nbin Tryz.prog .eql 150 (.ptr a) (.ptr none) = some (.bool a.isNone) := ptr_eql Tryz.underlying150 a
theorem pn150 (a) : nbin Tryz.prog .neq 150 (.ptr a) (.ptr none) = some (.bool !a.isNone) := ptr_neq Tryz.underlying150 a
theorem pe153 (a) : nbin Tryz.prog .eql 153 (.ptr a) (.ptr none) = some (.bool a.isNone) := ptr_eql Tryz.underlying153 a
theorem pn153 (a) : nbin Tryz.prog .neq 153 (.ptr a) (.ptr none) = some (.bool !a.isNone) := ptr_neq Tryz.underlying153 a
theorem pe158 (a) : nbin Tryz.prog .eql 158 (.ptr a) (.ptr none) = some (.bool a.isNone) := ptr_eql Tryz.underlying158 a
theorem pn158 (a) : nbin Tryz.prog .neq 158 (.ptr a) (.ptr none) = some (.bool !a.isNone) := ptr_neq Tryz.underlying158 a
theorem ia159 (b o n c : Nat) (x k) (i : Int) (h0 : 0 ≤ i) (h1 : i < (n : Int)) : nindexAddr Tryz.prog 159 (.slice (some (b, o)) n c x) (.int k i) = some (.ptr (some (b, o + i.toNat * 4))) := indexAddr_slice Tryz.underlying159 sz168 b o n c x k i h0 h1
theorem se159 (a n c x) : nbin Tryz.prog .eql 159 (.slice a n c x) (.slice none 0 0 none) = some (.bool a.isNone) := slice_eql Tryz.underlying159 a n c x
theorem sn159 (a n c x) : nbin Tryz.prog .neq 159 (.slice a n c x) (.slice none 0 0 none) = some (.bool !a.isNone) := slice_neq Tryz.underlying159 a n c x
theorem pe160 (a) : nbin Tryz.prog .eql 160 (.ptr a) (.ptr none) = some (.bool a.isNone) := ptr_eql Tryz.underlying160 a
theorem pn160 (a) : nbin Tryz.prog .neq 160 (.ptr a) (.ptr none) = some (.bool !a.isNone) := ptr_neq Tryz.underlying160 a
theorem bu163 (l : List (Nat × NVal)) : kBuild Tryz.prog 163 (some l) = (match nfill (fun i => ([(0, 1), (1, 5)] : List (Nat × Nat))[i]?) [(.slice none 0 0 none), (.ptr none), (.ptr none), (.ptr none), (.ptr none), (.ptr none)] l with | none => none | some cs => some (.agg cs)) := kBuild_struct ze163 Tryz.underlying163 (by kernel_rfl) l
theorem bu168 (l : List (Nat × NVal)) : kBuild Tryz.prog 168 (some l) = (match nfill (fun i => ([(0, 1), (1, 1), (2, 1), (3, 1)] : List (Nat × Nat))[i]?) [(.int .i64 0), (.int .i64 0), (.bool false), (.slice none 0 0 none)] l with | none => none | some cs => some (.agg cs)) := kBuild_struct ze168 Tryz.underlying168 (by kernel_rfl) l
theorem ia169 (b o n c : Nat) (x k) (i : Int) (h0 : 0 ≤ i) (h1 : i < (n : Int)) : nindexAddr Tryz.prog 169 (.slice (some (b, o)) n c x) (.int k i) = some (.ptr (some (b, o + i.toNat * 2))) := indexAddr_slice Tryz.underlying169 sz174 b o n c x k i h0 h1
theorem se169 (a n c x) : nbin Tryz.prog .eql 169 (.slice a n c x) (.slice none 0 0 none) = some (.bool a.isNone) := slice_eql Tryz.underlying169 a n c x
theorem sn169 (a n c x) : nbin Tryz.prog .neq 169 (.slice a n c x) (.slice none 0 0 none) = some (.bool !a.isNone) := slice_neq Tryz.underlying169 a n c x
theorem bu171 (l : List (Nat × NVal)) : kBuild Tryz.prog 171 (some l) = (match nfill (fun i => ([(0, 1), (1, 1), (2, 1)] : List (Nat × Nat))[i]?) [(.int .i64 0), (.int .i64 0), (.slice none 0 0 none)] l with | none => none | some cs => some (.agg cs)) := kBuild_struct ze171 Tryz.underlying171 (by kernel_rfl) l
theorem ia172 (b o n c : Nat) (x k) (i : Int) (h0 : 0 ≤ i) (h1 : i < (n : Int)) : nindexAddr Tryz.prog 172 (.slice (some (b, o)) n c x) (.int k i) = some (.ptr (some (b, o + i.toNat * 2))) := indexAddr_slice Tryz.underlying172 sz256 b o n c x k i h0 h1
theorem se172 (a n c x) : nbin Tryz.prog .eql 172 (.slice a n c x) (.slice none 0 0 none) = some (.bool a.isNone) := slice_eql Tryz.underlying172 a n c x
theorem sn172 (a n c x) : nbin Tryz.prog .neq 172 (.slice a n c x) (.slice none 0 0 none) = some (.bool !a.isNone) := slice_neq Tryz.underlying172 a n c x
theorem bu174 (l : List (Nat × NVal)) : kBuild Tryz.prog 174 (some l) = (match nfill (fun i => ([(0, 1), (1, 1)] : List (Nat × Nat))[i]?) [(.int .i64 0), (.slice none 0 0 none)] l with | none => none | some cs => some (.agg cs)) := kBuild_struct ze174 Tryz.underlying174 (by kernel_rfl) l
theorem pe178 (a) : nbin Tryz.prog .eql 178 (.ptr a) (.ptr none) = some (.bool a.isNone) := ptr_eql Tryz.underlying178 a
theorem pn178 (a) : nbin Tryz.prog .neq 178 (.ptr a) (.ptr none) = some (.bool !a.isNone) := ptr_neq Tryz.underlying178 a
theorem bu190 (l : List (Nat × NVal)) : kBuild Tryz.prog 190 (some l) = (match nfill (fun i => ([(0, 1), (1, 1)] : List (Nat × Nat))[i]?) [(.str []), (.int .i64 0)] l with | none => none | some cs => some (.agg cs)) := kBuild_struct ze190 Tryz.underlying190 (by kernel_rfl) l
theorem bu201 (l : List (Nat × NVal)) : kBuild Tryz.prog 201 (some l) = (match nfill (fun i => ([(0, 1), (1, 1), (2, 4), (6, 4)] : List (Nat × Nat))[i]?) [(.int .i64 0), (.int .i64 0), (.int .i64 0), (.str []), (.str []), (.int .i64 0), (.int .i64 0), (.bool false), (.int .i64 0), (.slice none 0 0 none)] l with | none => none | some cs => some (.agg cs)) := kBuild_struct ze201 Tryz.underlying201 (by kernel_rfl) l
theorem bu204 (l : List (Nat × NVal)) : kBuild Tryz.prog 204 (some l) = (match nfill (fun i => ([(0, 1), (1, 1), (2, 1), (3, 6), (9, 1), (10, 1), (11, 1), (12, 1), (13, 4)] : List (Nat × Nat))[i]?) [(.str []), (.str []), (.int .i64 0), (.int .i64 0), (.int .i64 0), (.int .i64 0), (.int .i64 0), (.int .u64 0), (.slice none 0 0 none), .nilFunc, (.int .i64 0), (.bool false), (.bool false), (.int .i64 0), (.bool false), (.int .i64 0), (.slice none 0 0 none)] l with | none => none | some cs => some (.agg cs)) := kBuild_struct ze204 Tryz.underlying204 (by kernel_rfl) l
theorem ia207 (b o n c : Nat) (x k) (i : Int) (h0 : 0 ≤ i) (h1 : i < (n : Int)) : nindexAddr Tryz.prog 207 (.slice (some (b, o)) n c x) (.int k i) = some (.ptr (some (b, o + i.toNat * 7))) := indexAddr_slice Tryz.underlying207 sz299 b o n c x k i h0 h1
theorem se207 (a n c x) : nbin Tryz.prog .eql 207 (.slice a n c x) (.slice none 0 0 none) = some (.bool a.isNone) := slice_eql Tryz.underlying207 a n c x
theorem sn207 (a n c x) : nbin Tryz.prog .neq 207 (.slice a n c x) (.slice none 0 0 none) = some (.bool !a.isNone) := slice_neq Tryz.underlying207 a n c x
theorem bu209 (l : List (Nat × NVal)) : kBuild Tryz.prog 209 (some l) = (match nfill (fun i => ([(0, 1), (1, 1), (2, 1), (3, 1), (4, 6), (10, 1), (11, 1), (12, 1), (13, 1), (14, 4)] : List (Nat × Nat))[i]?) ([(.str []), (.str []), (.int .i64 0), (.int .i64 0), (.int .i64 0), (.int .i64 0), (.int .i64 0), (.int .i64 0), (.int .u64 0), (.slice none 0 0 none), .nilFunc, (.str []), (.slice none 0 0 none), (.bool false), (.int .i64 0), (.bool false), (.int .i64 0), (.slice none 0 0 none)]) l with | none => none | some cs => some (.agg cs)) := kBuild_struct ze209 Tryz.underlying209 (by kernel_rfl) l
theorem bu215 (l : List (Nat × NVal)) : kBuild Tryz.prog 215 (some l) = (match nfill (fun i => ([(0, 1), (1, 5), (6, 1)] : List (Nat × Nat))[i]?) [(.int .i64 0), (.int .i64 0), (.int .u64 0), (.str []), (.slice none 0 0 none), (.slice none 0 0 none), (.int .u8 0)] l with | none => none | some cs => some (.agg cs)) := kBuild_struct ze215 Tryz.underlying215 (by kernel_rfl) l
theorem ia216 (b o n c : Nat) (x k) (i : Int) (h0 : 0 ≤ i) (h1 : i < (n : Int)) : nindexAddr Tryz.prog 216 (.slice (some (b, o)) n c x) (.int k i) = some (.ptr (some (b, o + i.toNat * 1))) := indexAddr_slice Tryz.underlying216 sz312 b o n c x k i h0 h1
theorem se216 (a n c x) : nbin Tryz.prog .eql 216 (.slice a n c x) (.slice none 0 0 none) = some (.bool a.isNone) := slice_eql Tryz.underlying216 a n c x
theorem sn216 (a n c x) : nbin Tryz.prog .neq 216 (.slice a n c x) (.slice none 0 0 none) = some (.bool !a.isNone) := slice_neq Tryz.underlying216 a n c x
theorem bu218 (l : List (Nat × NVal)) : kBuild Tryz.prog 218 (some l) = (match nfill (fun i => ([(0, 1), (1, 1), (2, 1), (3, 1), (4, 1), (5, 1), (6, 1), (7, 6), (13, 1), (14, 1), (15, 7), (22, 7), (29, 1), (30, 1), (31, 1), (32, 1), (33, 1), (34, 4)] : List (Nat × Nat))[i]?) [(.str []), (.str []), (.int .i64 0), (.int .i64 0), (.int .i64 0), (.int .i64 0), (.bool false), (.int .i64 0), (.int .i64 0), (.int .i64 0), (.int .i64 0), (.int .u64 0), (.slice none 0 0 none), .nilFunc, .nilFunc, (.int .i64 0), (.int .i64 0), (.int .u64 0), (.str []), (.slice none 0 0 none), (.slice none 0 0 none), (.int .u8 0), (.int .i64 0), (.int .i64 0), (.int .u64 0), (.str []), (.slice none 0 0 none), (.slice none 0 0 none), (.int .u8 0), (.slice none 0 0 none), (.slice none 0 0 none), (.slice none 0 0 none), (.bool false), (.bool false), (.int .i64 0), (.bool false), (.int .i64 0), (.slice none 0 0 none)] l with | none => none | some cs => some (.agg cs)) := kBuild_struct ze218 Tryz.underlying218 (by kernel_rfl) l
theorem bu224 (l : List (Nat × NVal)) : kBuild Tryz.prog 224 (some l) = (match nfill (fun i => ([(0, 1), (1, 5), (6, 1)] : List (Nat × Nat))[i]?) [(.int .i64 0), (.int .i64 0), (.int .u64 0), (.str []), (.slice none 0 0 none), (.slice none 0 0 none), (.int .u8 0)] l with | none => none | some cs => some (.agg cs)) := kBuild_struct ze224 Tryz.underlying224 (by kernel_rfl) l
theorem bu226 (l : List (Nat × NVal)) : kBuild Tryz.prog 226 (some l) = (match nfill (fun i => ([(0, 1), (1, 1), (2, 1), (3, 1), (4, 1), (5, 1), (6, 6), (12, 1), (13, 1), (14, 7), (21, 7), (28, 7), (35, 1), (36, 1), (37, 1), (38, 1), (39, 1), (40, 1), (41, 4)] : List (Nat × Nat))[i]?) [(.str []), (.str []), (.int .i64 0), (.int .i64 0), (.int .i64 0), (.bool false), (.int .i64 0), (.int .i64 0), (.int .i64 0), (.int .i64 0), (.int .u64 0), (.slice none 0 0 none), .nilFunc, .nilFunc, (.int .i64 0), (.int .i64 0), (.int .u64 0), (.str []), (.slice none 0 0 none), (.slice none 0 0 none), (.int .u8 0), (.int .i64 0), (.int .i64 0), (.int .u64 0), (.str []), (.slice none 0 0 none), (.slice none 0 0 none), (.int .u8 0), (.int .i64 0), (.int .i64 0), (.int .u64 0), (.str []), (.slice none 0 0 none), (.slice none 0 0 none), (.int .u8 0), (.int .i64 0), (.slice none 0 0 none), (.slice none 0 0 none), (.slice none 0 0 none), (.bool false), (.bool false), (.int .i64 0), (.bool false), (.int .i64 0), (.slice none 0 0 none)] l with | none => none | some cs => some (.agg cs)) := kBuild_struct ze226 Tryz.underlying226 (by kernel_rfl) l
theorem bu230 (l : List (Nat × NVal)) : kBuild Tryz.prog 230 (some l) = (match nfill (fun i => ([(0, 1), (1, 6), (7, 1), (8, 1), (9, 1)] : List (Nat × Nat))[i]?) [(.int .i64 0), (.int .i64 0), (.int .i64 0), (.int .i64 0), (.int .i64 0), (.int .u64 0), (.slice none 0 0 none), .nilFunc, (.int .i64 0), (.bool false)] l with | none => none | some cs => some (.agg cs)) := kBuild_struct ze230 Tryz.underlying230 (by kernel_rfl) l
theorem ia239 (b o n c : Nat) (x k) (i : Int) (h0 : 0 ≤ i) (h1 : i < (n : Int)) : nindexAddr Tryz.prog 239 (.slice (some (b, o)) n c x) (.int k i) = some (.ptr (some (b, o + i.toNat * 1))) := indexAddr_slice Tryz.underlying239 sz3 b o n c x k i h0 h1
theorem se239 (a n c x) : nbin Tryz.prog .eql 239 (.slice a n c x) (.slice none 0 0 none) = some (.bool a.isNone) := slice_eql Tryz.underlying239 a n c x
theorem sn239 (a n c x) : nbin Tryz.prog .neq 239 (.slice a n c x) (.slice none 0 0 none) = some (.bool !a.isNone) := slice_neq Tryz.underlying239 a n c x
theorem bu241 (l : List (Nat × NVal)) : kBuild Tryz.prog 241 (some l) = (match nfill (fun i => ([(0, 1), (1, 1), (2, 1)] : List (Nat × Nat))[i]?) [(.int .i64 0), (.slice none 0 0 none), (.map none)] l with | none => none | some cs => some (.agg cs)) := kBuild_struct ze241 Tryz.underlying241 (by kernel_rfl) l
theorem bu242 (l : List (Nat × NVal)) : kBuild Tryz.prog 242 (some l) = (match nfill (fun i => ([] : List (Nat × Nat))[i]?) [] l with | none => none | some cs => some (.agg cs)) := kBuild_struct ze242 Tryz.underlying242 (by kernel_rfl) l
theorem pe244 (a) : nbin Tryz.prog .eql 244 (.ptr a) (.ptr none) = some (.bool a.isNone) := ptr_eql Tryz.underlying244 a
theorem pn244 (a) : nbin Tryz.prog .neq 244 (.ptr a) (.ptr none) = some (.bool !a.isNone) := ptr_neq Tryz.underlying244 a
theorem pe253 (a) : nbin Tryz.prog .eql 253 (.ptr a) (.ptr none) = some (.bool a.isNone) := ptr_eql Tryz.underlying253 a
theorem pn253 (a) : nbin Tryz.prog .neq 253 (.ptr a) (.ptr none) = some (.bool !a.isNone) := ptr_neq Tryz.underlying253 a
theorem bu256 (l : List (Nat × NVal)) : kBuild Tryz.prog 256 (some l) = (match nfill (fun i => ([(0, 1), (1, 1)] : List (Nat × Nat))[i]?) [(.int .i64 0), (.int .i64 0)] l with | none => none | some cs => some (.agg cs)) := kBuild_struct ze256 Tryz.underlying256 (by kernel_rfl) l
theorem bu299 (l : List (Nat × NVal)) : kBuild Tryz.prog 299 (some l) = (match nfill (fun i => ([(0, 5), (5, 1), (6, 1)] : List (Nat × Nat))[i]?) [(.int .i64 0), (.int .u64 0), (.str []), (.slice none 0 0 none), (.slice none 0 0 none), (.str []), (.int .i64 0)] l with | none => none | some cs => some (.agg cs)) := kBuild_struct ze299 Tryz.underlying299 (by kernel_rfl) l
theorem ia338 (b o n c : Nat) (x k) (i : Int) (h0 : 0 ≤ i) (h1 : i < (n : Int)) : nindexAddr Tryz.prog 338 (.slice (some (b, o)) n c x) (.int k i) = some (.ptr (some (b, o + i.toNat * 1))) := indexAddr_slice Tryz.underlying338 sz39 b o n c x k i h0 h1
theorem se338 (a n c x) : nbin Tryz.prog .eql 338 (.slice a n c x) (.slice none 0 0 none) = some (.bool a.isNone) := slice_eql Tryz.underlying338 a n c x
theorem sn338 (a n c x) : nbin Tryz.prog .neq 338 (.slice a n c x) (.slice none 0 0 none) = some (.bool !a.isNone) := slice_neq Tryz.underlying338 a n c x
theorem ia340 (b o n c : Nat) (x k) (i : Int) (h0 : 0 ≤ i) (h1 : i < (n : Int)) : nindexAddr Tryz.prog 340 (.slice (some (b, o)) n c x) (.int k i) = some (.ptr (some (b, o + i.toNat * 1))) := indexAddr_slice Tryz.underlying340 sz40 b o n c x k i h0 h1
theorem se340 (a n c x) : nbin Tryz.prog .eql 340 (.slice a n c x) (.slice none 0 0 none) = some (.bool a.isNone) := slice_eql Tryz.underlying340 a n c x
theorem sn340 (a n c x) : nbin Tryz.prog .neq 340 (.slice a n c x) (.slice none 0 0 none) = some (.bool !a.isNone) := slice_neq Tryz.underlying340 a n c x

attribute [go_sem] sz2 ag2 by2 ze2 sz3 ag3 by3 ze3 sz4 ag4 by4 ze4 sz5 ag5 by5 ze5 sz9 ag9 by9 ze9 sz20 ag20 by20 ze20 sz22 ag22 by22 ze22 sz24 ag24 by24 ze24 fa24_0 fi24_0 fa24_1 fi24_1 fa24_2 fi24_2 fa24_3 fi24_3 sz25 ag25 by25 ze25 sz27 ag27 by27 ze27 sz28 ag28 by28 ze28 sz32 ag32 by32 ze32 sz34 ag34 by34 ze34 fa34_0 fi34_0 fa34_1 fi34_1 fa34_2 fi34_2 fa34_3 fi34_3 sz37 ag37 by37 ze37 sz39 ag39 by39 ze39 sz40 ag40 by40 ze40 sz43 ag43 by43 ze43 sz45 ag45 by45 ze45 fa45_0 fi45_0 fa45_1 fi45_1 fa45_2 fi45_2 fa45_3 fi45_3 sz53 ag53 by53 ze53 fa53_0 fi53_0 fa53_1 fi53_1 fa53_2 fi53_2 fa53_3 fi53_3 sz55 ag55 by55 ze55 fa55_0 fi55_0 fa55_1 fi55_1 fa55_2 fi55_2 fa55_3 fi55_3 sz63 ag63 by63 ze63 sz66 ag66 by66 ze66 sz67 ag67 by67 ze67 sz68 ag68 by68 ze68 sz70 ag70 by70 ze70 fa70_0 fi70_0 fa70_1 fi70_1 fa70_2 fi70_2 fa70_3 fi70_3 fa70_4 fi70_4 fa70_5 fi70_5 sz72 ag72 by72 ze72 sz74 ag74 by74 ze74 sz75 ag75 by75 ze75 sz76 ag76 by76 ze76 sz78 ag78 by78 ze78 fa78_0 fi78_0 fa78_1 fi78_1 fa78_2 fi78_2 fa78_3 fi78_3 sz80 ag80 by80 ze80 fa80_0 fi80_0 fa80_1 fi80_1 fa80_2 fi80_2 fa80_3 fi80_3 fa80_4 fi80_4 fa80_5 fi80_5 sz82 ag82 by82 ze82 sz85 ag85 by85 ze85 fa85_0 fi85_0 fa85_1 fi85_1 sz90 ag90 by90 ze90 fa90_0 fi90_0 fa90_1 fi90_1 sz95 ag95 by95 ze95 sz101 ag101 by101 ze101 sz103 ag103 by103 ze103 fa103_0 fi103_0 fa103_1 fi103_1 sz110 ag110 by110 ze110 sz113 ag113 by113 ze113 sz118 ag118 by118 ze118 sz120 ag120 by120 ze120 sz122 ag122 by122 ze122 fa122_0 fi122_0 fa122_1 fi122_1 fa122_2 fi122_2 fa122_3 fi122_3 fa122_4 fi122_4 sz124 ag124 by124 ze124 fa124_0 fi124_0 fa124_1 fi124_1 fa124_2 fi124_2 fa124_3 fi124_3 fa124_4 fi124_4 sz127 ag127 by127 ze127 fa127_0 fi127_0 fa127_1 fi127_1 fa127_2 fi127_2 fa127_3 fi127_3 sz130 ag130 by130 ze130 fa130_0 fi130_0 fa130_1 fi130_1 fa130_2 fi130_2 fa130_3 fi130_3 fa130_4 fi130_4 fa130_5 fi130_5 sz135 ag135 by135 ze135 sz141 ag141 by141 ze141 sz144 ag144 by144 ze144 sz147 ag147 by147 ze147 sz150 ag150 by150 ze150 sz153 ag153 by153 ze153 sz158 ag158 by158 ze158 sz159 ag159 by159 ze159 sz160 ag160 by160 ze160 sz161 ag161 by161 ze161 sz163 ag163 by163 ze163 fa163_0 fi163_0 fa163_1 fi163_1 sz168 ag168 by168 ze168 fa168_0 fi168_0 fa168_1 fi168_1 fa168_2 fi168_2 fa168_3 fi168_3 sz169 ag169 by169 ze169 sz171 ag171 by171 ze171 fa171_0 fi171_0 fa171_1 fi171_1 fa171_2 fi171_2 sz172 ag172 by172 ze172 sz174 ag174 by174 ze174 fa174_0 fi174_0 fa174_1 fi174_1 sz178 ag178 by178 ze178 sz190 ag190 by190 ze190 fa190_0 fi190_0 fa190_1 fi190_1 sz201 ag201 by201 ze201 fa201_0 fi201_0 fa201_1 fi201_1 fa201_2 fi201_2 fa201_3 fi201_3 sz202 ag202 by202 ze202 sz204 ag204 by204 ze204 fa204_0 fi204_0 fa204_1 fi204_1 fa204_2 fi204_2 fa204_3 fi204_3 fa204_4 fi204_4 fa204_5 fi204_5 fa204_6 fi204_6 fa204_7 fi204_7 fa204_8 fi204_8 sz206 ag206 by206 ze206 sz207 ag207 by207 ze207 sz209 ag209 by209 ze209 fa209_0 fi209_0 fa209_1 fi209_1 fa209_2 fi209_2 fa209_3 fi209_3 fa209_4 fi209_4 fa209_5 fi209_5 fa209_6 fi209_6 fa209_7 fi209_7 fa209_8 fi209_8 fa209_9 fi209_9 sz212 ag212 by212 ze212 sz213 ag213 by213 ze213 sz215 ag215 by215 ze215 fa215_0 fi215_0 fa215_1 fi215_1 fa215_2 fi215_2 sz216 ag216 by216 ze216 sz218 ag218 by218 ze218 fa218_0 fi218_0 fa218_1 fi218_1 fa218_2 fi218_2 fa218_3 fi218_3 fa218_4 fi218_4 fa218_5 fi218_5 fa218_6 fi218_6 fa218_7 fi218_7 fa218_8 fi218_8 fa218_9 fi218_9 fa218_10 fi218_10 fa218_11 fi218_11 fa218_12 fi218_12 fa218_13 fi218_13 fa218_14 fi218_14 fa218_15 fi218_15 fa218_16 fi218_16 fa218_17 fi218_17 sz221 ag221 by221 ze221 sz222 ag222 by222 ze222 sz224 ag224 by224 ze224 fa224_0 fi224_0 fa224_1 fi224_1 fa224_2 fi224_2 sz226 ag226 by226 ze226 fa226_0 fi226_0 fa226_1 fi226_1 fa226_2 fi226_2 fa226_3 fi226_3 fa226_4 fi226_4 fa226_5 fi226_5 fa226_6 fi226_6 fa226_7 fi226_7 fa226_8 fi226_8 fa226_9 fi226_9 fa226_10 fi226_10 fa226_11 fi226_11 fa226_12 fi226_12 fa226_13 fi226_13 fa226_14 fi226_14 fa226_15 fi226_15 fa226_16 fi226_16 fa226_17 fi226_17 fa226_18 fi226_18 sz228 ag228 by228 ze228 sz230 ag230 by230 ze230 fa230_0 fi230_0 fa230_1 fi230_1 fa230_2 fi230_2 fa230_3 fi230_3 fa230_4 fi230_4 sz234 ag234 by234 ze234 sz236 ag236 by236 ze236 sz238 ag238 by238 ze238 sz239 ag239 by239 ze239 sz241 ag241 by241 ze241 fa241_0 fi241_0 fa241_1 fi241_1 fa241_2 fi241_2 sz242 ag242 by242 ze242 sz244 ag244 by244 ze244 sz253 ag253 by253 ze253 sz256 ag256 by256 ze256 fa256_0 fi256_0 fa256_1 fi256_1 sz265 ag265 by265 ze265 sz273 ag273 by273 ze273 sz286 ag286 by286 ze286 sz287 ag287 by287 ze287 sz288 ag288 by288 sz299 ag299 by299 ze299 fa299_0 fi299_0 fa299_1 fi299_1 fa299_2 fi299_2 sz300 ag300 by300 ze300 sz301 ag301 by301 ze301 sz312 ag312 by312 ze312 sz314 ag314 by314 ze314 sz338 ag338 by338 ze338 sz340 ag340 by340 ze340 be4 bn4 bu24 ia25 se25 sn25 pe27 pn27 ia32 se32 sn32 bu34 ia39 se39 sn39 ia40 se40 sn40 ia43 se43 sn43 bu45 bu53 bu55 pe63 pn63 ia66 se66 sn66 ia67 se67 sn67 ia68 se68 sn68 bu70 bu78 bu80 pe82 pn82 bu85 bu90 pe101 pn101 bu103 pe110 pn110 pe113 pn113 ia118 se118 sn118 bu122 bu124 bu127 bu130 pe135 pn135 pe141 pn141 pe144 pn144 pe147 pn147 pe150 pn150 pe153 pn153 pe158 pn158 ia159 se159 sn159 pe160 pn160 bu163 bu168 ia169 se169 sn169 bu171 ia172 se172 sn172 bu174 pe178 pn178 bu190 bu201 bu204 ia207 se207 sn207 bu209 bu215 ia216 se216 sn216 bu218 bu224 bu226 bu230 ia239 se239 sn239 bu241 bu242 pe244 pn244 pe253 pn253 bu256 bu299 ia338 se338 sn338 ia340 se340 sn340
attribute [go_sem] Tryz.underlying2 Tryz.underlying3 Tryz.underlying4 Tryz.underlying5 Tryz.underlying9 Tryz.underlying20 Tryz.underlying22 Tryz.underlying24 Tryz.underlying25 Tryz.underlying27 Tryz.underlying28 Tryz.underlying32 Tryz.underlying34 Tryz.underlying37 Tryz.underlying39 Tryz.underlying40 Tryz.underlying43 Tryz.underlying45 Tryz.underlying53 Tryz.underlying55 Tryz.underlying63 Tryz.underlying66 Tryz.underlying67 Tryz.underlying68 Tryz.underlying70 Tryz.underlying72 Tryz.underlying74 Tryz.underlying75 Tryz.underlying76 Tryz.underlying78 Tryz.underlying80 Tryz.underlying82 Tryz.underlying85 Tryz.underlying90 Tryz.underlying95 Tryz.underlying101 Tryz.underlying103 Tryz.underlying110 Tryz.underlying113 Tryz.underlying118 Tryz.underlying120 Tryz.underlying122 Tryz.underlying124 Tryz.underlying127 Tryz.underlying130 Tryz.underlying135 Tryz.underlying141 Tryz.underlying144 Tryz.underlying147 Tryz.underlying150 Tryz.underlying153 Tryz.underlying158 Tryz.underlying159 Tryz.underlying160 Tryz.underlying161 Tryz.underlying163 Tryz.underlying168 Tryz.underlying169 Tryz.underlying171 Tryz.underlying172 Tryz.underlying174 Tryz.underlying178 Tryz.underlying190 Tryz.underlying201 Tryz.underlying202 Tryz.underlying204 Tryz.underlying206 Tryz.underlying207 Tryz.underlying209 Tryz.underlying212 Tryz.underlying213 Tryz.underlying215 Tryz.underlying216 Tryz.underlying218 Tryz.underlying221 Tryz.underlying222 Tryz.underlying224 Tryz.underlying226 Tryz.underlying228 Tryz.underlying230 Tryz.underlying234 Tryz.underlying236 Tryz.underlying238 Tryz.underlying239 Tryz.underlying241 Tryz.underlying242 Tryz.underlying244 Tryz.underlying253 Tryz.underlying256 Tryz.underlying265 Tryz.underlying273 Tryz.underlying286 Tryz.underlying287 Tryz.underlying288 Tryz.underlying299 Tryz.underlying300 Tryz.underlying301 Tryz.underlying312 Tryz.underlying314 Tryz.underlying338 Tryz.underlying340
theorem k2 (l : List NVal) (h : NHeap) (hl : l.length ≤ 1) : K env 2 l h = outF Tryz.prog [] (C env (bodyOf Tryz.f2) (toL 1 (argF l)) h) := K_bodyF rfl (by kernel_rfl) hl
theorem k3 (l : List NVal) (h : NHeap) (hl : l.length ≤ 53) : K env 3 l h = outF Tryz.prog [.tmp 4] (C env (bodyOf Tryz.f3) (toL 53 (argF l)) h) := K_bodyF rfl (by kernel_rfl) hl
theorem k4 (l : List NVal) (h : NHeap) (hl : l.length ≤ 103) : K env 4 l h = outF Tryz.prog [.tmp 6] (C env (bodyOf Tryz.f4) (toL 103 (argF l)) h) := K_bodyF rfl (by kernel_rfl) hl
theorem k5 (l : List NVal) (h : NHeap) (hl : l.length ≤ 79) : K env 5 l h = outF Tryz.prog [.tmp 4] (C env (bodyOf Tryz.f5) (toL 79 (argF l)) h) := K_bodyF rfl (by kernel_rfl) hl
theorem k6 (l : List NVal) (h : NHeap) (hl : l.length ≤ 96) : K env 6 l h = outF Tryz.prog [.tmp 10] (C env (bodyOf Tryz.f6) (toL 96 (argF l)) h) := K_bodyF rfl (by kernel_rfl) hl
theorem k7 (l : List NVal) (h : NHeap) (hl : l.length ≤ 68) : K env 7 l h = outF Tryz.prog [.tmp 2] (C env (bodyOf Tryz.f7) (toL 68 (argF l)) h) := K_bodyF rfl (by kernel_rfl) hl
theorem k8 (l : List NVal) (h : NHeap) (hl : l.length ≤ 81) : K env 8 l h = outF Tryz.prog [.tmp 6] (C env (bodyOf Tryz.f8) (toL 81 (argF l)) h) := K_bodyF rfl (by kernel_rfl) hl
theorem k9 (l : List NVal) (h : NHeap) (hl : l.length ≤ 47) : K env 9 l h = outF Tryz.prog [.cell 2 24] (C env (bodyOf Tryz.f9) (toL 47 (argF l)) h) := K_bodyF rfl (by kernel_rfl) hl
theorem k10 (l : List NVal) (h : NHeap) (hl : l.length ≤ 53) : K env 10 l h = outF Tryz.prog [.tmp 4, .tmp 5] (C env (bodyOf Tryz.f10) (toL 53 (argF l)) h) := K_bodyF rfl (by kernel_rfl) hl
theorem k11 (l : List NVal) (h : NHeap) (hl : l.length ≤ 64) : K env 11 l h = outF Tryz.prog [.tmp 8] (C env (bodyOf Tryz.f11) (toL 64 (argF l)) h) := K_bodyF rfl (by kernel_rfl) hl
theorem k12 (l : List NVal) (h : NHeap) (hl : l.length ≤ 24) : K env 12 l h = outF Tryz.prog [.cell 2 34] (C env (bodyOf Tryz.f12) (toL 24 (argF l)) h) := K_bodyF rfl (by kernel_rfl) hl
theorem k13 (l : List NVal) (h : NHeap) (hl : l.length ≤ 16) : K env 13 l h = outF Tryz.prog [.tmp 2] (C env (bodyOf Tryz.f13) (toL 16 (argF l)) h) := K_bodyF rfl (by kernel_rfl) hl
theorem k15 (l : List NVal) (h : NHeap) (hl : l.length ≤ 90) : K env 15 l h = outF Tryz.prog [.tmp 2, .tmp 3] (C env (bodyOf Tryz.f15) (toL 90 (argF l)) h) := K_bodyF rfl (by kernel_rfl) hl
theorem k16 (l : List NVal) (h : NHeap) (hl : l.length ≤ 15) : K env 16 l h = outF Tryz.prog [.tmp 4] (C env (bodyOf Tryz.f16) (toL 15 (argF l)) h) := K_bodyF rfl (by kernel_rfl) hl
theorem k17 (l : List NVal) (h : NHeap) (hl : l.length ≤ 24) : K env 17 l h = outF Tryz.prog [.tmp 6] (C env (bodyOf Tryz.f17) (toL 24 (argF l)) h) := K_bodyF rfl (by kernel_rfl) hl
theorem k18 (l : List NVal) (h : NHeap) (hl : l.length ≤ 15) : K env 18 l h = outF Tryz.prog [.tmp 2] (C env (bodyOf Tryz.f18) (toL 15 (argF l)) h) := K_bodyF rfl (by kernel_rfl) hl
theorem k19 (l : List NVal) (h : NHeap) (hl : l.length ≤ 26) : K env 19 l h = outF Tryz.prog [.tmp 2] (C env (bodyOf Tryz.f19) (toL 26 (argF l)) h) := K_bodyF rfl (by kernel_rfl) hl
theorem k21 (l : List NVal) (h : NHeap) (hl : l.length ≤ 16) : K env 21 l h = outF Tryz.prog [.cell 5 55] (C env (bodyOf Tryz.f21) (toL 16 (argF l)) h) := K_bodyF rfl (by kernel_rfl) hl
theorem k22 (l : List NVal) (h : NHeap) (hl : l.length ≤ 23) : K env 22 l h = outF Tryz.prog [.tmp 2] (C env (bodyOf Tryz.f22) (toL 23 (argF l)) h) := K_bodyF rfl (by kernel_rfl) hl
theorem k23 (l : List NVal) (h : NHeap) (hl : l.length ≤ 54) : K env 23 l h = outF Tryz.prog [.tmp 4, .tmp 5] (C env (bodyOf Tryz.f23) (toL 54 (argF l)) h) := K_bodyF rfl (by kernel_rfl) hl
theorem k24 (l : List NVal) (h : NHeap) (hl : l.length ≤ 52) : K env 24 l h = outF Tryz.prog [.tmp 2, .tmp 3] (C env (bodyOf Tryz.f24) (toL 52 (argF l)) h) := K_bodyF rfl (by kernel_rfl) hl
theorem k25 (l : List NVal) (h : NHeap) (hl : l.length ≤ 9) : K env 25 l h = outF Tryz.prog [.tmp 4] (C env (bodyOf Tryz.f25) (toL 9 (argF l)) h) := K_bodyF rfl (by kernel_rfl) hl
theorem k26 (l : List NVal) (h : NHeap) (hl : l.length ≤ 9) : K env 26 l h = outF Tryz.prog [.tmp 3] (C env (bodyOf Tryz.f26) (toL 9 (argF l)) h) := K_bodyF rfl (by kernel_rfl) hl
theorem k27 (l : List NVal) (h : NHeap) (hl : l.length ≤ 8) : K env 27 l h = outF Tryz.prog [.tmp 2] (C env (bodyOf Tryz.f27) (toL 8 (argF l)) h) := K_bodyF rfl (by kernel_rfl) hl
theorem k28 (l : List NVal) (h : NHeap) (hl : l.length ≤ 69) : K env 28 l h = outF Tryz.prog [.tmp 4] (C env (bodyOf Tryz.f28) (toL 69 (argF l)) h) := K_bodyF rfl (by kernel_rfl) hl
theorem k29 (l : List NVal) (h : NHeap) (hl : l.length ≤ 7) : K env 29 l h = outF Tryz.prog [.tmp 2] (C env (bodyOf Tryz.f29) (toL 7 (argF l)) h) := K_bodyF rfl (by kernel_rfl) hl
theorem k30 (l : List NVal) (h : NHeap) (hl : l.length ≤ 61) : K env 30 l h = outF Tryz.prog [.tmp 8] (C env (bodyOf Tryz.f30) (toL 61 (argF l)) h) := K_bodyF rfl (by kernel_rfl) hl
theorem k31 (l : List NVal) (h : NHeap) (hl : l.length ≤ 7) : K env 31 l h = outF Tryz.prog [.tmp 2] (C env (bodyOf Tryz.f31) (toL 7 (argF l)) h) := K_bodyF rfl (by kernel_rfl) hl
theorem k32 (l : List NVal) (h : NHeap) (hl : l.length ≤ 8) : K env 32 l h = outF Tryz.prog [.tmp 2] (C env (bodyOf Tryz.f32) (toL 8 (argF l)) h) := K_bodyF rfl (by kernel_rfl) hl
theorem k33 (l : List NVal) (h : NHeap) (hl : l.length ≤ 85) : K env 33 l h = outF Tryz.prog [.tmp 4] (C env (bodyOf Tryz.f33) (toL 85 (argF l)) h) := K_bodyF rfl (by kernel_rfl) hl
theorem k34 (l : List NVal) (h : NHeap) (hl : l.length ≤ 26) : K env 34 l h = outF Tryz.prog [.tmp 4] (C env (bodyOf Tryz.f34) (toL 26 (argF l)) h) := K_bodyF rfl (by kernel_rfl) hl
theorem k35 (l : List NVal) (h : NHeap) (hl : l.length ≤ 31) : K env 35 l h = outF Tryz.prog [.cell 6 45] (C env (bodyOf Tryz.f35) (toL 31 (argF l)) h) := K_bodyF rfl (by kernel_rfl) hl
theorem k36 (l : List NVal) (h : NHeap) (hl : l.length ≤ 115) : K env 36 l h = outF Tryz.prog [.cell 8 78, .tmp 9] (C env (bodyOf Tryz.f36) (toL 115 (argF l)) h) := K_bodyF rfl (by kernel_rfl) hl
theorem k37 (l : List NVal) (h : NHeap) (hl : l.length ≤ 8) : K env 37 l h = outF Tryz.prog [.tmp 4] (C env (bodyOf Tryz.f37) (toL 8 (argF l)) h) := K_bodyF rfl (by kernel_rfl) hl
theorem k38 (l : List NVal) (h : NHeap) (hl : l.length ≤ 5) : K env 38 l h = outF Tryz.prog [.tmp 2] (C env (bodyOf Tryz.f38) (toL 5 (argF l)) h) := K_bodyF rfl (by kernel_rfl) hl
theorem k39 (l : List NVal) (h : NHeap) (hl : l.length ≤ 37) : K env 39 l h = outF Tryz.prog [.tmp 2] (C env (bodyOf Tryz.f39) (toL 37 (argF l)) h) := K_bodyF rfl (by kernel_rfl) hl
theorem k40 (l : List NVal) (h : NHeap) (hl : l.length ≤ 40) : K env 40 l h = outF Tryz.prog [.tmp 2] (C env (bodyOf Tryz.f40) (toL 40 (argF l)) h) := K_bodyF rfl (by kernel_rfl) hl
theorem k41 (l : List NVal) (h : NHeap) (hl : l.length ≤ 21) : K env 41 l h = outF Tryz.prog [.tmp 4] (C env (bodyOf Tryz.f41) (toL 21 (argF l)) h) := K_bodyF rfl (by kernel_rfl) hl
theorem k42 (l : List NVal) (h : NHeap) (hl : l.length ≤ 20) : K env 42 l h = outF Tryz.prog [.tmp 4] (C env (bodyOf Tryz.f42) (toL 20 (argF l)) h) := K_bodyF rfl (by kernel_rfl) hl
theorem k43 (l : List NVal) (h : NHeap) (hl : l.length ≤ 25) : K env 43 l h = outF Tryz.prog [.tmp 4] (C env (bodyOf Tryz.f43) (toL 25 (argF l)) h) := K_bodyF rfl (by kernel_rfl) hl
theorem k44 (l : List NVal) (h : NHeap) (hl : l.length ≤ 27) : K env 44 l h = outF Tryz.prog [.tmp 2] (C env (bodyOf Tryz.f44) (toL 27 (argF l)) h) := K_bodyF rfl (by kernel_rfl) hl
theorem k45 (l : List NVal) (h : NHeap) (hl : l.length ≤ 19) : K env 45 l h = outF Tryz.prog [.tmp 4, .tmp 5] (C env (bodyOf Tryz.f45) (toL 19 (argF l)) h) := K_bodyF rfl (by kernel_rfl) hl
theorem k46 (l : List NVal) (h : NHeap) (hl : l.length ≤ 14) : K env 46 l h = outF Tryz.prog [.tmp 2] (C env (bodyOf Tryz.f46) (toL 14 (argF l)) h) := K_bodyF rfl (by kernel_rfl) hl
theorem k47 (l : List NVal) (h : NHeap) (hl : l.length ≤ 72) : K env 47 l h = outF Tryz.prog [.tmp 2, .tmp 3] (C env (bodyOf Tryz.f47) (toL 72 (argF l)) h) := K_bodyF rfl (by kernel_rfl) hl
theorem k48 (l : List NVal) (h : NHeap) (hl : l.length ≤ 39) : K env 48 l h = outF Tryz.prog [.tmp 4, .tmp 5] (C env (bodyOf Tryz.f48) (toL 39 (argF l)) h) := K_bodyF rfl (by kernel_rfl) hl
theorem k49 (l : List NVal) (h : NHeap) (hl : l.length ≤ 56) : K env 49 l h = outF Tryz.prog [.tmp 6, .tmp 7] (C env (bodyOf Tryz.f49) (toL 56 (argF l)) h) := K_bodyF rfl (by kernel_rfl) hl
theorem k50 (l : List NVal) (h : NHeap) (hl : l.length ≤ 96) : K env 50 l h = outF Tryz.prog [.tmp 2] (C env (bodyOf Tryz.f50) (toL 96 (argF l)) h) := K_bodyF rfl (by kernel_rfl) hl
theorem k51 (l : List NVal) (h : NHeap) (hl : l.length ≤ 19) : K env 51 l h = outF Tryz.prog [.tmp 4] (C env (bodyOf Tryz.f51) (toL 19 (argF l)) h) := K_bodyF rfl (by kernel_rfl) hl
theorem k52 (l : List NVal) (h : NHeap) (hl : l.length ≤ 33) : K env 52 l h = outF Tryz.prog [.tmp 2] (C env (bodyOf Tryz.f52) (toL 33 (argF l)) h) := K_bodyF rfl (by kernel_rfl) hl
theorem k53 (l : List NVal) (h : NHeap) (hl : l.length ≤ 111) : K env 53 l h = outF Tryz.prog [.cell 6 127] (C env (bodyOf Tryz.f53) (toL 111 (argF l)) h) := K_bodyF rfl (by kernel_rfl) hl
theorem k54 (l : List NVal) (h : NHeap) (hl : l.length ≤ 27) : K env 54 l h = outF Tryz.prog [.tmp 2, .tmp 3, .tmp 4, .tmp 5] (C env (bodyOf Tryz.f54) (toL 27 (argF l)) h) := K_bodyF rfl (by kernel_rfl) hl
theorem k55 (l : List NVal) (h : NHeap) (hl : l.length ≤ 58) : K env 55 l h = outF Tryz.prog [.tmp 6] (C env (bodyOf Tryz.f55) (toL 58 (argF l)) h) := K_bodyF rfl (by kernel_rfl) hl
theorem k56 (l : List NVal) (h : NHeap) (hl : l.length ≤ 84) : K env 56 l h = outF Tryz.prog [.tmp 8] (C env (bodyOf Tryz.f56) (toL 84 (argF l)) h) := K_bodyF rfl (by kernel_rfl) hl
theorem k57 (l : List NVal) (h : NHeap) (hl : l.length ≤ 20) : K env 57 l h = outF Tryz.prog [.tmp 2] (C env (bodyOf Tryz.f57) (toL 20 (argF l)) h) := K_bodyF rfl (by kernel_rfl) hl
theorem k58 (l : List NVal) (h : NHeap) (hl : l.length ≤ 22) : K env 58 l h = outF Tryz.prog [.tmp 4] (C env (bodyOf Tryz.f58) (toL 22 (argF l)) h) := K_bodyF rfl (by kernel_rfl) hl
theorem k59 (l : List NVal) (h : NHeap) (hl : l.length ≤ 119) : K env 59 l h = outF Tryz.prog [.tmp 4] (C env (bodyOf Tryz.f59) (toL 119 (argF l)) h) := K_bodyF rfl (by kernel_rfl) hl
theorem k60 (l : List NVal) (h : NHeap) (hl : l.length ≤ 45) : K env 60 l h = outF Tryz.prog [] (C env (bodyOf Tryz.f60) (toL 45 (argF l)) h) := K_bodyF rfl (by kernel_rfl) hl
theorem k61 (l : List NVal) (h : NHeap) (hl : l.length ≤ 59) : K env 61 l h = outF Tryz.prog [] (C env (bodyOf Tryz.f61) (toL 59 (argF l)) h) := K_bodyF rfl (by kernel_rfl) hl
theorem k62 (l : List NVal) (h : NHeap) (hl : l.length ≤ 36) : K env 62 l h = outF Tryz.prog [.tmp 4, .tmp 5] (C env (bodyOf Tryz.f62) (toL 36 (argF l)) h) := K_bodyF rfl (by kernel_rfl) hl
theorem k63 (l : List NVal) (h : NHeap) (hl : l.length ≤ 14) : K env 63 l h = outF Tryz.prog [.cell 2 130, .tmp 3] (C env (bodyOf Tryz.f63) (toL 14 (argF l)) h) := K_bodyF rfl (by kernel_rfl) hl
theorem k64 (l : List NVal) (h : NHeap) (hl : l.length ≤ 19) : K env 64 l h = outF Tryz.prog [] (C env (bodyOf Tryz.f64) (toL 19 (argF l)) h) := K_bodyF rfl (by kernel_rfl) hl
theorem k65 (l : List NVal) (h : NHeap) (hl : l.length ≤ 7) : K env 65 l h = outF Tryz.prog [.tmp 2] (C env (bodyOf Tryz.f65) (toL 7 (argF l)) h) := K_bodyF rfl (by kernel_rfl) hl
theorem k66 (l : List NVal) (h : NHeap) (hl : l.length ≤ 14) : K env 66 l h = outF Tryz.prog [.cell 2 53, .tmp 3] (C env (bodyOf Tryz.f66) (toL 14 (argF l)) h) := K_bodyF rfl (by kernel_rfl) hl
theorem k67 (l : List NVal) (h : NHeap) (hl : l.length ≤ 45) : K env 67 l h = outF Tryz.prog [.tmp 4, .tmp 5] (C env (bodyOf Tryz.f67) (toL 45 (argF l)) h) := K_bodyF rfl (by kernel_rfl) hl
theorem k68 (l : List NVal) (h : NHeap) (hl : l.length ≤ 14) : K env 68 l h = outF Tryz.prog [.cell 2 130, .tmp 3] (C env (bodyOf Tryz.f68) (toL 14 (argF l)) h) := K_bodyF rfl (by kernel_rfl) hl
theorem k69 (l : List NVal) (h : NHeap) (hl : l.length ≤ 19) : K env 69 l h = outF Tryz.prog [] (C env (bodyOf Tryz.f69) (toL 19 (argF l)) h) := K_bodyF rfl (by kernel_rfl) hl
theorem k70 (l : List NVal) (h : NHeap) (hl : l.length ≤ 7) : K env 70 l h = outF Tryz.prog [.tmp 2] (C env (bodyOf Tryz.f70) (toL 7 (argF l)) h) := K_bodyF rfl (by kernel_rfl) hl
theorem k71 (l : List NVal) (h : NHeap) (hl : l.length ≤ 20) : K env 71 l h = outF Tryz.prog [.cell 2 53, .tmp 3] (C env (bodyOf Tryz.f71) (toL 20 (argF l)) h) := K_bodyF rfl (by kernel_rfl) hl
theorem k72 (l : List NVal) (h : NHeap) (hl : l.length ≤ 50) : K env 72 l h = outF Tryz.prog [.tmp 6, .tmp 7] (C env (bodyOf Tryz.f72) (toL 50 (argF l)) h) := K_bodyF rfl (by kernel_rfl) hl
theorem k73 (l : List NVal) (h : NHeap) (hl : l.length ≤ 20) : K env 73 l h = outF Tryz.prog [.cell 2 130, .tmp 3] (C env (bodyOf Tryz.f73) (toL 20 (argF l)) h) := K_bodyF rfl (by kernel_rfl) hl
theorem k74 (l : List NVal) (h : NHeap) (hl : l.length ≤ 19) : K env 74 l h = outF Tryz.prog [] (C env (bodyOf Tryz.f74) (toL 19 (argF l)) h) := K_bodyF rfl (by kernel_rfl) hl
theorem k75 (l : List NVal) (h : NHeap) (hl : l.length ≤ 7) : K env 75 l h = outF Tryz.prog [.tmp 2] (C env (bodyOf Tryz.f75) (toL 7 (argF l)) h) := K_bodyF rfl (by kernel_rfl) hl
theorem k76 (l : List NVal) (h : NHeap) (hl : l.length ≤ 14) : K env 76 l h = outF Tryz.prog [.cell 2 53, .tmp 3] (C env (bodyOf Tryz.f76) (toL 14 (argF l)) h) := K_bodyF rfl (by kernel_rfl) hl
theorem k77 (l : List NVal) (h : NHeap) (hl : l.length ≤ 43) : K env 77 l h = outF Tryz.prog [.tmp 6, .tmp 7] (C env (bodyOf Tryz.f77) (toL 43 (argF l)) h) := K_bodyF rfl (by kernel_rfl) hl
theorem k78 (l : List NVal) (h : NHeap) (hl : l.length ≤ 20) : K env 78 l h = outF Tryz.prog [.cell 2 130, .tmp 3] (C env (bodyOf Tryz.f78) (toL 20 (argF l)) h) := K_bodyF rfl (by kernel_rfl) hl
theorem k79 (l : List NVal) (h : NHeap) (hl : l.length ≤ 19) : K env 79 l h = outF Tryz.prog [] (C env (bodyOf Tryz.f79) (toL 19 (argF l)) h) := K_bodyF rfl (by kernel_rfl) hl
theorem k80 (l : List NVal) (h : NHeap) (hl : l.length ≤ 7) : K env 80 l h = outF Tryz.prog [.tmp 2] (C env (bodyOf Tryz.f80) (toL 7 (argF l)) h) := K_bodyF rfl (by kernel_rfl) hl
theorem k81 (l : List NVal) (h : NHeap) (hl : l.length ≤ 14) : K env 81 l h = outF Tryz.prog [.cell 2 53, .tmp 3] (C env (bodyOf Tryz.f81) (toL 14 (argF l)) h) := K_bodyF rfl (by kernel_rfl) hl
theorem k82 (l : List NVal) (h : NHeap) (hl : l.length ≤ 25) : K env 82 l h = outF Tryz.prog [.tmp 4, .tmp 5] (C env (bodyOf Tryz.f82) (toL 25 (argF l)) h) := K_bodyF rfl (by kernel_rfl) hl
theorem k83 (l : List NVal) (h : NHeap) (hl : l.length ≤ 14) : K env 83 l h = outF Tryz.prog [.cell 2 130, .tmp 3] (C env (bodyOf Tryz.f83) (toL 14 (argF l)) h) := K_bodyF rfl (by kernel_rfl) hl
theorem k84 (l : List NVal) (h : NHeap) (hl : l.length ≤ 19) : K env 84 l h = outF Tryz.prog [] (C env (bodyOf Tryz.f84) (toL 19 (argF l)) h) := K_bodyF rfl (by kernel_rfl) hl
theorem k85 (l : List NVal) (h : NHeap) (hl : l.length ≤ 7) : K env 85 l h = outF Tryz.prog [.tmp 2] (C env (bodyOf Tryz.f85) (toL 7 (argF l)) h) := K_bodyF rfl (by kernel_rfl) hl
theorem k86 (l : List NVal) (h : NHeap) (hl : l.length ≤ 10) : K env 86 l h = outF Tryz.prog [.cell 2 53, .tmp 3] (C env (bodyOf Tryz.f86) (toL 10 (argF l)) h) := K_bodyF rfl (by kernel_rfl) hl
theorem k87 (l : List NVal) (h : NHeap) (hl : l.length ≤ 8) : K env 87 l h = outF Tryz.prog [.tmp 4] (C env (bodyOf Tryz.f87) (toL 8 (argF l)) h) := K_bodyF rfl (by kernel_rfl) hl
theorem k88 (l : List NVal) (h : NHeap) (hl : l.length ≤ 5) : K env 88 l h = outF Tryz.prog [.tmp 2] (C env (bodyOf Tryz.f88) (toL 5 (argF l)) h) := K_bodyF rfl (by kernel_rfl) hl
theorem k89 (l : List NVal) (h : NHeap) (hl : l.length ≤ 9) : K env 89 l h = outF Tryz.prog [.tmp 2] (C env (bodyOf Tryz.f89) (toL 9 (argF l)) h) := K_bodyF rfl (by kernel_rfl) hl
theorem k90 (l : List NVal) (h : NHeap) (hl : l.length ≤ 16) : K env 90 l h = outF Tryz.prog [.tmp 2] (C env (bodyOf Tryz.f90) (toL 16 (argF l)) h) := K_bodyF rfl (by kernel_rfl) hl
theorem k91 (l : List NVal) (h : NHeap) (hl : l.length ≤ 8) : K env 91 l h = outF Tryz.prog [.tmp 2] (C env (bodyOf Tryz.f91) (toL 8 (argF l)) h) := K_bodyF rfl (by kernel_rfl) hl
theorem k92 (l : List NVal) (h : NHeap) (hl : l.length ≤ 8) : K env 92 l h = outF Tryz.prog [.cell 2 53] (C env (bodyOf Tryz.f92) (toL 8 (argF l)) h) := K_bodyF rfl (by kernel_rfl) hl
theorem k93 (l : List NVal) (h : NHeap) (hl : l.length ≤ 20) : K env 93 l h = outF Tryz.prog [] (C env (bodyOf Tryz.f93) (toL 20 (argF l)) h) := K_bodyF rfl (by kernel_rfl) hl
theorem k94 (l : List NVal) (h : NHeap) (hl : l.length ≤ 14) : K env 94 l h = outF Tryz.prog [.tmp 2, .tmp 3] (C env (bodyOf Tryz.f94) (toL 14 (argF l)) h) := K_bodyF rfl (by kernel_rfl) hl
theorem k95 (l : List NVal) (h : NHeap) (hl : l.length ≤ 33) : K env 95 l h = outF Tryz.prog [.tmp 4] (C env (bodyOf Tryz.f95) (toL 33 (argF l)) h) := K_bodyF rfl (by kernel_rfl) hl
theorem k96 (l : List NVal) (h : NHeap) (hl : l.length ≤ 7) : K env 96 l h = outF Tryz.prog [.tmp 2] (C env (bodyOf Tryz.f96) (toL 7 (argF l)) h) := K_bodyF rfl (by kernel_rfl) hl
theorem k97 (l : List NVal) (h : NHeap) (hl : l.length ≤ 14) : K env 97 l h = outF Tryz.prog [.tmp 2] (C env (bodyOf Tryz.f97) (toL 14 (argF l)) h) := K_bodyF rfl (by kernel_rfl) hl
theorem k98 (l : List NVal) (h : NHeap) (hl : l.length ≤ 27) : K env 98 l h = outF Tryz.prog [.tmp 2, .tmp 3] (C env (bodyOf Tryz.f98) (toL 27 (argF l)) h) := K_bodyF rfl (by kernel_rfl) hl
theorem k99 (l : List NVal) (h : NHeap) (hl : l.length ≤ 19) : K env 99 l h = outF Tryz.prog [] (C env (bodyOf Tryz.f99) (toL 19 (argF l)) h) := K_bodyF rfl (by kernel_rfl) hl
theorem k100 (l : List NVal) (h : NHeap) (hl : l.length ≤ 30) : K env 100 l h = outF Tryz.prog [.tmp 6] (C env (bodyOf Tryz.f100) (toL 30 (argF l)) h) := K_bodyF rfl (by kernel_rfl) hl
theorem k101 (l : List NVal) (h : NHeap) (hl : l.length ≤ 74) : K env 101 l h = outF Tryz.prog [.tmp 2] (C env (bodyOf Tryz.f101) (toL 74 (argF l)) h) := K_bodyF rfl (by kernel_rfl) hl
theorem k102 (l : List NVal) (h : NHeap) (hl : l.length ≤ 32) : K env 102 l h = outF Tryz.prog [.tmp 2] (C env (bodyOf Tryz.f102) (toL 32 (argF l)) h) := K_bodyF rfl (by kernel_rfl) hl
theorem k103 (l : List NVal) (h : NHeap) (hl : l.length ≤ 30) : K env 103 l h = outF Tryz.prog [.tmp 2] (C env (bodyOf Tryz.f103) (toL 30 (argF l)) h) := K_bodyF rfl (by kernel_rfl) hl
theorem k104 (l : List NVal) (h : NHeap) (hl : l.length ≤ 87) : K env 104 l h = outF Tryz.prog [.cell 4 127] (C env (bodyOf Tryz.f104) (toL 87 (argF l)) h) := K_bodyF rfl (by kernel_rfl) hl
theorem k105 (l : List NVal) (h : NHeap) (hl : l.length ≤ 53) : K env 105 l h = outF Tryz.prog [.tmp 6] (C env (bodyOf Tryz.f105) (toL 53 (argF l)) h) := K_bodyF rfl (by kernel_rfl) hl
theorem k106 (l : List NVal) (h : NHeap) (hl : l.length ≤ 7) : K env 106 l h = outF Tryz.prog [.tmp 2] (C env (bodyOf Tryz.f106) (toL 7 (argF l)) h) := K_bodyF rfl (by kernel_rfl) hl
theorem k107 (l : List NVal) (h : NHeap) (hl : l.length ≤ 29) : K env 107 l h = outF Tryz.prog [.tmp 6] (C env (bodyOf Tryz.f107) (toL 29 (argF l)) h) := K_bodyF rfl (by kernel_rfl) hl
theorem k108 (l : List NVal) (h : NHeap) (hl : l.length ≤ 14) : K env 108 l h = outF Tryz.prog [.tmp 4] (C env (bodyOf Tryz.f108) (toL 14 (argF l)) h) := K_bodyF rfl (by kernel_rfl) hl
theorem k109 (l : List NVal) (h : NHeap) (hl : l.length ≤ 15) : K env 109 l h = outF Tryz.prog [.tmp 4] (C env (bodyOf Tryz.f109) (toL 15 (argF l)) h) := K_bodyF rfl (by kernel_rfl) hl
theorem k110 (l : List NVal) (h : NHeap) (hl : l.length ≤ 25) : K env 110 l h = outF Tryz.prog [.tmp 4] (C env (bodyOf Tryz.f110) (toL 25 (argF l)) h) := K_bodyF rfl (by kernel_rfl) hl
theorem k111 (l : List NVal) (h : NHeap) (hl : l.length ≤ 32) : K env 111 l h = outF Tryz.prog [.cell 4 127] (C env (bodyOf Tryz.f111) (toL 32 (argF l)) h) := K_bodyF rfl (by kernel_rfl) hl
theorem k112 (l : List NVal) (h : NHeap) (hl : l.length ≤ 46) : K env 112 l h = outF Tryz.prog [.cell 6 127] (C env (bodyOf Tryz.f112) (toL 46 (argF l)) h) := K_bodyF rfl (by kernel_rfl) hl
theorem k113 (l : List NVal) (h : NHeap) (hl : l.length ≤ 41) : K env 113 l h = outF Tryz.prog [.cell 2 190, .tmp 3] (C env (bodyOf Tryz.f113) (toL 41 (argF l)) h) := K_bodyF rfl (by kernel_rfl) hl
theorem k114 (l : List NVal) (h : NHeap) (hl : l.length ≤ 19) : K env 114 l h = outF Tryz.prog [.tmp 2, .tmp 3] (C env (bodyOf Tryz.f114) (toL 19 (argF l)) h) := K_bodyF rfl (by kernel_rfl) hl
theorem k115 (l : List NVal) (h : NHeap) (hl : l.length ≤ 8) : K env 115 l h = outF Tryz.prog [.tmp 4] (C env (bodyOf Tryz.f115) (toL 8 (argF l)) h) := K_bodyF rfl (by kernel_rfl) hl
theorem k116 (l : List NVal) (h : NHeap) (hl : l.length ≤ 9) : K env 116 l h = outF Tryz.prog [.tmp 2] (C env (bodyOf Tryz.f116) (toL 9 (argF l)) h) := K_bodyF rfl (by kernel_rfl) hl
theorem k117 (l : List NVal) (h : NHeap) (hl : l.length ≤ 108) : K env 117 l h = outF Tryz.prog [.cell 2 122, .tmp 3] (C env (bodyOf Tryz.f117) (toL 108 (argF l)) h) := K_bodyF rfl (by kernel_rfl) hl
theorem k118 (l : List NVal) (h : NHeap) (hl : l.length ≤ 6) : K env 118 l h = outF Tryz.prog [.tmp 2] (C env (bodyOf Tryz.f118) (toL 6 (argF l)) h) := K_bodyF rfl (by kernel_rfl) hl
theorem k119 (l : List NVal) (h : NHeap) (hl : l.length ≤ 12) : K env 119 l h = outF Tryz.prog [.tmp 2] (C env (bodyOf Tryz.f119) (toL 12 (argF l)) h) := K_bodyF rfl (by kernel_rfl) hl
theorem k120 (l : List NVal) (h : NHeap) (hl : l.length ≤ 18) : K env 120 l h = outF Tryz.prog [.tmp 4] (C env (bodyOf Tryz.f120) (toL 18 (argF l)) h) := K_bodyF rfl (by kernel_rfl) hl
theorem k121 (l : List NVal) (h : NHeap) (hl : l.length ≤ 11) : K env 121 l h = outF Tryz.prog [.tmp 4] (C env (bodyOf Tryz.f121) (toL 11 (argF l)) h) := K_bodyF rfl (by kernel_rfl) hl
theorem k122 (l : List NVal) (h : NHeap) (hl : l.length ≤ 8) : K env 122 l h = outF Tryz.prog [.tmp 2] (C env (bodyOf Tryz.f122) (toL 8 (argF l)) h) := K_bodyF rfl (by kernel_rfl) hl
theorem k123 (l : List NVal) (h : NHeap) (hl : l.length ≤ 14) : K env 123 l h = outF Tryz.prog [] (C env (bodyOf Tryz.f123) (toL 14 (argF l)) h) := K_bodyF rfl (by kernel_rfl) hl
theorem k124 (l : List NVal) (h : NHeap) (hl : l.length ≤ 9) : K env 124 l h = outF Tryz.prog [] (C env (bodyOf Tryz.f124) (toL 9 (argF l)) h) := K_bodyF rfl (by kernel_rfl) hl
theorem k125 (l : List NVal) (h : NHeap) (hl : l.length ≤ 14) : K env 125 l h = outF Tryz.prog [] (C env (bodyOf Tryz.f125) (toL 14 (argF l)) h) := K_bodyF rfl (by kernel_rfl) hl
theorem k126 (l : List NVal) (h : NHeap) (hl : l.length ≤ 9) : K env 126 l h = outF Tryz.prog [] (C env (bodyOf Tryz.f126) (toL 9 (argF l)) h) := K_bodyF rfl (by kernel_rfl) hl
theorem k127 (l : List NVal) (h : NHeap) (hl : l.length ≤ 8) : K env 127 l h = outF Tryz.prog [.tmp 2] (C env (bodyOf Tryz.f127) (toL 8 (argF l)) h) := K_bodyF rfl (by kernel_rfl) hl
theorem k128 (l : List NVal) (h : NHeap) (hl : l.length ≤ 14) : K env 128 l h = outF Tryz.prog [] (C env (bodyOf Tryz.f128) (toL 14 (argF l)) h) := K_bodyF rfl (by kernel_rfl) hl
theorem k129 (l : List NVal) (h : NHeap) (hl : l.length ≤ 9) : K env 129 l h = outF Tryz.prog [] (C env (bodyOf Tryz.f129) (toL 9 (argF l)) h) := K_bodyF rfl (by kernel_rfl) hl
theorem k130 (l : List NVal) (h : NHeap) (hl : l.length ≤ 8) : K env 130 l h = outF Tryz.prog [.tmp 2] (C env (bodyOf Tryz.f130) (toL 8 (argF l)) h) := K_bodyF rfl (by kernel_rfl) hl
theorem k131 (l : List NVal) (h : NHeap) (hl : l.length ≤ 14) : K env 131 l h = outF Tryz.prog [] (C env (bodyOf Tryz.f131) (toL 14 (argF l)) h) := K_bodyF rfl (by kernel_rfl) hl
theorem k132 (l : List NVal) (h : NHeap) (hl : l.length ≤ 9) : K env 132 l h = outF Tryz.prog [] (C env (bodyOf Tryz.f132) (toL 9 (argF l)) h) := K_bodyF rfl (by kernel_rfl) hl
theorem k133 (l : List NVal) (h : NHeap) (hl : l.length ≤ 14) : K env 133 l h = outF Tryz.prog [] (C env (bodyOf Tryz.f133) (toL 14 (argF l)) h) := K_bodyF rfl (by kernel_rfl) hl
theorem k134 (l : List NVal) (h : NHeap) (hl : l.length ≤ 12) : K env 134 l h = outF Tryz.prog [] (C env (bodyOf Tryz.f134) (toL 12 (argF l)) h) := K_bodyF rfl (by kernel_rfl) hl
theorem k136 (l : List NVal) (h : NHeap) (hl : l.length ≤ 54) : K env 136 l h = outF Tryz.prog [.tmp 4] (C env (bodyOf Tryz.f136) (toL 54 (argF l)) h) := K_bodyF rfl (by kernel_rfl) hl
theorem k137 (l : List NVal) (h : NHeap) (hl : l.length ≤ 9) : K env 137 l h = outF Tryz.prog [.tmp 4] (C env (bodyOf Tryz.f137) (toL 9 (argF l)) h) := K_bodyF rfl (by kernel_rfl) hl
theorem k138 (l : List NVal) (h : NHeap) (hl : l.length ≤ 13) : K env 138 l h = outF Tryz.prog [.tmp 2] (C env (bodyOf Tryz.f138) (toL 13 (argF l)) h) := K_bodyF rfl (by kernel_rfl) hl
theorem k139 (l : List NVal) (h : NHeap) (hl : l.length ≤ 7) : K env 139 l h = outF Tryz.prog [.cell 2 24] (C env (bodyOf Tryz.f139) (toL 7 (argF l)) h) := K_bodyF rfl (by kernel_rfl) hl
theorem k141 (l : List NVal) (h : NHeap) (hl : l.length ≤ 17) : K env 141 l h = outF Tryz.prog [.tmp 4] (C env (bodyOf Tryz.f141) (toL 17 (argF l)) h) := K_bodyF rfl (by kernel_rfl) hl
theorem k142 (l : List NVal) (h : NHeap) (hl : l.length ≤ 12) : K env 142 l h = outF Tryz.prog [] (C env (bodyOf Tryz.f142) (toL 12 (argF l)) h) := K_bodyF rfl (by kernel_rfl) hl
theorem k143 (l : List NVal) (h : NHeap) (hl : l.length ≤ 48) : K env 143 l h = outF Tryz.prog [.tmp 4] (C env (bodyOf Tryz.f143) (toL 48 (argF l)) h) := K_bodyF rfl (by kernel_rfl) hl
theorem k144 (l : List NVal) (h : NHeap) (hl : l.length ≤ 15) : K env 144 l h = outF Tryz.prog [.tmp 2] (C env (bodyOf Tryz.f144) (toL 15 (argF l)) h) := K_bodyF rfl (by kernel_rfl) hl
theorem k145 (l : List NVal) (h : NHeap) (hl : l.length ≤ 12) : K env 145 l h = outF Tryz.prog [.tmp 2] (C env (bodyOf Tryz.f145) (toL 12 (argF l)) h) := K_bodyF rfl (by kernel_rfl) hl
theorem k146 (l : List NVal) (h : NHeap) (hl : l.length ≤ 6) : K env 146 l h = outF Tryz.prog [.tmp 2] (C env (bodyOf Tryz.f146) (toL 6 (argF l)) h) := K_bodyF rfl (by kernel_rfl) hl
theorem k147 (l : List NVal) (h : NHeap) (hl : l.length ≤ 15) : K env 147 l h = outF Tryz.prog [.tmp 2] (C env (bodyOf Tryz.f147) (toL 15 (argF l)) h) := K_bodyF rfl (by kernel_rfl) hl
theorem k148 (l : List NVal) (h : NHeap) (hl : l.length ≤ 9) : K env 148 l h = outF Tryz.prog [.tmp 2] (C env (bodyOf Tryz.f148) (toL 9 (argF l)) h) := K_bodyF rfl (by kernel_rfl) hl
theorem k149 (l : List NVal) (h : NHeap) (hl : l.length ≤ 22) : K env 149 l h = outF Tryz.prog [.tmp 4, .tmp 5] (C env (bodyOf Tryz.f149) (toL 22 (argF l)) h) := K_bodyF rfl (by kernel_rfl) hl
theorem k150 (l : List NVal) (h : NHeap) (hl : l.length ≤ 40) : K env 150 l h = outF Tryz.prog [.tmp 8, .tmp 9] (C env (bodyOf Tryz.f150) (toL 40 (argF l)) h) := K_bodyF rfl (by kernel_rfl) hl
theorem k151 (l : List NVal) (h : NHeap) (hl : l.length ≤ 29) : K env 151 l h = outF Tryz.prog [.tmp 6] (C env (bodyOf Tryz.f151) (toL 29 (argF l)) h) := K_bodyF rfl (by kernel_rfl) hl
theorem k152 (l : List NVal) (h : NHeap) (hl : l.length ≤ 61) : K env 152 l h = outF Tryz.prog [.tmp 4] (C env (bodyOf Tryz.f152) (toL 61 (argF l)) h) := K_bodyF rfl (by kernel_rfl) hl
theorem k153 (l : List NVal) (h : NHeap) (hl : l.length ≤ 22) : K env 153 l h = outF Tryz.prog [.tmp 4] (C env (bodyOf Tryz.f153) (toL 22 (argF l)) h) := K_bodyF rfl (by kernel_rfl) hl
theorem k154 (l : List NVal) (h : NHeap) (hl : l.length ≤ 53) : K env 154 l h = outF Tryz.prog [.tmp 4, .tmp 5] (C env (bodyOf Tryz.f154) (toL 53 (argF l)) h) := K_bodyF rfl (by kernel_rfl) hl
theorem k155 (l : List NVal) (h : NHeap) (hl : l.length ≤ 60) : K env 155 l h = outF Tryz.prog [.tmp 4, .tmp 5] (C env (bodyOf Tryz.f155) (toL 60 (argF l)) h) := K_bodyF rfl (by kernel_rfl) hl
theorem k156 (l : List NVal) (h : NHeap) (hl : l.length ≤ 26) : K env 156 l h = outF Tryz.prog [.tmp 4] (C env (bodyOf Tryz.f156) (toL 26 (argF l)) h) := K_bodyF rfl (by kernel_rfl) hl
theorem k157 (l : List NVal) (h : NHeap) (hl : l.length ≤ 28) : K env 157 l h = outF Tryz.prog [.tmp 2] (C env (bodyOf Tryz.f157) (toL 28 (argF l)) h) := K_bodyF rfl (by kernel_rfl) hl
theorem k158 (l : List NVal) (h : NHeap) (hl : l.length ≤ 11) : K env 158 l h = outF Tryz.prog [.tmp 4, .tmp 5] (C env (bodyOf Tryz.f158) (toL 11 (argF l)) h) := K_bodyF rfl (by kernel_rfl) hl
theorem k159 (l : List NVal) (h : NHeap) (hl : l.length ≤ 18) : K env 159 l h = outF Tryz.prog [.tmp 4] (C env (bodyOf Tryz.f159) (toL 18 (argF l)) h) := K_bodyF rfl (by kernel_rfl) hl
theorem k160 (l : List NVal) (h : NHeap) (hl : l.length ≤ 87) : K env 160 l h = outF Tryz.prog [.tmp 6, .tmp 7] (C env (bodyOf Tryz.f160) (toL 87 (argF l)) h) := K_bodyF rfl (by kernel_rfl) hl
theorem k161 (l : List NVal) (h : NHeap) (hl : l.length ≤ 23) : K env 161 l h = outF Tryz.prog [.tmp 6] (C env (bodyOf Tryz.f161) (toL 23 (argF l)) h) := K_bodyF rfl (by kernel_rfl) hl
theorem k162 (l : List NVal) (h : NHeap) (hl : l.length ≤ 8) : K env 162 l h = outF Tryz.prog [.tmp 2] (C env (bodyOf Tryz.f162) (toL 8 (argF l)) h) := K_bodyF rfl (by kernel_rfl) hl
theorem k163 (l : List NVal) (h : NHeap) (hl : l.length ≤ 16) : K env 163 l h = outF Tryz.prog [.tmp 4] (C env (bodyOf Tryz.f163) (toL 16 (argF l)) h) := K_bodyF rfl (by kernel_rfl) hl
theorem k164 (l : List NVal) (h : NHeap) (hl : l.length ≤ 6) : K env 164 l h = outF Tryz.prog [] (C env (bodyOf Tryz.f164) (toL 6 (argF l)) h) := K_bodyF rfl (by kernel_rfl) hl
theorem k165 (l : List NVal) (h : NHeap) (hl : l.length ≤ 6) : K env 165 l h = outF Tryz.prog [] (C env (bodyOf Tryz.f165) (toL 6 (argF l)) h) := K_bodyF rfl (by kernel_rfl) hl
theorem k166 (l : List NVal) (h : NHeap) (hl : l.length ≤ 6) : K env 166 l h = outF Tryz.prog [] (C env (bodyOf Tryz.f166) (toL 6 (argF l)) h) := K_bodyF rfl (by kernel_rfl) hl
theorem k167 (l : List NVal) (h : NHeap) (hl : l.length ≤ 6) : K env 167 l h = outF Tryz.prog [] (C env (bodyOf Tryz.f167) (toL 6 (argF l)) h) := K_bodyF rfl (by kernel_rfl) hl
theorem k168 (l : List NVal) (h : NHeap) (hl : l.length ≤ 44) : K env 168 l h = outF Tryz.prog [] (C env (bodyOf Tryz.f168) (toL 44 (argF l)) h) := K_bodyF rfl (by kernel_rfl) hl
theorem k169 (l : List NVal) (h : NHeap) (hl : l.length ≤ 15) : K env 169 l h = outF Tryz.prog [.tmp 2] (C env (bodyOf Tryz.f169) (toL 15 (argF l)) h) := K_bodyF rfl (by kernel_rfl) hl
theorem k170 (l : List NVal) (h : NHeap) (hl : l.length ≤ 15) : K env 170 l h = outF Tryz.prog [.tmp 2] (C env (bodyOf Tryz.f170) (toL 15 (argF l)) h) := K_bodyF rfl (by kernel_rfl) hl
theorem k171 (l : List NVal) (h : NHeap) (hl : l.length ≤ 167) : K env 171 l h = outF Tryz.prog [] (C env (bodyOf Tryz.f171) (toL 167 (argF l)) h) := K_bodyF rfl (by kernel_rfl) hl
theorem k172 (l : List NVal) (h : NHeap) (hl : l.length ≤ 102) : K env 172 l h = outF Tryz.prog [.tmp 10, .tmp 11] (C env (bodyOf Tryz.f172) (toL 102 (argF l)) h) := K_bodyF rfl (by kernel_rfl) hl
theorem k173 (l : List NVal) (h : NHeap) (hl : l.length ≤ 19) : K env 173 l h = outF Tryz.prog [.tmp 4] (C env (bodyOf Tryz.f173) (toL 19 (argF l)) h) := K_bodyF rfl (by kernel_rfl) hl
theorem k174 (l : List NVal) (h : NHeap) (hl : l.length ≤ 23) : K env 174 l h = outF Tryz.prog [] (C env (bodyOf Tryz.f174) (toL 23 (argF l)) h) := K_bodyF rfl (by kernel_rfl) hl
theorem k175 (l : List NVal) (h : NHeap) (hl : l.length ≤ 30) : K env 175 l h = outF Tryz.prog [.tmp 4, .tmp 5] (C env (bodyOf Tryz.f175) (toL 30 (argF l)) h) := K_bodyF rfl (by kernel_rfl) hl
theorem k176 (l : List NVal) (h : NHeap) (hl : l.length ≤ 48) : K env 176 l h = outF Tryz.prog [.tmp 6] (C env (bodyOf Tryz.f176) (toL 48 (argF l)) h) := K_bodyF rfl (by kernel_rfl) hl
theorem k177 (l : List NVal) (h : NHeap) (hl : l.length ≤ 60) : K env 177 l h = outF Tryz.prog [.tmp 4, .tmp 5] (C env (bodyOf Tryz.f177) (toL 60 (argF l)) h) := K_bodyF rfl (by kernel_rfl) hl
theorem k178 (l : List NVal) (h : NHeap) (hl : l.length ≤ 8) : K env 178 l h = outF Tryz.prog [.tmp 2] (C env (bodyOf Tryz.f178) (toL 8 (argF l)) h) := K_bodyF rfl (by kernel_rfl) hl
theorem k179 (l : List NVal) (h : NHeap) (hl : l.length ≤ 22) : K env 179 l h = outF Tryz.prog [.tmp 2] (C env (bodyOf Tryz.f179) (toL 22 (argF l)) h) := K_bodyF rfl (by kernel_rfl) hl
theorem k180 (l : List NVal) (h : NHeap) (hl : l.length ≤ 18) : K env 180 l h = outF Tryz.prog [.tmp 4, .tmp 5] (C env (bodyOf Tryz.f180) (toL 18 (argF l)) h) := K_bodyF rfl (by kernel_rfl) hl
theorem k181 (l : List NVal) (h : NHeap) (hl : l.length ≤ 15) : K env 181 l h = outF Tryz.prog [] (C env (bodyOf Tryz.f181) (toL 15 (argF l)) h) := K_bodyF rfl (by kernel_rfl) hl
theorem k182 (l : List NVal) (h : NHeap) (hl : l.length ≤ 15) : K env 182 l h = outF Tryz.prog [] (C env (bodyOf Tryz.f182) (toL 15 (argF l)) h) := K_bodyF rfl (by kernel_rfl) hl
theorem k183 (l : List NVal) (h : NHeap) (hl : l.length ≤ 38) : K env 183 l h = outF Tryz.prog [] (C env (bodyOf Tryz.f183) (toL 38 (argF l)) h) := K_bodyF rfl (by kernel_rfl) hl
theorem k184 (l : List NVal) (h : NHeap) (hl : l.length ≤ 38) : K env 184 l h = outF Tryz.prog [] (C env (bodyOf Tryz.f184) (toL 38 (argF l)) h) := K_bodyF rfl (by kernel_rfl) hl
theorem k185 (l : List NVal) (h : NHeap) (hl : l.length ≤ 5) : K env 185 l h = outF Tryz.prog [] (C env (bodyOf Tryz.f185) (toL 5 (argF l)) h) := K_bodyF rfl (by kernel_rfl) hl
theorem k186 (l : List NVal) (h : NHeap) (hl : l.length ≤ 6) : K env 186 l h = outF Tryz.prog [] (C env (bodyOf Tryz.f186) (toL 6 (argF l)) h) := K_bodyF rfl (by kernel_rfl) hl
theorem k187 (l : List NVal) (h : NHeap) (hl : l.length ≤ 6) : K env 187 l h = outF Tryz.prog [.tmp 2] (C env (bodyOf Tryz.f187) (toL 6 (argF l)) h) := K_bodyF rfl (by kernel_rfl) hl
theorem k188 (l : List NVal) (h : NHeap) (hl : l.length ≤ 25) : K env 188 l h = outF Tryz.prog [.tmp 2] (C env (bodyOf Tryz.f188) (toL 25 (argF l)) h) := K_bodyF rfl (by kernel_rfl) hl
theorem k189 (l : List NVal) (h : NHeap) (hl : l.length ≤ 4) : K env 189 l h = outF Tryz.prog [.tmp 2] (C env (bodyOf Tryz.f189) (toL 4 (argF l)) h) := K_bodyF rfl (by kernel_rfl) hl
theorem k190 (l : List NVal) (h : NHeap) (hl : l.length ≤ 8) : K env 190 l h = outF Tryz.prog [.tmp 2] (C env (bodyOf Tryz.f190) (toL 8 (argF l)) h) := K_bodyF rfl (by kernel_rfl) hl
theorem k191 (l : List NVal) (h : NHeap) (hl : l.length ≤ 8) : K env 191 l h = outF Tryz.prog [.tmp 2] (C env (bodyOf Tryz.f191) (toL 8 (argF l)) h) := K_bodyF rfl (by kernel_rfl) hl
theorem k192 (l : List NVal) (h : NHeap) (hl : l.length ≤ 17) : K env 192 l h = outF Tryz.prog [.tmp 4, .tmp 5] (C env (bodyOf Tryz.f192) (toL 17 (argF l)) h) := K_bodyF rfl (by kernel_rfl) hl
theorem k193 (l : List NVal) (h : NHeap) (hl : l.length ≤ 51) : K env 193 l h = outF Tryz.prog [.tmp 4, .tmp 5] (C env (bodyOf Tryz.f193) (toL 51 (argF l)) h) := K_bodyF rfl (by kernel_rfl) hl
theorem k194 (l : List NVal) (h : NHeap) (hl : l.length ≤ 21) : K env 194 l h = outF Tryz.prog [.tmp 4] (C env (bodyOf Tryz.f194) (toL 21 (argF l)) h) := K_bodyF rfl (by kernel_rfl) hl
theorem k195 (l : List NVal) (h : NHeap) (hl : l.length ≤ 15) : K env 195 l h = outF Tryz.prog [] (C env (bodyOf Tryz.f195) (toL 15 (argF l)) h) := K_bodyF rfl (by kernel_rfl) hl
theorem k196 (l : List NVal) (h : NHeap) (hl : l.length ≤ 38) : K env 196 l h = outF Tryz.prog [] (C env (bodyOf Tryz.f196) (toL 38 (argF l)) h) := K_bodyF rfl (by kernel_rfl) hl
theorem k197 (l : List NVal) (h : NHeap) (hl : l.length ≤ 55) : K env 197 l h = outF Tryz.prog [] (C env (bodyOf Tryz.f197) (toL 55 (argF l)) h) := K_bodyF rfl (by kernel_rfl) hl
theorem k198 (l : List NVal) (h : NHeap) (hl : l.length ≤ 19) : K env 198 l h = outF Tryz.prog [] (C env (bodyOf Tryz.f198) (toL 19 (argF l)) h) := K_bodyF rfl (by kernel_rfl) hl
theorem k199 (l : List NVal) (h : NHeap) (hl : l.length ≤ 11) : K env 199 l h = outF Tryz.prog [] (C env (bodyOf Tryz.f199) (toL 11 (argF l)) h) := K_bodyF rfl (by kernel_rfl) hl
theorem k200 (l : List NVal) (h : NHeap) (hl : l.length ≤ 9) : K env 200 l h = outF Tryz.prog [] (C env (bodyOf Tryz.f200) (toL 9 (argF l)) h) := K_bodyF rfl (by kernel_rfl) hl
theorem k201 (l : List NVal) (h : NHeap) (hl : l.length ≤ 19) : K env 201 l h = outF Tryz.prog [] (C env (bodyOf Tryz.f201) (toL 19 (argF l)) h) := K_bodyF rfl (by kernel_rfl) hl
theorem k202 (l : List NVal) (h : NHeap) (hl : l.length ≤ 11) : K env 202 l h = outF Tryz.prog [] (C env (bodyOf Tryz.f202) (toL 11 (argF l)) h) := K_bodyF rfl (by kernel_rfl) hl
theorem k203 (l : List NVal) (h : NHeap) (hl : l.length ≤ 9) : K env 203 l h = outF Tryz.prog [] (C env (bodyOf Tryz.f203) (toL 9 (argF l)) h) := K_bodyF rfl (by kernel_rfl) hl
theorem k204 (l : List NVal) (h : NHeap) (hl : l.length ≤ 12) : K env 204 l h = outF Tryz.prog [] (C env (bodyOf Tryz.f204) (toL 12 (argF l)) h) := K_bodyF rfl (by kernel_rfl) hl
theorem k205 (l : List NVal) (h : NHeap) (hl : l.length ≤ 14) : K env 205 l h = outF Tryz.prog [.tmp 2] (C env (bodyOf Tryz.f205) (toL 14 (argF l)) h) := K_bodyF rfl (by kernel_rfl) hl
theorem k206 (l : List NVal) (h : NHeap) (hl : l.length ≤ 14) : K env 206 l h = outF Tryz.prog [.tmp 2] (C env (bodyOf Tryz.f206) (toL 14 (argF l)) h) := K_bodyF rfl (by kernel_rfl) hl
theorem k207 (l : List NVal) (h : NHeap) (hl : l.length ≤ 10) : K env 207 l h = outF Tryz.prog [] (C env (bodyOf Tryz.f207) (toL 10 (argF l)) h) := K_bodyF rfl (by kernel_rfl) hl
theorem k208 (l : List NVal) (h : NHeap) (hl : l.length ≤ 81) : K env 208 l h = outF Tryz.prog [] (C env (bodyOf Tryz.f208) (toL 81 (argF l)) h) := K_bodyF rfl (by kernel_rfl) hl
theorem k209 (l : List NVal) (h : NHeap) (hl : l.length ≤ 11) : K env 209 l h = outF Tryz.prog [] (C env (bodyOf Tryz.f209) (toL 11 (argF l)) h) := K_bodyF rfl (by kernel_rfl) hl
theorem k210 (l : List NVal) (h : NHeap) (hl : l.length ≤ 57) : K env 210 l h = outF Tryz.prog [] (C env (bodyOf Tryz.f210) (toL 57 (argF l)) h) := K_bodyF rfl (by kernel_rfl) hl
theorem k211 (l : List NVal) (h : NHeap) (hl : l.length ≤ 13) : K env 211 l h = outF Tryz.prog [] (C env (bodyOf Tryz.f211) (toL 13 (argF l)) h) := K_bodyF rfl (by kernel_rfl) hl
theorem k212 (l : List NVal) (h : NHeap) (hl : l.length ≤ 13) : K env 212 l h = outF Tryz.prog [] (C env (bodyOf Tryz.f212) (toL 13 (argF l)) h) := K_bodyF rfl (by kernel_rfl) hl
theorem k213 (l : List NVal) (h : NHeap) (hl : l.length ≤ 13) : K env 213 l h = outF Tryz.prog [] (C env (bodyOf Tryz.f213) (toL 13 (argF l)) h) := K_bodyF rfl (by kernel_rfl) hl
theorem k214 (l : List NVal) (h : NHeap) (hl : l.length ≤ 11) : K env 214 l h = outF Tryz.prog [] (C env (bodyOf Tryz.f214) (toL 11 (argF l)) h) := K_bodyF rfl (by kernel_rfl) hl
theorem k215 (l : List NVal) (h : NHeap) (hl : l.length ≤ 28) : K env 215 l h = outF Tryz.prog [.tmp 4] (C env (bodyOf Tryz.f215) (toL 28 (argF l)) h) := K_bodyF rfl (by kernel_rfl) hl
theorem k216 (l : List NVal) (h : NHeap) (hl : l.length ≤ 17) : K env 216 l h = outF Tryz.prog [.tmp 4, .tmp 5] (C env (bodyOf Tryz.f216) (toL 17 (argF l)) h) := K_bodyF rfl (by kernel_rfl) hl
theorem k217 (l : List NVal) (h : NHeap) (hl : l.length ≤ 41) : K env 217 l h = outF Tryz.prog [] (C env (bodyOf Tryz.f217) (toL 41 (argF l)) h) := K_bodyF rfl (by kernel_rfl) hl
theorem k218 (l : List NVal) (h : NHeap) (hl : l.length ≤ 5) : K env 218 l h = outF Tryz.prog [] (C env (bodyOf Tryz.f218) (toL 5 (argF l)) h) := K_bodyF rfl (by kernel_rfl) hl
theorem k219 (l : List NVal) (h : NHeap) (hl : l.length ≤ 86) : K env 219 l h = outF Tryz.prog [.tmp 2, .tmp 3, .tmp 4] (C env (bodyOf Tryz.f219) (toL 86 (argF l)) h) := K_bodyF rfl (by kernel_rfl) hl
theorem k220 (l : List NVal) (h : NHeap) (hl : l.length ≤ 93) : K env 220 l h = outF Tryz.prog [] (C env (bodyOf Tryz.f220) (toL 93 (argF l)) h) := K_bodyF rfl (by kernel_rfl) hl
theorem k221 (l : List NVal) (h : NHeap) (hl : l.length ≤ 108) : K env 221 l h = outF Tryz.prog [] (C env (bodyOf Tryz.f221) (toL 108 (argF l)) h) := K_bodyF rfl (by kernel_rfl) hl
theorem k222 (l : List NVal) (h : NHeap) (hl : l.length ≤ 114) : K env 222 l h = outF Tryz.prog [] (C env (bodyOf Tryz.f222) (toL 114 (argF l)) h) := K_bodyF rfl (by kernel_rfl) hl
theorem k223 (l : List NVal) (h : NHeap) (hl : l.length ≤ 7) : K env 223 l h = outF Tryz.prog [] (C env (bodyOf Tryz.f223) (toL 7 (argF l)) h) := K_bodyF rfl (by kernel_rfl) hl
theorem k224 (l : List NVal) (h : NHeap) (hl : l.length ≤ 27) : K env 224 l h = outF Tryz.prog [.tmp 4] (C env (bodyOf Tryz.f224) (toL 27 (argF l)) h) := K_bodyF rfl (by kernel_rfl) hl
theorem k225 (l : List NVal) (h : NHeap) (hl : l.length ≤ 10) : K env 225 l h = outF Tryz.prog [] (C env (bodyOf Tryz.f225) (toL 10 (argF l)) h) := K_bodyF rfl (by kernel_rfl) hl
theorem k226 (l : List NVal) (h : NHeap) (hl : l.length ≤ 5) : K env 226 l h = outF Tryz.prog [.tmp 2] (C env (bodyOf Tryz.f226) (toL 5 (argF l)) h) := K_bodyF rfl (by kernel_rfl) hl
theorem k227 (l : List NVal) (h : NHeap) (hl : l.length ≤ 31) : K env 227 l h = outF Tryz.prog [.cell 4 122, .tmp 5] (C env (bodyOf Tryz.f227) (toL 31 (argF l)) h) := K_bodyF rfl (by kernel_rfl) hl
theorem k228 (l : List NVal) (h : NHeap) (hl : l.length ≤ 12) : K env 228 l h = outF Tryz.prog [] (C env (bodyOf Tryz.f228) (toL 12 (argF l)) h) := K_bodyF rfl (by kernel_rfl) hl
theorem k229 (l : List NVal) (h : NHeap) (hl : l.length ≤ 43) : K env 229 l h = outF Tryz.prog [] (C env (bodyOf Tryz.f229) (toL 43 (argF l)) h) := K_bodyF rfl (by kernel_rfl) hl
theorem k230 (l : List NVal) (h : NHeap) (hl : l.length ≤ 36) : K env 230 l h = outF Tryz.prog [] (C env (bodyOf Tryz.f230) (toL 36 (argF l)) h) := K_bodyF rfl (by kernel_rfl) hl
theorem k231 (l : List NVal) (h : NHeap) (hl : l.length ≤ 99) : K env 231 l h = outF Tryz.prog [] (C env (bodyOf Tryz.f231) (toL 99 (argF l)) h) := K_bodyF rfl (by kernel_rfl) hl
theorem k232 (l : List NVal) (h : NHeap) (hl : l.length ≤ 31) : K env 232 l h = outF Tryz.prog [.cell 4 122, .tmp 5] (C env (bodyOf Tryz.f232) (toL 31 (argF l)) h) := K_bodyF rfl (by kernel_rfl) hl
theorem k233 (l : List NVal) (h : NHeap) (hl : l.length ≤ 12) : K env 233 l h = outF Tryz.prog [] (C env (bodyOf Tryz.f233) (toL 12 (argF l)) h) := K_bodyF rfl (by kernel_rfl) hl
theorem k234 (l : List NVal) (h : NHeap) (hl : l.length ≤ 39) : K env 234 l h = outF Tryz.prog [] (C env (bodyOf Tryz.f234) (toL 39 (argF l)) h) := K_bodyF rfl (by kernel_rfl) hl
theorem k235 (l : List NVal) (h : NHeap) (hl : l.length ≤ 22) : K env 235 l h = outF Tryz.prog [.tmp 6] (C env (bodyOf Tryz.f235) (toL 22 (argF l)) h) := K_bodyF rfl (by kernel_rfl) hl
theorem k236 (l : List NVal) (h : NHeap) (hl : l.length ≤ 11) : K env 236 l h = outF Tryz.prog [] (C env (bodyOf Tryz.f236) (toL 11 (argF l)) h) := K_bodyF rfl (by kernel_rfl) hl
theorem k237 (l : List NVal) (h : NHeap) (hl : l.length ≤ 13) : K env 237 l h = outF Tryz.prog [] (C env (bodyOf Tryz.f237) (toL 13 (argF l)) h) := K_bodyF rfl (by kernel_rfl) hl
theorem k238 (l : List NVal) (h : NHeap) (hl : l.length ≤ 12) : K env 238 l h = outF Tryz.prog [] (C env (bodyOf Tryz.f238) (toL 12 (argF l)) h) := K_bodyF rfl (by kernel_rfl) hl
theorem k239 (l : List NVal) (h : NHeap) (hl : l.length ≤ 16) : K env 239 l h = outF Tryz.prog [] (C env (bodyOf Tryz.f239) (toL 16 (argF l)) h) := K_bodyF rfl (by kernel_rfl) hl
theorem k240 (l : List NVal) (h : NHeap) (hl : l.length ≤ 4) : K env 240 l h = outF Tryz.prog [] (C env (bodyOf Tryz.f240) (toL 4 (argF l)) h) := K_bodyF rfl (by kernel_rfl) hl
theorem k241 (l : List NVal) (h : NHeap) (hl : l.length ≤ 14) : K env 241 l h = outF Tryz.prog [.cell 2 130] (C env (bodyOf Tryz.f241) (toL 14 (argF l)) h) := K_bodyF rfl (by kernel_rfl) hl
theorem k242 (l : List NVal) (h : NHeap) (hl : l.length ≤ 4) : K env 242 l h = outF Tryz.prog [.tmp 2] (C env (bodyOf Tryz.f242) (toL 4 (argF l)) h) := K_bodyF rfl (by kernel_rfl) hl
theorem k243 (l : List NVal) (h : NHeap) (hl : l.length ≤ 3) : K env 243 l h = outF Tryz.prog [.cell 1 122] (C env (bodyOf Tryz.f243) (toL 3 (argF l)) h) := K_bodyF rfl (by kernel_rfl) hl
theorem k244 (l : List NVal) (h : NHeap) (hl : l.length ≤ 27) : K env 244 l h = outF Tryz.prog [.cell 4 122] (C env (bodyOf Tryz.f244) (toL 27 (argF l)) h) := K_bodyF rfl (by kernel_rfl) hl
theorem k245 (l : List NVal) (h : NHeap) (hl : l.length ≤ 29) : K env 245 l h = outF Tryz.prog [.cell 10 122] (C env (bodyOf Tryz.f245) (toL 29 (argF l)) h) := K_bodyF rfl (by kernel_rfl) hl
theorem k246 (l : List NVal) (h : NHeap) (hl : l.length ≤ 33) : K env 246 l h = outF Tryz.prog [] (C env (bodyOf Tryz.f246) (toL 33 (argF l)) h) := K_bodyF rfl (by kernel_rfl) hl
theorem k247 (l : List NVal) (h : NHeap) (hl : l.length ≤ 30) : K env 247 l h = outF Tryz.prog [.cell 2 122] (C env (bodyOf Tryz.f247) (toL 30 (argF l)) h) := K_bodyF rfl (by kernel_rfl) hl
theorem k248 (l : List NVal) (h : NHeap) (hl : l.length ≤ 33) : K env 248 l h = outF Tryz.prog [.cell 4 122, .tmp 5] (C env (bodyOf Tryz.f248) (toL 33 (argF l)) h) := K_bodyF rfl (by kernel_rfl) hl
theorem k249 (l : List NVal) (h : NHeap) (hl : l.length ≤ 64) : K env 249 l h = outF Tryz.prog [.cell 6 122, .tmp 7] (C env (bodyOf Tryz.f249) (toL 64 (argF l)) h) := K_bodyF rfl (by kernel_rfl) hl
theorem k250 (l : List NVal) (h : NHeap) (hl : l.length ≤ 23) : K env 250 l h = outF Tryz.prog [.cell 5 122] (C env (bodyOf Tryz.f250) (toL 23 (argF l)) h) := K_bodyF rfl (by kernel_rfl) hl
theorem k251 (l : List NVal) (h : NHeap) (hl : l.length ≤ 22) : K env 251 l h = outF Tryz.prog [.tmp 6] (C env (bodyOf Tryz.f251) (toL 22 (argF l)) h) := K_bodyF rfl (by kernel_rfl) hl
theorem k252 (l : List NVal) (h : NHeap) (hl : l.length ≤ 11) : K env 252 l h = outF Tryz.prog [] (C env (bodyOf Tryz.f252) (toL 11 (argF l)) h) := K_bodyF rfl (by kernel_rfl) hl
theorem k253 (l : List NVal) (h : NHeap) (hl : l.length ≤ 13) : K env 253 l h = outF Tryz.prog [] (C env (bodyOf Tryz.f253) (toL 13 (argF l)) h) := K_bodyF rfl (by kernel_rfl) hl
theorem k254 (l : List NVal) (h : NHeap) (hl : l.length ≤ 12) : K env 254 l h = outF Tryz.prog [] (C env (bodyOf Tryz.f254) (toL 12 (argF l)) h) := K_bodyF rfl (by kernel_rfl) hl
theorem k255 (l : List NVal) (h : NHeap) (hl : l.length ≤ 32) : K env 255 l h = outF Tryz.prog [] (C env (bodyOf Tryz.f255) (toL 32 (argF l)) h) := K_bodyF rfl (by kernel_rfl) hl
theorem k256 (l : List NVal) (h : NHeap) (hl : l.length ≤ 131) : K env 256 l h = outF Tryz.prog [] (C env (bodyOf Tryz.f256) (toL 131 (argF l)) h) := K_bodyF rfl (by kernel_rfl) hl
theorem k257 (l : List NVal) (h : NHeap) (hl : l.length ≤ 9) : K env 257 l h = outF Tryz.prog [] (C env (bodyOf Tryz.f257) (toL 9 (argF l)) h) := K_bodyF rfl (by kernel_rfl) hl
theorem k258 (l : List NVal) (h : NHeap) (hl : l.length ≤ 7) : K env 258 l h = outF Tryz.prog [] (C env (bodyOf Tryz.f258) (toL 7 (argF l)) h) := K_bodyF rfl (by kernel_rfl) hl
theorem k259 (l : List NVal) (h : NHeap) (hl : l.length ≤ 33) : K env 259 l h = outF Tryz.prog [] (C env (bodyOf Tryz.f259) (toL 33 (argF l)) h) := K_bodyF rfl (by kernel_rfl) hl
theorem k260 (l : List NVal) (h : NHeap) (hl : l.length ≤ 9) : K env 260 l h = outF Tryz.prog [] (C env (bodyOf Tryz.f260) (toL 9 (argF l)) h) := K_bodyF rfl (by kernel_rfl) hl
theorem k261 (l : List NVal) (h : NHeap) (hl : l.length ≤ 11) : K env 261 l h = outF Tryz.prog [.cell 1 130] (C env (bodyOf Tryz.f261) (toL 11 (argF l)) h) := K_bodyF rfl (by kernel_rfl) hl
theorem k262 (l : List NVal) (h : NHeap) (hl : l.length ≤ 28) : K env 262 l h = outF Tryz.prog [] (C env (bodyOf Tryz.f262) (toL 28 (argF l)) h) := K_bodyF rfl (by kernel_rfl) hl
theorem k263 (l : List NVal) (h : NHeap) (hl : l.length ≤ 8) : K env 263 l h = outF Tryz.prog [.tmp 2] (C env (bodyOf Tryz.f263) (toL 8 (argF l)) h) := K_bodyF rfl (by kernel_rfl) hl
theorem k264 (l : List NVal) (h : NHeap) (hl : l.length ≤ 8) : K env 264 l h = outF Tryz.prog [.tmp 2] (C env (bodyOf Tryz.f264) (toL 8 (argF l)) h) := K_bodyF rfl (by kernel_rfl) hl
theorem k265 (l : List NVal) (h : NHeap) (hl : l.length ≤ 54) : K env 265 l h = outF Tryz.prog [.tmp 4, .tmp 5] (C env (bodyOf Tryz.f265) (toL 54 (argF l)) h) := K_bodyF rfl (by kernel_rfl) hl
theorem k266 (l : List NVal) (h : NHeap) (hl : l.length ≤ 95) : K env 266 l h = outF Tryz.prog [.tmp 6] (C env (bodyOf Tryz.f266) (toL 95 (argF l)) h) := K_bodyF rfl (by kernel_rfl) hl
theorem k267 (l : List NVal) (h : NHeap) (hl : l.length ≤ 95) : K env 267 l h = outF Tryz.prog [.tmp 6] (C env (bodyOf Tryz.f267) (toL 95 (argF l)) h) := K_bodyF rfl (by kernel_rfl) hl
theorem k268 (l : List NVal) (h : NHeap) (hl : l.length ≤ 9) : K env 268 l h = outF Tryz.prog [] (C env (bodyOf Tryz.f268) (toL 9 (argF l)) h) := K_bodyF rfl (by kernel_rfl) hl
theorem k269 (l : List NVal) (h : NHeap) (hl : l.length ≤ 7) : K env 269 l h = outF Tryz.prog [] (C env (bodyOf Tryz.f269) (toL 7 (argF l)) h) := K_bodyF rfl (by kernel_rfl) hl
theorem k270 (l : List NVal) (h : NHeap) (hl : l.length ≤ 43) : K env 270 l h = outF Tryz.prog [.cell 4 122, .tmp 5] (C env (bodyOf Tryz.f270) (toL 43 (argF l)) h) := K_bodyF rfl (by kernel_rfl) hl
theorem k271 (l : List NVal) (h : NHeap) (hl : l.length ≤ 28) : K env 271 l h = outF Tryz.prog [] (C env (bodyOf Tryz.f271) (toL 28 (argF l)) h) := K_bodyF rfl (by kernel_rfl) hl
theorem k272 (l : List NVal) (h : NHeap) (hl : l.length ≤ 16) : K env 272 l h = outF Tryz.prog [] (C env (bodyOf Tryz.f272) (toL 16 (argF l)) h) := K_bodyF rfl (by kernel_rfl) hl
theorem k273 (l : List NVal) (h : NHeap) (hl : l.length ≤ 9) : K env 273 l h = outF Tryz.prog [] (C env (bodyOf Tryz.f273) (toL 9 (argF l)) h) := K_bodyF rfl (by kernel_rfl) hl
theorem k274 (l : List NVal) (h : NHeap) (hl : l.length ≤ 4) : K env 274 l h = outF Tryz.prog [.tmp 2] (C env (bodyOf Tryz.f274) (toL 4 (argF l)) h) := K_bodyF rfl (by kernel_rfl) hl
theorem k275 (l : List NVal) (h : NHeap) (hl : l.length ≤ 14) : K env 275 l h = outF Tryz.prog [.cell 2 122] (C env (bodyOf Tryz.f275) (toL 14 (argF l)) h) := K_bodyF rfl (by kernel_rfl) hl
theorem k276 (l : List NVal) (h : NHeap) (hl : l.length ≤ 42) : K env 276 l h = outF Tryz.prog [] (C env (bodyOf Tryz.f276) (toL 42 (argF l)) h) := K_bodyF rfl (by kernel_rfl) hl
theorem k277 (l : List NVal) (h : NHeap) (hl : l.length ≤ 28) : K env 277 l h = outF Tryz.prog [] (C env (bodyOf Tryz.f277) (toL 28 (argF l)) h) := K_bodyF rfl (by kernel_rfl) hl
theorem k278 (l : List NVal) (h : NHeap) (hl : l.length ≤ 21) : K env 278 l h = outF Tryz.prog [.cell 2 130] (C env (bodyOf Tryz.f278) (toL 21 (argF l)) h) := K_bodyF rfl (by kernel_rfl) hl
theorem k279 (l : List NVal) (h : NHeap) (hl : l.length ≤ 16) : K env 279 l h = outF Tryz.prog [] (C env (bodyOf Tryz.f279) (toL 16 (argF l)) h) := K_bodyF rfl (by kernel_rfl) hl
theorem k280 (l : List NVal) (h : NHeap) (hl : l.length ≤ 5) : K env 280 l h = outF Tryz.prog [.tmp 2] (C env (bodyOf Tryz.f280) (toL 5 (argF l)) h) := K_bodyF rfl (by kernel_rfl) hl
theorem k281 (l : List NVal) (h : NHeap) (hl : l.length ≤ 13) : K env 281 l h = outF Tryz.prog [] (C env (bodyOf Tryz.f281) (toL 13 (argF l)) h) := K_bodyF rfl (by kernel_rfl) hl
theorem k282 (l : List NVal) (h : NHeap) (hl : l.length ≤ 17) : K env 282 l h = outF Tryz.prog [.tmp 4] (C env (bodyOf Tryz.f282) (toL 17 (argF l)) h) := K_bodyF rfl (by kernel_rfl) hl
theorem k283 (l : List NVal) (h : NHeap) (hl : l.length ≤ 6) : K env 283 l h = outF Tryz.prog [.tmp 2] (C env (bodyOf Tryz.f283) (toL 6 (argF l)) h) := K_bodyF rfl (by kernel_rfl) hl
theorem k285 (l : List NVal) (h : NHeap) (hl : l.length ≤ 10) : K env 285 l h = outF Tryz.prog [] (C env (bodyOf Tryz.f285) (toL 10 (argF l)) h) := K_bodyF rfl (by kernel_rfl) hl
theorem k287 (l : List NVal) (h : NHeap) (hl : l.length ≤ 10) : K env 287 l h = outF Tryz.prog [] (C env (bodyOf Tryz.f287) (toL 10 (argF l)) h) := K_bodyF rfl (by kernel_rfl) hl
theorem k288 (l : List NVal) (h : NHeap) (hl : l.length ≤ 36) : K env 288 l h = outF Tryz.prog [.tmp 2] (C env (bodyOf Tryz.f288) (toL 36 (argF l)) h) := K_bodyF rfl (by kernel_rfl) hl
theorem k289 (l : List NVal) (h : NHeap) (hl : l.length ≤ 36) : K env 289 l h = outF Tryz.prog [.tmp 2] (C env (bodyOf Tryz.f289) (toL 36 (argF l)) h) := K_bodyF rfl (by kernel_rfl) hl
theorem k290 (l : List NVal) (h : NHeap) (hl : l.length ≤ 13) : K env 290 l h = outF Tryz.prog [] (C env (bodyOf Tryz.f290) (toL 13 (argF l)) h) := K_bodyF rfl (by kernel_rfl) hl
theorem k291 (l : List NVal) (h : NHeap) (hl : l.length ≤ 33) : K env 291 l h = outF Tryz.prog [] (C env (bodyOf Tryz.f291) (toL 33 (argF l)) h) := K_bodyF rfl (by kernel_rfl) hl
theorem k292 (l : List NVal) (h : NHeap) (hl : l.length ≤ 21) : K env 292 l h = outF Tryz.prog [.cell 2 130] (C env (bodyOf Tryz.f292) (toL 21 (argF l)) h) := K_bodyF rfl (by kernel_rfl) hl
theorem k293 (l : List NVal) (h : NHeap) (hl : l.length ≤ 16) : K env 293 l h = outF Tryz.prog [] (C env (bodyOf Tryz.f293) (toL 16 (argF l)) h) := K_bodyF rfl (by kernel_rfl) hl
theorem k294 (l : List NVal) (h : NHeap) (hl : l.length ≤ 11) : K env 294 l h = outF Tryz.prog [.cell 1 130] (C env (bodyOf Tryz.f294) (toL 11 (argF l)) h) := K_bodyF rfl (by kernel_rfl) hl
theorem k295 (l : List NVal) (h : NHeap) (hl : l.length ≤ 22) : K env 295 l h = outF Tryz.prog [.cell 2 122] (C env (bodyOf Tryz.f295) (toL 22 (argF l)) h) := K_bodyF rfl (by kernel_rfl) hl
theorem k296 (l : List NVal) (h : NHeap) (hl : l.length ≤ 32) : K env 296 l h = outF Tryz.prog [] (C env (bodyOf Tryz.f296) (toL 32 (argF l)) h) := K_bodyF rfl (by kernel_rfl) hl
theorem k297 (l : List NVal) (h : NHeap) (hl : l.length ≤ 8) : K env 297 l h = outF Tryz.prog [] (C env (bodyOf Tryz.f297) (toL 8 (argF l)) h) := K_bodyF rfl (by kernel_rfl) hl
theorem k298 (l : List NVal) (h : NHeap) (hl : l.length ≤ 9) : K env 298 l h = outF Tryz.prog [.tmp 2, .tmp 3] (C env (bodyOf Tryz.f298) (toL 9 (argF l)) h) := K_bodyF rfl (by kernel_rfl) hl
theorem k299 (l : List NVal) (h : NHeap) (hl : l.length ≤ 12) : K env 299 l h = outF Tryz.prog [.tmp 4] (C env (bodyOf Tryz.f299) (toL 12 (argF l)) h) := K_bodyF rfl (by kernel_rfl) hl
theorem k300 (l : List NVal) (h : NHeap) (hl : l.length ≤ 24) : K env 300 l h = outF Tryz.prog [] (C env (bodyOf Tryz.f300) (toL 24 (argF l)) h) := K_bodyF rfl (by kernel_rfl) hl
theorem k301 (l : List NVal) (h : NHeap) (hl : l.length ≤ 6) : K env 301 l h = outF Tryz.prog [.tmp 2] (C env (bodyOf Tryz.f301) (toL 6 (argF l)) h) := K_bodyF rfl (by kernel_rfl) hl
theorem k302 (l : List NVal) (h : NHeap) (hl : l.length ≤ 19) : K env 302 l h = outF Tryz.prog [] (C env (bodyOf Tryz.f302) (toL 19 (argF l)) h) := K_bodyF rfl (by kernel_rfl) hl
theorem k303 (l : List NVal) (h : NHeap) (hl : l.length ≤ 6) : K env 303 l h = outF Tryz.prog [.tmp 2] (C env (bodyOf Tryz.f303) (toL 6 (argF l)) h) := K_bodyF rfl (by kernel_rfl) hl
theorem k304 (l : List NVal) (h : NHeap) (hl : l.length ≤ 14) : K env 304 l h = outF Tryz.prog [] (C env (bodyOf Tryz.f304) (toL 14 (argF l)) h) := K_bodyF rfl (by kernel_rfl) hl
theorem k305 (l : List NVal) (h : NHeap) (hl : l.length ≤ 14) : K env 305 l h = outF Tryz.prog [] (C env (bodyOf Tryz.f305) (toL 14 (argF l)) h) := K_bodyF rfl (by kernel_rfl) hl
theorem k306 (l : List NVal) (h : NHeap) (hl : l.length ≤ 27) : K env 306 l h = outF Tryz.prog [.tmp 4] (C env (bodyOf Tryz.f306) (toL 27 (argF l)) h) := K_bodyF rfl (by kernel_rfl) hl
theorem k307 (l : List NVal) (h : NHeap) (hl : l.length ≤ 27) : K env 307 l h = outF Tryz.prog [.tmp 4] (C env (bodyOf Tryz.f307) (toL 27 (argF l)) h) := K_bodyF rfl (by kernel_rfl) hl
theorem k308 (l : List NVal) (h : NHeap) (hl : l.length ≤ 32) : K env 308 l h = outF Tryz.prog [] (C env (bodyOf Tryz.f308) (toL 32 (argF l)) h) := K_bodyF rfl (by kernel_rfl) hl
theorem k309 (l : List NVal) (h : NHeap) (hl : l.length ≤ 19) : K env 309 l h = outF Tryz.prog [] (C env (bodyOf Tryz.f309) (toL 19 (argF l)) h) := K_bodyF rfl (by kernel_rfl) hl
theorem k310 (l : List NVal) (h : NHeap) (hl : l.length ≤ 28) : K env 310 l h = outF Tryz.prog [] (C env (bodyOf Tryz.f310) (toL 28 (argF l)) h) := K_bodyF rfl (by kernel_rfl) hl
theorem k311 (l : List NVal) (h : NHeap) (hl : l.length ≤ 12) : K env 311 l h = outF Tryz.prog [.tmp 4] (C env (bodyOf Tryz.f311) (toL 12 (argF l)) h) := K_bodyF rfl (by kernel_rfl) hl
theorem k312 (l : List NVal) (h : NHeap) (hl : l.length ≤ 43) : K env 312 l h = outF Tryz.prog [] (C env (bodyOf Tryz.f312) (toL 43 (argF l)) h) := K_bodyF rfl (by kernel_rfl) hl
theorem k313 (l : List NVal) (h : NHeap) (hl : l.length ≤ 24) : K env 313 l h = outF Tryz.prog [] (C env (bodyOf Tryz.f313) (toL 24 (argF l)) h) := K_bodyF rfl (by kernel_rfl) hl
theorem k314 (l : List NVal) (h : NHeap) (hl : l.length ≤ 11) : K env 314 l h = outF Tryz.prog [] (C env (bodyOf Tryz.f314) (toL 11 (argF l)) h) := K_bodyF rfl (by kernel_rfl) hl
theorem k315 (l : List NVal) (h : NHeap) (hl : l.length ≤ 39) : K env 315 l h = outF Tryz.prog [] (C env (bodyOf Tryz.f315) (toL 39 (argF l)) h) := K_bodyF rfl (by kernel_rfl) hl
theorem k316 (l : List NVal) (h : NHeap) (hl : l.length ≤ 14) : K env 316 l h = outF Tryz.prog [] (C env (bodyOf Tryz.f316) (toL 14 (argF l)) h) := K_bodyF rfl (by kernel_rfl) hl
theorem k317 (l : List NVal) (h : NHeap) (hl : l.length ≤ 28) : K env 317 l h = outF Tryz.prog [] (C env (bodyOf Tryz.f317) (toL 28 (argF l)) h) := K_bodyF rfl (by kernel_rfl) hl
theorem k318 (l : List NVal) (h : NHeap) (hl : l.length ≤ 28) : K env 318 l h = outF Tryz.prog [] (C env (bodyOf Tryz.f318) (toL 28 (argF l)) h) := K_bodyF rfl (by kernel_rfl) hl
theorem k319 (l : List NVal) (h : NHeap) (hl : l.length ≤ 24) : K env 319 l h = outF Tryz.prog [] (C env (bodyOf Tryz.f319) (toL 24 (argF l)) h) := K_bodyF rfl (by kernel_rfl) hl
theorem k320 (l : List NVal) (h : NHeap) (hl : l.length ≤ 14) : K env 320 l h = outF Tryz.prog [] (C env (bodyOf Tryz.f320) (toL 14 (argF l)) h) := K_bodyF rfl (by kernel_rfl) hl
theorem k321 (l : List NVal) (h : NHeap) (hl : l.length ≤ 8) : K env 321 l h = outF Tryz.prog [] (C env (bodyOf Tryz.f321) (toL 8 (argF l)) h) := K_bodyF rfl (by kernel_rfl) hl
theorem k322 (l : List NVal) (h : NHeap) (hl : l.length ≤ 11) : K env 322 l h = outF Tryz.prog [] (C env (bodyOf Tryz.f322) (toL 11 (argF l)) h) := K_bodyF rfl (by kernel_rfl) hl
theorem k323 (l : List NVal) (h : NHeap) (hl : l.length ≤ 10) : K env 323 l h = outF Tryz.prog [.tmp 2] (C env (bodyOf Tryz.f323) (toL 10 (argF l)) h) := K_bodyF rfl (by kernel_rfl) hl
theorem k324 (l : List NVal) (h : NHeap) (hl : l.length ≤ 22) : K env 324 l h = outF Tryz.prog [] (C env (bodyOf Tryz.f324) (toL 22 (argF l)) h) := K_bodyF rfl (by kernel_rfl) hl
theorem k325 (l : List NVal) (h : NHeap) (hl : l.length ≤ 39) : K env 325 l h = outF Tryz.prog [] (C env (bodyOf Tryz.f325) (toL 39 (argF l)) h) := K_bodyF rfl (by kernel_rfl) hl
theorem k326 (l : List NVal) (h : NHeap) (hl : l.length ≤ 12) : K env 326 l h = outF Tryz.prog [.cell 2 130] (C env (bodyOf Tryz.f326) (toL 12 (argF l)) h) := K_bodyF rfl (by kernel_rfl) hl
theorem k327 (l : List NVal) (h : NHeap) (hl : l.length ≤ 6) : K env 327 l h = outF Tryz.prog [] (C env (bodyOf Tryz.f327) (toL 6 (argF l)) h) := K_bodyF rfl (by kernel_rfl) hl
theorem k328 (l : List NVal) (h : NHeap) (hl : l.length ≤ 13) : K env 328 l h = outF Tryz.prog [] (C env (bodyOf Tryz.f328) (toL 13 (argF l)) h) := K_bodyF rfl (by kernel_rfl) hl
theorem k329 (l : List NVal) (h : NHeap) (hl : l.length ≤ 12) : K env 329 l h = outF Tryz.prog [.cell 2 130] (C env (bodyOf Tryz.f329) (toL 12 (argF l)) h) := K_bodyF rfl (by kernel_rfl) hl
theorem k330 (l : List NVal) (h : NHeap) (hl : l.length ≤ 6) : K env 330 l h = outF Tryz.prog [] (C env (bodyOf Tryz.f330) (toL 6 (argF l)) h) := K_bodyF rfl (by kernel_rfl) hl
theorem k331 (l : List NVal) (h : NHeap) (hl : l.length ≤ 13) : K env 331 l h = outF Tryz.prog [] (C env (bodyOf Tryz.f331) (toL 13 (argF l)) h) := K_bodyF rfl (by kernel_rfl) hl
theorem k332 (l : List NVal) (h : NHeap) (hl : l.length ≤ 12) : K env 332 l h = outF Tryz.prog [.cell 2 130] (C env (bodyOf Tryz.f332) (toL 12 (argF l)) h) := K_bodyF rfl (by kernel_rfl) hl
theorem k333 (l : List NVal) (h : NHeap) (hl : l.length ≤ 6) : K env 333 l h = outF Tryz.prog [] (C env (bodyOf Tryz.f333) (toL 6 (argF l)) h) := K_bodyF rfl (by kernel_rfl) hl
theorem k334 (l : List NVal) (h : NHeap) (hl : l.length ≤ 12) : K env 334 l h = outF Tryz.prog [.cell 2 130] (C env (bodyOf Tryz.f334) (toL 12 (argF l)) h) := K_bodyF rfl (by kernel_rfl) hl
theorem k335 (l : List NVal) (h : NHeap) (hl : l.length ≤ 16) : K env 335 l h = outF Tryz.prog [] (C env (bodyOf Tryz.f335) (toL 16 (argF l)) h) := K_bodyF rfl (by kernel_rfl) hl
theorem k336 (l : List NVal) (h : NHeap) (hl : l.length ≤ 6) : K env 336 l h = outF Tryz.prog [.tmp 2] (C env (bodyOf Tryz.f336) (toL 6 (argF l)) h) := K_bodyF rfl (by kernel_rfl) hl
theorem k337 (l : List NVal) (h : NHeap) (hl : l.length ≤ 6) : K env 337 l h = outF Tryz.prog [] (C env (bodyOf Tryz.f337) (toL 6 (argF l)) h) := K_bodyF rfl (by kernel_rfl) hl
theorem k355 (l : List NVal) (h : NHeap) (hl : l.length ≤ 8) : K env 355 l h = outF Tryz.prog [.tmp 2] (C env (bodyOf Tryz.f355) (toL 8 (argF l)) h) := K_bodyF rfl (by kernel_rfl) hl
theorem k357 (l : List NVal) (h : NHeap) (hl : l.length ≤ 5) : K env 357 l h = outF Tryz.prog [.tmp 2] (C env (bodyOf Tryz.f357) (toL 5 (argF l)) h) := K_bodyF rfl (by kernel_rfl) hl
theorem k358 (l : List NVal) (h : NHeap) (hl : l.length ≤ 16) : K env 358 l h = outF Tryz.prog [.tmp 6] (C env (bodyOf Tryz.f358) (toL 16 (argF l)) h) := K_bodyF rfl (by kernel_rfl) hl
theorem k359 (l : List NVal) (h : NHeap) (hl : l.length ≤ 20) : K env 359 l h = outF Tryz.prog [] (C env (bodyOf Tryz.f359) (toL 20 (argF l)) h) := K_bodyF rfl (by kernel_rfl) hl
theorem k360 (l : List NVal) (h : NHeap) (hl : l.length ≤ 25) : K env 360 l h = outF Tryz.prog [.tmp 2] (C env (bodyOf Tryz.f360) (toL 25 (argF l)) h) := K_bodyF rfl (by kernel_rfl) hl
theorem k361 (l : List NVal) (h : NHeap) (hl : l.length ≤ 13) : K env 361 l h = outF Tryz.prog [] (C env (bodyOf Tryz.f361) (toL 13 (argF l)) h) := K_bodyF rfl (by kernel_rfl) hl
theorem k368 (l : List NVal) (h : NHeap) (hl : l.length ≤ 3) : K env 368 l h = outF Tryz.prog [] (C env (bodyOf Tryz.f368) (toL 3 (argF l)) h) := K_bodyF rfl (by kernel_rfl) hl
end Go.Proofs.YtfgoajnoahhghaaGreatDoor.S
