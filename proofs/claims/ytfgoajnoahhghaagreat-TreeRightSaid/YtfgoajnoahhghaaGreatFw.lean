/-
  What the seat's types are, and each function's first step. No conditions.
-/
import Derived.Test.YtfgoajnoahhghaaGreatTab
import Derived.Test.YtfgoajnoahhghaaGreatNice38
import Derived.Test.YtfgoajnoahhghaaGreatSaysTreeRuns
namespace Go.Proofs.YtfgoajnoahhghaaGreat.S
open Go Go.RowKit Go.Proofs.YtfgoajnoahhghaaGreat.NICE
set_option maxRecDepth 100000
set_option linter.unusedSimpArgs false

theorem known_at11 : (Go.Proofs.YtfgoajnoahhghaaGreat.env).known 11 [] NHeap.empty = none := by kernel_rfl
theorem known_ex11 : ∃ c, CallOk Tryz.prog (trueKnown 11 c) := trueKnown_ok (Checked.mixed Tryz.checked) Go.Proofs.YtfgoajnoahhghaaGreat.env known_at11 Go.Proofs.YtfgoajnoahhghaaGreat.treeRuns.says
noncomputable def runsN11 : Nat := Classical.choose known_ex11
theorem runsN11_ok : CallOk Tryz.prog (trueKnown 11 runsN11) := Classical.choose_spec known_ex11
noncomputable def env : Env Tryz.prog drStatic := tab.env tab_ok (orKnown (trueKnown 11 runsN11) (idxKnown 139)) (orKnown_ok runsN11_ok idx_ok)
theorem runs_ok11 (h : NHeap) : ∃ h', K env 11 [] h = some (.bool true, h') ∧ Ext h h' :=
  ⟨layAll h.next (List.replicate runsN11 .dead) h, K_known (by simp [env, Tb.env, orKnown, trueKnown]), layAll_ext _ _ _⟩
theorem sz3 : szOf Tryz.prog 3 = some 1 := by kernel_rfl
theorem ag3 : aggT Tryz.prog 3 = some false := by kernel_rfl
theorem by3 : bytesOf Tryz.prog 3 = some 8 := by kernel_rfl
theorem ze3 : zeroOf Tryz.prog 3 = some (.int .i64 0) := by kernel_rfl
theorem sz4 : szOf Tryz.prog 4 = some 1 := by kernel_rfl
theorem ag4 : aggT Tryz.prog 4 = some false := by kernel_rfl
theorem by4 : bytesOf Tryz.prog 4 = some 1 := by kernel_rfl
theorem ze4 : zeroOf Tryz.prog 4 = some (.bool false) := by kernel_rfl
theorem sz5 : szOf Tryz.prog 5 = some 1 := by kernel_rfl
theorem ag5 : aggT Tryz.prog 5 = some false := by kernel_rfl
theorem by5 : bytesOf Tryz.prog 5 = some 1 := by kernel_rfl
theorem ze5 : zeroOf Tryz.prog 5 = some (.int .u8 0) := by kernel_rfl
theorem sz9 : szOf Tryz.prog 9 = some 1 := by kernel_rfl
theorem ag9 : aggT Tryz.prog 9 = some false := by kernel_rfl
theorem by9 : bytesOf Tryz.prog 9 = some 16 := by kernel_rfl
theorem ze9 : zeroOf Tryz.prog 9 = some (.str []) := by kernel_rfl
theorem sz20 : szOf Tryz.prog 20 = some 1 := by kernel_rfl
theorem ag20 : aggT Tryz.prog 20 = some false := by kernel_rfl
theorem by20 : bytesOf Tryz.prog 20 = some 16 := by kernel_rfl
theorem ze20 : zeroOf Tryz.prog 20 = some .nilIface := by kernel_rfl
theorem sz23 : szOf Tryz.prog 23 = some 4 := by kernel_rfl
theorem ag23 : aggT Tryz.prog 23 = some true := by kernel_rfl
theorem by23 : bytesOf Tryz.prog 23 = some 48 := by kernel_rfl
theorem ze23 : zeroOf Tryz.prog 23 = some (.agg [(.int .i64 0), (.str []), (.str []), (.int .i64 0)]) := by kernel_rfl
theorem fa23_0 (b o : Nat) : nfieldAddr Tryz.prog 23 (.ptr (some (b, o))) 0 = some (.ptr (some (b, o))) := by kernel_rfl
theorem fi23_0 (cs : List NVal) : nfield Tryz.prog 23 (.agg cs) 0 = cs[0]? := by kernel_rfl
theorem fa23_1 (b o : Nat) : nfieldAddr Tryz.prog 23 (.ptr (some (b, o))) 1 = some (.ptr (some (b, o + 1))) := by kernel_rfl
theorem fi23_1 (cs : List NVal) : nfield Tryz.prog 23 (.agg cs) 1 = cs[1]? := by kernel_rfl
theorem fa23_2 (b o : Nat) : nfieldAddr Tryz.prog 23 (.ptr (some (b, o))) 2 = some (.ptr (some (b, o + 2))) := by kernel_rfl
theorem fi23_2 (cs : List NVal) : nfield Tryz.prog 23 (.agg cs) 2 = cs[2]? := by kernel_rfl
theorem fa23_3 (b o : Nat) : nfieldAddr Tryz.prog 23 (.ptr (some (b, o))) 3 = some (.ptr (some (b, o + 3))) := by kernel_rfl
theorem fi23_3 (cs : List NVal) : nfield Tryz.prog 23 (.agg cs) 3 = cs[3]? := by kernel_rfl
theorem sz24 : szOf Tryz.prog 24 = some 1 := by kernel_rfl
theorem ag24 : aggT Tryz.prog 24 = some false := by kernel_rfl
theorem by24 : bytesOf Tryz.prog 24 = some 8 := by kernel_rfl
theorem ze24 : zeroOf Tryz.prog 24 = some (.ptr none) := by kernel_rfl
theorem sz25 : szOf Tryz.prog 25 = some 1 := by kernel_rfl
theorem ag25 : aggT Tryz.prog 25 = some false := by kernel_rfl
theorem by25 : bytesOf Tryz.prog 25 = some 8 := by kernel_rfl
theorem ze25 : zeroOf Tryz.prog 25 = some (.int .i64 0) := by kernel_rfl
theorem sz28 : szOf Tryz.prog 28 = some 1 := by kernel_rfl
theorem ag28 : aggT Tryz.prog 28 = some false := by kernel_rfl
theorem by28 : bytesOf Tryz.prog 28 = some 8 := by kernel_rfl
theorem ze28 : zeroOf Tryz.prog 28 = some (.ptr none) := by kernel_rfl
theorem sz31 : szOf Tryz.prog 31 = some 1 := by kernel_rfl
theorem ag31 : aggT Tryz.prog 31 = some false := by kernel_rfl
theorem by31 : bytesOf Tryz.prog 31 = some 8 := by kernel_rfl
theorem ze31 : zeroOf Tryz.prog 31 = some (.ptr none) := by kernel_rfl
theorem sz34 : szOf Tryz.prog 34 = some 1 := by kernel_rfl
theorem ag34 : aggT Tryz.prog 34 = some false := by kernel_rfl
theorem by34 : bytesOf Tryz.prog 34 = some 8 := by kernel_rfl
theorem ze34 : zeroOf Tryz.prog 34 = some (.ptr none) := by kernel_rfl
theorem sz37 : szOf Tryz.prog 37 = some 1 := by kernel_rfl
theorem ag37 : aggT Tryz.prog 37 = some false := by kernel_rfl
theorem by37 : bytesOf Tryz.prog 37 = some 8 := by kernel_rfl
theorem ze37 : zeroOf Tryz.prog 37 = some (.ptr none) := by kernel_rfl
theorem sz41 : szOf Tryz.prog 41 = some 1 := by kernel_rfl
theorem ag41 : aggT Tryz.prog 41 = some false := by kernel_rfl
theorem by41 : bytesOf Tryz.prog 41 = some 8 := by kernel_rfl
theorem ze41 : zeroOf Tryz.prog 41 = some .nilFunc := by kernel_rfl
theorem sz42 : szOf Tryz.prog 42 = some 5 := by kernel_rfl
theorem ag42 : aggT Tryz.prog 42 = some true := by kernel_rfl
theorem by42 : bytesOf Tryz.prog 42 = some 40 := by kernel_rfl
theorem ze42 : zeroOf Tryz.prog 42 = some (.agg [(.int .i64 0), (.int .i64 0), (.int .i64 0), (.int .i64 0), (.int .i64 0)]) := by kernel_rfl
theorem sz44 : szOf Tryz.prog 44 = some 8 := by kernel_rfl
theorem ag44 : aggT Tryz.prog 44 = some true := by kernel_rfl
theorem by44 : bytesOf Tryz.prog 44 = some 64 := by kernel_rfl
theorem ze44 : zeroOf Tryz.prog 44 = some (.agg ([(.int .i64 0), (.int .i64 0), (.int .i64 0), (.int .i64 0), (.int .i64 0), (.int .i64 0), (.int .i64 0), (.int .i64 0)])) := by kernel_rfl
theorem fa44_0 (b o : Nat) : nfieldAddr Tryz.prog 44 (.ptr (some (b, o))) 0 = some (.ptr (some (b, o))) := by kernel_rfl
theorem fi44_0 (cs : List NVal) : nfield Tryz.prog 44 (.agg cs) 0 = some (.agg ((cs.drop 0).take 5)) := by kernel_rfl
theorem fa44_1 (b o : Nat) : nfieldAddr Tryz.prog 44 (.ptr (some (b, o))) 1 = some (.ptr (some (b, o + 5))) := by kernel_rfl
theorem fi44_1 (cs : List NVal) : nfield Tryz.prog 44 (.agg cs) 1 = cs[5]? := by kernel_rfl
theorem fa44_2 (b o : Nat) : nfieldAddr Tryz.prog 44 (.ptr (some (b, o))) 2 = some (.ptr (some (b, o + 6))) := by kernel_rfl
theorem fi44_2 (cs : List NVal) : nfield Tryz.prog 44 (.agg cs) 2 = cs[6]? := by kernel_rfl
theorem fa44_3 (b o : Nat) : nfieldAddr Tryz.prog 44 (.ptr (some (b, o))) 3 = some (.ptr (some (b, o + 7))) := by kernel_rfl
theorem fi44_3 (cs : List NVal) : nfield Tryz.prog 44 (.agg cs) 3 = cs[7]? := by kernel_rfl
theorem sz45 : szOf Tryz.prog 45 = some 1 := by kernel_rfl
theorem ag45 : aggT Tryz.prog 45 = some false := by kernel_rfl
theorem by45 : bytesOf Tryz.prog 45 = some 24 := by kernel_rfl
theorem ze45 : zeroOf Tryz.prog 45 = some (.slice none 0 0 none) := by kernel_rfl
theorem sz47 : szOf Tryz.prog 47 = some 1 := by kernel_rfl
theorem ag47 : aggT Tryz.prog 47 = some false := by kernel_rfl
theorem by47 : bytesOf Tryz.prog 47 = some 8 := by kernel_rfl
theorem ze47 : zeroOf Tryz.prog 47 = some (.ptr none) := by kernel_rfl
theorem sz50 : szOf Tryz.prog 50 = some 1 := by kernel_rfl
theorem ag50 : aggT Tryz.prog 50 = some false := by kernel_rfl
theorem by50 : bytesOf Tryz.prog 50 = some 8 := by kernel_rfl
theorem ze50 : zeroOf Tryz.prog 50 = some (.ptr none) := by kernel_rfl
theorem sz55 : szOf Tryz.prog 55 = some 1 := by kernel_rfl
theorem ag55 : aggT Tryz.prog 55 = some false := by kernel_rfl
theorem by55 : bytesOf Tryz.prog 55 = some 8 := by kernel_rfl
theorem ze55 : zeroOf Tryz.prog 55 = some (.ptr none) := by kernel_rfl
theorem sz57 : szOf Tryz.prog 57 = some 1 := by kernel_rfl
theorem ag57 : aggT Tryz.prog 57 = some false := by kernel_rfl
theorem by57 : bytesOf Tryz.prog 57 = some 24 := by kernel_rfl
theorem ze57 : zeroOf Tryz.prog 57 = some (.slice none 0 0 none) := by kernel_rfl
theorem sz59 : szOf Tryz.prog 59 = some 1 := by kernel_rfl
theorem ag59 : aggT Tryz.prog 59 = some false := by kernel_rfl
theorem by59 : bytesOf Tryz.prog 59 = some 24 := by kernel_rfl
theorem ze59 : zeroOf Tryz.prog 59 = some (.slice none 0 0 none) := by kernel_rfl
theorem sz64 : szOf Tryz.prog 64 = some 1 := by kernel_rfl
theorem ag64 : aggT Tryz.prog 64 = some false := by kernel_rfl
theorem by64 : bytesOf Tryz.prog 64 = some 8 := by kernel_rfl
theorem ze64 : zeroOf Tryz.prog 64 = some (.int .u64 0) := by kernel_rfl
theorem sz65 : szOf Tryz.prog 65 = some 1 := by kernel_rfl
theorem ag65 : aggT Tryz.prog 65 = some false := by kernel_rfl
theorem by65 : bytesOf Tryz.prog 65 = some 24 := by kernel_rfl
theorem ze65 : zeroOf Tryz.prog 65 = some (.slice none 0 0 none) := by kernel_rfl
theorem sz67 : szOf Tryz.prog 67 = some 6 := by kernel_rfl
theorem ag67 : aggT Tryz.prog 67 = some true := by kernel_rfl
theorem by67 : bytesOf Tryz.prog 67 = some 64 := by kernel_rfl
theorem ze67 : zeroOf Tryz.prog 67 = some (.agg [(.int .i64 0), (.int .i64 0), (.int .i64 0), (.int .i64 0), (.int .u64 0), (.slice none 0 0 none)]) := by kernel_rfl
theorem fa67_0 (b o : Nat) : nfieldAddr Tryz.prog 67 (.ptr (some (b, o))) 0 = some (.ptr (some (b, o))) := by kernel_rfl
theorem fi67_0 (cs : List NVal) : nfield Tryz.prog 67 (.agg cs) 0 = cs[0]? := by kernel_rfl
theorem fa67_1 (b o : Nat) : nfieldAddr Tryz.prog 67 (.ptr (some (b, o))) 1 = some (.ptr (some (b, o + 1))) := by kernel_rfl
theorem fi67_1 (cs : List NVal) : nfield Tryz.prog 67 (.agg cs) 1 = cs[1]? := by kernel_rfl
theorem fa67_2 (b o : Nat) : nfieldAddr Tryz.prog 67 (.ptr (some (b, o))) 2 = some (.ptr (some (b, o + 2))) := by kernel_rfl
theorem fi67_2 (cs : List NVal) : nfield Tryz.prog 67 (.agg cs) 2 = cs[2]? := by kernel_rfl
theorem fa67_3 (b o : Nat) : nfieldAddr Tryz.prog 67 (.ptr (some (b, o))) 3 = some (.ptr (some (b, o + 3))) := by kernel_rfl
theorem fi67_3 (cs : List NVal) : nfield Tryz.prog 67 (.agg cs) 3 = cs[3]? := by kernel_rfl
theorem fa67_4 (b o : Nat) : nfieldAddr Tryz.prog 67 (.ptr (some (b, o))) 4 = some (.ptr (some (b, o + 4))) := by kernel_rfl
theorem fi67_4 (cs : List NVal) : nfield Tryz.prog 67 (.agg cs) 4 = cs[4]? := by kernel_rfl
theorem fa67_5 (b o : Nat) : nfieldAddr Tryz.prog 67 (.ptr (some (b, o))) 5 = some (.ptr (some (b, o + 5))) := by kernel_rfl
theorem fi67_5 (cs : List NVal) : nfield Tryz.prog 67 (.agg cs) 5 = cs[5]? := by kernel_rfl
theorem sz68 : szOf Tryz.prog 68 = some 1 := by kernel_rfl
theorem ag68 : aggT Tryz.prog 68 = some false := by kernel_rfl
theorem by68 : bytesOf Tryz.prog 68 = some 8 := by kernel_rfl
theorem ze68 : zeroOf Tryz.prog 68 = some .nilFunc := by kernel_rfl
theorem sz69 : szOf Tryz.prog 69 = some 1 := by kernel_rfl
theorem ag69 : aggT Tryz.prog 69 = some false := by kernel_rfl
theorem by69 : bytesOf Tryz.prog 69 = some 24 := by kernel_rfl
theorem ze69 : zeroOf Tryz.prog 69 = some (.slice none 0 0 none) := by kernel_rfl
theorem sz71 : szOf Tryz.prog 71 = some 4 := by kernel_rfl
theorem ag71 : aggT Tryz.prog 71 = some true := by kernel_rfl
theorem by71 : bytesOf Tryz.prog 71 = some 48 := by kernel_rfl
theorem ze71 : zeroOf Tryz.prog 71 = some (.agg [(.int .i64 0), (.bool false), (.int .i64 0), (.slice none 0 0 none)]) := by kernel_rfl
theorem fa71_0 (b o : Nat) : nfieldAddr Tryz.prog 71 (.ptr (some (b, o))) 0 = some (.ptr (some (b, o))) := by kernel_rfl
theorem fi71_0 (cs : List NVal) : nfield Tryz.prog 71 (.agg cs) 0 = cs[0]? := by kernel_rfl
theorem fa71_1 (b o : Nat) : nfieldAddr Tryz.prog 71 (.ptr (some (b, o))) 1 = some (.ptr (some (b, o + 1))) := by kernel_rfl
theorem fi71_1 (cs : List NVal) : nfield Tryz.prog 71 (.agg cs) 1 = cs[1]? := by kernel_rfl
theorem fa71_2 (b o : Nat) : nfieldAddr Tryz.prog 71 (.ptr (some (b, o))) 2 = some (.ptr (some (b, o + 2))) := by kernel_rfl
theorem fi71_2 (cs : List NVal) : nfield Tryz.prog 71 (.agg cs) 2 = cs[2]? := by kernel_rfl
theorem fa71_3 (b o : Nat) : nfieldAddr Tryz.prog 71 (.ptr (some (b, o))) 3 = some (.ptr (some (b, o + 3))) := by kernel_rfl
theorem fi71_3 (cs : List NVal) : nfield Tryz.prog 71 (.agg cs) 3 = cs[3]? := by kernel_rfl
theorem sz73 : szOf Tryz.prog 73 = some 17 := by kernel_rfl
theorem ag73 : aggT Tryz.prog 73 = some true := by kernel_rfl
theorem by73 : bytesOf Tryz.prog 73 = some 176 := by kernel_rfl
theorem ze73 : zeroOf Tryz.prog 73 = some (.agg [(.str []), (.str []), (.int .i64 0), (.int .i64 0), (.int .i64 0), (.int .i64 0), (.int .i64 0), (.int .u64 0), (.slice none 0 0 none), .nilFunc, (.int .i64 0), (.bool false), (.bool false), (.int .i64 0), (.bool false), (.int .i64 0), (.slice none 0 0 none)]) := by kernel_rfl
theorem fa73_0 (b o : Nat) : nfieldAddr Tryz.prog 73 (.ptr (some (b, o))) 0 = some (.ptr (some (b, o))) := by kernel_rfl
theorem fi73_0 (cs : List NVal) : nfield Tryz.prog 73 (.agg cs) 0 = cs[0]? := by kernel_rfl
theorem fa73_1 (b o : Nat) : nfieldAddr Tryz.prog 73 (.ptr (some (b, o))) 1 = some (.ptr (some (b, o + 1))) := by kernel_rfl
theorem fi73_1 (cs : List NVal) : nfield Tryz.prog 73 (.agg cs) 1 = cs[1]? := by kernel_rfl
theorem fa73_2 (b o : Nat) : nfieldAddr Tryz.prog 73 (.ptr (some (b, o))) 2 = some (.ptr (some (b, o + 2))) := by kernel_rfl
theorem fi73_2 (cs : List NVal) : nfield Tryz.prog 73 (.agg cs) 2 = cs[2]? := by kernel_rfl
theorem fa73_3 (b o : Nat) : nfieldAddr Tryz.prog 73 (.ptr (some (b, o))) 3 = some (.ptr (some (b, o + 3))) := by kernel_rfl
theorem fi73_3 (cs : List NVal) : nfield Tryz.prog 73 (.agg cs) 3 = some (.agg ((cs.drop 3).take 6)) := by kernel_rfl
theorem fa73_4 (b o : Nat) : nfieldAddr Tryz.prog 73 (.ptr (some (b, o))) 4 = some (.ptr (some (b, o + 9))) := by kernel_rfl
theorem fi73_4 (cs : List NVal) : nfield Tryz.prog 73 (.agg cs) 4 = cs[9]? := by kernel_rfl
theorem fa73_5 (b o : Nat) : nfieldAddr Tryz.prog 73 (.ptr (some (b, o))) 5 = some (.ptr (some (b, o + 10))) := by kernel_rfl
theorem fi73_5 (cs : List NVal) : nfield Tryz.prog 73 (.agg cs) 5 = cs[10]? := by kernel_rfl
theorem fa73_6 (b o : Nat) : nfieldAddr Tryz.prog 73 (.ptr (some (b, o))) 6 = some (.ptr (some (b, o + 11))) := by kernel_rfl
theorem fi73_6 (cs : List NVal) : nfield Tryz.prog 73 (.agg cs) 6 = cs[11]? := by kernel_rfl
theorem fa73_7 (b o : Nat) : nfieldAddr Tryz.prog 73 (.ptr (some (b, o))) 7 = some (.ptr (some (b, o + 12))) := by kernel_rfl
theorem fi73_7 (cs : List NVal) : nfield Tryz.prog 73 (.agg cs) 7 = cs[12]? := by kernel_rfl
theorem fa73_8 (b o : Nat) : nfieldAddr Tryz.prog 73 (.ptr (some (b, o))) 8 = some (.ptr (some (b, o + 13))) := by kernel_rfl
theorem fi73_8 (cs : List NVal) : nfield Tryz.prog 73 (.agg cs) 8 = some (.agg ((cs.drop 13).take 4)) := by kernel_rfl
theorem sz75 : szOf Tryz.prog 75 = some 1 := by kernel_rfl
theorem ag75 : aggT Tryz.prog 75 = some false := by kernel_rfl
theorem by75 : bytesOf Tryz.prog 75 = some 8 := by kernel_rfl
theorem ze75 : zeroOf Tryz.prog 75 = some .nilFunc := by kernel_rfl
theorem sz76 : szOf Tryz.prog 76 = some 1 := by kernel_rfl
theorem ag76 : aggT Tryz.prog 76 = some false := by kernel_rfl
theorem by76 : bytesOf Tryz.prog 76 = some 8 := by kernel_rfl
theorem ze76 : zeroOf Tryz.prog 76 = some .nilFunc := by kernel_rfl
theorem sz77 : szOf Tryz.prog 77 = some 1 := by kernel_rfl
theorem ag77 : aggT Tryz.prog 77 = some false := by kernel_rfl
theorem by77 : bytesOf Tryz.prog 77 = some 24 := by kernel_rfl
theorem ze77 : zeroOf Tryz.prog 77 = some (.slice none 0 0 none) := by kernel_rfl
theorem sz79 : szOf Tryz.prog 79 = some 18 := by kernel_rfl
theorem ag79 : aggT Tryz.prog 79 = some true := by kernel_rfl
theorem by79 : bytesOf Tryz.prog 79 = some 216 := by kernel_rfl
theorem ze79 : zeroOf Tryz.prog 79 = some (.agg ([(.str []), (.str []), (.int .i64 0), (.int .i64 0), (.int .i64 0), (.int .i64 0), (.int .i64 0), (.int .i64 0), (.int .u64 0), (.slice none 0 0 none), .nilFunc, (.str []), (.slice none 0 0 none), (.bool false), (.int .i64 0), (.bool false), (.int .i64 0), (.slice none 0 0 none)])) := by kernel_rfl
theorem fa79_0 (b o : Nat) : nfieldAddr Tryz.prog 79 (.ptr (some (b, o))) 0 = some (.ptr (some (b, o))) := by kernel_rfl
theorem fi79_0 (cs : List NVal) : nfield Tryz.prog 79 (.agg cs) 0 = cs[0]? := by kernel_rfl
theorem fa79_1 (b o : Nat) : nfieldAddr Tryz.prog 79 (.ptr (some (b, o))) 1 = some (.ptr (some (b, o + 1))) := by kernel_rfl
theorem fi79_1 (cs : List NVal) : nfield Tryz.prog 79 (.agg cs) 1 = cs[1]? := by kernel_rfl
theorem fa79_2 (b o : Nat) : nfieldAddr Tryz.prog 79 (.ptr (some (b, o))) 2 = some (.ptr (some (b, o + 2))) := by kernel_rfl
theorem fi79_2 (cs : List NVal) : nfield Tryz.prog 79 (.agg cs) 2 = cs[2]? := by kernel_rfl
theorem fa79_3 (b o : Nat) : nfieldAddr Tryz.prog 79 (.ptr (some (b, o))) 3 = some (.ptr (some (b, o + 3))) := by kernel_rfl
theorem fi79_3 (cs : List NVal) : nfield Tryz.prog 79 (.agg cs) 3 = cs[3]? := by kernel_rfl
theorem fa79_4 (b o : Nat) : nfieldAddr Tryz.prog 79 (.ptr (some (b, o))) 4 = some (.ptr (some (b, o + 4))) := by kernel_rfl
theorem fi79_4 (cs : List NVal) : nfield Tryz.prog 79 (.agg cs) 4 = some (.agg ((cs.drop 4).take 6)) := by kernel_rfl
theorem fa79_5 (b o : Nat) : nfieldAddr Tryz.prog 79 (.ptr (some (b, o))) 5 = some (.ptr (some (b, o + 10))) := by kernel_rfl
theorem fi79_5 (cs : List NVal) : nfield Tryz.prog 79 (.agg cs) 5 = cs[10]? := by kernel_rfl
theorem fa79_6 (b o : Nat) : nfieldAddr Tryz.prog 79 (.ptr (some (b, o))) 6 = some (.ptr (some (b, o + 11))) := by kernel_rfl
theorem fi79_6 (cs : List NVal) : nfield Tryz.prog 79 (.agg cs) 6 = cs[11]? := by kernel_rfl
theorem fa79_7 (b o : Nat) : nfieldAddr Tryz.prog 79 (.ptr (some (b, o))) 7 = some (.ptr (some (b, o + 12))) := by kernel_rfl
theorem fi79_7 (cs : List NVal) : nfield Tryz.prog 79 (.agg cs) 7 = cs[12]? := by kernel_rfl
theorem fa79_8 (b o : Nat) : nfieldAddr Tryz.prog 79 (.ptr (some (b, o))) 8 = some (.ptr (some (b, o + 13))) := by kernel_rfl
theorem fi79_8 (cs : List NVal) : nfield Tryz.prog 79 (.agg cs) 8 = cs[13]? := by kernel_rfl
theorem fa79_9 (b o : Nat) : nfieldAddr Tryz.prog 79 (.ptr (some (b, o))) 9 = some (.ptr (some (b, o + 14))) := by kernel_rfl
theorem fi79_9 (cs : List NVal) : nfield Tryz.prog 79 (.agg cs) 9 = some (.agg ((cs.drop 14).take 4)) := by kernel_rfl
theorem sz81 : szOf Tryz.prog 81 = some 1 := by kernel_rfl
theorem ag81 : aggT Tryz.prog 81 = some false := by kernel_rfl
theorem by81 : bytesOf Tryz.prog 81 = some 8 := by kernel_rfl
theorem ze81 : zeroOf Tryz.prog 81 = some .nilFunc := by kernel_rfl
theorem sz82 : szOf Tryz.prog 82 = some 1 := by kernel_rfl
theorem ag82 : aggT Tryz.prog 82 = some false := by kernel_rfl
theorem by82 : bytesOf Tryz.prog 82 = some 8 := by kernel_rfl
theorem ze82 : zeroOf Tryz.prog 82 = some .nilFunc := by kernel_rfl
theorem sz83 : szOf Tryz.prog 83 = some 1 := by kernel_rfl
theorem ag83 : aggT Tryz.prog 83 = some false := by kernel_rfl
theorem by83 : bytesOf Tryz.prog 83 = some 24 := by kernel_rfl
theorem ze83 : zeroOf Tryz.prog 83 = some (.slice none 0 0 none) := by kernel_rfl
theorem sz84 : szOf Tryz.prog 84 = some 1 := by kernel_rfl
theorem ag84 : aggT Tryz.prog 84 = some false := by kernel_rfl
theorem by84 : bytesOf Tryz.prog 84 = some 24 := by kernel_rfl
theorem ze84 : zeroOf Tryz.prog 84 = some (.slice none 0 0 none) := by kernel_rfl
theorem sz86 : szOf Tryz.prog 86 = some 5 := by kernel_rfl
theorem ag86 : aggT Tryz.prog 86 = some true := by kernel_rfl
theorem by86 : bytesOf Tryz.prog 86 = some 80 := by kernel_rfl
theorem ze86 : zeroOf Tryz.prog 86 = some (.agg [(.int .i64 0), (.int .u64 0), (.str []), (.slice none 0 0 none), (.slice none 0 0 none)]) := by kernel_rfl
theorem fa86_0 (b o : Nat) : nfieldAddr Tryz.prog 86 (.ptr (some (b, o))) 0 = some (.ptr (some (b, o))) := by kernel_rfl
theorem fi86_0 (cs : List NVal) : nfield Tryz.prog 86 (.agg cs) 0 = cs[0]? := by kernel_rfl
theorem fa86_1 (b o : Nat) : nfieldAddr Tryz.prog 86 (.ptr (some (b, o))) 1 = some (.ptr (some (b, o + 1))) := by kernel_rfl
theorem fi86_1 (cs : List NVal) : nfield Tryz.prog 86 (.agg cs) 1 = cs[1]? := by kernel_rfl
theorem fa86_2 (b o : Nat) : nfieldAddr Tryz.prog 86 (.ptr (some (b, o))) 2 = some (.ptr (some (b, o + 2))) := by kernel_rfl
theorem fi86_2 (cs : List NVal) : nfield Tryz.prog 86 (.agg cs) 2 = cs[2]? := by kernel_rfl
theorem fa86_3 (b o : Nat) : nfieldAddr Tryz.prog 86 (.ptr (some (b, o))) 3 = some (.ptr (some (b, o + 3))) := by kernel_rfl
theorem fi86_3 (cs : List NVal) : nfield Tryz.prog 86 (.agg cs) 3 = cs[3]? := by kernel_rfl
theorem fa86_4 (b o : Nat) : nfieldAddr Tryz.prog 86 (.ptr (some (b, o))) 4 = some (.ptr (some (b, o + 4))) := by kernel_rfl
theorem fi86_4 (cs : List NVal) : nfield Tryz.prog 86 (.agg cs) 4 = cs[4]? := by kernel_rfl
theorem sz88 : szOf Tryz.prog 88 = some 7 := by kernel_rfl
theorem ag88 : aggT Tryz.prog 88 = some true := by kernel_rfl
theorem by88 : bytesOf Tryz.prog 88 = some 96 := by kernel_rfl
theorem ze88 : zeroOf Tryz.prog 88 = some (.agg [(.int .i64 0), (.int .i64 0), (.int .u64 0), (.str []), (.slice none 0 0 none), (.slice none 0 0 none), (.int .u8 0)]) := by kernel_rfl
theorem fa88_0 (b o : Nat) : nfieldAddr Tryz.prog 88 (.ptr (some (b, o))) 0 = some (.ptr (some (b, o))) := by kernel_rfl
theorem fi88_0 (cs : List NVal) : nfield Tryz.prog 88 (.agg cs) 0 = cs[0]? := by kernel_rfl
theorem fa88_1 (b o : Nat) : nfieldAddr Tryz.prog 88 (.ptr (some (b, o))) 1 = some (.ptr (some (b, o + 1))) := by kernel_rfl
theorem fi88_1 (cs : List NVal) : nfield Tryz.prog 88 (.agg cs) 1 = some (.agg ((cs.drop 1).take 5)) := by kernel_rfl
theorem fa88_2 (b o : Nat) : nfieldAddr Tryz.prog 88 (.ptr (some (b, o))) 2 = some (.ptr (some (b, o + 6))) := by kernel_rfl
theorem fi88_2 (cs : List NVal) : nfield Tryz.prog 88 (.agg cs) 2 = cs[6]? := by kernel_rfl
theorem sz89 : szOf Tryz.prog 89 = some 1 := by kernel_rfl
theorem ag89 : aggT Tryz.prog 89 = some false := by kernel_rfl
theorem by89 : bytesOf Tryz.prog 89 = some 24 := by kernel_rfl
theorem ze89 : zeroOf Tryz.prog 89 = some (.slice none 0 0 none) := by kernel_rfl
theorem sz91 : szOf Tryz.prog 91 = some 38 := by kernel_rfl
theorem ag91 : aggT Tryz.prog 91 = some true := by kernel_rfl
theorem by91 : bytesOf Tryz.prog 91 = some 472 := by kernel_rfl
theorem ze91 : zeroOf Tryz.prog 91 = some (.agg [(.str []), (.str []), (.int .i64 0), (.int .i64 0), (.int .i64 0), (.int .i64 0), (.bool false), (.int .i64 0), (.int .i64 0), (.int .i64 0), (.int .i64 0), (.int .u64 0), (.slice none 0 0 none), .nilFunc, .nilFunc, (.int .i64 0), (.int .i64 0), (.int .u64 0), (.str []), (.slice none 0 0 none), (.slice none 0 0 none), (.int .u8 0), (.int .i64 0), (.int .i64 0), (.int .u64 0), (.str []), (.slice none 0 0 none), (.slice none 0 0 none), (.int .u8 0), (.slice none 0 0 none), (.slice none 0 0 none), (.slice none 0 0 none), (.bool false), (.bool false), (.int .i64 0), (.bool false), (.int .i64 0), (.slice none 0 0 none)]) := by kernel_rfl
theorem fa91_0 (b o : Nat) : nfieldAddr Tryz.prog 91 (.ptr (some (b, o))) 0 = some (.ptr (some (b, o))) := by kernel_rfl
theorem fi91_0 (cs : List NVal) : nfield Tryz.prog 91 (.agg cs) 0 = cs[0]? := by kernel_rfl
theorem fa91_1 (b o : Nat) : nfieldAddr Tryz.prog 91 (.ptr (some (b, o))) 1 = some (.ptr (some (b, o + 1))) := by kernel_rfl
theorem fi91_1 (cs : List NVal) : nfield Tryz.prog 91 (.agg cs) 1 = cs[1]? := by kernel_rfl
theorem fa91_2 (b o : Nat) : nfieldAddr Tryz.prog 91 (.ptr (some (b, o))) 2 = some (.ptr (some (b, o + 2))) := by kernel_rfl
theorem fi91_2 (cs : List NVal) : nfield Tryz.prog 91 (.agg cs) 2 = cs[2]? := by kernel_rfl
theorem fa91_3 (b o : Nat) : nfieldAddr Tryz.prog 91 (.ptr (some (b, o))) 3 = some (.ptr (some (b, o + 3))) := by kernel_rfl
theorem fi91_3 (cs : List NVal) : nfield Tryz.prog 91 (.agg cs) 3 = cs[3]? := by kernel_rfl
theorem fa91_4 (b o : Nat) : nfieldAddr Tryz.prog 91 (.ptr (some (b, o))) 4 = some (.ptr (some (b, o + 4))) := by kernel_rfl
theorem fi91_4 (cs : List NVal) : nfield Tryz.prog 91 (.agg cs) 4 = cs[4]? := by kernel_rfl
theorem fa91_5 (b o : Nat) : nfieldAddr Tryz.prog 91 (.ptr (some (b, o))) 5 = some (.ptr (some (b, o + 5))) := by kernel_rfl
theorem fi91_5 (cs : List NVal) : nfield Tryz.prog 91 (.agg cs) 5 = cs[5]? := by kernel_rfl
theorem fa91_6 (b o : Nat) : nfieldAddr Tryz.prog 91 (.ptr (some (b, o))) 6 = some (.ptr (some (b, o + 6))) := by kernel_rfl
theorem fi91_6 (cs : List NVal) : nfield Tryz.prog 91 (.agg cs) 6 = cs[6]? := by kernel_rfl
theorem fa91_7 (b o : Nat) : nfieldAddr Tryz.prog 91 (.ptr (some (b, o))) 7 = some (.ptr (some (b, o + 7))) := by kernel_rfl
theorem fi91_7 (cs : List NVal) : nfield Tryz.prog 91 (.agg cs) 7 = some (.agg ((cs.drop 7).take 6)) := by kernel_rfl
theorem fa91_8 (b o : Nat) : nfieldAddr Tryz.prog 91 (.ptr (some (b, o))) 8 = some (.ptr (some (b, o + 13))) := by kernel_rfl
theorem fi91_8 (cs : List NVal) : nfield Tryz.prog 91 (.agg cs) 8 = cs[13]? := by kernel_rfl
theorem fa91_9 (b o : Nat) : nfieldAddr Tryz.prog 91 (.ptr (some (b, o))) 9 = some (.ptr (some (b, o + 14))) := by kernel_rfl
theorem fi91_9 (cs : List NVal) : nfield Tryz.prog 91 (.agg cs) 9 = cs[14]? := by kernel_rfl
theorem fa91_10 (b o : Nat) : nfieldAddr Tryz.prog 91 (.ptr (some (b, o))) 10 = some (.ptr (some (b, o + 15))) := by kernel_rfl
theorem fi91_10 (cs : List NVal) : nfield Tryz.prog 91 (.agg cs) 10 = some (.agg ((cs.drop 15).take 7)) := by kernel_rfl
theorem fa91_11 (b o : Nat) : nfieldAddr Tryz.prog 91 (.ptr (some (b, o))) 11 = some (.ptr (some (b, o + 22))) := by kernel_rfl
theorem fi91_11 (cs : List NVal) : nfield Tryz.prog 91 (.agg cs) 11 = some (.agg ((cs.drop 22).take 7)) := by kernel_rfl
theorem fa91_12 (b o : Nat) : nfieldAddr Tryz.prog 91 (.ptr (some (b, o))) 12 = some (.ptr (some (b, o + 29))) := by kernel_rfl
theorem fi91_12 (cs : List NVal) : nfield Tryz.prog 91 (.agg cs) 12 = cs[29]? := by kernel_rfl
theorem fa91_13 (b o : Nat) : nfieldAddr Tryz.prog 91 (.ptr (some (b, o))) 13 = some (.ptr (some (b, o + 30))) := by kernel_rfl
theorem fi91_13 (cs : List NVal) : nfield Tryz.prog 91 (.agg cs) 13 = cs[30]? := by kernel_rfl
theorem fa91_14 (b o : Nat) : nfieldAddr Tryz.prog 91 (.ptr (some (b, o))) 14 = some (.ptr (some (b, o + 31))) := by kernel_rfl
theorem fi91_14 (cs : List NVal) : nfield Tryz.prog 91 (.agg cs) 14 = cs[31]? := by kernel_rfl
theorem fa91_15 (b o : Nat) : nfieldAddr Tryz.prog 91 (.ptr (some (b, o))) 15 = some (.ptr (some (b, o + 32))) := by kernel_rfl
theorem fi91_15 (cs : List NVal) : nfield Tryz.prog 91 (.agg cs) 15 = cs[32]? := by kernel_rfl
theorem fa91_16 (b o : Nat) : nfieldAddr Tryz.prog 91 (.ptr (some (b, o))) 16 = some (.ptr (some (b, o + 33))) := by kernel_rfl
theorem fi91_16 (cs : List NVal) : nfield Tryz.prog 91 (.agg cs) 16 = cs[33]? := by kernel_rfl
theorem fa91_17 (b o : Nat) : nfieldAddr Tryz.prog 91 (.ptr (some (b, o))) 17 = some (.ptr (some (b, o + 34))) := by kernel_rfl
theorem fi91_17 (cs : List NVal) : nfield Tryz.prog 91 (.agg cs) 17 = some (.agg ((cs.drop 34).take 4)) := by kernel_rfl
theorem sz93 : szOf Tryz.prog 93 = some 1 := by kernel_rfl
theorem ag93 : aggT Tryz.prog 93 = some false := by kernel_rfl
theorem by93 : bytesOf Tryz.prog 93 = some 8 := by kernel_rfl
theorem ze93 : zeroOf Tryz.prog 93 = some .nilFunc := by kernel_rfl
theorem sz94 : szOf Tryz.prog 94 = some 1 := by kernel_rfl
theorem ag94 : aggT Tryz.prog 94 = some false := by kernel_rfl
theorem by94 : bytesOf Tryz.prog 94 = some 8 := by kernel_rfl
theorem ze94 : zeroOf Tryz.prog 94 = some .nilFunc := by kernel_rfl
theorem sz96 : szOf Tryz.prog 96 = some 7 := by kernel_rfl
theorem ag96 : aggT Tryz.prog 96 = some true := by kernel_rfl
theorem by96 : bytesOf Tryz.prog 96 = some 96 := by kernel_rfl
theorem ze96 : zeroOf Tryz.prog 96 = some (.agg [(.int .i64 0), (.int .i64 0), (.int .u64 0), (.str []), (.slice none 0 0 none), (.slice none 0 0 none), (.int .u8 0)]) := by kernel_rfl
theorem fa96_0 (b o : Nat) : nfieldAddr Tryz.prog 96 (.ptr (some (b, o))) 0 = some (.ptr (some (b, o))) := by kernel_rfl
theorem fi96_0 (cs : List NVal) : nfield Tryz.prog 96 (.agg cs) 0 = cs[0]? := by kernel_rfl
theorem fa96_1 (b o : Nat) : nfieldAddr Tryz.prog 96 (.ptr (some (b, o))) 1 = some (.ptr (some (b, o + 1))) := by kernel_rfl
theorem fi96_1 (cs : List NVal) : nfield Tryz.prog 96 (.agg cs) 1 = some (.agg ((cs.drop 1).take 5)) := by kernel_rfl
theorem fa96_2 (b o : Nat) : nfieldAddr Tryz.prog 96 (.ptr (some (b, o))) 2 = some (.ptr (some (b, o + 6))) := by kernel_rfl
theorem fi96_2 (cs : List NVal) : nfield Tryz.prog 96 (.agg cs) 2 = cs[6]? := by kernel_rfl
theorem sz98 : szOf Tryz.prog 98 = some 45 := by kernel_rfl
theorem ag98 : aggT Tryz.prog 98 = some true := by kernel_rfl
theorem by98 : bytesOf Tryz.prog 98 = some 568 := by kernel_rfl
theorem ze98 : zeroOf Tryz.prog 98 = some (.agg [(.str []), (.str []), (.int .i64 0), (.int .i64 0), (.int .i64 0), (.bool false), (.int .i64 0), (.int .i64 0), (.int .i64 0), (.int .i64 0), (.int .u64 0), (.slice none 0 0 none), .nilFunc, .nilFunc, (.int .i64 0), (.int .i64 0), (.int .u64 0), (.str []), (.slice none 0 0 none), (.slice none 0 0 none), (.int .u8 0), (.int .i64 0), (.int .i64 0), (.int .u64 0), (.str []), (.slice none 0 0 none), (.slice none 0 0 none), (.int .u8 0), (.int .i64 0), (.int .i64 0), (.int .u64 0), (.str []), (.slice none 0 0 none), (.slice none 0 0 none), (.int .u8 0), (.int .i64 0), (.slice none 0 0 none), (.slice none 0 0 none), (.slice none 0 0 none), (.bool false), (.bool false), (.int .i64 0), (.bool false), (.int .i64 0), (.slice none 0 0 none)]) := by kernel_rfl
theorem fa98_0 (b o : Nat) : nfieldAddr Tryz.prog 98 (.ptr (some (b, o))) 0 = some (.ptr (some (b, o))) := by kernel_rfl
theorem fi98_0 (cs : List NVal) : nfield Tryz.prog 98 (.agg cs) 0 = cs[0]? := by kernel_rfl
theorem fa98_1 (b o : Nat) : nfieldAddr Tryz.prog 98 (.ptr (some (b, o))) 1 = some (.ptr (some (b, o + 1))) := by kernel_rfl
theorem fi98_1 (cs : List NVal) : nfield Tryz.prog 98 (.agg cs) 1 = cs[1]? := by kernel_rfl
theorem fa98_2 (b o : Nat) : nfieldAddr Tryz.prog 98 (.ptr (some (b, o))) 2 = some (.ptr (some (b, o + 2))) := by kernel_rfl
theorem fi98_2 (cs : List NVal) : nfield Tryz.prog 98 (.agg cs) 2 = cs[2]? := by kernel_rfl
theorem fa98_3 (b o : Nat) : nfieldAddr Tryz.prog 98 (.ptr (some (b, o))) 3 = some (.ptr (some (b, o + 3))) := by kernel_rfl
theorem fi98_3 (cs : List NVal) : nfield Tryz.prog 98 (.agg cs) 3 = cs[3]? := by kernel_rfl
theorem fa98_4 (b o : Nat) : nfieldAddr Tryz.prog 98 (.ptr (some (b, o))) 4 = some (.ptr (some (b, o + 4))) := by kernel_rfl
theorem fi98_4 (cs : List NVal) : nfield Tryz.prog 98 (.agg cs) 4 = cs[4]? := by kernel_rfl
theorem fa98_5 (b o : Nat) : nfieldAddr Tryz.prog 98 (.ptr (some (b, o))) 5 = some (.ptr (some (b, o + 5))) := by kernel_rfl
theorem fi98_5 (cs : List NVal) : nfield Tryz.prog 98 (.agg cs) 5 = cs[5]? := by kernel_rfl
theorem fa98_6 (b o : Nat) : nfieldAddr Tryz.prog 98 (.ptr (some (b, o))) 6 = some (.ptr (some (b, o + 6))) := by kernel_rfl
theorem fi98_6 (cs : List NVal) : nfield Tryz.prog 98 (.agg cs) 6 = some (.agg ((cs.drop 6).take 6)) := by kernel_rfl
theorem fa98_7 (b o : Nat) : nfieldAddr Tryz.prog 98 (.ptr (some (b, o))) 7 = some (.ptr (some (b, o + 12))) := by kernel_rfl
theorem fi98_7 (cs : List NVal) : nfield Tryz.prog 98 (.agg cs) 7 = cs[12]? := by kernel_rfl
theorem fa98_8 (b o : Nat) : nfieldAddr Tryz.prog 98 (.ptr (some (b, o))) 8 = some (.ptr (some (b, o + 13))) := by kernel_rfl
theorem fi98_8 (cs : List NVal) : nfield Tryz.prog 98 (.agg cs) 8 = cs[13]? := by kernel_rfl
theorem fa98_9 (b o : Nat) : nfieldAddr Tryz.prog 98 (.ptr (some (b, o))) 9 = some (.ptr (some (b, o + 14))) := by kernel_rfl
theorem fi98_9 (cs : List NVal) : nfield Tryz.prog 98 (.agg cs) 9 = some (.agg ((cs.drop 14).take 7)) := by kernel_rfl
theorem fa98_10 (b o : Nat) : nfieldAddr Tryz.prog 98 (.ptr (some (b, o))) 10 = some (.ptr (some (b, o + 21))) := by kernel_rfl
theorem fi98_10 (cs : List NVal) : nfield Tryz.prog 98 (.agg cs) 10 = some (.agg ((cs.drop 21).take 7)) := by kernel_rfl
theorem fa98_11 (b o : Nat) : nfieldAddr Tryz.prog 98 (.ptr (some (b, o))) 11 = some (.ptr (some (b, o + 28))) := by kernel_rfl
theorem fi98_11 (cs : List NVal) : nfield Tryz.prog 98 (.agg cs) 11 = some (.agg ((cs.drop 28).take 7)) := by kernel_rfl
theorem fa98_12 (b o : Nat) : nfieldAddr Tryz.prog 98 (.ptr (some (b, o))) 12 = some (.ptr (some (b, o + 35))) := by kernel_rfl
theorem fi98_12 (cs : List NVal) : nfield Tryz.prog 98 (.agg cs) 12 = cs[35]? := by kernel_rfl
theorem fa98_13 (b o : Nat) : nfieldAddr Tryz.prog 98 (.ptr (some (b, o))) 13 = some (.ptr (some (b, o + 36))) := by kernel_rfl
theorem fi98_13 (cs : List NVal) : nfield Tryz.prog 98 (.agg cs) 13 = cs[36]? := by kernel_rfl
theorem fa98_14 (b o : Nat) : nfieldAddr Tryz.prog 98 (.ptr (some (b, o))) 14 = some (.ptr (some (b, o + 37))) := by kernel_rfl
theorem fi98_14 (cs : List NVal) : nfield Tryz.prog 98 (.agg cs) 14 = cs[37]? := by kernel_rfl
theorem fa98_15 (b o : Nat) : nfieldAddr Tryz.prog 98 (.ptr (some (b, o))) 15 = some (.ptr (some (b, o + 38))) := by kernel_rfl
theorem fi98_15 (cs : List NVal) : nfield Tryz.prog 98 (.agg cs) 15 = cs[38]? := by kernel_rfl
theorem fa98_16 (b o : Nat) : nfieldAddr Tryz.prog 98 (.ptr (some (b, o))) 16 = some (.ptr (some (b, o + 39))) := by kernel_rfl
theorem fi98_16 (cs : List NVal) : nfield Tryz.prog 98 (.agg cs) 16 = cs[39]? := by kernel_rfl
theorem fa98_17 (b o : Nat) : nfieldAddr Tryz.prog 98 (.ptr (some (b, o))) 17 = some (.ptr (some (b, o + 40))) := by kernel_rfl
theorem fi98_17 (cs : List NVal) : nfield Tryz.prog 98 (.agg cs) 17 = cs[40]? := by kernel_rfl
theorem fa98_18 (b o : Nat) : nfieldAddr Tryz.prog 98 (.ptr (some (b, o))) 18 = some (.ptr (some (b, o + 41))) := by kernel_rfl
theorem fi98_18 (cs : List NVal) : nfield Tryz.prog 98 (.agg cs) 18 = some (.agg ((cs.drop 41).take 4)) := by kernel_rfl
theorem sz100 : szOf Tryz.prog 100 = some 1 := by kernel_rfl
theorem ag100 : aggT Tryz.prog 100 = some false := by kernel_rfl
theorem by100 : bytesOf Tryz.prog 100 = some 8 := by kernel_rfl
theorem ze100 : zeroOf Tryz.prog 100 = some .nilFunc := by kernel_rfl
theorem sz102 : szOf Tryz.prog 102 = some 10 := by kernel_rfl
theorem ag102 : aggT Tryz.prog 102 = some true := by kernel_rfl
theorem by102 : bytesOf Tryz.prog 102 = some 96 := by kernel_rfl
theorem ze102 : zeroOf Tryz.prog 102 = some (.agg [(.int .i64 0), (.int .i64 0), (.int .i64 0), (.int .i64 0), (.int .i64 0), (.int .u64 0), (.slice none 0 0 none), .nilFunc, (.int .i64 0), (.bool false)]) := by kernel_rfl
theorem fa102_0 (b o : Nat) : nfieldAddr Tryz.prog 102 (.ptr (some (b, o))) 0 = some (.ptr (some (b, o))) := by kernel_rfl
theorem fi102_0 (cs : List NVal) : nfield Tryz.prog 102 (.agg cs) 0 = cs[0]? := by kernel_rfl
theorem fa102_1 (b o : Nat) : nfieldAddr Tryz.prog 102 (.ptr (some (b, o))) 1 = some (.ptr (some (b, o + 1))) := by kernel_rfl
theorem fi102_1 (cs : List NVal) : nfield Tryz.prog 102 (.agg cs) 1 = some (.agg ((cs.drop 1).take 6)) := by kernel_rfl
theorem fa102_2 (b o : Nat) : nfieldAddr Tryz.prog 102 (.ptr (some (b, o))) 2 = some (.ptr (some (b, o + 7))) := by kernel_rfl
theorem fi102_2 (cs : List NVal) : nfield Tryz.prog 102 (.agg cs) 2 = cs[7]? := by kernel_rfl
theorem fa102_3 (b o : Nat) : nfieldAddr Tryz.prog 102 (.ptr (some (b, o))) 3 = some (.ptr (some (b, o + 8))) := by kernel_rfl
theorem fi102_3 (cs : List NVal) : nfield Tryz.prog 102 (.agg cs) 3 = cs[8]? := by kernel_rfl
theorem fa102_4 (b o : Nat) : nfieldAddr Tryz.prog 102 (.ptr (some (b, o))) 4 = some (.ptr (some (b, o + 9))) := by kernel_rfl
theorem fi102_4 (cs : List NVal) : nfield Tryz.prog 102 (.agg cs) 4 = cs[9]? := by kernel_rfl
theorem sz104 : szOf Tryz.prog 104 = some 1 := by kernel_rfl
theorem ag104 : aggT Tryz.prog 104 = some false := by kernel_rfl
theorem by104 : bytesOf Tryz.prog 104 = some 8 := by kernel_rfl
theorem ze104 : zeroOf Tryz.prog 104 = some .nilFunc := by kernel_rfl
theorem sz105 : szOf Tryz.prog 105 = some 1 := by kernel_rfl
theorem ag105 : aggT Tryz.prog 105 = some false := by kernel_rfl
theorem by105 : bytesOf Tryz.prog 105 = some 8 := by kernel_rfl
theorem ze105 : zeroOf Tryz.prog 105 = some .nilFunc := by kernel_rfl
theorem sz107 : szOf Tryz.prog 107 = some 4 := by kernel_rfl
theorem ag107 : aggT Tryz.prog 107 = some true := by kernel_rfl
theorem by107 : bytesOf Tryz.prog 107 = some 32 := by kernel_rfl
theorem ze107 : zeroOf Tryz.prog 107 = some (.agg [.nilFunc, .nilFunc, .nilFunc, .nilFunc]) := by kernel_rfl
theorem fa107_0 (b o : Nat) : nfieldAddr Tryz.prog 107 (.ptr (some (b, o))) 0 = some (.ptr (some (b, o))) := by kernel_rfl
theorem fi107_0 (cs : List NVal) : nfield Tryz.prog 107 (.agg cs) 0 = cs[0]? := by kernel_rfl
theorem fa107_1 (b o : Nat) : nfieldAddr Tryz.prog 107 (.ptr (some (b, o))) 1 = some (.ptr (some (b, o + 1))) := by kernel_rfl
theorem fi107_1 (cs : List NVal) : nfield Tryz.prog 107 (.agg cs) 1 = cs[1]? := by kernel_rfl
theorem fa107_2 (b o : Nat) : nfieldAddr Tryz.prog 107 (.ptr (some (b, o))) 2 = some (.ptr (some (b, o + 2))) := by kernel_rfl
theorem fi107_2 (cs : List NVal) : nfield Tryz.prog 107 (.agg cs) 2 = cs[2]? := by kernel_rfl
theorem fa107_3 (b o : Nat) : nfieldAddr Tryz.prog 107 (.ptr (some (b, o))) 3 = some (.ptr (some (b, o + 3))) := by kernel_rfl
theorem fi107_3 (cs : List NVal) : nfield Tryz.prog 107 (.agg cs) 3 = cs[3]? := by kernel_rfl
theorem sz110 : szOf Tryz.prog 110 = some 1 := by kernel_rfl
theorem ag110 : aggT Tryz.prog 110 = some false := by kernel_rfl
theorem by110 : bytesOf Tryz.prog 110 = some 24 := by kernel_rfl
theorem ze110 : zeroOf Tryz.prog 110 = some (.slice none 0 0 none) := by kernel_rfl
theorem sz112 : szOf Tryz.prog 112 = some 10 := by kernel_rfl
theorem ag112 : aggT Tryz.prog 112 = some true := by kernel_rfl
theorem by112 : bytesOf Tryz.prog 112 = some 112 := by kernel_rfl
theorem ze112 : zeroOf Tryz.prog 112 = some (.agg [(.int .i64 0), (.int .i64 0), (.int .i64 0), (.str []), (.str []), (.int .i64 0), (.int .i64 0), (.bool false), (.int .i64 0), (.slice none 0 0 none)]) := by kernel_rfl
theorem fa112_0 (b o : Nat) : nfieldAddr Tryz.prog 112 (.ptr (some (b, o))) 0 = some (.ptr (some (b, o))) := by kernel_rfl
theorem fi112_0 (cs : List NVal) : nfield Tryz.prog 112 (.agg cs) 0 = cs[0]? := by kernel_rfl
theorem fa112_1 (b o : Nat) : nfieldAddr Tryz.prog 112 (.ptr (some (b, o))) 1 = some (.ptr (some (b, o + 1))) := by kernel_rfl
theorem fi112_1 (cs : List NVal) : nfield Tryz.prog 112 (.agg cs) 1 = cs[1]? := by kernel_rfl
theorem fa112_2 (b o : Nat) : nfieldAddr Tryz.prog 112 (.ptr (some (b, o))) 2 = some (.ptr (some (b, o + 2))) := by kernel_rfl
theorem fi112_2 (cs : List NVal) : nfield Tryz.prog 112 (.agg cs) 2 = some (.agg ((cs.drop 2).take 4)) := by kernel_rfl
theorem fa112_3 (b o : Nat) : nfieldAddr Tryz.prog 112 (.ptr (some (b, o))) 3 = some (.ptr (some (b, o + 6))) := by kernel_rfl
theorem fi112_3 (cs : List NVal) : nfield Tryz.prog 112 (.agg cs) 3 = some (.agg ((cs.drop 6).take 4)) := by kernel_rfl
theorem sz114 : szOf Tryz.prog 114 = some 10 := by kernel_rfl
theorem ag114 : aggT Tryz.prog 114 = some true := by kernel_rfl
theorem by114 : bytesOf Tryz.prog 114 = some 112 := by kernel_rfl
theorem ze114 : zeroOf Tryz.prog 114 = some (.agg [(.int .i64 0), (.int .i64 0), (.int .i64 0), (.str []), (.str []), (.int .i64 0), (.int .i64 0), (.bool false), (.int .i64 0), (.slice none 0 0 none)]) := by kernel_rfl
theorem fa114_0 (b o : Nat) : nfieldAddr Tryz.prog 114 (.ptr (some (b, o))) 0 = some (.ptr (some (b, o))) := by kernel_rfl
theorem fi114_0 (cs : List NVal) : nfield Tryz.prog 114 (.agg cs) 0 = cs[0]? := by kernel_rfl
theorem fa114_1 (b o : Nat) : nfieldAddr Tryz.prog 114 (.ptr (some (b, o))) 1 = some (.ptr (some (b, o + 1))) := by kernel_rfl
theorem fi114_1 (cs : List NVal) : nfield Tryz.prog 114 (.agg cs) 1 = cs[1]? := by kernel_rfl
theorem fa114_2 (b o : Nat) : nfieldAddr Tryz.prog 114 (.ptr (some (b, o))) 2 = some (.ptr (some (b, o + 2))) := by kernel_rfl
theorem fi114_2 (cs : List NVal) : nfield Tryz.prog 114 (.agg cs) 2 = some (.agg ((cs.drop 2).take 4)) := by kernel_rfl
theorem fa114_3 (b o : Nat) : nfieldAddr Tryz.prog 114 (.ptr (some (b, o))) 3 = some (.ptr (some (b, o + 6))) := by kernel_rfl
theorem fi114_3 (cs : List NVal) : nfield Tryz.prog 114 (.agg cs) 3 = some (.agg ((cs.drop 6).take 4)) := by kernel_rfl
theorem sz121 : szOf Tryz.prog 121 = some 1 := by kernel_rfl
theorem ag121 : aggT Tryz.prog 121 = some false := by kernel_rfl
theorem by121 : bytesOf Tryz.prog 121 = some 24 := by kernel_rfl
theorem ze121 : zeroOf Tryz.prog 121 = some (.slice none 0 0 none) := by kernel_rfl
theorem sz123 : szOf Tryz.prog 123 = some 13 := by kernel_rfl
theorem ag123 : aggT Tryz.prog 123 = some true := by kernel_rfl
theorem by123 : bytesOf Tryz.prog 123 = some 152 := by kernel_rfl
theorem ze123 : zeroOf Tryz.prog 123 = some (.agg ([(.int .i64 0), (.int .i64 0), (.int .i64 0), (.int .i64 0), (.int .i64 0), (.int .i64 0), (.int .i64 0), (.int .i64 0), (.ptr none), (.slice none 0 0 none), (.slice none 0 0 none), (.slice none 0 0 none), (.int .i64 0)])) := by kernel_rfl
theorem fa123_0 (b o : Nat) : nfieldAddr Tryz.prog 123 (.ptr (some (b, o))) 0 = some (.ptr (some (b, o))) := by kernel_rfl
theorem fi123_0 (cs : List NVal) : nfield Tryz.prog 123 (.agg cs) 0 = some (.agg ((cs.drop 0).take 8)) := by kernel_rfl
theorem fa123_1 (b o : Nat) : nfieldAddr Tryz.prog 123 (.ptr (some (b, o))) 1 = some (.ptr (some (b, o + 8))) := by kernel_rfl
theorem fi123_1 (cs : List NVal) : nfield Tryz.prog 123 (.agg cs) 1 = cs[8]? := by kernel_rfl
theorem fa123_2 (b o : Nat) : nfieldAddr Tryz.prog 123 (.ptr (some (b, o))) 2 = some (.ptr (some (b, o + 9))) := by kernel_rfl
theorem fi123_2 (cs : List NVal) : nfield Tryz.prog 123 (.agg cs) 2 = cs[9]? := by kernel_rfl
theorem fa123_3 (b o : Nat) : nfieldAddr Tryz.prog 123 (.ptr (some (b, o))) 3 = some (.ptr (some (b, o + 10))) := by kernel_rfl
theorem fi123_3 (cs : List NVal) : nfield Tryz.prog 123 (.agg cs) 3 = cs[10]? := by kernel_rfl
theorem fa123_4 (b o : Nat) : nfieldAddr Tryz.prog 123 (.ptr (some (b, o))) 4 = some (.ptr (some (b, o + 11))) := by kernel_rfl
theorem fi123_4 (cs : List NVal) : nfield Tryz.prog 123 (.agg cs) 4 = cs[11]? := by kernel_rfl
theorem fa123_5 (b o : Nat) : nfieldAddr Tryz.prog 123 (.ptr (some (b, o))) 5 = some (.ptr (some (b, o + 12))) := by kernel_rfl
theorem fi123_5 (cs : List NVal) : nfield Tryz.prog 123 (.agg cs) 5 = cs[12]? := by kernel_rfl
theorem sz125 : szOf Tryz.prog 125 = some 1 := by kernel_rfl
theorem ag125 : aggT Tryz.prog 125 = some false := by kernel_rfl
theorem by125 : bytesOf Tryz.prog 125 = some 8 := by kernel_rfl
theorem ze125 : zeroOf Tryz.prog 125 = some .nilFunc := by kernel_rfl
theorem sz128 : szOf Tryz.prog 128 = some 9 := by kernel_rfl
theorem ag128 : aggT Tryz.prog 128 = some true := by kernel_rfl
theorem by128 : bytesOf Tryz.prog 128 = some 88 := by kernel_rfl
theorem ze128 : zeroOf Tryz.prog 128 = some (.agg [(.slice none 0 0 none), (.int .i64 0), (.bool false), .nilFunc, .nilFunc, .nilFunc, .nilFunc, (.int .i64 0), (.int .i64 0)]) := by kernel_rfl
theorem fa128_0 (b o : Nat) : nfieldAddr Tryz.prog 128 (.ptr (some (b, o))) 0 = some (.ptr (some (b, o))) := by kernel_rfl
theorem fi128_0 (cs : List NVal) : nfield Tryz.prog 128 (.agg cs) 0 = cs[0]? := by kernel_rfl
theorem fa128_1 (b o : Nat) : nfieldAddr Tryz.prog 128 (.ptr (some (b, o))) 1 = some (.ptr (some (b, o + 1))) := by kernel_rfl
theorem fi128_1 (cs : List NVal) : nfield Tryz.prog 128 (.agg cs) 1 = cs[1]? := by kernel_rfl
theorem fa128_2 (b o : Nat) : nfieldAddr Tryz.prog 128 (.ptr (some (b, o))) 2 = some (.ptr (some (b, o + 2))) := by kernel_rfl
theorem fi128_2 (cs : List NVal) : nfield Tryz.prog 128 (.agg cs) 2 = cs[2]? := by kernel_rfl
theorem fa128_3 (b o : Nat) : nfieldAddr Tryz.prog 128 (.ptr (some (b, o))) 3 = some (.ptr (some (b, o + 3))) := by kernel_rfl
theorem fi128_3 (cs : List NVal) : nfield Tryz.prog 128 (.agg cs) 3 = some (.agg ((cs.drop 3).take 4)) := by kernel_rfl
theorem fa128_4 (b o : Nat) : nfieldAddr Tryz.prog 128 (.ptr (some (b, o))) 4 = some (.ptr (some (b, o + 7))) := by kernel_rfl
theorem fi128_4 (cs : List NVal) : nfield Tryz.prog 128 (.agg cs) 4 = cs[7]? := by kernel_rfl
theorem fa128_5 (b o : Nat) : nfieldAddr Tryz.prog 128 (.ptr (some (b, o))) 5 = some (.ptr (some (b, o + 8))) := by kernel_rfl
theorem fi128_5 (cs : List NVal) : nfield Tryz.prog 128 (.agg cs) 5 = cs[8]? := by kernel_rfl
theorem sz129 : szOf Tryz.prog 129 = some 1 := by kernel_rfl
theorem ag129 : aggT Tryz.prog 129 = some false := by kernel_rfl
theorem by129 : bytesOf Tryz.prog 129 = some 8 := by kernel_rfl
theorem ze129 : zeroOf Tryz.prog 129 = some (.ptr none) := by kernel_rfl
theorem sz132 : szOf Tryz.prog 132 = some 1 := by kernel_rfl
theorem ag132 : aggT Tryz.prog 132 = some false := by kernel_rfl
theorem by132 : bytesOf Tryz.prog 132 = some 24 := by kernel_rfl
theorem ze132 : zeroOf Tryz.prog 132 = some (.slice none 0 0 none) := by kernel_rfl
theorem sz134 : szOf Tryz.prog 134 = some 13 := by kernel_rfl
theorem ag134 : aggT Tryz.prog 134 = some true := by kernel_rfl
theorem by134 : bytesOf Tryz.prog 134 = some 152 := by kernel_rfl
theorem ze134 : zeroOf Tryz.prog 134 = some (.agg ([(.int .i64 0), (.int .i64 0), (.int .i64 0), (.int .i64 0), (.int .i64 0), (.int .i64 0), (.int .i64 0), (.int .i64 0), (.ptr none), (.slice none 0 0 none), (.slice none 0 0 none), (.slice none 0 0 none), (.int .i64 0)])) := by kernel_rfl
theorem fa134_0 (b o : Nat) : nfieldAddr Tryz.prog 134 (.ptr (some (b, o))) 0 = some (.ptr (some (b, o))) := by kernel_rfl
theorem fi134_0 (cs : List NVal) : nfield Tryz.prog 134 (.agg cs) 0 = some (.agg ((cs.drop 0).take 8)) := by kernel_rfl
theorem fa134_1 (b o : Nat) : nfieldAddr Tryz.prog 134 (.ptr (some (b, o))) 1 = some (.ptr (some (b, o + 8))) := by kernel_rfl
theorem fi134_1 (cs : List NVal) : nfield Tryz.prog 134 (.agg cs) 1 = cs[8]? := by kernel_rfl
theorem fa134_2 (b o : Nat) : nfieldAddr Tryz.prog 134 (.ptr (some (b, o))) 2 = some (.ptr (some (b, o + 9))) := by kernel_rfl
theorem fi134_2 (cs : List NVal) : nfield Tryz.prog 134 (.agg cs) 2 = cs[9]? := by kernel_rfl
theorem fa134_3 (b o : Nat) : nfieldAddr Tryz.prog 134 (.ptr (some (b, o))) 3 = some (.ptr (some (b, o + 10))) := by kernel_rfl
theorem fi134_3 (cs : List NVal) : nfield Tryz.prog 134 (.agg cs) 3 = cs[10]? := by kernel_rfl
theorem fa134_4 (b o : Nat) : nfieldAddr Tryz.prog 134 (.ptr (some (b, o))) 4 = some (.ptr (some (b, o + 11))) := by kernel_rfl
theorem fi134_4 (cs : List NVal) : nfield Tryz.prog 134 (.agg cs) 4 = cs[11]? := by kernel_rfl
theorem fa134_5 (b o : Nat) : nfieldAddr Tryz.prog 134 (.ptr (some (b, o))) 5 = some (.ptr (some (b, o + 12))) := by kernel_rfl
theorem fi134_5 (cs : List NVal) : nfield Tryz.prog 134 (.agg cs) 5 = cs[12]? := by kernel_rfl
theorem sz135 : szOf Tryz.prog 135 = some 1 := by kernel_rfl
theorem ag135 : aggT Tryz.prog 135 = some false := by kernel_rfl
theorem by135 : bytesOf Tryz.prog 135 = some 8 := by kernel_rfl
theorem ze135 : zeroOf Tryz.prog 135 = some (.ptr none) := by kernel_rfl
theorem sz136 : szOf Tryz.prog 136 = some 1 := by kernel_rfl
theorem ag136 : aggT Tryz.prog 136 = some false := by kernel_rfl
theorem by136 : bytesOf Tryz.prog 136 = some 8 := by kernel_rfl
theorem ze136 : zeroOf Tryz.prog 136 = some (.ptr none) := by kernel_rfl
theorem sz137 : szOf Tryz.prog 137 = some 1 := by kernel_rfl
theorem ag137 : aggT Tryz.prog 137 = some false := by kernel_rfl
theorem by137 : bytesOf Tryz.prog 137 = some 8 := by kernel_rfl
theorem ze137 : zeroOf Tryz.prog 137 = some (.ptr none) := by kernel_rfl
theorem sz139 : szOf Tryz.prog 139 = some 7 := by kernel_rfl
theorem ag139 : aggT Tryz.prog 139 = some true := by kernel_rfl
theorem by139 : bytesOf Tryz.prog 139 = some 72 := by kernel_rfl
theorem ze139 : zeroOf Tryz.prog 139 = some (.agg [(.slice none 0 0 none), (.int .i64 0), (.ptr none), (.ptr none), (.ptr none), (.int .i64 0), (.int .i64 0)]) := by kernel_rfl
theorem fa139_0 (b o : Nat) : nfieldAddr Tryz.prog 139 (.ptr (some (b, o))) 0 = some (.ptr (some (b, o))) := by kernel_rfl
theorem fi139_0 (cs : List NVal) : nfield Tryz.prog 139 (.agg cs) 0 = cs[0]? := by kernel_rfl
theorem fa139_1 (b o : Nat) : nfieldAddr Tryz.prog 139 (.ptr (some (b, o))) 1 = some (.ptr (some (b, o + 1))) := by kernel_rfl
theorem fi139_1 (cs : List NVal) : nfield Tryz.prog 139 (.agg cs) 1 = cs[1]? := by kernel_rfl
theorem fa139_2 (b o : Nat) : nfieldAddr Tryz.prog 139 (.ptr (some (b, o))) 2 = some (.ptr (some (b, o + 2))) := by kernel_rfl
theorem fi139_2 (cs : List NVal) : nfield Tryz.prog 139 (.agg cs) 2 = cs[2]? := by kernel_rfl
theorem fa139_3 (b o : Nat) : nfieldAddr Tryz.prog 139 (.ptr (some (b, o))) 3 = some (.ptr (some (b, o + 3))) := by kernel_rfl
theorem fi139_3 (cs : List NVal) : nfield Tryz.prog 139 (.agg cs) 3 = cs[3]? := by kernel_rfl
theorem fa139_4 (b o : Nat) : nfieldAddr Tryz.prog 139 (.ptr (some (b, o))) 4 = some (.ptr (some (b, o + 4))) := by kernel_rfl
theorem fi139_4 (cs : List NVal) : nfield Tryz.prog 139 (.agg cs) 4 = cs[4]? := by kernel_rfl
theorem fa139_5 (b o : Nat) : nfieldAddr Tryz.prog 139 (.ptr (some (b, o))) 5 = some (.ptr (some (b, o + 5))) := by kernel_rfl
theorem fi139_5 (cs : List NVal) : nfield Tryz.prog 139 (.agg cs) 5 = cs[5]? := by kernel_rfl
theorem fa139_6 (b o : Nat) : nfieldAddr Tryz.prog 139 (.ptr (some (b, o))) 6 = some (.ptr (some (b, o + 6))) := by kernel_rfl
theorem fi139_6 (cs : List NVal) : nfield Tryz.prog 139 (.agg cs) 6 = cs[6]? := by kernel_rfl
theorem sz146 : szOf Tryz.prog 146 = some 1 := by kernel_rfl
theorem ag146 : aggT Tryz.prog 146 = some false := by kernel_rfl
theorem by146 : bytesOf Tryz.prog 146 = some 8 := by kernel_rfl
theorem ze146 : zeroOf Tryz.prog 146 = some (.ptr none) := by kernel_rfl
theorem sz149 : szOf Tryz.prog 149 = some 1 := by kernel_rfl
theorem ag149 : aggT Tryz.prog 149 = some false := by kernel_rfl
theorem by149 : bytesOf Tryz.prog 149 = some 8 := by kernel_rfl
theorem ze149 : zeroOf Tryz.prog 149 = some .nilFunc := by kernel_rfl
theorem sz155 : szOf Tryz.prog 155 = some 4 := by kernel_rfl
theorem ag155 : aggT Tryz.prog 155 = some true := by kernel_rfl
theorem by155 : bytesOf Tryz.prog 155 = some 48 := by kernel_rfl
theorem ze155 : zeroOf Tryz.prog 155 = some (.agg [(.int .i64 0), (.int .i64 0), (.bool false), (.slice none 0 0 none)]) := by kernel_rfl
theorem fa155_0 (b o : Nat) : nfieldAddr Tryz.prog 155 (.ptr (some (b, o))) 0 = some (.ptr (some (b, o))) := by kernel_rfl
theorem fi155_0 (cs : List NVal) : nfield Tryz.prog 155 (.agg cs) 0 = cs[0]? := by kernel_rfl
theorem fa155_1 (b o : Nat) : nfieldAddr Tryz.prog 155 (.ptr (some (b, o))) 1 = some (.ptr (some (b, o + 1))) := by kernel_rfl
theorem fi155_1 (cs : List NVal) : nfield Tryz.prog 155 (.agg cs) 1 = cs[1]? := by kernel_rfl
theorem fa155_2 (b o : Nat) : nfieldAddr Tryz.prog 155 (.ptr (some (b, o))) 2 = some (.ptr (some (b, o + 2))) := by kernel_rfl
theorem fi155_2 (cs : List NVal) : nfield Tryz.prog 155 (.agg cs) 2 = cs[2]? := by kernel_rfl
theorem fa155_3 (b o : Nat) : nfieldAddr Tryz.prog 155 (.ptr (some (b, o))) 3 = some (.ptr (some (b, o + 3))) := by kernel_rfl
theorem fi155_3 (cs : List NVal) : nfield Tryz.prog 155 (.agg cs) 3 = cs[3]? := by kernel_rfl
theorem sz162 : szOf Tryz.prog 162 = some 1 := by kernel_rfl
theorem ag162 : aggT Tryz.prog 162 = some false := by kernel_rfl
theorem by162 : bytesOf Tryz.prog 162 = some 8 := by kernel_rfl
theorem ze162 : zeroOf Tryz.prog 162 = some (.ptr none) := by kernel_rfl
theorem sz165 : szOf Tryz.prog 165 = some 1 := by kernel_rfl
theorem ag165 : aggT Tryz.prog 165 = some false := by kernel_rfl
theorem by165 : bytesOf Tryz.prog 165 = some 8 := by kernel_rfl
theorem ze165 : zeroOf Tryz.prog 165 = some (.ptr none) := by kernel_rfl
theorem sz172 : szOf Tryz.prog 172 = some 5 := by kernel_rfl
theorem ag172 : aggT Tryz.prog 172 = some true := by kernel_rfl
theorem by172 : bytesOf Tryz.prog 172 = some 40 := by kernel_rfl
theorem ze172 : zeroOf Tryz.prog 172 = some (.agg [(.ptr none), (.ptr none), (.int .i64 0), (.int .i64 0), (.int .i64 0)]) := by kernel_rfl
theorem fa172_0 (b o : Nat) : nfieldAddr Tryz.prog 172 (.ptr (some (b, o))) 0 = some (.ptr (some (b, o))) := by kernel_rfl
theorem fi172_0 (cs : List NVal) : nfield Tryz.prog 172 (.agg cs) 0 = cs[0]? := by kernel_rfl
theorem fa172_1 (b o : Nat) : nfieldAddr Tryz.prog 172 (.ptr (some (b, o))) 1 = some (.ptr (some (b, o + 1))) := by kernel_rfl
theorem fi172_1 (cs : List NVal) : nfield Tryz.prog 172 (.agg cs) 1 = cs[1]? := by kernel_rfl
theorem fa172_2 (b o : Nat) : nfieldAddr Tryz.prog 172 (.ptr (some (b, o))) 2 = some (.ptr (some (b, o + 2))) := by kernel_rfl
theorem fi172_2 (cs : List NVal) : nfield Tryz.prog 172 (.agg cs) 2 = cs[2]? := by kernel_rfl
theorem fa172_3 (b o : Nat) : nfieldAddr Tryz.prog 172 (.ptr (some (b, o))) 3 = some (.ptr (some (b, o + 3))) := by kernel_rfl
theorem fi172_3 (cs : List NVal) : nfield Tryz.prog 172 (.agg cs) 3 = cs[3]? := by kernel_rfl
theorem fa172_4 (b o : Nat) : nfieldAddr Tryz.prog 172 (.ptr (some (b, o))) 4 = some (.ptr (some (b, o + 4))) := by kernel_rfl
theorem fi172_4 (cs : List NVal) : nfield Tryz.prog 172 (.agg cs) 4 = cs[4]? := by kernel_rfl
theorem sz174 : szOf Tryz.prog 174 = some 1 := by kernel_rfl
theorem ag174 : aggT Tryz.prog 174 = some false := by kernel_rfl
theorem by174 : bytesOf Tryz.prog 174 = some 8 := by kernel_rfl
theorem ze174 : zeroOf Tryz.prog 174 = some (.ptr none) := by kernel_rfl
theorem sz177 : szOf Tryz.prog 177 = some 1 := by kernel_rfl
theorem ag177 : aggT Tryz.prog 177 = some false := by kernel_rfl
theorem by177 : bytesOf Tryz.prog 177 = some 8 := by kernel_rfl
theorem ze177 : zeroOf Tryz.prog 177 = some (.ptr none) := by kernel_rfl
theorem sz181 : szOf Tryz.prog 181 = some 4 := by kernel_rfl
theorem ag181 : aggT Tryz.prog 181 = some true := by kernel_rfl
theorem by181 : bytesOf Tryz.prog 181 = some 32 := by kernel_rfl
theorem ze181 : zeroOf Tryz.prog 181 = some (.agg [(.ptr none), (.ptr none), (.int .i64 0), (.int .i64 0)]) := by kernel_rfl
theorem fa181_0 (b o : Nat) : nfieldAddr Tryz.prog 181 (.ptr (some (b, o))) 0 = some (.ptr (some (b, o))) := by kernel_rfl
theorem fi181_0 (cs : List NVal) : nfield Tryz.prog 181 (.agg cs) 0 = cs[0]? := by kernel_rfl
theorem fa181_1 (b o : Nat) : nfieldAddr Tryz.prog 181 (.ptr (some (b, o))) 1 = some (.ptr (some (b, o + 1))) := by kernel_rfl
theorem fi181_1 (cs : List NVal) : nfield Tryz.prog 181 (.agg cs) 1 = cs[1]? := by kernel_rfl
theorem fa181_2 (b o : Nat) : nfieldAddr Tryz.prog 181 (.ptr (some (b, o))) 2 = some (.ptr (some (b, o + 2))) := by kernel_rfl
theorem fi181_2 (cs : List NVal) : nfield Tryz.prog 181 (.agg cs) 2 = cs[2]? := by kernel_rfl
theorem fa181_3 (b o : Nat) : nfieldAddr Tryz.prog 181 (.ptr (some (b, o))) 3 = some (.ptr (some (b, o + 3))) := by kernel_rfl
theorem fi181_3 (cs : List NVal) : nfield Tryz.prog 181 (.agg cs) 3 = cs[3]? := by kernel_rfl
theorem sz184 : szOf Tryz.prog 184 = some 1 := by kernel_rfl
theorem ag184 : aggT Tryz.prog 184 = some false := by kernel_rfl
theorem by184 : bytesOf Tryz.prog 184 = some 24 := by kernel_rfl
theorem ze184 : zeroOf Tryz.prog 184 = some (.slice none 0 0 none) := by kernel_rfl
theorem sz186 : szOf Tryz.prog 186 = some 15 := by kernel_rfl
theorem ag186 : aggT Tryz.prog 186 = some true := by kernel_rfl
theorem by186 : bytesOf Tryz.prog 186 = some 184 := by kernel_rfl
theorem ze186 : zeroOf Tryz.prog 186 = some (.agg [(.str []), (.str []), (.int .i64 0), (.int .i64 0), (.int .i64 0), (.int .i64 0), (.int .i64 0), (.str []), (.slice none 0 0 none), (.str []), (.int .i64 0), (.bool false), (.int .i64 0), (.slice none 0 0 none), (.bool false)]) := by kernel_rfl
theorem fa186_0 (b o : Nat) : nfieldAddr Tryz.prog 186 (.ptr (some (b, o))) 0 = some (.ptr (some (b, o))) := by kernel_rfl
theorem fi186_0 (cs : List NVal) : nfield Tryz.prog 186 (.agg cs) 0 = cs[0]? := by kernel_rfl
theorem fa186_1 (b o : Nat) : nfieldAddr Tryz.prog 186 (.ptr (some (b, o))) 1 = some (.ptr (some (b, o + 1))) := by kernel_rfl
theorem fi186_1 (cs : List NVal) : nfield Tryz.prog 186 (.agg cs) 1 = cs[1]? := by kernel_rfl
theorem fa186_2 (b o : Nat) : nfieldAddr Tryz.prog 186 (.ptr (some (b, o))) 2 = some (.ptr (some (b, o + 2))) := by kernel_rfl
theorem fi186_2 (cs : List NVal) : nfield Tryz.prog 186 (.agg cs) 2 = cs[2]? := by kernel_rfl
theorem fa186_3 (b o : Nat) : nfieldAddr Tryz.prog 186 (.ptr (some (b, o))) 3 = some (.ptr (some (b, o + 3))) := by kernel_rfl
theorem fi186_3 (cs : List NVal) : nfield Tryz.prog 186 (.agg cs) 3 = cs[3]? := by kernel_rfl
theorem fa186_4 (b o : Nat) : nfieldAddr Tryz.prog 186 (.ptr (some (b, o))) 4 = some (.ptr (some (b, o + 4))) := by kernel_rfl
theorem fi186_4 (cs : List NVal) : nfield Tryz.prog 186 (.agg cs) 4 = cs[4]? := by kernel_rfl
theorem fa186_5 (b o : Nat) : nfieldAddr Tryz.prog 186 (.ptr (some (b, o))) 5 = some (.ptr (some (b, o + 5))) := by kernel_rfl
theorem fi186_5 (cs : List NVal) : nfield Tryz.prog 186 (.agg cs) 5 = cs[5]? := by kernel_rfl
theorem fa186_6 (b o : Nat) : nfieldAddr Tryz.prog 186 (.ptr (some (b, o))) 6 = some (.ptr (some (b, o + 6))) := by kernel_rfl
theorem fi186_6 (cs : List NVal) : nfield Tryz.prog 186 (.agg cs) 6 = cs[6]? := by kernel_rfl
theorem fa186_7 (b o : Nat) : nfieldAddr Tryz.prog 186 (.ptr (some (b, o))) 7 = some (.ptr (some (b, o + 7))) := by kernel_rfl
theorem fi186_7 (cs : List NVal) : nfield Tryz.prog 186 (.agg cs) 7 = cs[7]? := by kernel_rfl
theorem fa186_8 (b o : Nat) : nfieldAddr Tryz.prog 186 (.ptr (some (b, o))) 8 = some (.ptr (some (b, o + 8))) := by kernel_rfl
theorem fi186_8 (cs : List NVal) : nfield Tryz.prog 186 (.agg cs) 8 = cs[8]? := by kernel_rfl
theorem fa186_9 (b o : Nat) : nfieldAddr Tryz.prog 186 (.ptr (some (b, o))) 9 = some (.ptr (some (b, o + 9))) := by kernel_rfl
theorem fi186_9 (cs : List NVal) : nfield Tryz.prog 186 (.agg cs) 9 = cs[9]? := by kernel_rfl
theorem fa186_10 (b o : Nat) : nfieldAddr Tryz.prog 186 (.ptr (some (b, o))) 10 = some (.ptr (some (b, o + 10))) := by kernel_rfl
theorem fi186_10 (cs : List NVal) : nfield Tryz.prog 186 (.agg cs) 10 = some (.agg ((cs.drop 10).take 4)) := by kernel_rfl
theorem fa186_11 (b o : Nat) : nfieldAddr Tryz.prog 186 (.ptr (some (b, o))) 11 = some (.ptr (some (b, o + 14))) := by kernel_rfl
theorem fi186_11 (cs : List NVal) : nfield Tryz.prog 186 (.agg cs) 11 = cs[14]? := by kernel_rfl
theorem sz188 : szOf Tryz.prog 188 = some 5 := by kernel_rfl
theorem ag188 : aggT Tryz.prog 188 = some true := by kernel_rfl
theorem by188 : bytesOf Tryz.prog 188 = some 40 := by kernel_rfl
theorem ze188 : zeroOf Tryz.prog 188 = some (.agg [(.int .i64 0), (.int .i64 0), (.int .i64 0), (.int .i64 0), (.bool false)]) := by kernel_rfl
theorem fa188_0 (b o : Nat) : nfieldAddr Tryz.prog 188 (.ptr (some (b, o))) 0 = some (.ptr (some (b, o))) := by kernel_rfl
theorem fi188_0 (cs : List NVal) : nfield Tryz.prog 188 (.agg cs) 0 = cs[0]? := by kernel_rfl
theorem fa188_1 (b o : Nat) : nfieldAddr Tryz.prog 188 (.ptr (some (b, o))) 1 = some (.ptr (some (b, o + 1))) := by kernel_rfl
theorem fi188_1 (cs : List NVal) : nfield Tryz.prog 188 (.agg cs) 1 = cs[1]? := by kernel_rfl
theorem fa188_2 (b o : Nat) : nfieldAddr Tryz.prog 188 (.ptr (some (b, o))) 2 = some (.ptr (some (b, o + 2))) := by kernel_rfl
theorem fi188_2 (cs : List NVal) : nfield Tryz.prog 188 (.agg cs) 2 = cs[2]? := by kernel_rfl
theorem fa188_3 (b o : Nat) : nfieldAddr Tryz.prog 188 (.ptr (some (b, o))) 3 = some (.ptr (some (b, o + 3))) := by kernel_rfl
theorem fi188_3 (cs : List NVal) : nfield Tryz.prog 188 (.agg cs) 3 = cs[3]? := by kernel_rfl
theorem fa188_4 (b o : Nat) : nfieldAddr Tryz.prog 188 (.ptr (some (b, o))) 4 = some (.ptr (some (b, o + 4))) := by kernel_rfl
theorem fi188_4 (cs : List NVal) : nfield Tryz.prog 188 (.agg cs) 4 = cs[4]? := by kernel_rfl
theorem sz190 : szOf Tryz.prog 190 = some 7 := by kernel_rfl
theorem ag190 : aggT Tryz.prog 190 = some true := by kernel_rfl
theorem by190 : bytesOf Tryz.prog 190 = some 96 := by kernel_rfl
theorem ze190 : zeroOf Tryz.prog 190 = some (.agg [(.int .i64 0), (.int .i64 0), (.int .u64 0), (.str []), (.slice none 0 0 none), (.slice none 0 0 none), (.int .u8 0)]) := by kernel_rfl
theorem fa190_0 (b o : Nat) : nfieldAddr Tryz.prog 190 (.ptr (some (b, o))) 0 = some (.ptr (some (b, o))) := by kernel_rfl
theorem fi190_0 (cs : List NVal) : nfield Tryz.prog 190 (.agg cs) 0 = cs[0]? := by kernel_rfl
theorem fa190_1 (b o : Nat) : nfieldAddr Tryz.prog 190 (.ptr (some (b, o))) 1 = some (.ptr (some (b, o + 1))) := by kernel_rfl
theorem fi190_1 (cs : List NVal) : nfield Tryz.prog 190 (.agg cs) 1 = some (.agg ((cs.drop 1).take 5)) := by kernel_rfl
theorem fa190_2 (b o : Nat) : nfieldAddr Tryz.prog 190 (.ptr (some (b, o))) 2 = some (.ptr (some (b, o + 6))) := by kernel_rfl
theorem fi190_2 (cs : List NVal) : nfield Tryz.prog 190 (.agg cs) 2 = cs[6]? := by kernel_rfl
theorem sz191 : szOf Tryz.prog 191 = some 1 := by kernel_rfl
theorem ag191 : aggT Tryz.prog 191 = some false := by kernel_rfl
theorem by191 : bytesOf Tryz.prog 191 = some 24 := by kernel_rfl
theorem ze191 : zeroOf Tryz.prog 191 = some (.slice none 0 0 none) := by kernel_rfl
theorem sz193 : szOf Tryz.prog 193 = some 42 := by kernel_rfl
theorem ag193 : aggT Tryz.prog 193 = some true := by kernel_rfl
theorem by193 : bytesOf Tryz.prog 193 = some 520 := by kernel_rfl
theorem ze193 : zeroOf Tryz.prog 193 = some (.agg [(.int .i64 0), (.str []), (.str []), (.int .i64 0), (.int .i64 0), (.int .i64 0), (.str []), (.int .i64 0), (.int .i64 0), (.bool false), (.int .i64 0), (.int .i64 0), (.int .i64 0), (.int .u64 0), (.str []), (.slice none 0 0 none), (.slice none 0 0 none), (.int .u8 0), (.int .i64 0), (.int .i64 0), (.int .u64 0), (.str []), (.slice none 0 0 none), (.slice none 0 0 none), (.int .u8 0), (.int .i64 0), (.int .i64 0), (.int .u64 0), (.str []), (.slice none 0 0 none), (.slice none 0 0 none), (.int .u8 0), (.int .i64 0), (.slice none 0 0 none), (.slice none 0 0 none), (.bool false), (.bool false), (.int .i64 0), (.bool false), (.int .i64 0), (.slice none 0 0 none), (.bool false)]) := by kernel_rfl
theorem fa193_0 (b o : Nat) : nfieldAddr Tryz.prog 193 (.ptr (some (b, o))) 0 = some (.ptr (some (b, o))) := by kernel_rfl
theorem fi193_0 (cs : List NVal) : nfield Tryz.prog 193 (.agg cs) 0 = some (.agg ((cs.drop 0).take 4)) := by kernel_rfl
theorem fa193_1 (b o : Nat) : nfieldAddr Tryz.prog 193 (.ptr (some (b, o))) 1 = some (.ptr (some (b, o + 4))) := by kernel_rfl
theorem fi193_1 (cs : List NVal) : nfield Tryz.prog 193 (.agg cs) 1 = cs[4]? := by kernel_rfl
theorem fa193_2 (b o : Nat) : nfieldAddr Tryz.prog 193 (.ptr (some (b, o))) 2 = some (.ptr (some (b, o + 5))) := by kernel_rfl
theorem fi193_2 (cs : List NVal) : nfield Tryz.prog 193 (.agg cs) 2 = cs[5]? := by kernel_rfl
theorem fa193_3 (b o : Nat) : nfieldAddr Tryz.prog 193 (.ptr (some (b, o))) 3 = some (.ptr (some (b, o + 6))) := by kernel_rfl
theorem fi193_3 (cs : List NVal) : nfield Tryz.prog 193 (.agg cs) 3 = cs[6]? := by kernel_rfl
theorem fa193_4 (b o : Nat) : nfieldAddr Tryz.prog 193 (.ptr (some (b, o))) 4 = some (.ptr (some (b, o + 7))) := by kernel_rfl
theorem fi193_4 (cs : List NVal) : nfield Tryz.prog 193 (.agg cs) 4 = cs[7]? := by kernel_rfl
theorem fa193_5 (b o : Nat) : nfieldAddr Tryz.prog 193 (.ptr (some (b, o))) 5 = some (.ptr (some (b, o + 8))) := by kernel_rfl
theorem fi193_5 (cs : List NVal) : nfield Tryz.prog 193 (.agg cs) 5 = cs[8]? := by kernel_rfl
theorem fa193_6 (b o : Nat) : nfieldAddr Tryz.prog 193 (.ptr (some (b, o))) 6 = some (.ptr (some (b, o + 9))) := by kernel_rfl
theorem fi193_6 (cs : List NVal) : nfield Tryz.prog 193 (.agg cs) 6 = cs[9]? := by kernel_rfl
theorem fa193_7 (b o : Nat) : nfieldAddr Tryz.prog 193 (.ptr (some (b, o))) 7 = some (.ptr (some (b, o + 10))) := by kernel_rfl
theorem fi193_7 (cs : List NVal) : nfield Tryz.prog 193 (.agg cs) 7 = cs[10]? := by kernel_rfl
theorem fa193_8 (b o : Nat) : nfieldAddr Tryz.prog 193 (.ptr (some (b, o))) 8 = some (.ptr (some (b, o + 11))) := by kernel_rfl
theorem fi193_8 (cs : List NVal) : nfield Tryz.prog 193 (.agg cs) 8 = some (.agg ((cs.drop 11).take 7)) := by kernel_rfl
theorem fa193_9 (b o : Nat) : nfieldAddr Tryz.prog 193 (.ptr (some (b, o))) 9 = some (.ptr (some (b, o + 18))) := by kernel_rfl
theorem fi193_9 (cs : List NVal) : nfield Tryz.prog 193 (.agg cs) 9 = some (.agg ((cs.drop 18).take 7)) := by kernel_rfl
theorem fa193_10 (b o : Nat) : nfieldAddr Tryz.prog 193 (.ptr (some (b, o))) 10 = some (.ptr (some (b, o + 25))) := by kernel_rfl
theorem fi193_10 (cs : List NVal) : nfield Tryz.prog 193 (.agg cs) 10 = some (.agg ((cs.drop 25).take 7)) := by kernel_rfl
theorem fa193_11 (b o : Nat) : nfieldAddr Tryz.prog 193 (.ptr (some (b, o))) 11 = some (.ptr (some (b, o + 32))) := by kernel_rfl
theorem fi193_11 (cs : List NVal) : nfield Tryz.prog 193 (.agg cs) 11 = cs[32]? := by kernel_rfl
theorem fa193_12 (b o : Nat) : nfieldAddr Tryz.prog 193 (.ptr (some (b, o))) 12 = some (.ptr (some (b, o + 33))) := by kernel_rfl
theorem fi193_12 (cs : List NVal) : nfield Tryz.prog 193 (.agg cs) 12 = cs[33]? := by kernel_rfl
theorem fa193_13 (b o : Nat) : nfieldAddr Tryz.prog 193 (.ptr (some (b, o))) 13 = some (.ptr (some (b, o + 34))) := by kernel_rfl
theorem fi193_13 (cs : List NVal) : nfield Tryz.prog 193 (.agg cs) 13 = cs[34]? := by kernel_rfl
theorem fa193_14 (b o : Nat) : nfieldAddr Tryz.prog 193 (.ptr (some (b, o))) 14 = some (.ptr (some (b, o + 35))) := by kernel_rfl
theorem fi193_14 (cs : List NVal) : nfield Tryz.prog 193 (.agg cs) 14 = cs[35]? := by kernel_rfl
theorem fa193_15 (b o : Nat) : nfieldAddr Tryz.prog 193 (.ptr (some (b, o))) 15 = some (.ptr (some (b, o + 36))) := by kernel_rfl
theorem fi193_15 (cs : List NVal) : nfield Tryz.prog 193 (.agg cs) 15 = cs[36]? := by kernel_rfl
theorem fa193_16 (b o : Nat) : nfieldAddr Tryz.prog 193 (.ptr (some (b, o))) 16 = some (.ptr (some (b, o + 37))) := by kernel_rfl
theorem fi193_16 (cs : List NVal) : nfield Tryz.prog 193 (.agg cs) 16 = some (.agg ((cs.drop 37).take 4)) := by kernel_rfl
theorem fa193_17 (b o : Nat) : nfieldAddr Tryz.prog 193 (.ptr (some (b, o))) 17 = some (.ptr (some (b, o + 41))) := by kernel_rfl
theorem fi193_17 (cs : List NVal) : nfield Tryz.prog 193 (.agg cs) 17 = cs[41]? := by kernel_rfl
theorem sz197 : szOf Tryz.prog 197 = some 2 := by kernel_rfl
theorem ag197 : aggT Tryz.prog 197 = some true := by kernel_rfl
theorem by197 : bytesOf Tryz.prog 197 = some 24 := by kernel_rfl
theorem ze197 : zeroOf Tryz.prog 197 = some (.agg [(.str []), (.int .i64 0)]) := by kernel_rfl
theorem fa197_0 (b o : Nat) : nfieldAddr Tryz.prog 197 (.ptr (some (b, o))) 0 = some (.ptr (some (b, o))) := by kernel_rfl
theorem fi197_0 (cs : List NVal) : nfield Tryz.prog 197 (.agg cs) 0 = cs[0]? := by kernel_rfl
theorem fa197_1 (b o : Nat) : nfieldAddr Tryz.prog 197 (.ptr (some (b, o))) 1 = some (.ptr (some (b, o + 1))) := by kernel_rfl
theorem fi197_1 (cs : List NVal) : nfield Tryz.prog 197 (.agg cs) 1 = cs[1]? := by kernel_rfl
theorem sz206 : szOf Tryz.prog 206 = some 1 := by kernel_rfl
theorem ag206 : aggT Tryz.prog 206 = some false := by kernel_rfl
theorem by206 : bytesOf Tryz.prog 206 = some 24 := by kernel_rfl
theorem ze206 : zeroOf Tryz.prog 206 = some (.slice none 0 0 none) := by kernel_rfl
theorem sz207 : szOf Tryz.prog 207 = some 1 := by kernel_rfl
theorem ag207 : aggT Tryz.prog 207 = some false := by kernel_rfl
theorem by207 : bytesOf Tryz.prog 207 = some 8 := by kernel_rfl
theorem ze207 : zeroOf Tryz.prog 207 = some (.ptr none) := by kernel_rfl
theorem sz208 : szOf Tryz.prog 208 = some 5 := by kernel_rfl
theorem ag208 : aggT Tryz.prog 208 = some true := by kernel_rfl
theorem by208 : bytesOf Tryz.prog 208 = some 40 := by kernel_rfl
theorem ze208 : zeroOf Tryz.prog 208 = some (.agg [(.ptr none), (.ptr none), (.ptr none), (.ptr none), (.ptr none)]) := by kernel_rfl
theorem sz210 : szOf Tryz.prog 210 = some 6 := by kernel_rfl
theorem ag210 : aggT Tryz.prog 210 = some true := by kernel_rfl
theorem by210 : bytesOf Tryz.prog 210 = some 64 := by kernel_rfl
theorem ze210 : zeroOf Tryz.prog 210 = some (.agg [(.slice none 0 0 none), (.ptr none), (.ptr none), (.ptr none), (.ptr none), (.ptr none)]) := by kernel_rfl
theorem fa210_0 (b o : Nat) : nfieldAddr Tryz.prog 210 (.ptr (some (b, o))) 0 = some (.ptr (some (b, o))) := by kernel_rfl
theorem fi210_0 (cs : List NVal) : nfield Tryz.prog 210 (.agg cs) 0 = cs[0]? := by kernel_rfl
theorem fa210_1 (b o : Nat) : nfieldAddr Tryz.prog 210 (.ptr (some (b, o))) 1 = some (.ptr (some (b, o + 1))) := by kernel_rfl
theorem fi210_1 (cs : List NVal) : nfield Tryz.prog 210 (.agg cs) 1 = some (.agg ((cs.drop 1).take 5)) := by kernel_rfl
theorem sz215 : szOf Tryz.prog 215 = some 4 := by kernel_rfl
theorem ag215 : aggT Tryz.prog 215 = some true := by kernel_rfl
theorem by215 : bytesOf Tryz.prog 215 = some 48 := by kernel_rfl
theorem ze215 : zeroOf Tryz.prog 215 = some (.agg [(.int .i64 0), (.int .i64 0), (.bool false), (.slice none 0 0 none)]) := by kernel_rfl
theorem fa215_0 (b o : Nat) : nfieldAddr Tryz.prog 215 (.ptr (some (b, o))) 0 = some (.ptr (some (b, o))) := by kernel_rfl
theorem fi215_0 (cs : List NVal) : nfield Tryz.prog 215 (.agg cs) 0 = cs[0]? := by kernel_rfl
theorem fa215_1 (b o : Nat) : nfieldAddr Tryz.prog 215 (.ptr (some (b, o))) 1 = some (.ptr (some (b, o + 1))) := by kernel_rfl
theorem fi215_1 (cs : List NVal) : nfield Tryz.prog 215 (.agg cs) 1 = cs[1]? := by kernel_rfl
theorem fa215_2 (b o : Nat) : nfieldAddr Tryz.prog 215 (.ptr (some (b, o))) 2 = some (.ptr (some (b, o + 2))) := by kernel_rfl
theorem fi215_2 (cs : List NVal) : nfield Tryz.prog 215 (.agg cs) 2 = cs[2]? := by kernel_rfl
theorem fa215_3 (b o : Nat) : nfieldAddr Tryz.prog 215 (.ptr (some (b, o))) 3 = some (.ptr (some (b, o + 3))) := by kernel_rfl
theorem fi215_3 (cs : List NVal) : nfield Tryz.prog 215 (.agg cs) 3 = cs[3]? := by kernel_rfl
theorem sz216 : szOf Tryz.prog 216 = some 1 := by kernel_rfl
theorem ag216 : aggT Tryz.prog 216 = some false := by kernel_rfl
theorem by216 : bytesOf Tryz.prog 216 = some 24 := by kernel_rfl
theorem ze216 : zeroOf Tryz.prog 216 = some (.slice none 0 0 none) := by kernel_rfl
theorem sz218 : szOf Tryz.prog 218 = some 3 := by kernel_rfl
theorem ag218 : aggT Tryz.prog 218 = some true := by kernel_rfl
theorem by218 : bytesOf Tryz.prog 218 = some 40 := by kernel_rfl
theorem ze218 : zeroOf Tryz.prog 218 = some (.agg [(.int .i64 0), (.int .i64 0), (.slice none 0 0 none)]) := by kernel_rfl
theorem fa218_0 (b o : Nat) : nfieldAddr Tryz.prog 218 (.ptr (some (b, o))) 0 = some (.ptr (some (b, o))) := by kernel_rfl
theorem fi218_0 (cs : List NVal) : nfield Tryz.prog 218 (.agg cs) 0 = cs[0]? := by kernel_rfl
theorem fa218_1 (b o : Nat) : nfieldAddr Tryz.prog 218 (.ptr (some (b, o))) 1 = some (.ptr (some (b, o + 1))) := by kernel_rfl
theorem fi218_1 (cs : List NVal) : nfield Tryz.prog 218 (.agg cs) 1 = cs[1]? := by kernel_rfl
theorem fa218_2 (b o : Nat) : nfieldAddr Tryz.prog 218 (.ptr (some (b, o))) 2 = some (.ptr (some (b, o + 2))) := by kernel_rfl
theorem fi218_2 (cs : List NVal) : nfield Tryz.prog 218 (.agg cs) 2 = cs[2]? := by kernel_rfl
theorem sz219 : szOf Tryz.prog 219 = some 1 := by kernel_rfl
theorem ag219 : aggT Tryz.prog 219 = some false := by kernel_rfl
theorem by219 : bytesOf Tryz.prog 219 = some 24 := by kernel_rfl
theorem ze219 : zeroOf Tryz.prog 219 = some (.slice none 0 0 none) := by kernel_rfl
theorem sz221 : szOf Tryz.prog 221 = some 2 := by kernel_rfl
theorem ag221 : aggT Tryz.prog 221 = some true := by kernel_rfl
theorem by221 : bytesOf Tryz.prog 221 = some 32 := by kernel_rfl
theorem ze221 : zeroOf Tryz.prog 221 = some (.agg [(.int .i64 0), (.slice none 0 0 none)]) := by kernel_rfl
theorem fa221_0 (b o : Nat) : nfieldAddr Tryz.prog 221 (.ptr (some (b, o))) 0 = some (.ptr (some (b, o))) := by kernel_rfl
theorem fi221_0 (cs : List NVal) : nfield Tryz.prog 221 (.agg cs) 0 = cs[0]? := by kernel_rfl
theorem fa221_1 (b o : Nat) : nfieldAddr Tryz.prog 221 (.ptr (some (b, o))) 1 = some (.ptr (some (b, o + 1))) := by kernel_rfl
theorem fi221_1 (cs : List NVal) : nfield Tryz.prog 221 (.agg cs) 1 = cs[1]? := by kernel_rfl
theorem sz224 : szOf Tryz.prog 224 = some 1 := by kernel_rfl
theorem ag224 : aggT Tryz.prog 224 = some false := by kernel_rfl
theorem by224 : bytesOf Tryz.prog 224 = some 8 := by kernel_rfl
theorem ze224 : zeroOf Tryz.prog 224 = some (.ptr none) := by kernel_rfl
theorem sz228 : szOf Tryz.prog 228 = some 1 := by kernel_rfl
theorem ag228 : aggT Tryz.prog 228 = some false := by kernel_rfl
theorem by228 : bytesOf Tryz.prog 228 = some 8 := by kernel_rfl
theorem ze228 : zeroOf Tryz.prog 228 = some (.int .u64 0) := by kernel_rfl
theorem sz231 : szOf Tryz.prog 231 = some 1 := by kernel_rfl
theorem ag231 : aggT Tryz.prog 231 = some false := by kernel_rfl
theorem by231 : bytesOf Tryz.prog 231 = some 24 := by kernel_rfl
theorem ze231 : zeroOf Tryz.prog 231 = some (.slice none 0 0 none) := by kernel_rfl
theorem sz233 : szOf Tryz.prog 233 = some 2 := by kernel_rfl
theorem ag233 : aggT Tryz.prog 233 = some true := by kernel_rfl
theorem by233 : bytesOf Tryz.prog 233 = some 32 := by kernel_rfl
theorem ze233 : zeroOf Tryz.prog 233 = some (.agg [(.int .i64 0), (.slice none 0 0 none)]) := by kernel_rfl
theorem fa233_0 (b o : Nat) : nfieldAddr Tryz.prog 233 (.ptr (some (b, o))) 0 = some (.ptr (some (b, o))) := by kernel_rfl
theorem fi233_0 (cs : List NVal) : nfield Tryz.prog 233 (.agg cs) 0 = cs[0]? := by kernel_rfl
theorem fa233_1 (b o : Nat) : nfieldAddr Tryz.prog 233 (.ptr (some (b, o))) 1 = some (.ptr (some (b, o + 1))) := by kernel_rfl
theorem fi233_1 (cs : List NVal) : nfield Tryz.prog 233 (.agg cs) 1 = cs[1]? := by kernel_rfl
theorem sz234 : szOf Tryz.prog 234 = some 10 := by kernel_rfl
theorem ag234 : aggT Tryz.prog 234 = some true := by kernel_rfl
theorem by234 : bytesOf Tryz.prog 234 = some 160 := by kernel_rfl
theorem ze234 : zeroOf Tryz.prog 234 = some (.agg [(.int .i64 0), (.slice none 0 0 none), (.int .i64 0), (.slice none 0 0 none), (.int .i64 0), (.slice none 0 0 none), (.int .i64 0), (.slice none 0 0 none), (.int .i64 0), (.slice none 0 0 none)]) := by kernel_rfl
theorem sz236 : szOf Tryz.prog 236 = some 11 := by kernel_rfl
theorem ag236 : aggT Tryz.prog 236 = some true := by kernel_rfl
theorem by236 : bytesOf Tryz.prog 236 = some 184 := by kernel_rfl
theorem ze236 : zeroOf Tryz.prog 236 = some (.agg [(.slice none 0 0 none), (.int .i64 0), (.slice none 0 0 none), (.int .i64 0), (.slice none 0 0 none), (.int .i64 0), (.slice none 0 0 none), (.int .i64 0), (.slice none 0 0 none), (.int .i64 0), (.slice none 0 0 none)]) := by kernel_rfl
theorem fa236_0 (b o : Nat) : nfieldAddr Tryz.prog 236 (.ptr (some (b, o))) 0 = some (.ptr (some (b, o))) := by kernel_rfl
theorem fi236_0 (cs : List NVal) : nfield Tryz.prog 236 (.agg cs) 0 = cs[0]? := by kernel_rfl
theorem fa236_1 (b o : Nat) : nfieldAddr Tryz.prog 236 (.ptr (some (b, o))) 1 = some (.ptr (some (b, o + 1))) := by kernel_rfl
theorem fi236_1 (cs : List NVal) : nfield Tryz.prog 236 (.agg cs) 1 = some (.agg ((cs.drop 1).take 10)) := by kernel_rfl
theorem sz238 : szOf Tryz.prog 238 = some 4 := by kernel_rfl
theorem ag238 : aggT Tryz.prog 238 = some true := by kernel_rfl
theorem by238 : bytesOf Tryz.prog 238 = some 48 := by kernel_rfl
theorem ze238 : zeroOf Tryz.prog 238 = some (.agg [(.int .i64 0), (.int .i64 0), (.bool false), (.slice none 0 0 none)]) := by kernel_rfl
theorem fa238_0 (b o : Nat) : nfieldAddr Tryz.prog 238 (.ptr (some (b, o))) 0 = some (.ptr (some (b, o))) := by kernel_rfl
theorem fi238_0 (cs : List NVal) : nfield Tryz.prog 238 (.agg cs) 0 = cs[0]? := by kernel_rfl
theorem fa238_1 (b o : Nat) : nfieldAddr Tryz.prog 238 (.ptr (some (b, o))) 1 = some (.ptr (some (b, o + 1))) := by kernel_rfl
theorem fi238_1 (cs : List NVal) : nfield Tryz.prog 238 (.agg cs) 1 = cs[1]? := by kernel_rfl
theorem fa238_2 (b o : Nat) : nfieldAddr Tryz.prog 238 (.ptr (some (b, o))) 2 = some (.ptr (some (b, o + 2))) := by kernel_rfl
theorem fi238_2 (cs : List NVal) : nfield Tryz.prog 238 (.agg cs) 2 = cs[2]? := by kernel_rfl
theorem fa238_3 (b o : Nat) : nfieldAddr Tryz.prog 238 (.ptr (some (b, o))) 3 = some (.ptr (some (b, o + 3))) := by kernel_rfl
theorem fi238_3 (cs : List NVal) : nfield Tryz.prog 238 (.agg cs) 3 = cs[3]? := by kernel_rfl
theorem sz239 : szOf Tryz.prog 239 = some 1 := by kernel_rfl
theorem ag239 : aggT Tryz.prog 239 = some false := by kernel_rfl
theorem by239 : bytesOf Tryz.prog 239 = some 24 := by kernel_rfl
theorem ze239 : zeroOf Tryz.prog 239 = some (.slice none 0 0 none) := by kernel_rfl
theorem sz241 : szOf Tryz.prog 241 = some 4 := by kernel_rfl
theorem ag241 : aggT Tryz.prog 241 = some true := by kernel_rfl
theorem by241 : bytesOf Tryz.prog 241 = some 64 := by kernel_rfl
theorem ze241 : zeroOf Tryz.prog 241 = some (.agg [(.int .i64 0), (.int .i64 0), (.slice none 0 0 none), (.slice none 0 0 none)]) := by kernel_rfl
theorem fa241_0 (b o : Nat) : nfieldAddr Tryz.prog 241 (.ptr (some (b, o))) 0 = some (.ptr (some (b, o))) := by kernel_rfl
theorem fi241_0 (cs : List NVal) : nfield Tryz.prog 241 (.agg cs) 0 = cs[0]? := by kernel_rfl
theorem fa241_1 (b o : Nat) : nfieldAddr Tryz.prog 241 (.ptr (some (b, o))) 1 = some (.ptr (some (b, o + 1))) := by kernel_rfl
theorem fi241_1 (cs : List NVal) : nfield Tryz.prog 241 (.agg cs) 1 = cs[1]? := by kernel_rfl
theorem fa241_2 (b o : Nat) : nfieldAddr Tryz.prog 241 (.ptr (some (b, o))) 2 = some (.ptr (some (b, o + 2))) := by kernel_rfl
theorem fi241_2 (cs : List NVal) : nfield Tryz.prog 241 (.agg cs) 2 = cs[2]? := by kernel_rfl
theorem fa241_3 (b o : Nat) : nfieldAddr Tryz.prog 241 (.ptr (some (b, o))) 3 = some (.ptr (some (b, o + 3))) := by kernel_rfl
theorem fi241_3 (cs : List NVal) : nfield Tryz.prog 241 (.agg cs) 3 = cs[3]? := by kernel_rfl
theorem sz251 : szOf Tryz.prog 251 = some 1 := by kernel_rfl
theorem ag251 : aggT Tryz.prog 251 = some false := by kernel_rfl
theorem by251 : bytesOf Tryz.prog 251 = some 8 := by kernel_rfl
theorem ze251 : zeroOf Tryz.prog 251 = some (.ptr none) := by kernel_rfl
theorem sz256 : szOf Tryz.prog 256 = some 2 := by kernel_rfl
theorem ag256 : aggT Tryz.prog 256 = some true := by kernel_rfl
theorem by256 : bytesOf Tryz.prog 256 = some 16 := by kernel_rfl
theorem ze256 : zeroOf Tryz.prog 256 = some (.agg [(.int .i64 0), (.int .i64 0)]) := by kernel_rfl
theorem fa256_0 (b o : Nat) : nfieldAddr Tryz.prog 256 (.ptr (some (b, o))) 0 = some (.ptr (some (b, o))) := by kernel_rfl
theorem fi256_0 (cs : List NVal) : nfield Tryz.prog 256 (.agg cs) 0 = cs[0]? := by kernel_rfl
theorem fa256_1 (b o : Nat) : nfieldAddr Tryz.prog 256 (.ptr (some (b, o))) 1 = some (.ptr (some (b, o + 1))) := by kernel_rfl
theorem fi256_1 (cs : List NVal) : nfield Tryz.prog 256 (.agg cs) 1 = cs[1]? := by kernel_rfl
theorem sz258 : szOf Tryz.prog 258 = some 1 := by kernel_rfl
theorem ag258 : aggT Tryz.prog 258 = some false := by kernel_rfl
theorem by258 : bytesOf Tryz.prog 258 = some 8 := by kernel_rfl
theorem ze258 : zeroOf Tryz.prog 258 = some (.map none) := by kernel_rfl
theorem sz259 : szOf Tryz.prog 259 = some 1 := by kernel_rfl
theorem ag259 : aggT Tryz.prog 259 = some false := by kernel_rfl
theorem by259 : bytesOf Tryz.prog 259 = some 24 := by kernel_rfl
theorem ze259 : zeroOf Tryz.prog 259 = some (.slice none 0 0 none) := by kernel_rfl
theorem sz261 : szOf Tryz.prog 261 = some 3 := by kernel_rfl
theorem ag261 : aggT Tryz.prog 261 = some true := by kernel_rfl
theorem by261 : bytesOf Tryz.prog 261 = some 40 := by kernel_rfl
theorem ze261 : zeroOf Tryz.prog 261 = some (.agg [(.int .i64 0), (.slice none 0 0 none), (.map none)]) := by kernel_rfl
theorem fa261_0 (b o : Nat) : nfieldAddr Tryz.prog 261 (.ptr (some (b, o))) 0 = some (.ptr (some (b, o))) := by kernel_rfl
theorem fi261_0 (cs : List NVal) : nfield Tryz.prog 261 (.agg cs) 0 = cs[0]? := by kernel_rfl
theorem fa261_1 (b o : Nat) : nfieldAddr Tryz.prog 261 (.ptr (some (b, o))) 1 = some (.ptr (some (b, o + 1))) := by kernel_rfl
theorem fi261_1 (cs : List NVal) : nfield Tryz.prog 261 (.agg cs) 1 = cs[1]? := by kernel_rfl
theorem fa261_2 (b o : Nat) : nfieldAddr Tryz.prog 261 (.ptr (some (b, o))) 2 = some (.ptr (some (b, o + 2))) := by kernel_rfl
theorem fi261_2 (cs : List NVal) : nfield Tryz.prog 261 (.agg cs) 2 = cs[2]? := by kernel_rfl
theorem sz262 : szOf Tryz.prog 262 = some 0 := by kernel_rfl
theorem ag262 : aggT Tryz.prog 262 = some true := by kernel_rfl
theorem by262 : bytesOf Tryz.prog 262 = some 0 := by kernel_rfl
theorem ze262 : zeroOf Tryz.prog 262 = some (.agg []) := by kernel_rfl
theorem sz264 : szOf Tryz.prog 264 = some 1 := by kernel_rfl
theorem ag264 : aggT Tryz.prog 264 = some false := by kernel_rfl
theorem by264 : bytesOf Tryz.prog 264 = some 8 := by kernel_rfl
theorem ze264 : zeroOf Tryz.prog 264 = some (.ptr none) := by kernel_rfl
theorem sz274 : szOf Tryz.prog 274 = some 7 := by kernel_rfl
theorem ag274 : aggT Tryz.prog 274 = some true := by kernel_rfl
theorem by274 : bytesOf Tryz.prog 274 = some 104 := by kernel_rfl
theorem ze274 : zeroOf Tryz.prog 274 = some (.agg [(.int .i64 0), (.int .u64 0), (.str []), (.slice none 0 0 none), (.slice none 0 0 none), (.str []), (.int .i64 0)]) := by kernel_rfl
theorem fa274_0 (b o : Nat) : nfieldAddr Tryz.prog 274 (.ptr (some (b, o))) 0 = some (.ptr (some (b, o))) := by kernel_rfl
theorem fi274_0 (cs : List NVal) : nfield Tryz.prog 274 (.agg cs) 0 = some (.agg ((cs.drop 0).take 5)) := by kernel_rfl
theorem fa274_1 (b o : Nat) : nfieldAddr Tryz.prog 274 (.ptr (some (b, o))) 1 = some (.ptr (some (b, o + 5))) := by kernel_rfl
theorem fi274_1 (cs : List NVal) : nfield Tryz.prog 274 (.agg cs) 1 = cs[5]? := by kernel_rfl
theorem fa274_2 (b o : Nat) : nfieldAddr Tryz.prog 274 (.ptr (some (b, o))) 2 = some (.ptr (some (b, o + 6))) := by kernel_rfl
theorem fi274_2 (cs : List NVal) : nfield Tryz.prog 274 (.agg cs) 2 = cs[6]? := by kernel_rfl
theorem sz280 : szOf Tryz.prog 280 = some 1 := by kernel_rfl
theorem ag280 : aggT Tryz.prog 280 = some false := by kernel_rfl
theorem by280 : bytesOf Tryz.prog 280 = some 16 := by kernel_rfl
theorem ze280 : zeroOf Tryz.prog 280 = some .nilIface := by kernel_rfl
theorem sz299 : szOf Tryz.prog 299 = some 1 := by kernel_rfl
theorem ag299 : aggT Tryz.prog 299 = some false := by kernel_rfl
theorem by299 : bytesOf Tryz.prog 299 = some 4 := by kernel_rfl
theorem ze299 : zeroOf Tryz.prog 299 = some (.int .u32 0) := by kernel_rfl
theorem sz306 : szOf Tryz.prog 306 = some 2 := by kernel_rfl
theorem ag306 : aggT Tryz.prog 306 = some true := by kernel_rfl
theorem by306 : bytesOf Tryz.prog 306 = some 24 := by kernel_rfl
theorem ze306 : zeroOf Tryz.prog 306 = some (.agg [(.str []), (.int .i64 0)]) := by kernel_rfl
theorem fa306_0 (b o : Nat) : nfieldAddr Tryz.prog 306 (.ptr (some (b, o))) 0 = some (.ptr (some (b, o))) := by kernel_rfl
theorem fi306_0 (cs : List NVal) : nfield Tryz.prog 306 (.agg cs) 0 = cs[0]? := by kernel_rfl
theorem fa306_1 (b o : Nat) : nfieldAddr Tryz.prog 306 (.ptr (some (b, o))) 1 = some (.ptr (some (b, o + 1))) := by kernel_rfl
theorem fi306_1 (cs : List NVal) : nfield Tryz.prog 306 (.agg cs) 1 = cs[1]? := by kernel_rfl
theorem sz317 : szOf Tryz.prog 317 = some 1 := by kernel_rfl
theorem ag317 : aggT Tryz.prog 317 = some false := by kernel_rfl
theorem by317 : bytesOf Tryz.prog 317 = some 8 := by kernel_rfl
theorem ze317 : zeroOf Tryz.prog 317 = some .nilFunc := by kernel_rfl
theorem sz319 : szOf Tryz.prog 319 = some 1 := by kernel_rfl
theorem ag319 : aggT Tryz.prog 319 = some false := by kernel_rfl
theorem by319 : bytesOf Tryz.prog 319 = some 8 := by kernel_rfl
theorem ze319 : zeroOf Tryz.prog 319 = some .nilFunc := by kernel_rfl
theorem sz345 : szOf Tryz.prog 345 = some 1 := by kernel_rfl
theorem ag345 : aggT Tryz.prog 345 = some false := by kernel_rfl
theorem by345 : bytesOf Tryz.prog 345 = some 24 := by kernel_rfl
theorem ze345 : zeroOf Tryz.prog 345 = some (.slice none 0 0 none) := by kernel_rfl
theorem sz347 : szOf Tryz.prog 347 = some 1 := by kernel_rfl
theorem ag347 : aggT Tryz.prog 347 = some false := by kernel_rfl
theorem by347 : bytesOf Tryz.prog 347 = some 24 := by kernel_rfl
theorem ze347 : zeroOf Tryz.prog 347 = some (.slice none 0 0 none) := by kernel_rfl
theorem sz369 : szOf Tryz.prog 369 = some 7 := by kernel_rfl
theorem ag369 : aggT Tryz.prog 369 = some true := by kernel_rfl
theorem by369 : bytesOf Tryz.prog 369 = some 104 := by kernel_rfl
theorem ze369 : zeroOf Tryz.prog 369 = some (.agg [(.int .i64 0), (.int .u64 0), (.str []), (.slice none 0 0 none), (.slice none 0 0 none), (.str []), (.int .i64 0)]) := by kernel_rfl
theorem fa369_0 (b o : Nat) : nfieldAddr Tryz.prog 369 (.ptr (some (b, o))) 0 = some (.ptr (some (b, o))) := by kernel_rfl
theorem fi369_0 (cs : List NVal) : nfield Tryz.prog 369 (.agg cs) 0 = some (.agg ((cs.drop 0).take 5)) := by kernel_rfl
theorem fa369_1 (b o : Nat) : nfieldAddr Tryz.prog 369 (.ptr (some (b, o))) 1 = some (.ptr (some (b, o + 5))) := by kernel_rfl
theorem fi369_1 (cs : List NVal) : nfield Tryz.prog 369 (.agg cs) 1 = cs[5]? := by kernel_rfl
theorem fa369_2 (b o : Nat) : nfieldAddr Tryz.prog 369 (.ptr (some (b, o))) 2 = some (.ptr (some (b, o + 6))) := by kernel_rfl
theorem fi369_2 (cs : List NVal) : nfield Tryz.prog 369 (.agg cs) 2 = cs[6]? := by kernel_rfl
theorem sz371 : szOf Tryz.prog 371 = some 3 := by kernel_rfl
theorem ag371 : aggT Tryz.prog 371 = some true := by kernel_rfl
theorem by371 : bytesOf Tryz.prog 371 = some 40 := by kernel_rfl
theorem ze371 : zeroOf Tryz.prog 371 = some (.agg [(.int .i64 0), (.slice none 0 0 none), (.int .i64 0)]) := by kernel_rfl
theorem fa371_0 (b o : Nat) : nfieldAddr Tryz.prog 371 (.ptr (some (b, o))) 0 = some (.ptr (some (b, o))) := by kernel_rfl
theorem fi371_0 (cs : List NVal) : nfield Tryz.prog 371 (.agg cs) 0 = cs[0]? := by kernel_rfl
theorem fa371_1 (b o : Nat) : nfieldAddr Tryz.prog 371 (.ptr (some (b, o))) 1 = some (.ptr (some (b, o + 1))) := by kernel_rfl
theorem fi371_1 (cs : List NVal) : nfield Tryz.prog 371 (.agg cs) 1 = cs[1]? := by kernel_rfl
theorem fa371_2 (b o : Nat) : nfieldAddr Tryz.prog 371 (.ptr (some (b, o))) 2 = some (.ptr (some (b, o + 2))) := by kernel_rfl
theorem fi371_2 (cs : List NVal) : nfield Tryz.prog 371 (.agg cs) 2 = cs[2]? := by kernel_rfl
theorem sz372 : szOf Tryz.prog 372 = some 1 := by kernel_rfl
theorem ag372 : aggT Tryz.prog 372 = some false := by kernel_rfl
theorem by372 : bytesOf Tryz.prog 372 = some 24 := by kernel_rfl
theorem ze372 : zeroOf Tryz.prog 372 = some (.slice none 0 0 none) := by kernel_rfl
theorem sz375 : szOf Tryz.prog 375 = some 2 := by kernel_rfl
theorem ag375 : aggT Tryz.prog 375 = some true := by kernel_rfl
theorem by375 : bytesOf Tryz.prog 375 = some 16 := by kernel_rfl
theorem ze375 : zeroOf Tryz.prog 375 = some (.agg [(.int .i64 0), (.int .i64 0)]) := by kernel_rfl
theorem fa375_0 (b o : Nat) : nfieldAddr Tryz.prog 375 (.ptr (some (b, o))) 0 = some (.ptr (some (b, o))) := by kernel_rfl
theorem fi375_0 (cs : List NVal) : nfield Tryz.prog 375 (.agg cs) 0 = cs[0]? := by kernel_rfl
theorem fa375_1 (b o : Nat) : nfieldAddr Tryz.prog 375 (.ptr (some (b, o))) 1 = some (.ptr (some (b, o + 1))) := by kernel_rfl
theorem fi375_1 (cs : List NVal) : nfield Tryz.prog 375 (.agg cs) 1 = cs[1]? := by kernel_rfl
theorem be4 (a b : Bool) : nbin Tryz.prog .eql 4 (.bool a) (.bool b) = some (.bool (a == b)) := bool_eql Tryz.underlying4 a b
theorem bn4 (a b : Bool) : nbin Tryz.prog .neq 4 (.bool a) (.bool b) = some (.bool !(a == b)) := bool_neq Tryz.underlying4 a b
theorem bu23 (l : List (Nat × NVal)) : kBuild Tryz.prog 23 (some l) = (match nfill (fun i => ([(0, 1), (1, 1), (2, 1), (3, 1)] : List (Nat × Nat))[i]?) [(.int .i64 0), (.str []), (.str []), (.int .i64 0)] l with | none => none | some cs => some (.agg cs)) := kBuild_struct ze23 Tryz.underlying23 (by kernel_rfl) l
theorem pe24 (a) : nbin Tryz.prog .eql 24 (.ptr a) (.ptr none) = some (.bool a.isNone) := ptr_eql Tryz.underlying24 a
theorem pn24 (a) : nbin Tryz.prog .neq 24 (.ptr a) (.ptr none) = some (.bool !a.isNone) := ptr_neq Tryz.underlying24 a
theorem pe28 (a) : nbin Tryz.prog .eql 28 (.ptr a) (.ptr none) = some (.bool a.isNone) := ptr_eql Tryz.underlying28 a
theorem pn28 (a) : nbin Tryz.prog .neq 28 (.ptr a) (.ptr none) = some (.bool !a.isNone) := ptr_neq Tryz.underlying28 a
theorem pe31 (a) : nbin Tryz.prog .eql 31 (.ptr a) (.ptr none) = some (.bool a.isNone) := ptr_eql Tryz.underlying31 a
theorem pn31 (a) : nbin Tryz.prog .neq 31 (.ptr a) (.ptr none) = some (.bool !a.isNone) := ptr_neq Tryz.underlying31 a
theorem pe34 (a) : nbin Tryz.prog .eql 34 (.ptr a) (.ptr none) = some (.bool a.isNone) := ptr_eql Tryz.underlying34 a
theorem pn34 (a) : nbin Tryz.prog .neq 34 (.ptr a) (.ptr none) = some (.bool !a.isNone) := ptr_neq Tryz.underlying34 a
theorem pe37 (a) : nbin Tryz.prog .eql 37 (.ptr a) (.ptr none) = some (.bool a.isNone) := ptr_eql Tryz.underlying37 a
theorem pn37 (a) : nbin Tryz.prog .neq 37 (.ptr a) (.ptr none) = some (.bool !a.isNone) := ptr_neq Tryz.underlying37 a
theorem bu44 (l : List (Nat × NVal)) : kBuild Tryz.prog 44 (some l) = (match nfill (fun i => ([(0, 5), (5, 1), (6, 1), (7, 1)] : List (Nat × Nat))[i]?) ([(.int .i64 0), (.int .i64 0), (.int .i64 0), (.int .i64 0), (.int .i64 0), (.int .i64 0), (.int .i64 0), (.int .i64 0)]) l with | none => none | some cs => some (.agg cs)) := kBuild_struct ze44 Tryz.underlying44 (by kernel_rfl) l
theorem ia45 (b o n c : Nat) (x k) (i : Int) (h0 : 0 ≤ i) (h1 : i < (n : Int)) : nindexAddr Tryz.prog 45 (.slice (some (b, o)) n c x) (.int k i) = some (.ptr (some (b, o + i.toNat * 1))) := indexAddr_slice Tryz.underlying45 sz110 b o n c x k i h0 h1
theorem se45 (a n c x) : nbin Tryz.prog .eql 45 (.slice a n c x) (.slice none 0 0 none) = some (.bool a.isNone) := slice_eql Tryz.underlying45 a n c x
theorem sn45 (a n c x) : nbin Tryz.prog .neq 45 (.slice a n c x) (.slice none 0 0 none) = some (.bool !a.isNone) := slice_neq Tryz.underlying45 a n c x
theorem pe47 (a) : nbin Tryz.prog .eql 47 (.ptr a) (.ptr none) = some (.bool a.isNone) := ptr_eql Tryz.underlying47 a
theorem pn47 (a) : nbin Tryz.prog .neq 47 (.ptr a) (.ptr none) = some (.bool !a.isNone) := ptr_neq Tryz.underlying47 a
theorem pe50 (a) : nbin Tryz.prog .eql 50 (.ptr a) (.ptr none) = some (.bool a.isNone) := ptr_eql Tryz.underlying50 a
theorem pn50 (a) : nbin Tryz.prog .neq 50 (.ptr a) (.ptr none) = some (.bool !a.isNone) := ptr_neq Tryz.underlying50 a
theorem pe55 (a) : nbin Tryz.prog .eql 55 (.ptr a) (.ptr none) = some (.bool a.isNone) := ptr_eql Tryz.underlying55 a
theorem pn55 (a) : nbin Tryz.prog .neq 55 (.ptr a) (.ptr none) = some (.bool !a.isNone) := ptr_neq Tryz.underlying55 a
theorem ia57 (b o n c : Nat) (x k) (i : Int) (h0 : 0 ≤ i) (h1 : i < (n : Int)) : nindexAddr Tryz.prog 57 (.slice (some (b, o)) n c x) (.int k i) = some (.ptr (some (b, o + i.toNat * 10))) := indexAddr_slice Tryz.underlying57 sz112 b o n c x k i h0 h1
theorem se57 (a n c x) : nbin Tryz.prog .eql 57 (.slice a n c x) (.slice none 0 0 none) = some (.bool a.isNone) := slice_eql Tryz.underlying57 a n c x
theorem sn57 (a n c x) : nbin Tryz.prog .neq 57 (.slice a n c x) (.slice none 0 0 none) = some (.bool !a.isNone) := slice_neq Tryz.underlying57 a n c x
theorem ia59 (b o n c : Nat) (x k) (i : Int) (h0 : 0 ≤ i) (h1 : i < (n : Int)) : nindexAddr Tryz.prog 59 (.slice (some (b, o)) n c x) (.int k i) = some (.ptr (some (b, o + i.toNat * 10))) := indexAddr_slice Tryz.underlying59 sz114 b o n c x k i h0 h1
theorem se59 (a n c x) : nbin Tryz.prog .eql 59 (.slice a n c x) (.slice none 0 0 none) = some (.bool a.isNone) := slice_eql Tryz.underlying59 a n c x
theorem sn59 (a n c x) : nbin Tryz.prog .neq 59 (.slice a n c x) (.slice none 0 0 none) = some (.bool !a.isNone) := slice_neq Tryz.underlying59 a n c x
theorem ia65 (b o n c : Nat) (x k) (i : Int) (h0 : 0 ≤ i) (h1 : i < (n : Int)) : nindexAddr Tryz.prog 65 (.slice (some (b, o)) n c x) (.int k i) = some (.ptr (some (b, o + i.toNat * 1))) := indexAddr_slice Tryz.underlying65 sz64 b o n c x k i h0 h1
theorem se65 (a n c x) : nbin Tryz.prog .eql 65 (.slice a n c x) (.slice none 0 0 none) = some (.bool a.isNone) := slice_eql Tryz.underlying65 a n c x
theorem sn65 (a n c x) : nbin Tryz.prog .neq 65 (.slice a n c x) (.slice none 0 0 none) = some (.bool !a.isNone) := slice_neq Tryz.underlying65 a n c x
theorem bu67 (l : List (Nat × NVal)) : kBuild Tryz.prog 67 (some l) = (match nfill (fun i => ([(0, 1), (1, 1), (2, 1), (3, 1), (4, 1), (5, 1)] : List (Nat × Nat))[i]?) [(.int .i64 0), (.int .i64 0), (.int .i64 0), (.int .i64 0), (.int .u64 0), (.slice none 0 0 none)] l with | none => none | some cs => some (.agg cs)) := kBuild_struct ze67 Tryz.underlying67 (by kernel_rfl) l
theorem ia69 (b o n c : Nat) (x k) (i : Int) (h0 : 0 ≤ i) (h1 : i < (n : Int)) : nindexAddr Tryz.prog 69 (.slice (some (b, o)) n c x) (.int k i) = some (.ptr (some (b, o + i.toNat * 2))) := indexAddr_slice Tryz.underlying69 sz197 b o n c x k i h0 h1
theorem se69 (a n c x) : nbin Tryz.prog .eql 69 (.slice a n c x) (.slice none 0 0 none) = some (.bool a.isNone) := slice_eql Tryz.underlying69 a n c x
theorem sn69 (a n c x) : nbin Tryz.prog .neq 69 (.slice a n c x) (.slice none 0 0 none) = some (.bool !a.isNone) := slice_neq Tryz.underlying69 a n c x
theorem bu71 (l : List (Nat × NVal)) : kBuild Tryz.prog 71 (some l) = (match nfill (fun i => ([(0, 1), (1, 1), (2, 1), (3, 1)] : List (Nat × Nat))[i]?) [(.int .i64 0), (.bool false), (.int .i64 0), (.slice none 0 0 none)] l with | none => none | some cs => some (.agg cs)) := kBuild_struct ze71 Tryz.underlying71 (by kernel_rfl) l
theorem bu73 (l : List (Nat × NVal)) : kBuild Tryz.prog 73 (some l) = (match nfill (fun i => ([(0, 1), (1, 1), (2, 1), (3, 6), (9, 1), (10, 1), (11, 1), (12, 1), (13, 4)] : List (Nat × Nat))[i]?) [(.str []), (.str []), (.int .i64 0), (.int .i64 0), (.int .i64 0), (.int .i64 0), (.int .i64 0), (.int .u64 0), (.slice none 0 0 none), .nilFunc, (.int .i64 0), (.bool false), (.bool false), (.int .i64 0), (.bool false), (.int .i64 0), (.slice none 0 0 none)] l with | none => none | some cs => some (.agg cs)) := kBuild_struct ze73 Tryz.underlying73 (by kernel_rfl) l
theorem ia77 (b o n c : Nat) (x k) (i : Int) (h0 : 0 ≤ i) (h1 : i < (n : Int)) : nindexAddr Tryz.prog 77 (.slice (some (b, o)) n c x) (.int k i) = some (.ptr (some (b, o + i.toNat * 7))) := indexAddr_slice Tryz.underlying77 sz274 b o n c x k i h0 h1
theorem se77 (a n c x) : nbin Tryz.prog .eql 77 (.slice a n c x) (.slice none 0 0 none) = some (.bool a.isNone) := slice_eql Tryz.underlying77 a n c x
theorem sn77 (a n c x) : nbin Tryz.prog .neq 77 (.slice a n c x) (.slice none 0 0 none) = some (.bool !a.isNone) := slice_neq Tryz.underlying77 a n c x
theorem bu79 (l : List (Nat × NVal)) : kBuild Tryz.prog 79 (some l) = (match nfill (fun i => ([(0, 1), (1, 1), (2, 1), (3, 1), (4, 6), (10, 1), (11, 1), (12, 1), (13, 1), (14, 4)] : List (Nat × Nat))[i]?) ([(.str []), (.str []), (.int .i64 0), (.int .i64 0), (.int .i64 0), (.int .i64 0), (.int .i64 0), (.int .i64 0), (.int .u64 0), (.slice none 0 0 none), .nilFunc, (.str []), (.slice none 0 0 none), (.bool false), (.int .i64 0), (.bool false), (.int .i64 0), (.slice none 0 0 none)]) l with | none => none | some cs => some (.agg cs)) := kBuild_struct ze79 Tryz.underlying79 (by kernel_rfl) l
theorem ia83 (b o n c : Nat) (x k) (i : Int) (h0 : 0 ≤ i) (h1 : i < (n : Int)) : nindexAddr Tryz.prog 83 (.slice (some (b, o)) n c x) (.int k i) = some (.ptr (some (b, o + i.toNat * 1))) := indexAddr_slice Tryz.underlying83 sz5 b o n c x k i h0 h1
theorem se83 (a n c x) : nbin Tryz.prog .eql 83 (.slice a n c x) (.slice none 0 0 none) = some (.bool a.isNone) := slice_eql Tryz.underlying83 a n c x
theorem sn83 (a n c x) : nbin Tryz.prog .neq 83 (.slice a n c x) (.slice none 0 0 none) = some (.bool !a.isNone) := slice_neq Tryz.underlying83 a n c x
theorem ia84 (b o n c : Nat) (x k) (i : Int) (h0 : 0 ≤ i) (h1 : i < (n : Int)) : nindexAddr Tryz.prog 84 (.slice (some (b, o)) n c x) (.int k i) = some (.ptr (some (b, o + i.toNat * 1))) := indexAddr_slice Tryz.underlying84 sz3 b o n c x k i h0 h1
theorem se84 (a n c x) : nbin Tryz.prog .eql 84 (.slice a n c x) (.slice none 0 0 none) = some (.bool a.isNone) := slice_eql Tryz.underlying84 a n c x
theorem sn84 (a n c x) : nbin Tryz.prog .neq 84 (.slice a n c x) (.slice none 0 0 none) = some (.bool !a.isNone) := slice_neq Tryz.underlying84 a n c x
theorem bu86 (l : List (Nat × NVal)) : kBuild Tryz.prog 86 (some l) = (match nfill (fun i => ([(0, 1), (1, 1), (2, 1), (3, 1), (4, 1)] : List (Nat × Nat))[i]?) [(.int .i64 0), (.int .u64 0), (.str []), (.slice none 0 0 none), (.slice none 0 0 none)] l with | none => none | some cs => some (.agg cs)) := kBuild_struct ze86 Tryz.underlying86 (by kernel_rfl) l
theorem bu88 (l : List (Nat × NVal)) : kBuild Tryz.prog 88 (some l) = (match nfill (fun i => ([(0, 1), (1, 5), (6, 1)] : List (Nat × Nat))[i]?) [(.int .i64 0), (.int .i64 0), (.int .u64 0), (.str []), (.slice none 0 0 none), (.slice none 0 0 none), (.int .u8 0)] l with | none => none | some cs => some (.agg cs)) := kBuild_struct ze88 Tryz.underlying88 (by kernel_rfl) l
theorem ia89 (b o n c : Nat) (x k) (i : Int) (h0 : 0 ≤ i) (h1 : i < (n : Int)) : nindexAddr Tryz.prog 89 (.slice (some (b, o)) n c x) (.int k i) = some (.ptr (some (b, o + i.toNat * 1))) := indexAddr_slice Tryz.underlying89 sz317 b o n c x k i h0 h1
theorem se89 (a n c x) : nbin Tryz.prog .eql 89 (.slice a n c x) (.slice none 0 0 none) = some (.bool a.isNone) := slice_eql Tryz.underlying89 a n c x
theorem sn89 (a n c x) : nbin Tryz.prog .neq 89 (.slice a n c x) (.slice none 0 0 none) = some (.bool !a.isNone) := slice_neq Tryz.underlying89 a n c x
theorem bu91 (l : List (Nat × NVal)) : kBuild Tryz.prog 91 (some l) = (match nfill (fun i => ([(0, 1), (1, 1), (2, 1), (3, 1), (4, 1), (5, 1), (6, 1), (7, 6), (13, 1), (14, 1), (15, 7), (22, 7), (29, 1), (30, 1), (31, 1), (32, 1), (33, 1), (34, 4)] : List (Nat × Nat))[i]?) [(.str []), (.str []), (.int .i64 0), (.int .i64 0), (.int .i64 0), (.int .i64 0), (.bool false), (.int .i64 0), (.int .i64 0), (.int .i64 0), (.int .i64 0), (.int .u64 0), (.slice none 0 0 none), .nilFunc, .nilFunc, (.int .i64 0), (.int .i64 0), (.int .u64 0), (.str []), (.slice none 0 0 none), (.slice none 0 0 none), (.int .u8 0), (.int .i64 0), (.int .i64 0), (.int .u64 0), (.str []), (.slice none 0 0 none), (.slice none 0 0 none), (.int .u8 0), (.slice none 0 0 none), (.slice none 0 0 none), (.slice none 0 0 none), (.bool false), (.bool false), (.int .i64 0), (.bool false), (.int .i64 0), (.slice none 0 0 none)] l with | none => none | some cs => some (.agg cs)) := kBuild_struct ze91 Tryz.underlying91 (by kernel_rfl) l
theorem bu96 (l : List (Nat × NVal)) : kBuild Tryz.prog 96 (some l) = (match nfill (fun i => ([(0, 1), (1, 5), (6, 1)] : List (Nat × Nat))[i]?) [(.int .i64 0), (.int .i64 0), (.int .u64 0), (.str []), (.slice none 0 0 none), (.slice none 0 0 none), (.int .u8 0)] l with | none => none | some cs => some (.agg cs)) := kBuild_struct ze96 Tryz.underlying96 (by kernel_rfl) l
theorem bu98 (l : List (Nat × NVal)) : kBuild Tryz.prog 98 (some l) = (match nfill (fun i => ([(0, 1), (1, 1), (2, 1), (3, 1), (4, 1), (5, 1), (6, 6), (12, 1), (13, 1), (14, 7), (21, 7), (28, 7), (35, 1), (36, 1), (37, 1), (38, 1), (39, 1), (40, 1), (41, 4)] : List (Nat × Nat))[i]?) [(.str []), (.str []), (.int .i64 0), (.int .i64 0), (.int .i64 0), (.bool false), (.int .i64 0), (.int .i64 0), (.int .i64 0), (.int .i64 0), (.int .u64 0), (.slice none 0 0 none), .nilFunc, .nilFunc, (.int .i64 0), (.int .i64 0), (.int .u64 0), (.str []), (.slice none 0 0 none), (.slice none 0 0 none), (.int .u8 0), (.int .i64 0), (.int .i64 0), (.int .u64 0), (.str []), (.slice none 0 0 none), (.slice none 0 0 none), (.int .u8 0), (.int .i64 0), (.int .i64 0), (.int .u64 0), (.str []), (.slice none 0 0 none), (.slice none 0 0 none), (.int .u8 0), (.int .i64 0), (.slice none 0 0 none), (.slice none 0 0 none), (.slice none 0 0 none), (.bool false), (.bool false), (.int .i64 0), (.bool false), (.int .i64 0), (.slice none 0 0 none)] l with | none => none | some cs => some (.agg cs)) := kBuild_struct ze98 Tryz.underlying98 (by kernel_rfl) l
theorem bu102 (l : List (Nat × NVal)) : kBuild Tryz.prog 102 (some l) = (match nfill (fun i => ([(0, 1), (1, 6), (7, 1), (8, 1), (9, 1)] : List (Nat × Nat))[i]?) [(.int .i64 0), (.int .i64 0), (.int .i64 0), (.int .i64 0), (.int .i64 0), (.int .u64 0), (.slice none 0 0 none), .nilFunc, (.int .i64 0), (.bool false)] l with | none => none | some cs => some (.agg cs)) := kBuild_struct ze102 Tryz.underlying102 (by kernel_rfl) l
theorem bu107 (l : List (Nat × NVal)) : kBuild Tryz.prog 107 (some l) = (match nfill (fun i => ([(0, 1), (1, 1), (2, 1), (3, 1)] : List (Nat × Nat))[i]?) [.nilFunc, .nilFunc, .nilFunc, .nilFunc] l with | none => none | some cs => some (.agg cs)) := kBuild_struct ze107 Tryz.underlying107 (by kernel_rfl) l
theorem ia110 (b o n c : Nat) (x k) (i : Int) (h0 : 0 ≤ i) (h1 : i < (n : Int)) : nindexAddr Tryz.prog 110 (.slice (some (b, o)) n c x) (.int k i) = some (.ptr (some (b, o + i.toNat * 4))) := indexAddr_slice Tryz.underlying110 sz23 b o n c x k i h0 h1
theorem se110 (a n c x) : nbin Tryz.prog .eql 110 (.slice a n c x) (.slice none 0 0 none) = some (.bool a.isNone) := slice_eql Tryz.underlying110 a n c x
theorem sn110 (a n c x) : nbin Tryz.prog .neq 110 (.slice a n c x) (.slice none 0 0 none) = some (.bool !a.isNone) := slice_neq Tryz.underlying110 a n c x
theorem bu112 (l : List (Nat × NVal)) : kBuild Tryz.prog 112 (some l) = (match nfill (fun i => ([(0, 1), (1, 1), (2, 4), (6, 4)] : List (Nat × Nat))[i]?) [(.int .i64 0), (.int .i64 0), (.int .i64 0), (.str []), (.str []), (.int .i64 0), (.int .i64 0), (.bool false), (.int .i64 0), (.slice none 0 0 none)] l with | none => none | some cs => some (.agg cs)) := kBuild_struct ze112 Tryz.underlying112 (by kernel_rfl) l
theorem bu114 (l : List (Nat × NVal)) : kBuild Tryz.prog 114 (some l) = (match nfill (fun i => ([(0, 1), (1, 1), (2, 4), (6, 4)] : List (Nat × Nat))[i]?) [(.int .i64 0), (.int .i64 0), (.int .i64 0), (.str []), (.str []), (.int .i64 0), (.int .i64 0), (.bool false), (.int .i64 0), (.slice none 0 0 none)] l with | none => none | some cs => some (.agg cs)) := kBuild_struct ze114 Tryz.underlying114 (by kernel_rfl) l
theorem ia121 (b o n c : Nat) (x k) (i : Int) (h0 : 0 ≤ i) (h1 : i < (n : Int)) : nindexAddr Tryz.prog 121 (.slice (some (b, o)) n c x) (.int k i) = some (.ptr (some (b, o + i.toNat * 9))) := indexAddr_slice Tryz.underlying121 sz128 b o n c x k i h0 h1
theorem se121 (a n c x) : nbin Tryz.prog .eql 121 (.slice a n c x) (.slice none 0 0 none) = some (.bool a.isNone) := slice_eql Tryz.underlying121 a n c x
theorem sn121 (a n c x) : nbin Tryz.prog .neq 121 (.slice a n c x) (.slice none 0 0 none) = some (.bool !a.isNone) := slice_neq Tryz.underlying121 a n c x
theorem bu123 (l : List (Nat × NVal)) : kBuild Tryz.prog 123 (some l) = (match nfill (fun i => ([(0, 8), (8, 1), (9, 1), (10, 1), (11, 1), (12, 1)] : List (Nat × Nat))[i]?) ([(.int .i64 0), (.int .i64 0), (.int .i64 0), (.int .i64 0), (.int .i64 0), (.int .i64 0), (.int .i64 0), (.int .i64 0), (.ptr none), (.slice none 0 0 none), (.slice none 0 0 none), (.slice none 0 0 none), (.int .i64 0)]) l with | none => none | some cs => some (.agg cs)) := kBuild_struct ze123 Tryz.underlying123 (by kernel_rfl) l
theorem bu128 (l : List (Nat × NVal)) : kBuild Tryz.prog 128 (some l) = (match nfill (fun i => ([(0, 1), (1, 1), (2, 1), (3, 4), (7, 1), (8, 1)] : List (Nat × Nat))[i]?) [(.slice none 0 0 none), (.int .i64 0), (.bool false), .nilFunc, .nilFunc, .nilFunc, .nilFunc, (.int .i64 0), (.int .i64 0)] l with | none => none | some cs => some (.agg cs)) := kBuild_struct ze128 Tryz.underlying128 (by kernel_rfl) l
theorem pe129 (a) : nbin Tryz.prog .eql 129 (.ptr a) (.ptr none) = some (.bool a.isNone) := ptr_eql Tryz.underlying129 a
theorem pn129 (a) : nbin Tryz.prog .neq 129 (.ptr a) (.ptr none) = some (.bool !a.isNone) := ptr_neq Tryz.underlying129 a
theorem ia132 (b o n c : Nat) (x k) (i : Int) (h0 : 0 ≤ i) (h1 : i < (n : Int)) : nindexAddr Tryz.prog 132 (.slice (some (b, o)) n c x) (.int k i) = some (.ptr (some (b, o + i.toNat * 7))) := indexAddr_slice Tryz.underlying132 sz139 b o n c x k i h0 h1
theorem se132 (a n c x) : nbin Tryz.prog .eql 132 (.slice a n c x) (.slice none 0 0 none) = some (.bool a.isNone) := slice_eql Tryz.underlying132 a n c x
theorem sn132 (a n c x) : nbin Tryz.prog .neq 132 (.slice a n c x) (.slice none 0 0 none) = some (.bool !a.isNone) := slice_neq Tryz.underlying132 a n c x
theorem bu134 (l : List (Nat × NVal)) : kBuild Tryz.prog 134 (some l) = (match nfill (fun i => ([(0, 8), (8, 1), (9, 1), (10, 1), (11, 1), (12, 1)] : List (Nat × Nat))[i]?) ([(.int .i64 0), (.int .i64 0), (.int .i64 0), (.int .i64 0), (.int .i64 0), (.int .i64 0), (.int .i64 0), (.int .i64 0), (.ptr none), (.slice none 0 0 none), (.slice none 0 0 none), (.slice none 0 0 none), (.int .i64 0)]) l with | none => none | some cs => some (.agg cs)) := kBuild_struct ze134 Tryz.underlying134 (by kernel_rfl) l
theorem pe135 (a) : nbin Tryz.prog .eql 135 (.ptr a) (.ptr none) = some (.bool a.isNone) := ptr_eql Tryz.underlying135 a
theorem pn135 (a) : nbin Tryz.prog .neq 135 (.ptr a) (.ptr none) = some (.bool !a.isNone) := ptr_neq Tryz.underlying135 a
theorem pe136 (a) : nbin Tryz.prog .eql 136 (.ptr a) (.ptr none) = some (.bool a.isNone) := ptr_eql Tryz.underlying136 a
theorem pn136 (a) : nbin Tryz.prog .neq 136 (.ptr a) (.ptr none) = some (.bool !a.isNone) := ptr_neq Tryz.underlying136 a
theorem pe137 (a) : nbin Tryz.prog .eql 137 (.ptr a) (.ptr none) = some (.bool a.isNone) := ptr_eql Tryz.underlying137 a
theorem pn137 (a) : nbin Tryz.prog .neq 137 (.ptr a) (.ptr none) = some (.bool !a.isNone) := ptr_neq Tryz.underlying137 a
theorem bu139 (l : List (Nat × NVal)) : kBuild Tryz.prog 139 (some l) = (match nfill (fun i => ([(0, 1), (1, 1), (2, 1), (3, 1), (4, 1), (5, 1), (6, 1)] : List (Nat × Nat))[i]?) [(.slice none 0 0 none), (.int .i64 0), (.ptr none), (.ptr none), (.ptr none), (.int .i64 0), (.int .i64 0)] l with | none => none | some cs => some (.agg cs)) := kBuild_struct ze139 Tryz.underlying139 (by kernel_rfl) l
theorem pe146 (a) : nbin Tryz.prog .eql 146 (.ptr a) (.ptr none) = some (.bool a.isNone) := ptr_eql Tryz.underlying146 a
theorem pn146 (a) : nbin Tryz.prog .neq 146 (.ptr a) (.ptr none) = some (.bool !a.isNone) := ptr_neq Tryz.underlying146 a
theorem bu155 (l : List (Nat × NVal)) : kBuild Tryz.prog 155 (some l) = (match nfill (fun i => ([(0, 1), (1, 1), (2, 1), (3, 1)] : List (Nat × Nat))[i]?) [(.int .i64 0), (.int .i64 0), (.bool false), (.slice none 0 0 none)] l with | none => none | some cs => some (.agg cs)) := kBuild_struct ze155 Tryz.underlying155 (by kernel_rfl) l
theorem pe162 (a) : nbin Tryz.prog .eql 162 (.ptr a) (.ptr none) = some (.bool a.isNone) := ptr_eql Tryz.underlying162 a
theorem pn162 (a) : nbin Tryz.prog .neq 162 (.ptr a) (.ptr none) = some (.bool !a.isNone) := ptr_neq Tryz.underlying162 a
theorem pe165 (a) : nbin Tryz.prog .eql 165 (.ptr a) (.ptr none) = some (.bool a.isNone) := ptr_eql Tryz.underlying165 a
theorem pn165 (a) : nbin Tryz.prog .neq 165 (.ptr a) (.ptr none) = some (.bool !a.isNone) := ptr_neq Tryz.underlying165 a
theorem bu172 (l : List (Nat × NVal)) : kBuild Tryz.prog 172 (some l) = (match nfill (fun i => ([(0, 1), (1, 1), (2, 1), (3, 1), (4, 1)] : List (Nat × Nat))[i]?) [(.ptr none), (.ptr none), (.int .i64 0), (.int .i64 0), (.int .i64 0)] l with | none => none | some cs => some (.agg cs)) := kBuild_struct ze172 Tryz.underlying172 (by kernel_rfl) l
theorem pe174 (a) : nbin Tryz.prog .eql 174 (.ptr a) (.ptr none) = some (.bool a.isNone) := ptr_eql Tryz.underlying174 a
theorem pn174 (a) : nbin Tryz.prog .neq 174 (.ptr a) (.ptr none) = some (.bool !a.isNone) := ptr_neq Tryz.underlying174 a
theorem pe177 (a) : nbin Tryz.prog .eql 177 (.ptr a) (.ptr none) = some (.bool a.isNone) := ptr_eql Tryz.underlying177 a
theorem pn177 (a) : nbin Tryz.prog .neq 177 (.ptr a) (.ptr none) = some (.bool !a.isNone) := ptr_neq Tryz.underlying177 a
theorem bu181 (l : List (Nat × NVal)) : kBuild Tryz.prog 181 (some l) = (match nfill (fun i => ([(0, 1), (1, 1), (2, 1), (3, 1)] : List (Nat × Nat))[i]?) [(.ptr none), (.ptr none), (.int .i64 0), (.int .i64 0)] l with | none => none | some cs => some (.agg cs)) := kBuild_struct ze181 Tryz.underlying181 (by kernel_rfl) l
theorem ia184 (b o n c : Nat) (x k) (i : Int) (h0 : 0 ≤ i) (h1 : i < (n : Int)) : nindexAddr Tryz.prog 184 (.slice (some (b, o)) n c x) (.int k i) = some (.ptr (some (b, o + i.toNat * 7))) := indexAddr_slice Tryz.underlying184 sz369 b o n c x k i h0 h1
theorem se184 (a n c x) : nbin Tryz.prog .eql 184 (.slice a n c x) (.slice none 0 0 none) = some (.bool a.isNone) := slice_eql Tryz.underlying184 a n c x
theorem sn184 (a n c x) : nbin Tryz.prog .neq 184 (.slice a n c x) (.slice none 0 0 none) = some (.bool !a.isNone) := slice_neq Tryz.underlying184 a n c x
theorem bu186 (l : List (Nat × NVal)) : kBuild Tryz.prog 186 (some l) = (match nfill (fun i => ([(0, 1), (1, 1), (2, 1), (3, 1), (4, 1), (5, 1), (6, 1), (7, 1), (8, 1), (9, 1), (10, 4), (14, 1)] : List (Nat × Nat))[i]?) [(.str []), (.str []), (.int .i64 0), (.int .i64 0), (.int .i64 0), (.int .i64 0), (.int .i64 0), (.str []), (.slice none 0 0 none), (.str []), (.int .i64 0), (.bool false), (.int .i64 0), (.slice none 0 0 none), (.bool false)] l with | none => none | some cs => some (.agg cs)) := kBuild_struct ze186 Tryz.underlying186 (by kernel_rfl) l
theorem bu188 (l : List (Nat × NVal)) : kBuild Tryz.prog 188 (some l) = (match nfill (fun i => ([(0, 1), (1, 1), (2, 1), (3, 1), (4, 1)] : List (Nat × Nat))[i]?) [(.int .i64 0), (.int .i64 0), (.int .i64 0), (.int .i64 0), (.bool false)] l with | none => none | some cs => some (.agg cs)) := kBuild_struct ze188 Tryz.underlying188 (by kernel_rfl) l
theorem bu190 (l : List (Nat × NVal)) : kBuild Tryz.prog 190 (some l) = (match nfill (fun i => ([(0, 1), (1, 5), (6, 1)] : List (Nat × Nat))[i]?) [(.int .i64 0), (.int .i64 0), (.int .u64 0), (.str []), (.slice none 0 0 none), (.slice none 0 0 none), (.int .u8 0)] l with | none => none | some cs => some (.agg cs)) := kBuild_struct ze190 Tryz.underlying190 (by kernel_rfl) l
theorem ia191 (b o n c : Nat) (x k) (i : Int) (h0 : 0 ≤ i) (h1 : i < (n : Int)) : nindexAddr Tryz.prog 191 (.slice (some (b, o)) n c x) (.int k i) = some (.ptr (some (b, o + i.toNat * 3))) := indexAddr_slice Tryz.underlying191 sz371 b o n c x k i h0 h1
theorem se191 (a n c x) : nbin Tryz.prog .eql 191 (.slice a n c x) (.slice none 0 0 none) = some (.bool a.isNone) := slice_eql Tryz.underlying191 a n c x
theorem sn191 (a n c x) : nbin Tryz.prog .neq 191 (.slice a n c x) (.slice none 0 0 none) = some (.bool !a.isNone) := slice_neq Tryz.underlying191 a n c x
theorem bu193 (l : List (Nat × NVal)) : kBuild Tryz.prog 193 (some l) = (match nfill (fun i => ([(0, 4), (4, 1), (5, 1), (6, 1), (7, 1), (8, 1), (9, 1), (10, 1), (11, 7), (18, 7), (25, 7), (32, 1), (33, 1), (34, 1), (35, 1), (36, 1), (37, 4), (41, 1)] : List (Nat × Nat))[i]?) [(.int .i64 0), (.str []), (.str []), (.int .i64 0), (.int .i64 0), (.int .i64 0), (.str []), (.int .i64 0), (.int .i64 0), (.bool false), (.int .i64 0), (.int .i64 0), (.int .i64 0), (.int .u64 0), (.str []), (.slice none 0 0 none), (.slice none 0 0 none), (.int .u8 0), (.int .i64 0), (.int .i64 0), (.int .u64 0), (.str []), (.slice none 0 0 none), (.slice none 0 0 none), (.int .u8 0), (.int .i64 0), (.int .i64 0), (.int .u64 0), (.str []), (.slice none 0 0 none), (.slice none 0 0 none), (.int .u8 0), (.int .i64 0), (.slice none 0 0 none), (.slice none 0 0 none), (.bool false), (.bool false), (.int .i64 0), (.bool false), (.int .i64 0), (.slice none 0 0 none), (.bool false)] l with | none => none | some cs => some (.agg cs)) := kBuild_struct ze193 Tryz.underlying193 (by kernel_rfl) l
theorem bu197 (l : List (Nat × NVal)) : kBuild Tryz.prog 197 (some l) = (match nfill (fun i => ([(0, 1), (1, 1)] : List (Nat × Nat))[i]?) [(.str []), (.int .i64 0)] l with | none => none | some cs => some (.agg cs)) := kBuild_struct ze197 Tryz.underlying197 (by kernel_rfl) l
theorem ia206 (b o n c : Nat) (x k) (i : Int) (h0 : 0 ≤ i) (h1 : i < (n : Int)) : nindexAddr Tryz.prog 206 (.slice (some (b, o)) n c x) (.int k i) = some (.ptr (some (b, o + i.toNat * 4))) := indexAddr_slice Tryz.underlying206 sz215 b o n c x k i h0 h1
theorem se206 (a n c x) : nbin Tryz.prog .eql 206 (.slice a n c x) (.slice none 0 0 none) = some (.bool a.isNone) := slice_eql Tryz.underlying206 a n c x
theorem sn206 (a n c x) : nbin Tryz.prog .neq 206 (.slice a n c x) (.slice none 0 0 none) = some (.bool !a.isNone) := slice_neq Tryz.underlying206 a n c x
theorem pe207 (a) : nbin Tryz.prog .eql 207 (.ptr a) (.ptr none) = some (.bool a.isNone) := ptr_eql Tryz.underlying207 a
theorem pn207 (a) : nbin Tryz.prog .neq 207 (.ptr a) (.ptr none) = some (.bool !a.isNone) := ptr_neq Tryz.underlying207 a
theorem bu210 (l : List (Nat × NVal)) : kBuild Tryz.prog 210 (some l) = (match nfill (fun i => ([(0, 1), (1, 5)] : List (Nat × Nat))[i]?) [(.slice none 0 0 none), (.ptr none), (.ptr none), (.ptr none), (.ptr none), (.ptr none)] l with | none => none | some cs => some (.agg cs)) := kBuild_struct ze210 Tryz.underlying210 (by kernel_rfl) l
theorem bu215 (l : List (Nat × NVal)) : kBuild Tryz.prog 215 (some l) = (match nfill (fun i => ([(0, 1), (1, 1), (2, 1), (3, 1)] : List (Nat × Nat))[i]?) [(.int .i64 0), (.int .i64 0), (.bool false), (.slice none 0 0 none)] l with | none => none | some cs => some (.agg cs)) := kBuild_struct ze215 Tryz.underlying215 (by kernel_rfl) l
theorem ia216 (b o n c : Nat) (x k) (i : Int) (h0 : 0 ≤ i) (h1 : i < (n : Int)) : nindexAddr Tryz.prog 216 (.slice (some (b, o)) n c x) (.int k i) = some (.ptr (some (b, o + i.toNat * 2))) := indexAddr_slice Tryz.underlying216 sz221 b o n c x k i h0 h1
theorem se216 (a n c x) : nbin Tryz.prog .eql 216 (.slice a n c x) (.slice none 0 0 none) = some (.bool a.isNone) := slice_eql Tryz.underlying216 a n c x
theorem sn216 (a n c x) : nbin Tryz.prog .neq 216 (.slice a n c x) (.slice none 0 0 none) = some (.bool !a.isNone) := slice_neq Tryz.underlying216 a n c x
theorem bu218 (l : List (Nat × NVal)) : kBuild Tryz.prog 218 (some l) = (match nfill (fun i => ([(0, 1), (1, 1), (2, 1)] : List (Nat × Nat))[i]?) [(.int .i64 0), (.int .i64 0), (.slice none 0 0 none)] l with | none => none | some cs => some (.agg cs)) := kBuild_struct ze218 Tryz.underlying218 (by kernel_rfl) l
theorem ia219 (b o n c : Nat) (x k) (i : Int) (h0 : 0 ≤ i) (h1 : i < (n : Int)) : nindexAddr Tryz.prog 219 (.slice (some (b, o)) n c x) (.int k i) = some (.ptr (some (b, o + i.toNat * 2))) := indexAddr_slice Tryz.underlying219 sz256 b o n c x k i h0 h1
theorem se219 (a n c x) : nbin Tryz.prog .eql 219 (.slice a n c x) (.slice none 0 0 none) = some (.bool a.isNone) := slice_eql Tryz.underlying219 a n c x
theorem sn219 (a n c x) : nbin Tryz.prog .neq 219 (.slice a n c x) (.slice none 0 0 none) = some (.bool !a.isNone) := slice_neq Tryz.underlying219 a n c x
theorem bu221 (l : List (Nat × NVal)) : kBuild Tryz.prog 221 (some l) = (match nfill (fun i => ([(0, 1), (1, 1)] : List (Nat × Nat))[i]?) [(.int .i64 0), (.slice none 0 0 none)] l with | none => none | some cs => some (.agg cs)) := kBuild_struct ze221 Tryz.underlying221 (by kernel_rfl) l
theorem pe224 (a) : nbin Tryz.prog .eql 224 (.ptr a) (.ptr none) = some (.bool a.isNone) := ptr_eql Tryz.underlying224 a
theorem pn224 (a) : nbin Tryz.prog .neq 224 (.ptr a) (.ptr none) = some (.bool !a.isNone) := ptr_neq Tryz.underlying224 a
theorem ia231 (b o n c : Nat) (x k) (i : Int) (h0 : 0 ≤ i) (h1 : i < (n : Int)) : nindexAddr Tryz.prog 231 (.slice (some (b, o)) n c x) (.int k i) = some (.ptr (some (b, o + i.toNat * 4))) := indexAddr_slice Tryz.underlying231 sz238 b o n c x k i h0 h1
theorem se231 (a n c x) : nbin Tryz.prog .eql 231 (.slice a n c x) (.slice none 0 0 none) = some (.bool a.isNone) := slice_eql Tryz.underlying231 a n c x
theorem sn231 (a n c x) : nbin Tryz.prog .neq 231 (.slice a n c x) (.slice none 0 0 none) = some (.bool !a.isNone) := slice_neq Tryz.underlying231 a n c x
theorem bu233 (l : List (Nat × NVal)) : kBuild Tryz.prog 233 (some l) = (match nfill (fun i => ([(0, 1), (1, 1)] : List (Nat × Nat))[i]?) [(.int .i64 0), (.slice none 0 0 none)] l with | none => none | some cs => some (.agg cs)) := kBuild_struct ze233 Tryz.underlying233 (by kernel_rfl) l
theorem bu236 (l : List (Nat × NVal)) : kBuild Tryz.prog 236 (some l) = (match nfill (fun i => ([(0, 1), (1, 10)] : List (Nat × Nat))[i]?) [(.slice none 0 0 none), (.int .i64 0), (.slice none 0 0 none), (.int .i64 0), (.slice none 0 0 none), (.int .i64 0), (.slice none 0 0 none), (.int .i64 0), (.slice none 0 0 none), (.int .i64 0), (.slice none 0 0 none)] l with | none => none | some cs => some (.agg cs)) := kBuild_struct ze236 Tryz.underlying236 (by kernel_rfl) l
theorem bu238 (l : List (Nat × NVal)) : kBuild Tryz.prog 238 (some l) = (match nfill (fun i => ([(0, 1), (1, 1), (2, 1), (3, 1)] : List (Nat × Nat))[i]?) [(.int .i64 0), (.int .i64 0), (.bool false), (.slice none 0 0 none)] l with | none => none | some cs => some (.agg cs)) := kBuild_struct ze238 Tryz.underlying238 (by kernel_rfl) l
theorem ia239 (b o n c : Nat) (x k) (i : Int) (h0 : 0 ≤ i) (h1 : i < (n : Int)) : nindexAddr Tryz.prog 239 (.slice (some (b, o)) n c x) (.int k i) = some (.ptr (some (b, o + i.toNat * 1))) := indexAddr_slice Tryz.underlying239 sz372 b o n c x k i h0 h1
theorem se239 (a n c x) : nbin Tryz.prog .eql 239 (.slice a n c x) (.slice none 0 0 none) = some (.bool a.isNone) := slice_eql Tryz.underlying239 a n c x
theorem sn239 (a n c x) : nbin Tryz.prog .neq 239 (.slice a n c x) (.slice none 0 0 none) = some (.bool !a.isNone) := slice_neq Tryz.underlying239 a n c x
theorem bu241 (l : List (Nat × NVal)) : kBuild Tryz.prog 241 (some l) = (match nfill (fun i => ([(0, 1), (1, 1), (2, 1), (3, 1)] : List (Nat × Nat))[i]?) [(.int .i64 0), (.int .i64 0), (.slice none 0 0 none), (.slice none 0 0 none)] l with | none => none | some cs => some (.agg cs)) := kBuild_struct ze241 Tryz.underlying241 (by kernel_rfl) l
theorem pe251 (a) : nbin Tryz.prog .eql 251 (.ptr a) (.ptr none) = some (.bool a.isNone) := ptr_eql Tryz.underlying251 a
theorem pn251 (a) : nbin Tryz.prog .neq 251 (.ptr a) (.ptr none) = some (.bool !a.isNone) := ptr_neq Tryz.underlying251 a
theorem bu256 (l : List (Nat × NVal)) : kBuild Tryz.prog 256 (some l) = (match nfill (fun i => ([(0, 1), (1, 1)] : List (Nat × Nat))[i]?) [(.int .i64 0), (.int .i64 0)] l with | none => none | some cs => some (.agg cs)) := kBuild_struct ze256 Tryz.underlying256 (by kernel_rfl) l
theorem ia259 (b o n c : Nat) (x k) (i : Int) (h0 : 0 ≤ i) (h1 : i < (n : Int)) : nindexAddr Tryz.prog 259 (.slice (some (b, o)) n c x) (.int k i) = some (.ptr (some (b, o + i.toNat * 1))) := indexAddr_slice Tryz.underlying259 sz3 b o n c x k i h0 h1
theorem se259 (a n c x) : nbin Tryz.prog .eql 259 (.slice a n c x) (.slice none 0 0 none) = some (.bool a.isNone) := slice_eql Tryz.underlying259 a n c x
theorem sn259 (a n c x) : nbin Tryz.prog .neq 259 (.slice a n c x) (.slice none 0 0 none) = some (.bool !a.isNone) := slice_neq Tryz.underlying259 a n c x
theorem bu261 (l : List (Nat × NVal)) : kBuild Tryz.prog 261 (some l) = (match nfill (fun i => ([(0, 1), (1, 1), (2, 1)] : List (Nat × Nat))[i]?) [(.int .i64 0), (.slice none 0 0 none), (.map none)] l with | none => none | some cs => some (.agg cs)) := kBuild_struct ze261 Tryz.underlying261 (by kernel_rfl) l
theorem bu262 (l : List (Nat × NVal)) : kBuild Tryz.prog 262 (some l) = (match nfill (fun i => ([] : List (Nat × Nat))[i]?) [] l with | none => none | some cs => some (.agg cs)) := kBuild_struct ze262 Tryz.underlying262 (by kernel_rfl) l
theorem pe264 (a) : nbin Tryz.prog .eql 264 (.ptr a) (.ptr none) = some (.bool a.isNone) := ptr_eql Tryz.underlying264 a
theorem pn264 (a) : nbin Tryz.prog .neq 264 (.ptr a) (.ptr none) = some (.bool !a.isNone) := ptr_neq Tryz.underlying264 a
theorem bu274 (l : List (Nat × NVal)) : kBuild Tryz.prog 274 (some l) = (match nfill (fun i => ([(0, 5), (5, 1), (6, 1)] : List (Nat × Nat))[i]?) [(.int .i64 0), (.int .u64 0), (.str []), (.slice none 0 0 none), (.slice none 0 0 none), (.str []), (.int .i64 0)] l with | none => none | some cs => some (.agg cs)) := kBuild_struct ze274 Tryz.underlying274 (by kernel_rfl) l
theorem bu306 (l : List (Nat × NVal)) : kBuild Tryz.prog 306 (some l) = (match nfill (fun i => ([(0, 1), (1, 1)] : List (Nat × Nat))[i]?) [(.str []), (.int .i64 0)] l with | none => none | some cs => some (.agg cs)) := kBuild_struct ze306 Tryz.underlying306 (by kernel_rfl) l
theorem ia345 (b o n c : Nat) (x k) (i : Int) (h0 : 0 ≤ i) (h1 : i < (n : Int)) : nindexAddr Tryz.prog 345 (.slice (some (b, o)) n c x) (.int k i) = some (.ptr (some (b, o + i.toNat * 1))) := indexAddr_slice Tryz.underlying345 sz83 b o n c x k i h0 h1
theorem se345 (a n c x) : nbin Tryz.prog .eql 345 (.slice a n c x) (.slice none 0 0 none) = some (.bool a.isNone) := slice_eql Tryz.underlying345 a n c x
theorem sn345 (a n c x) : nbin Tryz.prog .neq 345 (.slice a n c x) (.slice none 0 0 none) = some (.bool !a.isNone) := slice_neq Tryz.underlying345 a n c x
theorem ia347 (b o n c : Nat) (x k) (i : Int) (h0 : 0 ≤ i) (h1 : i < (n : Int)) : nindexAddr Tryz.prog 347 (.slice (some (b, o)) n c x) (.int k i) = some (.ptr (some (b, o + i.toNat * 1))) := indexAddr_slice Tryz.underlying347 sz84 b o n c x k i h0 h1
theorem se347 (a n c x) : nbin Tryz.prog .eql 347 (.slice a n c x) (.slice none 0 0 none) = some (.bool a.isNone) := slice_eql Tryz.underlying347 a n c x
theorem sn347 (a n c x) : nbin Tryz.prog .neq 347 (.slice a n c x) (.slice none 0 0 none) = some (.bool !a.isNone) := slice_neq Tryz.underlying347 a n c x
theorem bu369 (l : List (Nat × NVal)) : kBuild Tryz.prog 369 (some l) = (match nfill (fun i => ([(0, 5), (5, 1), (6, 1)] : List (Nat × Nat))[i]?) [(.int .i64 0), (.int .u64 0), (.str []), (.slice none 0 0 none), (.slice none 0 0 none), (.str []), (.int .i64 0)] l with | none => none | some cs => some (.agg cs)) := kBuild_struct ze369 Tryz.underlying369 (by kernel_rfl) l
theorem bu371 (l : List (Nat × NVal)) : kBuild Tryz.prog 371 (some l) = (match nfill (fun i => ([(0, 1), (1, 1), (2, 1)] : List (Nat × Nat))[i]?) [(.int .i64 0), (.slice none 0 0 none), (.int .i64 0)] l with | none => none | some cs => some (.agg cs)) := kBuild_struct ze371 Tryz.underlying371 (by kernel_rfl) l
theorem ia372 (b o n c : Nat) (x k) (i : Int) (h0 : 0 ≤ i) (h1 : i < (n : Int)) : nindexAddr Tryz.prog 372 (.slice (some (b, o)) n c x) (.int k i) = some (.ptr (some (b, o + i.toNat * 2))) := indexAddr_slice Tryz.underlying372 sz375 b o n c x k i h0 h1
theorem se372 (a n c x) : nbin Tryz.prog .eql 372 (.slice a n c x) (.slice none 0 0 none) = some (.bool a.isNone) := slice_eql Tryz.underlying372 a n c x
theorem sn372 (a n c x) : nbin Tryz.prog .neq 372 (.slice a n c x) (.slice none 0 0 none) = some (.bool !a.isNone) := slice_neq Tryz.underlying372 a n c x
theorem bu375 (l : List (Nat × NVal)) : kBuild Tryz.prog 375 (some l) = (match nfill (fun i => ([(0, 1), (1, 1)] : List (Nat × Nat))[i]?) [(.int .i64 0), (.int .i64 0)] l with | none => none | some cs => some (.agg cs)) := kBuild_struct ze375 Tryz.underlying375 (by kernel_rfl) l

attribute [go_sem] sz3 ag3 by3 ze3 sz4 ag4 by4 ze4 sz5 ag5 by5 ze5 sz9 ag9 by9 ze9 sz20 ag20 by20 ze20 sz23 ag23 by23 ze23 fa23_0 fi23_0 fa23_1 fi23_1 fa23_2 fi23_2 fa23_3 fi23_3 sz24 ag24 by24 ze24 sz25 ag25 by25 ze25 sz28 ag28 by28 ze28 sz31 ag31 by31 ze31 sz34 ag34 by34 ze34 sz37 ag37 by37 ze37 sz41 ag41 by41 ze41 sz42 ag42 by42 ze42 sz44 ag44 by44 ze44 fa44_0 fi44_0 fa44_1 fi44_1 fa44_2 fi44_2 fa44_3 fi44_3 sz45 ag45 by45 ze45 sz47 ag47 by47 ze47 sz50 ag50 by50 ze50 sz55 ag55 by55 ze55 sz57 ag57 by57 ze57 sz59 ag59 by59 ze59 sz64 ag64 by64 ze64 sz65 ag65 by65 ze65 sz67 ag67 by67 ze67 fa67_0 fi67_0 fa67_1 fi67_1 fa67_2 fi67_2 fa67_3 fi67_3 fa67_4 fi67_4 fa67_5 fi67_5 sz68 ag68 by68 ze68 sz69 ag69 by69 ze69 sz71 ag71 by71 ze71 fa71_0 fi71_0 fa71_1 fi71_1 fa71_2 fi71_2 fa71_3 fi71_3 sz73 ag73 by73 ze73 fa73_0 fi73_0 fa73_1 fi73_1 fa73_2 fi73_2 fa73_3 fi73_3 fa73_4 fi73_4 fa73_5 fi73_5 fa73_6 fi73_6 fa73_7 fi73_7 fa73_8 fi73_8 sz75 ag75 by75 ze75 sz76 ag76 by76 ze76 sz77 ag77 by77 ze77 sz79 ag79 by79 ze79 fa79_0 fi79_0 fa79_1 fi79_1 fa79_2 fi79_2 fa79_3 fi79_3 fa79_4 fi79_4 fa79_5 fi79_5 fa79_6 fi79_6 fa79_7 fi79_7 fa79_8 fi79_8 fa79_9 fi79_9 sz81 ag81 by81 ze81 sz82 ag82 by82 ze82 sz83 ag83 by83 ze83 sz84 ag84 by84 ze84 sz86 ag86 by86 ze86 fa86_0 fi86_0 fa86_1 fi86_1 fa86_2 fi86_2 fa86_3 fi86_3 fa86_4 fi86_4 sz88 ag88 by88 ze88 fa88_0 fi88_0 fa88_1 fi88_1 fa88_2 fi88_2 sz89 ag89 by89 ze89 sz91 ag91 by91 ze91 fa91_0 fi91_0 fa91_1 fi91_1 fa91_2 fi91_2 fa91_3 fi91_3 fa91_4 fi91_4 fa91_5 fi91_5 fa91_6 fi91_6 fa91_7 fi91_7 fa91_8 fi91_8 fa91_9 fi91_9 fa91_10 fi91_10 fa91_11 fi91_11 fa91_12 fi91_12 fa91_13 fi91_13 fa91_14 fi91_14 fa91_15 fi91_15 fa91_16 fi91_16 fa91_17 fi91_17 sz93 ag93 by93 ze93 sz94 ag94 by94 ze94 sz96 ag96 by96 ze96 fa96_0 fi96_0 fa96_1 fi96_1 fa96_2 fi96_2 sz98 ag98 by98 ze98 fa98_0 fi98_0 fa98_1 fi98_1 fa98_2 fi98_2 fa98_3 fi98_3 fa98_4 fi98_4 fa98_5 fi98_5 fa98_6 fi98_6 fa98_7 fi98_7 fa98_8 fi98_8 fa98_9 fi98_9 fa98_10 fi98_10 fa98_11 fi98_11 fa98_12 fi98_12 fa98_13 fi98_13 fa98_14 fi98_14 fa98_15 fi98_15 fa98_16 fi98_16 fa98_17 fi98_17 fa98_18 fi98_18 sz100 ag100 by100 ze100 sz102 ag102 by102 ze102 fa102_0 fi102_0 fa102_1 fi102_1 fa102_2 fi102_2 fa102_3 fi102_3 fa102_4 fi102_4 sz104 ag104 by104 ze104 sz105 ag105 by105 ze105 sz107 ag107 by107 ze107 fa107_0 fi107_0 fa107_1 fi107_1 fa107_2 fi107_2 fa107_3 fi107_3 sz110 ag110 by110 ze110 sz112 ag112 by112 ze112 fa112_0 fi112_0 fa112_1 fi112_1 fa112_2 fi112_2 fa112_3 fi112_3 sz114 ag114 by114 ze114 fa114_0 fi114_0 fa114_1 fi114_1 fa114_2 fi114_2 fa114_3 fi114_3 sz121 ag121 by121 ze121 sz123 ag123 by123 ze123 fa123_0 fi123_0 fa123_1 fi123_1 fa123_2 fi123_2 fa123_3 fi123_3 fa123_4 fi123_4 fa123_5 fi123_5 sz125 ag125 by125 ze125 sz128 ag128 by128 ze128 fa128_0 fi128_0 fa128_1 fi128_1 fa128_2 fi128_2 fa128_3 fi128_3 fa128_4 fi128_4 fa128_5 fi128_5 sz129 ag129 by129 ze129 sz132 ag132 by132 ze132 sz134 ag134 by134 ze134 fa134_0 fi134_0 fa134_1 fi134_1 fa134_2 fi134_2 fa134_3 fi134_3 fa134_4 fi134_4 fa134_5 fi134_5 sz135 ag135 by135 ze135 sz136 ag136 by136 ze136 sz137 ag137 by137 ze137 sz139 ag139 by139 ze139 fa139_0 fi139_0 fa139_1 fi139_1 fa139_2 fi139_2 fa139_3 fi139_3 fa139_4 fi139_4 fa139_5 fi139_5 fa139_6 fi139_6 sz146 ag146 by146 ze146 sz149 ag149 by149 ze149 sz155 ag155 by155 ze155 fa155_0 fi155_0 fa155_1 fi155_1 fa155_2 fi155_2 fa155_3 fi155_3 sz162 ag162 by162 ze162 sz165 ag165 by165 ze165 sz172 ag172 by172 ze172 fa172_0 fi172_0 fa172_1 fi172_1 fa172_2 fi172_2 fa172_3 fi172_3 fa172_4 fi172_4 sz174 ag174 by174 ze174 sz177 ag177 by177 ze177 sz181 ag181 by181 ze181 fa181_0 fi181_0 fa181_1 fi181_1 fa181_2 fi181_2 fa181_3 fi181_3 sz184 ag184 by184 ze184 sz186 ag186 by186 ze186 fa186_0 fi186_0 fa186_1 fi186_1 fa186_2 fi186_2 fa186_3 fi186_3 fa186_4 fi186_4 fa186_5 fi186_5 fa186_6 fi186_6 fa186_7 fi186_7 fa186_8 fi186_8 fa186_9 fi186_9 fa186_10 fi186_10 fa186_11 fi186_11 sz188 ag188 by188 ze188 fa188_0 fi188_0 fa188_1 fi188_1 fa188_2 fi188_2 fa188_3 fi188_3 fa188_4 fi188_4 sz190 ag190 by190 ze190 fa190_0 fi190_0 fa190_1 fi190_1 fa190_2 fi190_2 sz191 ag191 by191 ze191 sz193 ag193 by193 ze193 fa193_0 fi193_0 fa193_1 fi193_1 fa193_2 fi193_2 fa193_3 fi193_3 fa193_4 fi193_4 fa193_5 fi193_5 fa193_6 fi193_6 fa193_7 fi193_7 fa193_8 fi193_8 fa193_9 fi193_9 fa193_10 fi193_10 fa193_11 fi193_11 fa193_12 fi193_12 fa193_13 fi193_13 fa193_14 fi193_14 fa193_15 fi193_15 fa193_16 fi193_16 fa193_17 fi193_17 sz197 ag197 by197 ze197 fa197_0 fi197_0 fa197_1 fi197_1 sz206 ag206 by206 ze206 sz207 ag207 by207 ze207 sz208 ag208 by208 ze208 sz210 ag210 by210 ze210 fa210_0 fi210_0 fa210_1 fi210_1 sz215 ag215 by215 ze215 fa215_0 fi215_0 fa215_1 fi215_1 fa215_2 fi215_2 fa215_3 fi215_3 sz216 ag216 by216 ze216 sz218 ag218 by218 ze218 fa218_0 fi218_0 fa218_1 fi218_1 fa218_2 fi218_2 sz219 ag219 by219 ze219 sz221 ag221 by221 ze221 fa221_0 fi221_0 fa221_1 fi221_1 sz224 ag224 by224 ze224 sz228 ag228 by228 ze228 sz231 ag231 by231 ze231 sz233 ag233 by233 ze233 fa233_0 fi233_0 fa233_1 fi233_1 sz234 ag234 by234 ze234 sz236 ag236 by236 ze236 fa236_0 fi236_0 fa236_1 fi236_1 sz238 ag238 by238 ze238 fa238_0 fi238_0 fa238_1 fi238_1 fa238_2 fi238_2 fa238_3 fi238_3 sz239 ag239 by239 ze239 sz241 ag241 by241 ze241 fa241_0 fi241_0 fa241_1 fi241_1 fa241_2 fi241_2 fa241_3 fi241_3 sz251 ag251 by251 ze251 sz256 ag256 by256 ze256 fa256_0 fi256_0 fa256_1 fi256_1 sz258 ag258 by258 ze258 sz259 ag259 by259 ze259 sz261 ag261 by261 ze261 fa261_0 fi261_0 fa261_1 fi261_1 fa261_2 fi261_2 sz262 ag262 by262 ze262 sz264 ag264 by264 ze264 sz274 ag274 by274 ze274 fa274_0 fi274_0 fa274_1 fi274_1 fa274_2 fi274_2 sz280 ag280 by280 ze280 sz299 ag299 by299 ze299 sz306 ag306 by306 ze306 fa306_0 fi306_0 fa306_1 fi306_1 sz317 ag317 by317 ze317 sz319 ag319 by319 ze319 sz345 ag345 by345 ze345 sz347 ag347 by347 ze347 sz369 ag369 by369 ze369 fa369_0 fi369_0 fa369_1 fi369_1 fa369_2 fi369_2 sz371 ag371 by371 ze371 fa371_0 fi371_0 fa371_1 fi371_1 fa371_2 fi371_2 sz372 ag372 by372 ze372 sz375 ag375 by375 ze375 fa375_0 fi375_0 fa375_1 fi375_1 be4 bn4 bu23 pe24 pn24 pe28 pn28 pe31 pn31 pe34 pn34 pe37 pn37 bu44 ia45 se45 sn45 pe47 pn47 pe50 pn50 pe55 pn55 ia57 se57 sn57 ia59 se59 sn59 ia65 se65 sn65 bu67 ia69 se69 sn69 bu71 bu73 ia77 se77 sn77 bu79 ia83 se83 sn83 ia84 se84 sn84 bu86 bu88 ia89 se89 sn89 bu91 bu96 bu98 bu102 bu107 ia110 se110 sn110 bu112 bu114 ia121 se121 sn121 bu123 bu128 pe129 pn129 ia132 se132 sn132 bu134 pe135 pn135 pe136 pn136 pe137 pn137 bu139 pe146 pn146 bu155 pe162 pn162 pe165 pn165 bu172 pe174 pn174 pe177 pn177 bu181 ia184 se184 sn184 bu186 bu188 bu190 ia191 se191 sn191 bu193 bu197 ia206 se206 sn206 pe207 pn207 bu210 bu215 ia216 se216 sn216 bu218 ia219 se219 sn219 bu221 pe224 pn224 ia231 se231 sn231 bu233 bu236 bu238 ia239 se239 sn239 bu241 pe251 pn251 bu256 ia259 se259 sn259 bu261 bu262 pe264 pn264 bu274 bu306 ia345 se345 sn345 ia347 se347 sn347 bu369 bu371 ia372 se372 sn372 bu375
attribute [go_sem] Tryz.underlying3 Tryz.underlying4 Tryz.underlying5 Tryz.underlying9 Tryz.underlying20 Tryz.underlying23 Tryz.underlying24 Tryz.underlying25 Tryz.underlying28 Tryz.underlying31 Tryz.underlying34 Tryz.underlying37 Tryz.underlying41 Tryz.underlying42 Tryz.underlying44 Tryz.underlying45 Tryz.underlying47 Tryz.underlying50 Tryz.underlying55 Tryz.underlying57 Tryz.underlying59 Tryz.underlying64 Tryz.underlying65 Tryz.underlying67 Tryz.underlying68 Tryz.underlying69 Tryz.underlying71 Tryz.underlying73 Tryz.underlying75 Tryz.underlying76 Tryz.underlying77 Tryz.underlying79 Tryz.underlying81 Tryz.underlying82 Tryz.underlying83 Tryz.underlying84 Tryz.underlying86 Tryz.underlying88 Tryz.underlying89 Tryz.underlying91 Tryz.underlying93 Tryz.underlying94 Tryz.underlying96 Tryz.underlying98 Tryz.underlying100 Tryz.underlying102 Tryz.underlying104 Tryz.underlying105 Tryz.underlying107 Tryz.underlying110 Tryz.underlying112 Tryz.underlying114 Tryz.underlying121 Tryz.underlying123 Tryz.underlying125 Tryz.underlying128 Tryz.underlying129 Tryz.underlying132 Tryz.underlying134 Tryz.underlying135 Tryz.underlying136 Tryz.underlying137 Tryz.underlying139 Tryz.underlying146 Tryz.underlying149 Tryz.underlying155 Tryz.underlying162 Tryz.underlying165 Tryz.underlying172 Tryz.underlying174 Tryz.underlying177 Tryz.underlying181 Tryz.underlying184 Tryz.underlying186 Tryz.underlying188 Tryz.underlying190 Tryz.underlying191 Tryz.underlying193 Tryz.underlying197 Tryz.underlying206 Tryz.underlying207 Tryz.underlying208 Tryz.underlying210 Tryz.underlying215 Tryz.underlying216 Tryz.underlying218 Tryz.underlying219 Tryz.underlying221 Tryz.underlying224 Tryz.underlying228 Tryz.underlying231 Tryz.underlying233 Tryz.underlying234 Tryz.underlying236 Tryz.underlying238 Tryz.underlying239 Tryz.underlying241 Tryz.underlying251 Tryz.underlying256 Tryz.underlying258 Tryz.underlying259 Tryz.underlying261 Tryz.underlying262 Tryz.underlying264 Tryz.underlying274 Tryz.underlying280 Tryz.underlying299 Tryz.underlying306 Tryz.underlying317 Tryz.underlying319 Tryz.underlying345 Tryz.underlying347 Tryz.underlying369 Tryz.underlying371 Tryz.underlying372 Tryz.underlying375
theorem k2 (l : List NVal) (h : NHeap) (hl : l.length ≤ 1) : K env 2 l h = outF Tryz.prog [] (C env (bodyOf Tryz.f2) (toL 1 (argF l)) h) := K_bodyF rfl (by kernel_rfl) hl
theorem k3 (l : List NVal) (h : NHeap) (hl : l.length ≤ 84) : K env 3 l h = outF Tryz.prog [.tmp 4] (C env (bodyOf Tryz.f3) (toL 84 (argF l)) h) := K_bodyF rfl (by kernel_rfl) hl
theorem k4 (l : List NVal) (h : NHeap) (hl : l.length ≤ 103) : K env 4 l h = outF Tryz.prog [.tmp 10] (C env (bodyOf Tryz.f4) (toL 103 (argF l)) h) := K_bodyF rfl (by kernel_rfl) hl
theorem k5 (l : List NVal) (h : NHeap) (hl : l.length ≤ 36) : K env 5 l h = outF Tryz.prog [.tmp 4, .tmp 5] (C env (bodyOf Tryz.f5) (toL 36 (argF l)) h) := K_bodyF rfl (by kernel_rfl) hl
theorem k6 (l : List NVal) (h : NHeap) (hl : l.length ≤ 45) : K env 6 l h = outF Tryz.prog [.tmp 4, .tmp 5] (C env (bodyOf Tryz.f6) (toL 45 (argF l)) h) := K_bodyF rfl (by kernel_rfl) hl
theorem k7 (l : List NVal) (h : NHeap) (hl : l.length ≤ 50) : K env 7 l h = outF Tryz.prog [.tmp 6, .tmp 7] (C env (bodyOf Tryz.f7) (toL 50 (argF l)) h) := K_bodyF rfl (by kernel_rfl) hl
theorem k8 (l : List NVal) (h : NHeap) (hl : l.length ≤ 43) : K env 8 l h = outF Tryz.prog [.tmp 6, .tmp 7] (C env (bodyOf Tryz.f8) (toL 43 (argF l)) h) := K_bodyF rfl (by kernel_rfl) hl
theorem k9 (l : List NVal) (h : NHeap) (hl : l.length ≤ 25) : K env 9 l h = outF Tryz.prog [.tmp 4, .tmp 5] (C env (bodyOf Tryz.f9) (toL 25 (argF l)) h) := K_bodyF rfl (by kernel_rfl) hl
theorem k10 (l : List NVal) (h : NHeap) (hl : l.length ≤ 15) : K env 10 l h = outF Tryz.prog [.tmp 4] (C env (bodyOf Tryz.f10) (toL 15 (argF l)) h) := K_bodyF rfl (by kernel_rfl) hl
theorem k12 (l : List NVal) (h : NHeap) (hl : l.length ≤ 47) : K env 12 l h = outF Tryz.prog [.cell 2 44] (C env (bodyOf Tryz.f12) (toL 47 (argF l)) h) := K_bodyF rfl (by kernel_rfl) hl
theorem k13 (l : List NVal) (h : NHeap) (hl : l.length ≤ 53) : K env 13 l h = outF Tryz.prog [.tmp 4, .tmp 5] (C env (bodyOf Tryz.f13) (toL 53 (argF l)) h) := K_bodyF rfl (by kernel_rfl) hl
theorem k14 (l : List NVal) (h : NHeap) (hl : l.length ≤ 75) : K env 14 l h = outF Tryz.prog [.tmp 4, .tmp 5] (C env (bodyOf Tryz.f14) (toL 75 (argF l)) h) := K_bodyF rfl (by kernel_rfl) hl
theorem k15 (l : List NVal) (h : NHeap) (hl : l.length ≤ 39) : K env 15 l h = outF Tryz.prog [.tmp 4] (C env (bodyOf Tryz.f15) (toL 39 (argF l)) h) := K_bodyF rfl (by kernel_rfl) hl
theorem k16 (l : List NVal) (h : NHeap) (hl : l.length ≤ 18) : K env 16 l h = outF Tryz.prog [.tmp 4] (C env (bodyOf Tryz.f16) (toL 18 (argF l)) h) := K_bodyF rfl (by kernel_rfl) hl
theorem k17 (l : List NVal) (h : NHeap) (hl : l.length ≤ 37) : K env 17 l h = outF Tryz.prog [.tmp 4] (C env (bodyOf Tryz.f17) (toL 37 (argF l)) h) := K_bodyF rfl (by kernel_rfl) hl
theorem k18 (l : List NVal) (h : NHeap) (hl : l.length ≤ 9) : K env 18 l h = outF Tryz.prog [.tmp 2] (C env (bodyOf Tryz.f18) (toL 9 (argF l)) h) := K_bodyF rfl (by kernel_rfl) hl
theorem k19 (l : List NVal) (h : NHeap) (hl : l.length ≤ 37) : K env 19 l h = outF Tryz.prog [.tmp 2] (C env (bodyOf Tryz.f19) (toL 37 (argF l)) h) := K_bodyF rfl (by kernel_rfl) hl
theorem k20 (l : List NVal) (h : NHeap) (hl : l.length ≤ 7) : K env 20 l h = outF Tryz.prog [.cell 2 44] (C env (bodyOf Tryz.f20) (toL 7 (argF l)) h) := K_bodyF rfl (by kernel_rfl) hl
theorem k21 (l : List NVal) (h : NHeap) (hl : l.length ≤ 7) : K env 21 l h = outF Tryz.prog [.tmp 2] (C env (bodyOf Tryz.f21) (toL 7 (argF l)) h) := K_bodyF rfl (by kernel_rfl) hl
theorem k22 (l : List NVal) (h : NHeap) (hl : l.length ≤ 27) : K env 22 l h = outF Tryz.prog [.tmp 2] (C env (bodyOf Tryz.f22) (toL 27 (argF l)) h) := K_bodyF rfl (by kernel_rfl) hl
theorem k23 (l : List NVal) (h : NHeap) (hl : l.length ≤ 27) : K env 23 l h = outF Tryz.prog [.tmp 2] (C env (bodyOf Tryz.f23) (toL 27 (argF l)) h) := K_bodyF rfl (by kernel_rfl) hl
theorem k24 (l : List NVal) (h : NHeap) (hl : l.length ≤ 15) : K env 24 l h = outF Tryz.prog [.tmp 2] (C env (bodyOf Tryz.f24) (toL 15 (argF l)) h) := K_bodyF rfl (by kernel_rfl) hl
theorem k25 (l : List NVal) (h : NHeap) (hl : l.length ≤ 8) : K env 25 l h = outF Tryz.prog [.tmp 2] (C env (bodyOf Tryz.f25) (toL 8 (argF l)) h) := K_bodyF rfl (by kernel_rfl) hl
theorem k26 (l : List NVal) (h : NHeap) (hl : l.length ≤ 14) : K env 26 l h = outF Tryz.prog [] (C env (bodyOf Tryz.f26) (toL 14 (argF l)) h) := K_bodyF rfl (by kernel_rfl) hl
theorem k27 (l : List NVal) (h : NHeap) (hl : l.length ≤ 9) : K env 27 l h = outF Tryz.prog [] (C env (bodyOf Tryz.f27) (toL 9 (argF l)) h) := K_bodyF rfl (by kernel_rfl) hl
theorem k28 (l : List NVal) (h : NHeap) (hl : l.length ≤ 14) : K env 28 l h = outF Tryz.prog [] (C env (bodyOf Tryz.f28) (toL 14 (argF l)) h) := K_bodyF rfl (by kernel_rfl) hl
theorem k29 (l : List NVal) (h : NHeap) (hl : l.length ≤ 9) : K env 29 l h = outF Tryz.prog [] (C env (bodyOf Tryz.f29) (toL 9 (argF l)) h) := K_bodyF rfl (by kernel_rfl) hl
theorem k30 (l : List NVal) (h : NHeap) (hl : l.length ≤ 14) : K env 30 l h = outF Tryz.prog [] (C env (bodyOf Tryz.f30) (toL 14 (argF l)) h) := K_bodyF rfl (by kernel_rfl) hl
theorem k31 (l : List NVal) (h : NHeap) (hl : l.length ≤ 9) : K env 31 l h = outF Tryz.prog [] (C env (bodyOf Tryz.f31) (toL 9 (argF l)) h) := K_bodyF rfl (by kernel_rfl) hl
theorem k32 (l : List NVal) (h : NHeap) (hl : l.length ≤ 14) : K env 32 l h = outF Tryz.prog [] (C env (bodyOf Tryz.f32) (toL 14 (argF l)) h) := K_bodyF rfl (by kernel_rfl) hl
theorem k33 (l : List NVal) (h : NHeap) (hl : l.length ≤ 9) : K env 33 l h = outF Tryz.prog [] (C env (bodyOf Tryz.f33) (toL 9 (argF l)) h) := K_bodyF rfl (by kernel_rfl) hl
theorem k34 (l : List NVal) (h : NHeap) (hl : l.length ≤ 14) : K env 34 l h = outF Tryz.prog [] (C env (bodyOf Tryz.f34) (toL 14 (argF l)) h) := K_bodyF rfl (by kernel_rfl) hl
theorem k35 (l : List NVal) (h : NHeap) (hl : l.length ≤ 12) : K env 35 l h = outF Tryz.prog [] (C env (bodyOf Tryz.f35) (toL 12 (argF l)) h) := K_bodyF rfl (by kernel_rfl) hl
theorem k36 (l : List NVal) (h : NHeap) (hl : l.length ≤ 115) : K env 36 l h = outF Tryz.prog [.cell 8 107, .tmp 9] (C env (bodyOf Tryz.f36) (toL 115 (argF l)) h) := K_bodyF rfl (by kernel_rfl) hl
theorem k37 (l : List NVal) (h : NHeap) (hl : l.length ≤ 85) : K env 37 l h = outF Tryz.prog [.tmp 4] (C env (bodyOf Tryz.f37) (toL 85 (argF l)) h) := K_bodyF rfl (by kernel_rfl) hl
theorem k38 (l : List NVal) (h : NHeap) (hl : l.length ≤ 68) : K env 38 l h = outF Tryz.prog [.tmp 4] (C env (bodyOf Tryz.f38) (toL 68 (argF l)) h) := K_bodyF rfl (by kernel_rfl) hl
theorem k39 (l : List NVal) (h : NHeap) (hl : l.length ≤ 68) : K env 39 l h = outF Tryz.prog [.tmp 4] (C env (bodyOf Tryz.f39) (toL 68 (argF l)) h) := K_bodyF rfl (by kernel_rfl) hl
theorem k40 (l : List NVal) (h : NHeap) (hl : l.length ≤ 7) : K env 40 l h = outF Tryz.prog [.tmp 2] (C env (bodyOf Tryz.f40) (toL 7 (argF l)) h) := K_bodyF rfl (by kernel_rfl) hl
theorem k41 (l : List NVal) (h : NHeap) (hl : l.length ≤ 24) : K env 41 l h = outF Tryz.prog [.tmp 6] (C env (bodyOf Tryz.f41) (toL 24 (argF l)) h) := K_bodyF rfl (by kernel_rfl) hl
theorem k42 (l : List NVal) (h : NHeap) (hl : l.length ≤ 52) : K env 42 l h = outF Tryz.prog [.tmp 2, .tmp 3] (C env (bodyOf Tryz.f42) (toL 52 (argF l)) h) := K_bodyF rfl (by kernel_rfl) hl
theorem k43 (l : List NVal) (h : NHeap) (hl : l.length ≤ 9) : K env 43 l h = outF Tryz.prog [.tmp 4] (C env (bodyOf Tryz.f43) (toL 9 (argF l)) h) := K_bodyF rfl (by kernel_rfl) hl
theorem k44 (l : List NVal) (h : NHeap) (hl : l.length ≤ 9) : K env 44 l h = outF Tryz.prog [.tmp 3] (C env (bodyOf Tryz.f44) (toL 9 (argF l)) h) := K_bodyF rfl (by kernel_rfl) hl
theorem k45 (l : List NVal) (h : NHeap) (hl : l.length ≤ 8) : K env 45 l h = outF Tryz.prog [.tmp 2] (C env (bodyOf Tryz.f45) (toL 8 (argF l)) h) := K_bodyF rfl (by kernel_rfl) hl
theorem k46 (l : List NVal) (h : NHeap) (hl : l.length ≤ 60) : K env 46 l h = outF Tryz.prog [.tmp 2, .tmp 3] (C env (bodyOf Tryz.f46) (toL 60 (argF l)) h) := K_bodyF rfl (by kernel_rfl) hl
theorem k47 (l : List NVal) (h : NHeap) (hl : l.length ≤ 42) : K env 47 l h = outF Tryz.prog [.tmp 4, .tmp 5] (C env (bodyOf Tryz.f47) (toL 42 (argF l)) h) := K_bodyF rfl (by kernel_rfl) hl
theorem k48 (l : List NVal) (h : NHeap) (hl : l.length ≤ 20) : K env 48 l h = outF Tryz.prog [.tmp 4, .tmp 5] (C env (bodyOf Tryz.f48) (toL 20 (argF l)) h) := K_bodyF rfl (by kernel_rfl) hl
theorem k49 (l : List NVal) (h : NHeap) (hl : l.length ≤ 64) : K env 49 l h = outF Tryz.prog [.tmp 6, .tmp 7] (C env (bodyOf Tryz.f49) (toL 64 (argF l)) h) := K_bodyF rfl (by kernel_rfl) hl
theorem k50 (l : List NVal) (h : NHeap) (hl : l.length ≤ 22) : K env 50 l h = outF Tryz.prog [.tmp 4] (C env (bodyOf Tryz.f50) (toL 22 (argF l)) h) := K_bodyF rfl (by kernel_rfl) hl
theorem k51 (l : List NVal) (h : NHeap) (hl : l.length ≤ 9) : K env 51 l h = outF Tryz.prog [.tmp 4] (C env (bodyOf Tryz.f51) (toL 9 (argF l)) h) := K_bodyF rfl (by kernel_rfl) hl
theorem k52 (l : List NVal) (h : NHeap) (hl : l.length ≤ 13) : K env 52 l h = outF Tryz.prog [.tmp 2] (C env (bodyOf Tryz.f52) (toL 13 (argF l)) h) := K_bodyF rfl (by kernel_rfl) hl
theorem k53 (l : List NVal) (h : NHeap) (hl : l.length ≤ 8) : K env 53 l h = outF Tryz.prog [.tmp 2] (C env (bodyOf Tryz.f53) (toL 8 (argF l)) h) := K_bodyF rfl (by kernel_rfl) hl
theorem k54 (l : List NVal) (h : NHeap) (hl : l.length ≤ 8) : K env 54 l h = outF Tryz.prog [.cell 2 71] (C env (bodyOf Tryz.f54) (toL 8 (argF l)) h) := K_bodyF rfl (by kernel_rfl) hl
theorem k55 (l : List NVal) (h : NHeap) (hl : l.length ≤ 8) : K env 55 l h = outF Tryz.prog [.tmp 2] (C env (bodyOf Tryz.f55) (toL 8 (argF l)) h) := K_bodyF rfl (by kernel_rfl) hl
theorem k56 (l : List NVal) (h : NHeap) (hl : l.length ≤ 8) : K env 56 l h = outF Tryz.prog [.tmp 4] (C env (bodyOf Tryz.f56) (toL 8 (argF l)) h) := K_bodyF rfl (by kernel_rfl) hl
theorem k57 (l : List NVal) (h : NHeap) (hl : l.length ≤ 6) : K env 57 l h = outF Tryz.prog [] (C env (bodyOf Tryz.f57) (toL 6 (argF l)) h) := K_bodyF rfl (by kernel_rfl) hl
theorem k58 (l : List NVal) (h : NHeap) (hl : l.length ≤ 6) : K env 58 l h = outF Tryz.prog [] (C env (bodyOf Tryz.f58) (toL 6 (argF l)) h) := K_bodyF rfl (by kernel_rfl) hl
theorem k59 (l : List NVal) (h : NHeap) (hl : l.length ≤ 6) : K env 59 l h = outF Tryz.prog [] (C env (bodyOf Tryz.f59) (toL 6 (argF l)) h) := K_bodyF rfl (by kernel_rfl) hl
theorem k60 (l : List NVal) (h : NHeap) (hl : l.length ≤ 6) : K env 60 l h = outF Tryz.prog [] (C env (bodyOf Tryz.f60) (toL 6 (argF l)) h) := K_bodyF rfl (by kernel_rfl) hl
theorem k61 (l : List NVal) (h : NHeap) (hl : l.length ≤ 44) : K env 61 l h = outF Tryz.prog [] (C env (bodyOf Tryz.f61) (toL 44 (argF l)) h) := K_bodyF rfl (by kernel_rfl) hl
theorem k62 (l : List NVal) (h : NHeap) (hl : l.length ≤ 14) : K env 62 l h = outF Tryz.prog [.cell 2 67, .tmp 3] (C env (bodyOf Tryz.f62) (toL 14 (argF l)) h) := K_bodyF rfl (by kernel_rfl) hl
theorem k63 (l : List NVal) (h : NHeap) (hl : l.length ≤ 19) : K env 63 l h = outF Tryz.prog [] (C env (bodyOf Tryz.f63) (toL 19 (argF l)) h) := K_bodyF rfl (by kernel_rfl) hl
theorem k64 (l : List NVal) (h : NHeap) (hl : l.length ≤ 7) : K env 64 l h = outF Tryz.prog [.tmp 2] (C env (bodyOf Tryz.f64) (toL 7 (argF l)) h) := K_bodyF rfl (by kernel_rfl) hl
theorem k65 (l : List NVal) (h : NHeap) (hl : l.length ≤ 14) : K env 65 l h = outF Tryz.prog [.cell 2 71, .tmp 3] (C env (bodyOf Tryz.f65) (toL 14 (argF l)) h) := K_bodyF rfl (by kernel_rfl) hl
theorem k66 (l : List NVal) (h : NHeap) (hl : l.length ≤ 14) : K env 66 l h = outF Tryz.prog [.cell 2 67, .tmp 3] (C env (bodyOf Tryz.f66) (toL 14 (argF l)) h) := K_bodyF rfl (by kernel_rfl) hl
theorem k67 (l : List NVal) (h : NHeap) (hl : l.length ≤ 19) : K env 67 l h = outF Tryz.prog [] (C env (bodyOf Tryz.f67) (toL 19 (argF l)) h) := K_bodyF rfl (by kernel_rfl) hl
theorem k68 (l : List NVal) (h : NHeap) (hl : l.length ≤ 7) : K env 68 l h = outF Tryz.prog [.tmp 2] (C env (bodyOf Tryz.f68) (toL 7 (argF l)) h) := K_bodyF rfl (by kernel_rfl) hl
theorem k69 (l : List NVal) (h : NHeap) (hl : l.length ≤ 20) : K env 69 l h = outF Tryz.prog [.cell 2 71, .tmp 3] (C env (bodyOf Tryz.f69) (toL 20 (argF l)) h) := K_bodyF rfl (by kernel_rfl) hl
theorem k70 (l : List NVal) (h : NHeap) (hl : l.length ≤ 20) : K env 70 l h = outF Tryz.prog [.cell 2 67, .tmp 3] (C env (bodyOf Tryz.f70) (toL 20 (argF l)) h) := K_bodyF rfl (by kernel_rfl) hl
theorem k71 (l : List NVal) (h : NHeap) (hl : l.length ≤ 19) : K env 71 l h = outF Tryz.prog [] (C env (bodyOf Tryz.f71) (toL 19 (argF l)) h) := K_bodyF rfl (by kernel_rfl) hl
theorem k72 (l : List NVal) (h : NHeap) (hl : l.length ≤ 7) : K env 72 l h = outF Tryz.prog [.tmp 2] (C env (bodyOf Tryz.f72) (toL 7 (argF l)) h) := K_bodyF rfl (by kernel_rfl) hl
theorem k73 (l : List NVal) (h : NHeap) (hl : l.length ≤ 14) : K env 73 l h = outF Tryz.prog [.cell 2 71, .tmp 3] (C env (bodyOf Tryz.f73) (toL 14 (argF l)) h) := K_bodyF rfl (by kernel_rfl) hl
theorem k74 (l : List NVal) (h : NHeap) (hl : l.length ≤ 20) : K env 74 l h = outF Tryz.prog [.cell 2 67, .tmp 3] (C env (bodyOf Tryz.f74) (toL 20 (argF l)) h) := K_bodyF rfl (by kernel_rfl) hl
theorem k75 (l : List NVal) (h : NHeap) (hl : l.length ≤ 19) : K env 75 l h = outF Tryz.prog [] (C env (bodyOf Tryz.f75) (toL 19 (argF l)) h) := K_bodyF rfl (by kernel_rfl) hl
theorem k76 (l : List NVal) (h : NHeap) (hl : l.length ≤ 7) : K env 76 l h = outF Tryz.prog [.tmp 2] (C env (bodyOf Tryz.f76) (toL 7 (argF l)) h) := K_bodyF rfl (by kernel_rfl) hl
theorem k77 (l : List NVal) (h : NHeap) (hl : l.length ≤ 14) : K env 77 l h = outF Tryz.prog [.cell 2 71, .tmp 3] (C env (bodyOf Tryz.f77) (toL 14 (argF l)) h) := K_bodyF rfl (by kernel_rfl) hl
theorem k78 (l : List NVal) (h : NHeap) (hl : l.length ≤ 14) : K env 78 l h = outF Tryz.prog [.cell 2 67, .tmp 3] (C env (bodyOf Tryz.f78) (toL 14 (argF l)) h) := K_bodyF rfl (by kernel_rfl) hl
theorem k79 (l : List NVal) (h : NHeap) (hl : l.length ≤ 19) : K env 79 l h = outF Tryz.prog [] (C env (bodyOf Tryz.f79) (toL 19 (argF l)) h) := K_bodyF rfl (by kernel_rfl) hl
theorem k80 (l : List NVal) (h : NHeap) (hl : l.length ≤ 7) : K env 80 l h = outF Tryz.prog [.tmp 2] (C env (bodyOf Tryz.f80) (toL 7 (argF l)) h) := K_bodyF rfl (by kernel_rfl) hl
theorem k81 (l : List NVal) (h : NHeap) (hl : l.length ≤ 10) : K env 81 l h = outF Tryz.prog [.cell 2 71, .tmp 3] (C env (bodyOf Tryz.f81) (toL 10 (argF l)) h) := K_bodyF rfl (by kernel_rfl) hl
theorem k82 (l : List NVal) (h : NHeap) (hl : l.length ≤ 119) : K env 82 l h = outF Tryz.prog [.tmp 4] (C env (bodyOf Tryz.f82) (toL 119 (argF l)) h) := K_bodyF rfl (by kernel_rfl) hl
theorem k83 (l : List NVal) (h : NHeap) (hl : l.length ≤ 111) : K env 83 l h = outF Tryz.prog [.cell 6 155] (C env (bodyOf Tryz.f83) (toL 111 (argF l)) h) := K_bodyF rfl (by kernel_rfl) hl
theorem k84 (l : List NVal) (h : NHeap) (hl : l.length ≤ 45) : K env 84 l h = outF Tryz.prog [] (C env (bodyOf Tryz.f84) (toL 45 (argF l)) h) := K_bodyF rfl (by kernel_rfl) hl
theorem k85 (l : List NVal) (h : NHeap) (hl : l.length ≤ 59) : K env 85 l h = outF Tryz.prog [] (C env (bodyOf Tryz.f85) (toL 59 (argF l)) h) := K_bodyF rfl (by kernel_rfl) hl
theorem k86 (l : List NVal) (h : NHeap) (hl : l.length ≤ 31) : K env 86 l h = outF Tryz.prog [.tmp 4] (C env (bodyOf Tryz.f86) (toL 31 (argF l)) h) := K_bodyF rfl (by kernel_rfl) hl
theorem k87 (l : List NVal) (h : NHeap) (hl : l.length ≤ 72) : K env 87 l h = outF Tryz.prog [.tmp 2, .tmp 3] (C env (bodyOf Tryz.f87) (toL 72 (argF l)) h) := K_bodyF rfl (by kernel_rfl) hl
theorem k88 (l : List NVal) (h : NHeap) (hl : l.length ≤ 39) : K env 88 l h = outF Tryz.prog [.tmp 4, .tmp 5] (C env (bodyOf Tryz.f88) (toL 39 (argF l)) h) := K_bodyF rfl (by kernel_rfl) hl
theorem k89 (l : List NVal) (h : NHeap) (hl : l.length ≤ 56) : K env 89 l h = outF Tryz.prog [.tmp 6, .tmp 7] (C env (bodyOf Tryz.f89) (toL 56 (argF l)) h) := K_bodyF rfl (by kernel_rfl) hl
theorem k90 (l : List NVal) (h : NHeap) (hl : l.length ≤ 96) : K env 90 l h = outF Tryz.prog [.tmp 2] (C env (bodyOf Tryz.f90) (toL 96 (argF l)) h) := K_bodyF rfl (by kernel_rfl) hl
theorem k91 (l : List NVal) (h : NHeap) (hl : l.length ≤ 19) : K env 91 l h = outF Tryz.prog [.tmp 4] (C env (bodyOf Tryz.f91) (toL 19 (argF l)) h) := K_bodyF rfl (by kernel_rfl) hl
theorem k92 (l : List NVal) (h : NHeap) (hl : l.length ≤ 72) : K env 92 l h = outF Tryz.prog [.tmp 2, .tmp 3] (C env (bodyOf Tryz.f92) (toL 72 (argF l)) h) := K_bodyF rfl (by kernel_rfl) hl
theorem k93 (l : List NVal) (h : NHeap) (hl : l.length ≤ 45) : K env 93 l h = outF Tryz.prog [.tmp 4, .tmp 5] (C env (bodyOf Tryz.f93) (toL 45 (argF l)) h) := K_bodyF rfl (by kernel_rfl) hl
theorem k94 (l : List NVal) (h : NHeap) (hl : l.length ≤ 58) : K env 94 l h = outF Tryz.prog [.tmp 6, .tmp 7] (C env (bodyOf Tryz.f94) (toL 58 (argF l)) h) := K_bodyF rfl (by kernel_rfl) hl
theorem k95 (l : List NVal) (h : NHeap) (hl : l.length ≤ 133) : K env 95 l h = outF Tryz.prog [.tmp 2] (C env (bodyOf Tryz.f95) (toL 133 (argF l)) h) := K_bodyF rfl (by kernel_rfl) hl
theorem k96 (l : List NVal) (h : NHeap) (hl : l.length ≤ 22) : K env 96 l h = outF Tryz.prog [.tmp 2] (C env (bodyOf Tryz.f96) (toL 22 (argF l)) h) := K_bodyF rfl (by kernel_rfl) hl
theorem k97 (l : List NVal) (h : NHeap) (hl : l.length ≤ 8) : K env 97 l h = outF Tryz.prog [.tmp 2] (C env (bodyOf Tryz.f97) (toL 8 (argF l)) h) := K_bodyF rfl (by kernel_rfl) hl
theorem k98 (l : List NVal) (h : NHeap) (hl : l.length ≤ 19) : K env 98 l h = outF Tryz.prog [.tmp 4] (C env (bodyOf Tryz.f98) (toL 19 (argF l)) h) := K_bodyF rfl (by kernel_rfl) hl
theorem k99 (l : List NVal) (h : NHeap) (hl : l.length ≤ 8) : K env 99 l h = outF Tryz.prog [.tmp 2] (C env (bodyOf Tryz.f99) (toL 8 (argF l)) h) := K_bodyF rfl (by kernel_rfl) hl
theorem k100 (l : List NVal) (h : NHeap) (hl : l.length ≤ 8) : K env 100 l h = outF Tryz.prog [.tmp 4] (C env (bodyOf Tryz.f100) (toL 8 (argF l)) h) := K_bodyF rfl (by kernel_rfl) hl
theorem k101 (l : List NVal) (h : NHeap) (hl : l.length ≤ 15) : K env 101 l h = outF Tryz.prog [] (C env (bodyOf Tryz.f101) (toL 15 (argF l)) h) := K_bodyF rfl (by kernel_rfl) hl
theorem k102 (l : List NVal) (h : NHeap) (hl : l.length ≤ 15) : K env 102 l h = outF Tryz.prog [] (C env (bodyOf Tryz.f102) (toL 15 (argF l)) h) := K_bodyF rfl (by kernel_rfl) hl
theorem k103 (l : List NVal) (h : NHeap) (hl : l.length ≤ 38) : K env 103 l h = outF Tryz.prog [] (C env (bodyOf Tryz.f103) (toL 38 (argF l)) h) := K_bodyF rfl (by kernel_rfl) hl
theorem k104 (l : List NVal) (h : NHeap) (hl : l.length ≤ 38) : K env 104 l h = outF Tryz.prog [] (C env (bodyOf Tryz.f104) (toL 38 (argF l)) h) := K_bodyF rfl (by kernel_rfl) hl
theorem k105 (l : List NVal) (h : NHeap) (hl : l.length ≤ 5) : K env 105 l h = outF Tryz.prog [] (C env (bodyOf Tryz.f105) (toL 5 (argF l)) h) := K_bodyF rfl (by kernel_rfl) hl
theorem k106 (l : List NVal) (h : NHeap) (hl : l.length ≤ 6) : K env 106 l h = outF Tryz.prog [] (C env (bodyOf Tryz.f106) (toL 6 (argF l)) h) := K_bodyF rfl (by kernel_rfl) hl
theorem k107 (l : List NVal) (h : NHeap) (hl : l.length ≤ 8) : K env 107 l h = outF Tryz.prog [.tmp 2] (C env (bodyOf Tryz.f107) (toL 8 (argF l)) h) := K_bodyF rfl (by kernel_rfl) hl
theorem k108 (l : List NVal) (h : NHeap) (hl : l.length ≤ 11) : K env 108 l h = outF Tryz.prog [.tmp 4] (C env (bodyOf Tryz.f108) (toL 11 (argF l)) h) := K_bodyF rfl (by kernel_rfl) hl
theorem k109 (l : List NVal) (h : NHeap) (hl : l.length ≤ 7) : K env 109 l h = outF Tryz.prog [.tmp 2] (C env (bodyOf Tryz.f109) (toL 7 (argF l)) h) := K_bodyF rfl (by kernel_rfl) hl
theorem k110 (l : List NVal) (h : NHeap) (hl : l.length ≤ 87) : K env 110 l h = outF Tryz.prog [.cell 4 155] (C env (bodyOf Tryz.f110) (toL 87 (argF l)) h) := K_bodyF rfl (by kernel_rfl) hl
theorem k111 (l : List NVal) (h : NHeap) (hl : l.length ≤ 53) : K env 111 l h = outF Tryz.prog [.tmp 6] (C env (bodyOf Tryz.f111) (toL 53 (argF l)) h) := K_bodyF rfl (by kernel_rfl) hl
theorem k112 (l : List NVal) (h : NHeap) (hl : l.length ≤ 7) : K env 112 l h = outF Tryz.prog [.tmp 2] (C env (bodyOf Tryz.f112) (toL 7 (argF l)) h) := K_bodyF rfl (by kernel_rfl) hl
theorem k113 (l : List NVal) (h : NHeap) (hl : l.length ≤ 29) : K env 113 l h = outF Tryz.prog [.tmp 6] (C env (bodyOf Tryz.f113) (toL 29 (argF l)) h) := K_bodyF rfl (by kernel_rfl) hl
theorem k114 (l : List NVal) (h : NHeap) (hl : l.length ≤ 14) : K env 114 l h = outF Tryz.prog [.tmp 4] (C env (bodyOf Tryz.f114) (toL 14 (argF l)) h) := K_bodyF rfl (by kernel_rfl) hl
theorem k115 (l : List NVal) (h : NHeap) (hl : l.length ≤ 15) : K env 115 l h = outF Tryz.prog [.tmp 4] (C env (bodyOf Tryz.f115) (toL 15 (argF l)) h) := K_bodyF rfl (by kernel_rfl) hl
theorem k116 (l : List NVal) (h : NHeap) (hl : l.length ≤ 25) : K env 116 l h = outF Tryz.prog [.tmp 4] (C env (bodyOf Tryz.f116) (toL 25 (argF l)) h) := K_bodyF rfl (by kernel_rfl) hl
theorem k117 (l : List NVal) (h : NHeap) (hl : l.length ≤ 32) : K env 117 l h = outF Tryz.prog [.cell 4 155] (C env (bodyOf Tryz.f117) (toL 32 (argF l)) h) := K_bodyF rfl (by kernel_rfl) hl
theorem k118 (l : List NVal) (h : NHeap) (hl : l.length ≤ 46) : K env 118 l h = outF Tryz.prog [.cell 6 155] (C env (bodyOf Tryz.f118) (toL 46 (argF l)) h) := K_bodyF rfl (by kernel_rfl) hl
theorem k119 (l : List NVal) (h : NHeap) (hl : l.length ≤ 26) : K env 119 l h = outF Tryz.prog [.tmp 4] (C env (bodyOf Tryz.f119) (toL 26 (argF l)) h) := K_bodyF rfl (by kernel_rfl) hl
theorem k120 (l : List NVal) (h : NHeap) (hl : l.length ≤ 14) : K env 120 l h = outF Tryz.prog [.tmp 2, .tmp 3] (C env (bodyOf Tryz.f120) (toL 14 (argF l)) h) := K_bodyF rfl (by kernel_rfl) hl
theorem k121 (l : List NVal) (h : NHeap) (hl : l.length ≤ 33) : K env 121 l h = outF Tryz.prog [.tmp 4] (C env (bodyOf Tryz.f121) (toL 33 (argF l)) h) := K_bodyF rfl (by kernel_rfl) hl
theorem k122 (l : List NVal) (h : NHeap) (hl : l.length ≤ 7) : K env 122 l h = outF Tryz.prog [.tmp 2] (C env (bodyOf Tryz.f122) (toL 7 (argF l)) h) := K_bodyF rfl (by kernel_rfl) hl
theorem k123 (l : List NVal) (h : NHeap) (hl : l.length ≤ 14) : K env 123 l h = outF Tryz.prog [.tmp 2] (C env (bodyOf Tryz.f123) (toL 14 (argF l)) h) := K_bodyF rfl (by kernel_rfl) hl
theorem k124 (l : List NVal) (h : NHeap) (hl : l.length ≤ 27) : K env 124 l h = outF Tryz.prog [.tmp 2, .tmp 3] (C env (bodyOf Tryz.f124) (toL 27 (argF l)) h) := K_bodyF rfl (by kernel_rfl) hl
theorem k125 (l : List NVal) (h : NHeap) (hl : l.length ≤ 19) : K env 125 l h = outF Tryz.prog [] (C env (bodyOf Tryz.f125) (toL 19 (argF l)) h) := K_bodyF rfl (by kernel_rfl) hl
theorem k126 (l : List NVal) (h : NHeap) (hl : l.length ≤ 30) : K env 126 l h = outF Tryz.prog [.tmp 6] (C env (bodyOf Tryz.f126) (toL 30 (argF l)) h) := K_bodyF rfl (by kernel_rfl) hl
theorem k127 (l : List NVal) (h : NHeap) (hl : l.length ≤ 74) : K env 127 l h = outF Tryz.prog [.tmp 2] (C env (bodyOf Tryz.f127) (toL 74 (argF l)) h) := K_bodyF rfl (by kernel_rfl) hl
theorem k128 (l : List NVal) (h : NHeap) (hl : l.length ≤ 32) : K env 128 l h = outF Tryz.prog [.tmp 2] (C env (bodyOf Tryz.f128) (toL 32 (argF l)) h) := K_bodyF rfl (by kernel_rfl) hl
theorem k129 (l : List NVal) (h : NHeap) (hl : l.length ≤ 30) : K env 129 l h = outF Tryz.prog [.tmp 2] (C env (bodyOf Tryz.f129) (toL 30 (argF l)) h) := K_bodyF rfl (by kernel_rfl) hl
theorem k130 (l : List NVal) (h : NHeap) (hl : l.length ≤ 75) : K env 130 l h = outF Tryz.prog [.tmp 4] (C env (bodyOf Tryz.f130) (toL 75 (argF l)) h) := K_bodyF rfl (by kernel_rfl) hl
theorem k131 (l : List NVal) (h : NHeap) (hl : l.length ≤ 18) : K env 131 l h = outF Tryz.prog [.tmp 2] (C env (bodyOf Tryz.f131) (toL 18 (argF l)) h) := K_bodyF rfl (by kernel_rfl) hl
theorem k132 (l : List NVal) (h : NHeap) (hl : l.length ≤ 14) : K env 132 l h = outF Tryz.prog [.tmp 2] (C env (bodyOf Tryz.f132) (toL 14 (argF l)) h) := K_bodyF rfl (by kernel_rfl) hl
theorem k133 (l : List NVal) (h : NHeap) (hl : l.length ≤ 26) : K env 133 l h = outF Tryz.prog [.tmp 2, .tmp 3] (C env (bodyOf Tryz.f133) (toL 26 (argF l)) h) := K_bodyF rfl (by kernel_rfl) hl
theorem k134 (l : List NVal) (h : NHeap) (hl : l.length ≤ 13) : K env 134 l h = outF Tryz.prog [.tmp 4] (C env (bodyOf Tryz.f134) (toL 13 (argF l)) h) := K_bodyF rfl (by kernel_rfl) hl
theorem k135 (l : List NVal) (h : NHeap) (hl : l.length ≤ 30) : K env 135 l h = outF Tryz.prog [.tmp 6] (C env (bodyOf Tryz.f135) (toL 30 (argF l)) h) := K_bodyF rfl (by kernel_rfl) hl
theorem k136 (l : List NVal) (h : NHeap) (hl : l.length ≤ 84) : K env 136 l h = outF Tryz.prog [.tmp 2] (C env (bodyOf Tryz.f136) (toL 84 (argF l)) h) := K_bodyF rfl (by kernel_rfl) hl
theorem k137 (l : List NVal) (h : NHeap) (hl : l.length ≤ 36) : K env 137 l h = outF Tryz.prog [.tmp 2] (C env (bodyOf Tryz.f137) (toL 36 (argF l)) h) := K_bodyF rfl (by kernel_rfl) hl
theorem k138 (l : List NVal) (h : NHeap) (hl : l.length ≤ 35) : K env 138 l h = outF Tryz.prog [.tmp 2] (C env (bodyOf Tryz.f138) (toL 35 (argF l)) h) := K_bodyF rfl (by kernel_rfl) hl
theorem k140 (l : List NVal) (h : NHeap) (hl : l.length ≤ 15) : K env 140 l h = outF Tryz.prog [] (C env (bodyOf Tryz.f140) (toL 15 (argF l)) h) := K_bodyF rfl (by kernel_rfl) hl
theorem k141 (l : List NVal) (h : NHeap) (hl : l.length ≤ 38) : K env 141 l h = outF Tryz.prog [] (C env (bodyOf Tryz.f141) (toL 38 (argF l)) h) := K_bodyF rfl (by kernel_rfl) hl
theorem k142 (l : List NVal) (h : NHeap) (hl : l.length ≤ 55) : K env 142 l h = outF Tryz.prog [] (C env (bodyOf Tryz.f142) (toL 55 (argF l)) h) := K_bodyF rfl (by kernel_rfl) hl
theorem k143 (l : List NVal) (h : NHeap) (hl : l.length ≤ 19) : K env 143 l h = outF Tryz.prog [] (C env (bodyOf Tryz.f143) (toL 19 (argF l)) h) := K_bodyF rfl (by kernel_rfl) hl
theorem k144 (l : List NVal) (h : NHeap) (hl : l.length ≤ 11) : K env 144 l h = outF Tryz.prog [] (C env (bodyOf Tryz.f144) (toL 11 (argF l)) h) := K_bodyF rfl (by kernel_rfl) hl
theorem k145 (l : List NVal) (h : NHeap) (hl : l.length ≤ 9) : K env 145 l h = outF Tryz.prog [] (C env (bodyOf Tryz.f145) (toL 9 (argF l)) h) := K_bodyF rfl (by kernel_rfl) hl
theorem k146 (l : List NVal) (h : NHeap) (hl : l.length ≤ 19) : K env 146 l h = outF Tryz.prog [] (C env (bodyOf Tryz.f146) (toL 19 (argF l)) h) := K_bodyF rfl (by kernel_rfl) hl
theorem k147 (l : List NVal) (h : NHeap) (hl : l.length ≤ 11) : K env 147 l h = outF Tryz.prog [] (C env (bodyOf Tryz.f147) (toL 11 (argF l)) h) := K_bodyF rfl (by kernel_rfl) hl
theorem k148 (l : List NVal) (h : NHeap) (hl : l.length ≤ 9) : K env 148 l h = outF Tryz.prog [] (C env (bodyOf Tryz.f148) (toL 9 (argF l)) h) := K_bodyF rfl (by kernel_rfl) hl
theorem k149 (l : List NVal) (h : NHeap) (hl : l.length ≤ 12) : K env 149 l h = outF Tryz.prog [] (C env (bodyOf Tryz.f149) (toL 12 (argF l)) h) := K_bodyF rfl (by kernel_rfl) hl
theorem k150 (l : List NVal) (h : NHeap) (hl : l.length ≤ 16) : K env 150 l h = outF Tryz.prog [.tmp 4] (C env (bodyOf Tryz.f150) (toL 16 (argF l)) h) := K_bodyF rfl (by kernel_rfl) hl
theorem k151 (l : List NVal) (h : NHeap) (hl : l.length ≤ 22) : K env 151 l h = outF Tryz.prog [.tmp 4, .tmp 5] (C env (bodyOf Tryz.f151) (toL 22 (argF l)) h) := K_bodyF rfl (by kernel_rfl) hl
theorem k152 (l : List NVal) (h : NHeap) (hl : l.length ≤ 40) : K env 152 l h = outF Tryz.prog [.tmp 8, .tmp 9] (C env (bodyOf Tryz.f152) (toL 40 (argF l)) h) := K_bodyF rfl (by kernel_rfl) hl
theorem k153 (l : List NVal) (h : NHeap) (hl : l.length ≤ 29) : K env 153 l h = outF Tryz.prog [.tmp 6] (C env (bodyOf Tryz.f153) (toL 29 (argF l)) h) := K_bodyF rfl (by kernel_rfl) hl
theorem k154 (l : List NVal) (h : NHeap) (hl : l.length ≤ 61) : K env 154 l h = outF Tryz.prog [.tmp 4] (C env (bodyOf Tryz.f154) (toL 61 (argF l)) h) := K_bodyF rfl (by kernel_rfl) hl
theorem k155 (l : List NVal) (h : NHeap) (hl : l.length ≤ 22) : K env 155 l h = outF Tryz.prog [.tmp 4] (C env (bodyOf Tryz.f155) (toL 22 (argF l)) h) := K_bodyF rfl (by kernel_rfl) hl
theorem k156 (l : List NVal) (h : NHeap) (hl : l.length ≤ 27) : K env 156 l h = outF Tryz.prog [.tmp 2, .tmp 3, .tmp 4, .tmp 5] (C env (bodyOf Tryz.f156) (toL 27 (argF l)) h) := K_bodyF rfl (by kernel_rfl) hl
theorem k157 (l : List NVal) (h : NHeap) (hl : l.length ≤ 53) : K env 157 l h = outF Tryz.prog [.tmp 4, .tmp 5] (C env (bodyOf Tryz.f157) (toL 53 (argF l)) h) := K_bodyF rfl (by kernel_rfl) hl
theorem k158 (l : List NVal) (h : NHeap) (hl : l.length ≤ 17) : K env 158 l h = outF Tryz.prog [.tmp 4] (C env (bodyOf Tryz.f158) (toL 17 (argF l)) h) := K_bodyF rfl (by kernel_rfl) hl
theorem k159 (l : List NVal) (h : NHeap) (hl : l.length ≤ 12) : K env 159 l h = outF Tryz.prog [] (C env (bodyOf Tryz.f159) (toL 12 (argF l)) h) := K_bodyF rfl (by kernel_rfl) hl
theorem k160 (l : List NVal) (h : NHeap) (hl : l.length ≤ 48) : K env 160 l h = outF Tryz.prog [.tmp 4] (C env (bodyOf Tryz.f160) (toL 48 (argF l)) h) := K_bodyF rfl (by kernel_rfl) hl
theorem k161 (l : List NVal) (h : NHeap) (hl : l.length ≤ 15) : K env 161 l h = outF Tryz.prog [.tmp 2] (C env (bodyOf Tryz.f161) (toL 15 (argF l)) h) := K_bodyF rfl (by kernel_rfl) hl
theorem k162 (l : List NVal) (h : NHeap) (hl : l.length ≤ 12) : K env 162 l h = outF Tryz.prog [.tmp 2] (C env (bodyOf Tryz.f162) (toL 12 (argF l)) h) := K_bodyF rfl (by kernel_rfl) hl
theorem k163 (l : List NVal) (h : NHeap) (hl : l.length ≤ 6) : K env 163 l h = outF Tryz.prog [.tmp 2] (C env (bodyOf Tryz.f163) (toL 6 (argF l)) h) := K_bodyF rfl (by kernel_rfl) hl
theorem k164 (l : List NVal) (h : NHeap) (hl : l.length ≤ 15) : K env 164 l h = outF Tryz.prog [.tmp 2] (C env (bodyOf Tryz.f164) (toL 15 (argF l)) h) := K_bodyF rfl (by kernel_rfl) hl
theorem k165 (l : List NVal) (h : NHeap) (hl : l.length ≤ 9) : K env 165 l h = outF Tryz.prog [.tmp 2] (C env (bodyOf Tryz.f165) (toL 9 (argF l)) h) := K_bodyF rfl (by kernel_rfl) hl
theorem k166 (l : List NVal) (h : NHeap) (hl : l.length ≤ 12) : K env 166 l h = outF Tryz.prog [.tmp 2] (C env (bodyOf Tryz.f166) (toL 12 (argF l)) h) := K_bodyF rfl (by kernel_rfl) hl
theorem k167 (l : List NVal) (h : NHeap) (hl : l.length ≤ 29) : K env 167 l h = outF Tryz.prog [.tmp 2, .tmp 3, .tmp 4, .tmp 5] (C env (bodyOf Tryz.f167) (toL 29 (argF l)) h) := K_bodyF rfl (by kernel_rfl) hl
theorem k168 (l : List NVal) (h : NHeap) (hl : l.length ≤ 108) : K env 168 l h = outF Tryz.prog [.cell 2 86, .tmp 3] (C env (bodyOf Tryz.f168) (toL 108 (argF l)) h) := K_bodyF rfl (by kernel_rfl) hl
theorem k169 (l : List NVal) (h : NHeap) (hl : l.length ≤ 10) : K env 169 l h = outF Tryz.prog [] (C env (bodyOf Tryz.f169) (toL 10 (argF l)) h) := K_bodyF rfl (by kernel_rfl) hl
theorem k170 (l : List NVal) (h : NHeap) (hl : l.length ≤ 6) : K env 170 l h = outF Tryz.prog [.tmp 2] (C env (bodyOf Tryz.f170) (toL 6 (argF l)) h) := K_bodyF rfl (by kernel_rfl) hl
theorem k171 (l : List NVal) (h : NHeap) (hl : l.length ≤ 81) : K env 171 l h = outF Tryz.prog [] (C env (bodyOf Tryz.f171) (toL 81 (argF l)) h) := K_bodyF rfl (by kernel_rfl) hl
theorem k172 (l : List NVal) (h : NHeap) (hl : l.length ≤ 11) : K env 172 l h = outF Tryz.prog [] (C env (bodyOf Tryz.f172) (toL 11 (argF l)) h) := K_bodyF rfl (by kernel_rfl) hl
theorem k173 (l : List NVal) (h : NHeap) (hl : l.length ≤ 57) : K env 173 l h = outF Tryz.prog [] (C env (bodyOf Tryz.f173) (toL 57 (argF l)) h) := K_bodyF rfl (by kernel_rfl) hl
theorem k174 (l : List NVal) (h : NHeap) (hl : l.length ≤ 13) : K env 174 l h = outF Tryz.prog [] (C env (bodyOf Tryz.f174) (toL 13 (argF l)) h) := K_bodyF rfl (by kernel_rfl) hl
theorem k175 (l : List NVal) (h : NHeap) (hl : l.length ≤ 13) : K env 175 l h = outF Tryz.prog [] (C env (bodyOf Tryz.f175) (toL 13 (argF l)) h) := K_bodyF rfl (by kernel_rfl) hl
theorem k176 (l : List NVal) (h : NHeap) (hl : l.length ≤ 60) : K env 176 l h = outF Tryz.prog [.tmp 4, .tmp 5] (C env (bodyOf Tryz.f176) (toL 60 (argF l)) h) := K_bodyF rfl (by kernel_rfl) hl
theorem k177 (l : List NVal) (h : NHeap) (hl : l.length ≤ 8) : K env 177 l h = outF Tryz.prog [.tmp 2] (C env (bodyOf Tryz.f177) (toL 8 (argF l)) h) := K_bodyF rfl (by kernel_rfl) hl
theorem k178 (l : List NVal) (h : NHeap) (hl : l.length ≤ 23) : K env 178 l h = outF Tryz.prog [] (C env (bodyOf Tryz.f178) (toL 23 (argF l)) h) := K_bodyF rfl (by kernel_rfl) hl
theorem k179 (l : List NVal) (h : NHeap) (hl : l.length ≤ 30) : K env 179 l h = outF Tryz.prog [.tmp 4, .tmp 5] (C env (bodyOf Tryz.f179) (toL 30 (argF l)) h) := K_bodyF rfl (by kernel_rfl) hl
theorem k180 (l : List NVal) (h : NHeap) (hl : l.length ≤ 48) : K env 180 l h = outF Tryz.prog [.tmp 6] (C env (bodyOf Tryz.f180) (toL 48 (argF l)) h) := K_bodyF rfl (by kernel_rfl) hl
theorem k181 (l : List NVal) (h : NHeap) (hl : l.length ≤ 60) : K env 181 l h = outF Tryz.prog [.tmp 4, .tmp 5] (C env (bodyOf Tryz.f181) (toL 60 (argF l)) h) := K_bodyF rfl (by kernel_rfl) hl
theorem k182 (l : List NVal) (h : NHeap) (hl : l.length ≤ 87) : K env 182 l h = outF Tryz.prog [.tmp 6, .tmp 7] (C env (bodyOf Tryz.f182) (toL 87 (argF l)) h) := K_bodyF rfl (by kernel_rfl) hl
theorem k183 (l : List NVal) (h : NHeap) (hl : l.length ≤ 23) : K env 183 l h = outF Tryz.prog [.tmp 6] (C env (bodyOf Tryz.f183) (toL 23 (argF l)) h) := K_bodyF rfl (by kernel_rfl) hl
theorem k184 (l : List NVal) (h : NHeap) (hl : l.length ≤ 26) : K env 184 l h = outF Tryz.prog [.tmp 4] (C env (bodyOf Tryz.f184) (toL 26 (argF l)) h) := K_bodyF rfl (by kernel_rfl) hl
theorem k185 (l : List NVal) (h : NHeap) (hl : l.length ≤ 13) : K env 185 l h = outF Tryz.prog [] (C env (bodyOf Tryz.f185) (toL 13 (argF l)) h) := K_bodyF rfl (by kernel_rfl) hl
theorem k186 (l : List NVal) (h : NHeap) (hl : l.length ≤ 11) : K env 186 l h = outF Tryz.prog [] (C env (bodyOf Tryz.f186) (toL 11 (argF l)) h) := K_bodyF rfl (by kernel_rfl) hl
theorem k187 (l : List NVal) (h : NHeap) (hl : l.length ≤ 28) : K env 187 l h = outF Tryz.prog [.tmp 4] (C env (bodyOf Tryz.f187) (toL 28 (argF l)) h) := K_bodyF rfl (by kernel_rfl) hl
theorem k188 (l : List NVal) (h : NHeap) (hl : l.length ≤ 17) : K env 188 l h = outF Tryz.prog [.tmp 4, .tmp 5] (C env (bodyOf Tryz.f188) (toL 17 (argF l)) h) := K_bodyF rfl (by kernel_rfl) hl
theorem k189 (l : List NVal) (h : NHeap) (hl : l.length ≤ 41) : K env 189 l h = outF Tryz.prog [] (C env (bodyOf Tryz.f189) (toL 41 (argF l)) h) := K_bodyF rfl (by kernel_rfl) hl
theorem k190 (l : List NVal) (h : NHeap) (hl : l.length ≤ 5) : K env 190 l h = outF Tryz.prog [] (C env (bodyOf Tryz.f190) (toL 5 (argF l)) h) := K_bodyF rfl (by kernel_rfl) hl
theorem k191 (l : List NVal) (h : NHeap) (hl : l.length ≤ 86) : K env 191 l h = outF Tryz.prog [.tmp 2, .tmp 3, .tmp 4] (C env (bodyOf Tryz.f191) (toL 86 (argF l)) h) := K_bodyF rfl (by kernel_rfl) hl
theorem k192 (l : List NVal) (h : NHeap) (hl : l.length ≤ 93) : K env 192 l h = outF Tryz.prog [] (C env (bodyOf Tryz.f192) (toL 93 (argF l)) h) := K_bodyF rfl (by kernel_rfl) hl
theorem k193 (l : List NVal) (h : NHeap) (hl : l.length ≤ 108) : K env 193 l h = outF Tryz.prog [] (C env (bodyOf Tryz.f193) (toL 108 (argF l)) h) := K_bodyF rfl (by kernel_rfl) hl
theorem k194 (l : List NVal) (h : NHeap) (hl : l.length ≤ 114) : K env 194 l h = outF Tryz.prog [] (C env (bodyOf Tryz.f194) (toL 114 (argF l)) h) := K_bodyF rfl (by kernel_rfl) hl
theorem k195 (l : List NVal) (h : NHeap) (hl : l.length ≤ 17) : K env 195 l h = outF Tryz.prog [.tmp 4, .tmp 5] (C env (bodyOf Tryz.f195) (toL 17 (argF l)) h) := K_bodyF rfl (by kernel_rfl) hl
theorem k196 (l : List NVal) (h : NHeap) (hl : l.length ≤ 51) : K env 196 l h = outF Tryz.prog [.tmp 4, .tmp 5] (C env (bodyOf Tryz.f196) (toL 51 (argF l)) h) := K_bodyF rfl (by kernel_rfl) hl
theorem k197 (l : List NVal) (h : NHeap) (hl : l.length ≤ 7) : K env 197 l h = outF Tryz.prog [] (C env (bodyOf Tryz.f197) (toL 7 (argF l)) h) := K_bodyF rfl (by kernel_rfl) hl
theorem k198 (l : List NVal) (h : NHeap) (hl : l.length ≤ 27) : K env 198 l h = outF Tryz.prog [.tmp 4] (C env (bodyOf Tryz.f198) (toL 27 (argF l)) h) := K_bodyF rfl (by kernel_rfl) hl
theorem k199 (l : List NVal) (h : NHeap) (hl : l.length ≤ 41) : K env 199 l h = outF Tryz.prog [.cell 2 306, .tmp 3] (C env (bodyOf Tryz.f199) (toL 41 (argF l)) h) := K_bodyF rfl (by kernel_rfl) hl
theorem k200 (l : List NVal) (h : NHeap) (hl : l.length ≤ 10) : K env 200 l h = outF Tryz.prog [] (C env (bodyOf Tryz.f200) (toL 10 (argF l)) h) := K_bodyF rfl (by kernel_rfl) hl
theorem k201 (l : List NVal) (h : NHeap) (hl : l.length ≤ 19) : K env 201 l h = outF Tryz.prog [.tmp 2, .tmp 3] (C env (bodyOf Tryz.f201) (toL 19 (argF l)) h) := K_bodyF rfl (by kernel_rfl) hl
theorem k202 (l : List NVal) (h : NHeap) (hl : l.length ≤ 5) : K env 202 l h = outF Tryz.prog [.tmp 2] (C env (bodyOf Tryz.f202) (toL 5 (argF l)) h) := K_bodyF rfl (by kernel_rfl) hl
theorem k203 (l : List NVal) (h : NHeap) (hl : l.length ≤ 31) : K env 203 l h = outF Tryz.prog [.cell 4 86, .tmp 5] (C env (bodyOf Tryz.f203) (toL 31 (argF l)) h) := K_bodyF rfl (by kernel_rfl) hl
theorem k204 (l : List NVal) (h : NHeap) (hl : l.length ≤ 12) : K env 204 l h = outF Tryz.prog [] (C env (bodyOf Tryz.f204) (toL 12 (argF l)) h) := K_bodyF rfl (by kernel_rfl) hl
theorem k205 (l : List NVal) (h : NHeap) (hl : l.length ≤ 43) : K env 205 l h = outF Tryz.prog [] (C env (bodyOf Tryz.f205) (toL 43 (argF l)) h) := K_bodyF rfl (by kernel_rfl) hl
theorem k206 (l : List NVal) (h : NHeap) (hl : l.length ≤ 36) : K env 206 l h = outF Tryz.prog [] (C env (bodyOf Tryz.f206) (toL 36 (argF l)) h) := K_bodyF rfl (by kernel_rfl) hl
theorem k207 (l : List NVal) (h : NHeap) (hl : l.length ≤ 99) : K env 207 l h = outF Tryz.prog [] (C env (bodyOf Tryz.f207) (toL 99 (argF l)) h) := K_bodyF rfl (by kernel_rfl) hl
theorem k208 (l : List NVal) (h : NHeap) (hl : l.length ≤ 31) : K env 208 l h = outF Tryz.prog [.cell 4 86, .tmp 5] (C env (bodyOf Tryz.f208) (toL 31 (argF l)) h) := K_bodyF rfl (by kernel_rfl) hl
theorem k209 (l : List NVal) (h : NHeap) (hl : l.length ≤ 12) : K env 209 l h = outF Tryz.prog [] (C env (bodyOf Tryz.f209) (toL 12 (argF l)) h) := K_bodyF rfl (by kernel_rfl) hl
theorem k210 (l : List NVal) (h : NHeap) (hl : l.length ≤ 39) : K env 210 l h = outF Tryz.prog [] (C env (bodyOf Tryz.f210) (toL 39 (argF l)) h) := K_bodyF rfl (by kernel_rfl) hl
theorem k211 (l : List NVal) (h : NHeap) (hl : l.length ≤ 28) : K env 211 l h = outF Tryz.prog [.tmp 2] (C env (bodyOf Tryz.f211) (toL 28 (argF l)) h) := K_bodyF rfl (by kernel_rfl) hl
theorem k212 (l : List NVal) (h : NHeap) (hl : l.length ≤ 11) : K env 212 l h = outF Tryz.prog [.tmp 4, .tmp 5] (C env (bodyOf Tryz.f212) (toL 11 (argF l)) h) := K_bodyF rfl (by kernel_rfl) hl
theorem k213 (l : List NVal) (h : NHeap) (hl : l.length ≤ 22) : K env 213 l h = outF Tryz.prog [.tmp 6] (C env (bodyOf Tryz.f213) (toL 22 (argF l)) h) := K_bodyF rfl (by kernel_rfl) hl
theorem k214 (l : List NVal) (h : NHeap) (hl : l.length ≤ 11) : K env 214 l h = outF Tryz.prog [] (C env (bodyOf Tryz.f214) (toL 11 (argF l)) h) := K_bodyF rfl (by kernel_rfl) hl
theorem k215 (l : List NVal) (h : NHeap) (hl : l.length ≤ 13) : K env 215 l h = outF Tryz.prog [] (C env (bodyOf Tryz.f215) (toL 13 (argF l)) h) := K_bodyF rfl (by kernel_rfl) hl
theorem k216 (l : List NVal) (h : NHeap) (hl : l.length ≤ 12) : K env 216 l h = outF Tryz.prog [] (C env (bodyOf Tryz.f216) (toL 12 (argF l)) h) := K_bodyF rfl (by kernel_rfl) hl
theorem k217 (l : List NVal) (h : NHeap) (hl : l.length ≤ 16) : K env 217 l h = outF Tryz.prog [] (C env (bodyOf Tryz.f217) (toL 16 (argF l)) h) := K_bodyF rfl (by kernel_rfl) hl
theorem k218 (l : List NVal) (h : NHeap) (hl : l.length ≤ 4) : K env 218 l h = outF Tryz.prog [] (C env (bodyOf Tryz.f218) (toL 4 (argF l)) h) := K_bodyF rfl (by kernel_rfl) hl
theorem k219 (l : List NVal) (h : NHeap) (hl : l.length ≤ 14) : K env 219 l h = outF Tryz.prog [.cell 2 67] (C env (bodyOf Tryz.f219) (toL 14 (argF l)) h) := K_bodyF rfl (by kernel_rfl) hl
theorem k220 (l : List NVal) (h : NHeap) (hl : l.length ≤ 4) : K env 220 l h = outF Tryz.prog [.tmp 2] (C env (bodyOf Tryz.f220) (toL 4 (argF l)) h) := K_bodyF rfl (by kernel_rfl) hl
theorem k221 (l : List NVal) (h : NHeap) (hl : l.length ≤ 3) : K env 221 l h = outF Tryz.prog [.cell 1 86] (C env (bodyOf Tryz.f221) (toL 3 (argF l)) h) := K_bodyF rfl (by kernel_rfl) hl
theorem k222 (l : List NVal) (h : NHeap) (hl : l.length ≤ 27) : K env 222 l h = outF Tryz.prog [.cell 4 86] (C env (bodyOf Tryz.f222) (toL 27 (argF l)) h) := K_bodyF rfl (by kernel_rfl) hl
theorem k223 (l : List NVal) (h : NHeap) (hl : l.length ≤ 29) : K env 223 l h = outF Tryz.prog [.cell 10 86] (C env (bodyOf Tryz.f223) (toL 29 (argF l)) h) := K_bodyF rfl (by kernel_rfl) hl
theorem k224 (l : List NVal) (h : NHeap) (hl : l.length ≤ 33) : K env 224 l h = outF Tryz.prog [] (C env (bodyOf Tryz.f224) (toL 33 (argF l)) h) := K_bodyF rfl (by kernel_rfl) hl
theorem k225 (l : List NVal) (h : NHeap) (hl : l.length ≤ 30) : K env 225 l h = outF Tryz.prog [.cell 2 86] (C env (bodyOf Tryz.f225) (toL 30 (argF l)) h) := K_bodyF rfl (by kernel_rfl) hl
theorem k226 (l : List NVal) (h : NHeap) (hl : l.length ≤ 33) : K env 226 l h = outF Tryz.prog [.cell 4 86, .tmp 5] (C env (bodyOf Tryz.f226) (toL 33 (argF l)) h) := K_bodyF rfl (by kernel_rfl) hl
theorem k227 (l : List NVal) (h : NHeap) (hl : l.length ≤ 64) : K env 227 l h = outF Tryz.prog [.cell 6 86, .tmp 7] (C env (bodyOf Tryz.f227) (toL 64 (argF l)) h) := K_bodyF rfl (by kernel_rfl) hl
theorem k228 (l : List NVal) (h : NHeap) (hl : l.length ≤ 23) : K env 228 l h = outF Tryz.prog [.cell 5 86] (C env (bodyOf Tryz.f228) (toL 23 (argF l)) h) := K_bodyF rfl (by kernel_rfl) hl
theorem k229 (l : List NVal) (h : NHeap) (hl : l.length ≤ 22) : K env 229 l h = outF Tryz.prog [.tmp 6] (C env (bodyOf Tryz.f229) (toL 22 (argF l)) h) := K_bodyF rfl (by kernel_rfl) hl
theorem k230 (l : List NVal) (h : NHeap) (hl : l.length ≤ 11) : K env 230 l h = outF Tryz.prog [] (C env (bodyOf Tryz.f230) (toL 11 (argF l)) h) := K_bodyF rfl (by kernel_rfl) hl
theorem k231 (l : List NVal) (h : NHeap) (hl : l.length ≤ 13) : K env 231 l h = outF Tryz.prog [] (C env (bodyOf Tryz.f231) (toL 13 (argF l)) h) := K_bodyF rfl (by kernel_rfl) hl
theorem k232 (l : List NVal) (h : NHeap) (hl : l.length ≤ 12) : K env 232 l h = outF Tryz.prog [] (C env (bodyOf Tryz.f232) (toL 12 (argF l)) h) := K_bodyF rfl (by kernel_rfl) hl
theorem k233 (l : List NVal) (h : NHeap) (hl : l.length ≤ 32) : K env 233 l h = outF Tryz.prog [] (C env (bodyOf Tryz.f233) (toL 32 (argF l)) h) := K_bodyF rfl (by kernel_rfl) hl
theorem k234 (l : List NVal) (h : NHeap) (hl : l.length ≤ 131) : K env 234 l h = outF Tryz.prog [] (C env (bodyOf Tryz.f234) (toL 131 (argF l)) h) := K_bodyF rfl (by kernel_rfl) hl
theorem k235 (l : List NVal) (h : NHeap) (hl : l.length ≤ 22) : K env 235 l h = outF Tryz.prog [.tmp 2] (C env (bodyOf Tryz.f235) (toL 22 (argF l)) h) := K_bodyF rfl (by kernel_rfl) hl
theorem k236 (l : List NVal) (h : NHeap) (hl : l.length ≤ 18) : K env 236 l h = outF Tryz.prog [.tmp 4, .tmp 5] (C env (bodyOf Tryz.f236) (toL 18 (argF l)) h) := K_bodyF rfl (by kernel_rfl) hl
theorem k237 (l : List NVal) (h : NHeap) (hl : l.length ≤ 9) : K env 237 l h = outF Tryz.prog [] (C env (bodyOf Tryz.f237) (toL 9 (argF l)) h) := K_bodyF rfl (by kernel_rfl) hl
theorem k238 (l : List NVal) (h : NHeap) (hl : l.length ≤ 7) : K env 238 l h = outF Tryz.prog [] (C env (bodyOf Tryz.f238) (toL 7 (argF l)) h) := K_bodyF rfl (by kernel_rfl) hl
theorem k239 (l : List NVal) (h : NHeap) (hl : l.length ≤ 33) : K env 239 l h = outF Tryz.prog [] (C env (bodyOf Tryz.f239) (toL 33 (argF l)) h) := K_bodyF rfl (by kernel_rfl) hl
theorem k240 (l : List NVal) (h : NHeap) (hl : l.length ≤ 9) : K env 240 l h = outF Tryz.prog [] (C env (bodyOf Tryz.f240) (toL 9 (argF l)) h) := K_bodyF rfl (by kernel_rfl) hl
theorem k241 (l : List NVal) (h : NHeap) (hl : l.length ≤ 11) : K env 241 l h = outF Tryz.prog [.cell 1 67] (C env (bodyOf Tryz.f241) (toL 11 (argF l)) h) := K_bodyF rfl (by kernel_rfl) hl
theorem k242 (l : List NVal) (h : NHeap) (hl : l.length ≤ 28) : K env 242 l h = outF Tryz.prog [] (C env (bodyOf Tryz.f242) (toL 28 (argF l)) h) := K_bodyF rfl (by kernel_rfl) hl
theorem k243 (l : List NVal) (h : NHeap) (hl : l.length ≤ 8) : K env 243 l h = outF Tryz.prog [.tmp 2] (C env (bodyOf Tryz.f243) (toL 8 (argF l)) h) := K_bodyF rfl (by kernel_rfl) hl
theorem k244 (l : List NVal) (h : NHeap) (hl : l.length ≤ 8) : K env 244 l h = outF Tryz.prog [.tmp 2] (C env (bodyOf Tryz.f244) (toL 8 (argF l)) h) := K_bodyF rfl (by kernel_rfl) hl
theorem k245 (l : List NVal) (h : NHeap) (hl : l.length ≤ 54) : K env 245 l h = outF Tryz.prog [.tmp 4, .tmp 5] (C env (bodyOf Tryz.f245) (toL 54 (argF l)) h) := K_bodyF rfl (by kernel_rfl) hl
theorem k246 (l : List NVal) (h : NHeap) (hl : l.length ≤ 95) : K env 246 l h = outF Tryz.prog [.tmp 6] (C env (bodyOf Tryz.f246) (toL 95 (argF l)) h) := K_bodyF rfl (by kernel_rfl) hl
theorem k247 (l : List NVal) (h : NHeap) (hl : l.length ≤ 95) : K env 247 l h = outF Tryz.prog [.tmp 6] (C env (bodyOf Tryz.f247) (toL 95 (argF l)) h) := K_bodyF rfl (by kernel_rfl) hl
theorem k248 (l : List NVal) (h : NHeap) (hl : l.length ≤ 9) : K env 248 l h = outF Tryz.prog [] (C env (bodyOf Tryz.f248) (toL 9 (argF l)) h) := K_bodyF rfl (by kernel_rfl) hl
theorem k249 (l : List NVal) (h : NHeap) (hl : l.length ≤ 7) : K env 249 l h = outF Tryz.prog [] (C env (bodyOf Tryz.f249) (toL 7 (argF l)) h) := K_bodyF rfl (by kernel_rfl) hl
theorem k250 (l : List NVal) (h : NHeap) (hl : l.length ≤ 43) : K env 250 l h = outF Tryz.prog [.cell 4 86, .tmp 5] (C env (bodyOf Tryz.f250) (toL 43 (argF l)) h) := K_bodyF rfl (by kernel_rfl) hl
theorem k251 (l : List NVal) (h : NHeap) (hl : l.length ≤ 12) : K env 251 l h = outF Tryz.prog [.tmp 2] (C env (bodyOf Tryz.f251) (toL 12 (argF l)) h) := K_bodyF rfl (by kernel_rfl) hl
theorem k252 (l : List NVal) (h : NHeap) (hl : l.length ≤ 28) : K env 252 l h = outF Tryz.prog [] (C env (bodyOf Tryz.f252) (toL 28 (argF l)) h) := K_bodyF rfl (by kernel_rfl) hl
theorem k253 (l : List NVal) (h : NHeap) (hl : l.length ≤ 16) : K env 253 l h = outF Tryz.prog [] (C env (bodyOf Tryz.f253) (toL 16 (argF l)) h) := K_bodyF rfl (by kernel_rfl) hl
theorem k254 (l : List NVal) (h : NHeap) (hl : l.length ≤ 9) : K env 254 l h = outF Tryz.prog [] (C env (bodyOf Tryz.f254) (toL 9 (argF l)) h) := K_bodyF rfl (by kernel_rfl) hl
theorem k255 (l : List NVal) (h : NHeap) (hl : l.length ≤ 4) : K env 255 l h = outF Tryz.prog [.tmp 2] (C env (bodyOf Tryz.f255) (toL 4 (argF l)) h) := K_bodyF rfl (by kernel_rfl) hl
theorem k256 (l : List NVal) (h : NHeap) (hl : l.length ≤ 14) : K env 256 l h = outF Tryz.prog [.cell 2 86] (C env (bodyOf Tryz.f256) (toL 14 (argF l)) h) := K_bodyF rfl (by kernel_rfl) hl
theorem k257 (l : List NVal) (h : NHeap) (hl : l.length ≤ 42) : K env 257 l h = outF Tryz.prog [] (C env (bodyOf Tryz.f257) (toL 42 (argF l)) h) := K_bodyF rfl (by kernel_rfl) hl
theorem k258 (l : List NVal) (h : NHeap) (hl : l.length ≤ 21) : K env 258 l h = outF Tryz.prog [.tmp 4] (C env (bodyOf Tryz.f258) (toL 21 (argF l)) h) := K_bodyF rfl (by kernel_rfl) hl
theorem k259 (l : List NVal) (h : NHeap) (hl : l.length ≤ 28) : K env 259 l h = outF Tryz.prog [] (C env (bodyOf Tryz.f259) (toL 28 (argF l)) h) := K_bodyF rfl (by kernel_rfl) hl
theorem k260 (l : List NVal) (h : NHeap) (hl : l.length ≤ 21) : K env 260 l h = outF Tryz.prog [.cell 2 67] (C env (bodyOf Tryz.f260) (toL 21 (argF l)) h) := K_bodyF rfl (by kernel_rfl) hl
theorem k261 (l : List NVal) (h : NHeap) (hl : l.length ≤ 16) : K env 261 l h = outF Tryz.prog [] (C env (bodyOf Tryz.f261) (toL 16 (argF l)) h) := K_bodyF rfl (by kernel_rfl) hl
theorem k262 (l : List NVal) (h : NHeap) (hl : l.length ≤ 5) : K env 262 l h = outF Tryz.prog [.tmp 2] (C env (bodyOf Tryz.f262) (toL 5 (argF l)) h) := K_bodyF rfl (by kernel_rfl) hl
theorem k263 (l : List NVal) (h : NHeap) (hl : l.length ≤ 13) : K env 263 l h = outF Tryz.prog [] (C env (bodyOf Tryz.f263) (toL 13 (argF l)) h) := K_bodyF rfl (by kernel_rfl) hl
theorem k264 (l : List NVal) (h : NHeap) (hl : l.length ≤ 17) : K env 264 l h = outF Tryz.prog [.tmp 4] (C env (bodyOf Tryz.f264) (toL 17 (argF l)) h) := K_bodyF rfl (by kernel_rfl) hl
theorem k265 (l : List NVal) (h : NHeap) (hl : l.length ≤ 6) : K env 265 l h = outF Tryz.prog [.tmp 2] (C env (bodyOf Tryz.f265) (toL 6 (argF l)) h) := K_bodyF rfl (by kernel_rfl) hl
theorem k267 (l : List NVal) (h : NHeap) (hl : l.length ≤ 10) : K env 267 l h = outF Tryz.prog [] (C env (bodyOf Tryz.f267) (toL 10 (argF l)) h) := K_bodyF rfl (by kernel_rfl) hl
theorem k269 (l : List NVal) (h : NHeap) (hl : l.length ≤ 10) : K env 269 l h = outF Tryz.prog [] (C env (bodyOf Tryz.f269) (toL 10 (argF l)) h) := K_bodyF rfl (by kernel_rfl) hl
theorem k270 (l : List NVal) (h : NHeap) (hl : l.length ≤ 36) : K env 270 l h = outF Tryz.prog [.tmp 2] (C env (bodyOf Tryz.f270) (toL 36 (argF l)) h) := K_bodyF rfl (by kernel_rfl) hl
theorem k271 (l : List NVal) (h : NHeap) (hl : l.length ≤ 36) : K env 271 l h = outF Tryz.prog [.tmp 2] (C env (bodyOf Tryz.f271) (toL 36 (argF l)) h) := K_bodyF rfl (by kernel_rfl) hl
theorem k272 (l : List NVal) (h : NHeap) (hl : l.length ≤ 13) : K env 272 l h = outF Tryz.prog [] (C env (bodyOf Tryz.f272) (toL 13 (argF l)) h) := K_bodyF rfl (by kernel_rfl) hl
theorem k273 (l : List NVal) (h : NHeap) (hl : l.length ≤ 33) : K env 273 l h = outF Tryz.prog [] (C env (bodyOf Tryz.f273) (toL 33 (argF l)) h) := K_bodyF rfl (by kernel_rfl) hl
theorem k274 (l : List NVal) (h : NHeap) (hl : l.length ≤ 21) : K env 274 l h = outF Tryz.prog [.cell 2 67] (C env (bodyOf Tryz.f274) (toL 21 (argF l)) h) := K_bodyF rfl (by kernel_rfl) hl
theorem k275 (l : List NVal) (h : NHeap) (hl : l.length ≤ 16) : K env 275 l h = outF Tryz.prog [] (C env (bodyOf Tryz.f275) (toL 16 (argF l)) h) := K_bodyF rfl (by kernel_rfl) hl
theorem k276 (l : List NVal) (h : NHeap) (hl : l.length ≤ 11) : K env 276 l h = outF Tryz.prog [.cell 1 67] (C env (bodyOf Tryz.f276) (toL 11 (argF l)) h) := K_bodyF rfl (by kernel_rfl) hl
theorem k277 (l : List NVal) (h : NHeap) (hl : l.length ≤ 22) : K env 277 l h = outF Tryz.prog [.cell 2 86] (C env (bodyOf Tryz.f277) (toL 22 (argF l)) h) := K_bodyF rfl (by kernel_rfl) hl
theorem k278 (l : List NVal) (h : NHeap) (hl : l.length ≤ 32) : K env 278 l h = outF Tryz.prog [] (C env (bodyOf Tryz.f278) (toL 32 (argF l)) h) := K_bodyF rfl (by kernel_rfl) hl
theorem k279 (l : List NVal) (h : NHeap) (hl : l.length ≤ 8) : K env 279 l h = outF Tryz.prog [] (C env (bodyOf Tryz.f279) (toL 8 (argF l)) h) := K_bodyF rfl (by kernel_rfl) hl
theorem k280 (l : List NVal) (h : NHeap) (hl : l.length ≤ 9) : K env 280 l h = outF Tryz.prog [.tmp 2, .tmp 3] (C env (bodyOf Tryz.f280) (toL 9 (argF l)) h) := K_bodyF rfl (by kernel_rfl) hl
theorem k281 (l : List NVal) (h : NHeap) (hl : l.length ≤ 12) : K env 281 l h = outF Tryz.prog [.tmp 4] (C env (bodyOf Tryz.f281) (toL 12 (argF l)) h) := K_bodyF rfl (by kernel_rfl) hl
theorem k282 (l : List NVal) (h : NHeap) (hl : l.length ≤ 24) : K env 282 l h = outF Tryz.prog [] (C env (bodyOf Tryz.f282) (toL 24 (argF l)) h) := K_bodyF rfl (by kernel_rfl) hl
theorem k283 (l : List NVal) (h : NHeap) (hl : l.length ≤ 6) : K env 283 l h = outF Tryz.prog [.tmp 2] (C env (bodyOf Tryz.f283) (toL 6 (argF l)) h) := K_bodyF rfl (by kernel_rfl) hl
theorem k284 (l : List NVal) (h : NHeap) (hl : l.length ≤ 19) : K env 284 l h = outF Tryz.prog [] (C env (bodyOf Tryz.f284) (toL 19 (argF l)) h) := K_bodyF rfl (by kernel_rfl) hl
theorem k285 (l : List NVal) (h : NHeap) (hl : l.length ≤ 6) : K env 285 l h = outF Tryz.prog [.tmp 2] (C env (bodyOf Tryz.f285) (toL 6 (argF l)) h) := K_bodyF rfl (by kernel_rfl) hl
theorem k286 (l : List NVal) (h : NHeap) (hl : l.length ≤ 14) : K env 286 l h = outF Tryz.prog [] (C env (bodyOf Tryz.f286) (toL 14 (argF l)) h) := K_bodyF rfl (by kernel_rfl) hl
theorem k287 (l : List NVal) (h : NHeap) (hl : l.length ≤ 14) : K env 287 l h = outF Tryz.prog [] (C env (bodyOf Tryz.f287) (toL 14 (argF l)) h) := K_bodyF rfl (by kernel_rfl) hl
theorem k288 (l : List NVal) (h : NHeap) (hl : l.length ≤ 27) : K env 288 l h = outF Tryz.prog [.tmp 4] (C env (bodyOf Tryz.f288) (toL 27 (argF l)) h) := K_bodyF rfl (by kernel_rfl) hl
theorem k289 (l : List NVal) (h : NHeap) (hl : l.length ≤ 27) : K env 289 l h = outF Tryz.prog [.tmp 4] (C env (bodyOf Tryz.f289) (toL 27 (argF l)) h) := K_bodyF rfl (by kernel_rfl) hl
theorem k290 (l : List NVal) (h : NHeap) (hl : l.length ≤ 32) : K env 290 l h = outF Tryz.prog [] (C env (bodyOf Tryz.f290) (toL 32 (argF l)) h) := K_bodyF rfl (by kernel_rfl) hl
theorem k291 (l : List NVal) (h : NHeap) (hl : l.length ≤ 19) : K env 291 l h = outF Tryz.prog [] (C env (bodyOf Tryz.f291) (toL 19 (argF l)) h) := K_bodyF rfl (by kernel_rfl) hl
theorem k292 (l : List NVal) (h : NHeap) (hl : l.length ≤ 28) : K env 292 l h = outF Tryz.prog [] (C env (bodyOf Tryz.f292) (toL 28 (argF l)) h) := K_bodyF rfl (by kernel_rfl) hl
theorem k293 (l : List NVal) (h : NHeap) (hl : l.length ≤ 12) : K env 293 l h = outF Tryz.prog [.tmp 4] (C env (bodyOf Tryz.f293) (toL 12 (argF l)) h) := K_bodyF rfl (by kernel_rfl) hl
theorem k294 (l : List NVal) (h : NHeap) (hl : l.length ≤ 43) : K env 294 l h = outF Tryz.prog [] (C env (bodyOf Tryz.f294) (toL 43 (argF l)) h) := K_bodyF rfl (by kernel_rfl) hl
theorem k295 (l : List NVal) (h : NHeap) (hl : l.length ≤ 24) : K env 295 l h = outF Tryz.prog [] (C env (bodyOf Tryz.f295) (toL 24 (argF l)) h) := K_bodyF rfl (by kernel_rfl) hl
theorem k296 (l : List NVal) (h : NHeap) (hl : l.length ≤ 11) : K env 296 l h = outF Tryz.prog [] (C env (bodyOf Tryz.f296) (toL 11 (argF l)) h) := K_bodyF rfl (by kernel_rfl) hl
theorem k297 (l : List NVal) (h : NHeap) (hl : l.length ≤ 39) : K env 297 l h = outF Tryz.prog [] (C env (bodyOf Tryz.f297) (toL 39 (argF l)) h) := K_bodyF rfl (by kernel_rfl) hl
theorem k298 (l : List NVal) (h : NHeap) (hl : l.length ≤ 14) : K env 298 l h = outF Tryz.prog [] (C env (bodyOf Tryz.f298) (toL 14 (argF l)) h) := K_bodyF rfl (by kernel_rfl) hl
theorem k299 (l : List NVal) (h : NHeap) (hl : l.length ≤ 28) : K env 299 l h = outF Tryz.prog [] (C env (bodyOf Tryz.f299) (toL 28 (argF l)) h) := K_bodyF rfl (by kernel_rfl) hl
theorem k300 (l : List NVal) (h : NHeap) (hl : l.length ≤ 28) : K env 300 l h = outF Tryz.prog [] (C env (bodyOf Tryz.f300) (toL 28 (argF l)) h) := K_bodyF rfl (by kernel_rfl) hl
theorem k301 (l : List NVal) (h : NHeap) (hl : l.length ≤ 24) : K env 301 l h = outF Tryz.prog [] (C env (bodyOf Tryz.f301) (toL 24 (argF l)) h) := K_bodyF rfl (by kernel_rfl) hl
theorem k302 (l : List NVal) (h : NHeap) (hl : l.length ≤ 14) : K env 302 l h = outF Tryz.prog [] (C env (bodyOf Tryz.f302) (toL 14 (argF l)) h) := K_bodyF rfl (by kernel_rfl) hl
theorem k303 (l : List NVal) (h : NHeap) (hl : l.length ≤ 8) : K env 303 l h = outF Tryz.prog [] (C env (bodyOf Tryz.f303) (toL 8 (argF l)) h) := K_bodyF rfl (by kernel_rfl) hl
theorem k304 (l : List NVal) (h : NHeap) (hl : l.length ≤ 11) : K env 304 l h = outF Tryz.prog [] (C env (bodyOf Tryz.f304) (toL 11 (argF l)) h) := K_bodyF rfl (by kernel_rfl) hl
theorem k305 (l : List NVal) (h : NHeap) (hl : l.length ≤ 10) : K env 305 l h = outF Tryz.prog [.tmp 2] (C env (bodyOf Tryz.f305) (toL 10 (argF l)) h) := K_bodyF rfl (by kernel_rfl) hl
theorem k306 (l : List NVal) (h : NHeap) (hl : l.length ≤ 22) : K env 306 l h = outF Tryz.prog [] (C env (bodyOf Tryz.f306) (toL 22 (argF l)) h) := K_bodyF rfl (by kernel_rfl) hl
theorem k307 (l : List NVal) (h : NHeap) (hl : l.length ≤ 39) : K env 307 l h = outF Tryz.prog [] (C env (bodyOf Tryz.f307) (toL 39 (argF l)) h) := K_bodyF rfl (by kernel_rfl) hl
theorem k308 (l : List NVal) (h : NHeap) (hl : l.length ≤ 12) : K env 308 l h = outF Tryz.prog [.cell 2 67] (C env (bodyOf Tryz.f308) (toL 12 (argF l)) h) := K_bodyF rfl (by kernel_rfl) hl
theorem k309 (l : List NVal) (h : NHeap) (hl : l.length ≤ 6) : K env 309 l h = outF Tryz.prog [] (C env (bodyOf Tryz.f309) (toL 6 (argF l)) h) := K_bodyF rfl (by kernel_rfl) hl
theorem k310 (l : List NVal) (h : NHeap) (hl : l.length ≤ 13) : K env 310 l h = outF Tryz.prog [] (C env (bodyOf Tryz.f310) (toL 13 (argF l)) h) := K_bodyF rfl (by kernel_rfl) hl
theorem k311 (l : List NVal) (h : NHeap) (hl : l.length ≤ 12) : K env 311 l h = outF Tryz.prog [.cell 2 67] (C env (bodyOf Tryz.f311) (toL 12 (argF l)) h) := K_bodyF rfl (by kernel_rfl) hl
theorem k312 (l : List NVal) (h : NHeap) (hl : l.length ≤ 6) : K env 312 l h = outF Tryz.prog [] (C env (bodyOf Tryz.f312) (toL 6 (argF l)) h) := K_bodyF rfl (by kernel_rfl) hl
theorem k313 (l : List NVal) (h : NHeap) (hl : l.length ≤ 13) : K env 313 l h = outF Tryz.prog [] (C env (bodyOf Tryz.f313) (toL 13 (argF l)) h) := K_bodyF rfl (by kernel_rfl) hl
theorem k314 (l : List NVal) (h : NHeap) (hl : l.length ≤ 12) : K env 314 l h = outF Tryz.prog [.cell 2 67] (C env (bodyOf Tryz.f314) (toL 12 (argF l)) h) := K_bodyF rfl (by kernel_rfl) hl
theorem k315 (l : List NVal) (h : NHeap) (hl : l.length ≤ 6) : K env 315 l h = outF Tryz.prog [] (C env (bodyOf Tryz.f315) (toL 6 (argF l)) h) := K_bodyF rfl (by kernel_rfl) hl
theorem k316 (l : List NVal) (h : NHeap) (hl : l.length ≤ 12) : K env 316 l h = outF Tryz.prog [.cell 2 67] (C env (bodyOf Tryz.f316) (toL 12 (argF l)) h) := K_bodyF rfl (by kernel_rfl) hl
theorem k317 (l : List NVal) (h : NHeap) (hl : l.length ≤ 16) : K env 317 l h = outF Tryz.prog [] (C env (bodyOf Tryz.f317) (toL 16 (argF l)) h) := K_bodyF rfl (by kernel_rfl) hl
theorem k318 (l : List NVal) (h : NHeap) (hl : l.length ≤ 6) : K env 318 l h = outF Tryz.prog [.tmp 2] (C env (bodyOf Tryz.f318) (toL 6 (argF l)) h) := K_bodyF rfl (by kernel_rfl) hl
theorem k319 (l : List NVal) (h : NHeap) (hl : l.length ≤ 6) : K env 319 l h = outF Tryz.prog [] (C env (bodyOf Tryz.f319) (toL 6 (argF l)) h) := K_bodyF rfl (by kernel_rfl) hl
theorem k344 (l : List NVal) (h : NHeap) (hl : l.length ≤ 62) : K env 344 l h = outF Tryz.prog [.tmp 8, .tmp 9] (C env (bodyOf Tryz.f344) (toL 62 (argF l)) h) := K_bodyF rfl (by kernel_rfl) hl
theorem k345 (l : List NVal) (h : NHeap) (hl : l.length ≤ 61) : K env 345 l h = outF Tryz.prog [.tmp 4, .tmp 5] (C env (bodyOf Tryz.f345) (toL 61 (argF l)) h) := K_bodyF rfl (by kernel_rfl) hl
theorem k347 (l : List NVal) (h : NHeap) (hl : l.length ≤ 8) : K env 347 l h = outF Tryz.prog [.tmp 2] (C env (bodyOf Tryz.f347) (toL 8 (argF l)) h) := K_bodyF rfl (by kernel_rfl) hl
theorem k348 (l : List NVal) (h : NHeap) (hl : l.length ≤ 5) : K env 348 l h = outF Tryz.prog [.tmp 2] (C env (bodyOf Tryz.f348) (toL 5 (argF l)) h) := K_bodyF rfl (by kernel_rfl) hl
theorem k349 (l : List NVal) (h : NHeap) (hl : l.length ≤ 16) : K env 349 l h = outF Tryz.prog [.tmp 6] (C env (bodyOf Tryz.f349) (toL 16 (argF l)) h) := K_bodyF rfl (by kernel_rfl) hl
theorem k350 (l : List NVal) (h : NHeap) (hl : l.length ≤ 20) : K env 350 l h = outF Tryz.prog [] (C env (bodyOf Tryz.f350) (toL 20 (argF l)) h) := K_bodyF rfl (by kernel_rfl) hl
theorem k351 (l : List NVal) (h : NHeap) (hl : l.length ≤ 25) : K env 351 l h = outF Tryz.prog [.tmp 2] (C env (bodyOf Tryz.f351) (toL 25 (argF l)) h) := K_bodyF rfl (by kernel_rfl) hl
theorem k352 (l : List NVal) (h : NHeap) (hl : l.length ≤ 13) : K env 352 l h = outF Tryz.prog [] (C env (bodyOf Tryz.f352) (toL 13 (argF l)) h) := K_bodyF rfl (by kernel_rfl) hl
end Go.Proofs.YtfgoajnoahhghaaGreat.S
