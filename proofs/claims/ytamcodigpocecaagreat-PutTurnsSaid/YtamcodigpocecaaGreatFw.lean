/-
  What the seat's types are, and each function's first step. No conditions.
-/
import Derived.Test.YtamcodigpocecaaGreatTab
import Derived.Test.YtamcodigpocecaaGreatNice40
namespace Go.Proofs.YtamcodigpocecaaGreat.S
open Go Go.RowKit Go.Proofs.YtamcodigpocecaaGreat.NICE
set_option maxRecDepth 100000
set_option linter.unusedSimpArgs false

set_option linter.unusedSectionVars false
variable [Syms]
theorem sz3 : szOf Tryz.prog 3 = some 1 := by kernel_rfl
theorem ag3 : aggT Tryz.prog 3 = some false := by kernel_rfl
theorem by3 : bytesOf Tryz.prog 3 = some 8 := by kernel_rfl
theorem ze3 : zeroOf Tryz.prog 3 = some (.int .i64 0) := by kernel_rfl
theorem sz4 : szOf Tryz.prog 4 = some 1 := by kernel_rfl
theorem ag4 : aggT Tryz.prog 4 = some false := by kernel_rfl
theorem by4 : bytesOf Tryz.prog 4 = some 1 := by kernel_rfl
theorem ze4 : zeroOf Tryz.prog 4 = some (.bool false) := by kernel_rfl
theorem sz5 : szOf Tryz.prog 5 = some 1 := by kernel_rfl
theorem ag5 : aggT Tryz.prog 5 = some false := by kernel_rfl
theorem by5 : bytesOf Tryz.prog 5 = some 1 := by kernel_rfl
theorem ze5 : zeroOf Tryz.prog 5 = some (.int .u8 0) := by kernel_rfl
theorem sz9 : szOf Tryz.prog 9 = some 1 := by kernel_rfl
theorem ag9 : aggT Tryz.prog 9 = some false := by kernel_rfl
theorem by9 : bytesOf Tryz.prog 9 = some 16 := by kernel_rfl
theorem ze9 : zeroOf Tryz.prog 9 = some (.str []) := by kernel_rfl
theorem sz20 : szOf Tryz.prog 20 = some 1 := by kernel_rfl
theorem ag20 : aggT Tryz.prog 20 = some false := by kernel_rfl
theorem by20 : bytesOf Tryz.prog 20 = some 16 := by kernel_rfl
theorem ze20 : zeroOf Tryz.prog 20 = some .nilIface := by kernel_rfl
theorem sz22 : szOf Tryz.prog 22 = some 1 := by kernel_rfl
theorem ag22 : aggT Tryz.prog 22 = some false := by kernel_rfl
theorem by22 : bytesOf Tryz.prog 22 = some 8 := by kernel_rfl
theorem ze22 : zeroOf Tryz.prog 22 = some (.ptr none) := by kernel_rfl
theorem sz24 : szOf Tryz.prog 24 = some 5 := by kernel_rfl
theorem ag24 : aggT Tryz.prog 24 = some true := by kernel_rfl
theorem by24 : bytesOf Tryz.prog 24 = some 40 := by kernel_rfl
theorem ze24 : zeroOf Tryz.prog 24 = some (.agg [(.int .i64 0), (.int .i64 0), (.int .i64 0), (.int .i64 0), (.int .i64 0)]) := by kernel_rfl
theorem sz26 : szOf Tryz.prog 26 = some 8 := by kernel_rfl
theorem ag26 : aggT Tryz.prog 26 = some true := by kernel_rfl
theorem by26 : bytesOf Tryz.prog 26 = some 64 := by kernel_rfl
theorem ze26 : zeroOf Tryz.prog 26 = some (.agg ([(.int .i64 0), (.int .i64 0), (.int .i64 0), (.int .i64 0), (.int .i64 0), (.int .i64 0), (.int .i64 0), (.int .i64 0)])) := by kernel_rfl
theorem fa26_0 (b o : Nat) : nfieldAddr Tryz.prog 26 (.ptr (some (b, o))) 0 = some (.ptr (some (b, o))) := by kernel_rfl
theorem fi26_0 (cs : List NVal) : nfield Tryz.prog 26 (.agg cs) 0 = some (.agg ((cs.drop 0).take 5)) := by kernel_rfl
theorem fa26_1 (b o : Nat) : nfieldAddr Tryz.prog 26 (.ptr (some (b, o))) 1 = some (.ptr (some (b, o + 5))) := by kernel_rfl
theorem fi26_1 (cs : List NVal) : nfield Tryz.prog 26 (.agg cs) 1 = cs[5]? := by kernel_rfl
theorem fa26_2 (b o : Nat) : nfieldAddr Tryz.prog 26 (.ptr (some (b, o))) 2 = some (.ptr (some (b, o + 6))) := by kernel_rfl
theorem fi26_2 (cs : List NVal) : nfield Tryz.prog 26 (.agg cs) 2 = cs[6]? := by kernel_rfl
theorem fa26_3 (b o : Nat) : nfieldAddr Tryz.prog 26 (.ptr (some (b, o))) 3 = some (.ptr (some (b, o + 7))) := by kernel_rfl
theorem fi26_3 (cs : List NVal) : nfield Tryz.prog 26 (.agg cs) 3 = cs[7]? := by kernel_rfl
theorem sz28 : szOf Tryz.prog 28 = some 1 := by kernel_rfl
theorem ag28 : aggT Tryz.prog 28 = some false := by kernel_rfl
theorem by28 : bytesOf Tryz.prog 28 = some 24 := by kernel_rfl
theorem ze28 : zeroOf Tryz.prog 28 = some (.slice none 0 0 none) := by kernel_rfl
theorem sz29 : szOf Tryz.prog 29 = some 1 := by kernel_rfl
theorem ag29 : aggT Tryz.prog 29 = some false := by kernel_rfl
theorem by29 : bytesOf Tryz.prog 29 = some 8 := by kernel_rfl
theorem ze29 : zeroOf Tryz.prog 29 = some (.int .i64 0) := by kernel_rfl
theorem sz30 : szOf Tryz.prog 30 = some 1 := by kernel_rfl
theorem ag30 : aggT Tryz.prog 30 = some false := by kernel_rfl
theorem by30 : bytesOf Tryz.prog 30 = some 24 := by kernel_rfl
theorem ze30 : zeroOf Tryz.prog 30 = some (.slice none 0 0 none) := by kernel_rfl
theorem sz32 : szOf Tryz.prog 32 = some 4 := by kernel_rfl
theorem ag32 : aggT Tryz.prog 32 = some true := by kernel_rfl
theorem by32 : bytesOf Tryz.prog 32 = some 48 := by kernel_rfl
theorem ze32 : zeroOf Tryz.prog 32 = some (.agg [(.int .i64 0), (.bool false), (.int .i64 0), (.slice none 0 0 none)]) := by kernel_rfl
theorem fa32_0 (b o : Nat) : nfieldAddr Tryz.prog 32 (.ptr (some (b, o))) 0 = some (.ptr (some (b, o))) := by kernel_rfl
theorem fi32_0 (cs : List NVal) : nfield Tryz.prog 32 (.agg cs) 0 = cs[0]? := by kernel_rfl
theorem fa32_1 (b o : Nat) : nfieldAddr Tryz.prog 32 (.ptr (some (b, o))) 1 = some (.ptr (some (b, o + 1))) := by kernel_rfl
theorem fi32_1 (cs : List NVal) : nfield Tryz.prog 32 (.agg cs) 1 = cs[1]? := by kernel_rfl
theorem fa32_2 (b o : Nat) : nfieldAddr Tryz.prog 32 (.ptr (some (b, o))) 2 = some (.ptr (some (b, o + 2))) := by kernel_rfl
theorem fi32_2 (cs : List NVal) : nfield Tryz.prog 32 (.agg cs) 2 = cs[2]? := by kernel_rfl
theorem fa32_3 (b o : Nat) : nfieldAddr Tryz.prog 32 (.ptr (some (b, o))) 3 = some (.ptr (some (b, o + 3))) := by kernel_rfl
theorem fi32_3 (cs : List NVal) : nfield Tryz.prog 32 (.agg cs) 3 = cs[3]? := by kernel_rfl
theorem sz35 : szOf Tryz.prog 35 = some 1 := by kernel_rfl
theorem ag35 : aggT Tryz.prog 35 = some false := by kernel_rfl
theorem by35 : bytesOf Tryz.prog 35 = some 8 := by kernel_rfl
theorem ze35 : zeroOf Tryz.prog 35 = some (.ptr none) := by kernel_rfl
theorem sz36 : szOf Tryz.prog 36 = some 1 := by kernel_rfl
theorem ag36 : aggT Tryz.prog 36 = some false := by kernel_rfl
theorem by36 : bytesOf Tryz.prog 36 = some 8 := by kernel_rfl
theorem ze36 : zeroOf Tryz.prog 36 = some (.ptr none) := by kernel_rfl
theorem sz38 : szOf Tryz.prog 38 = some 10 := by kernel_rfl
theorem ag38 : aggT Tryz.prog 38 = some true := by kernel_rfl
theorem by38 : bytesOf Tryz.prog 38 = some 80 := by kernel_rfl
theorem ze38 : zeroOf Tryz.prog 38 = some (.agg ([(.ptr none), (.ptr none), (.int .i64 0), (.int .i64 0), (.int .i64 0), (.int .i64 0), (.int .i64 0), (.int .i64 0), (.int .i64 0), (.int .i64 0)])) := by kernel_rfl
theorem fa38_0 (b o : Nat) : nfieldAddr Tryz.prog 38 (.ptr (some (b, o))) 0 = some (.ptr (some (b, o))) := by kernel_rfl
theorem fi38_0 (cs : List NVal) : nfield Tryz.prog 38 (.agg cs) 0 = cs[0]? := by kernel_rfl
theorem fa38_1 (b o : Nat) : nfieldAddr Tryz.prog 38 (.ptr (some (b, o))) 1 = some (.ptr (some (b, o + 1))) := by kernel_rfl
theorem fi38_1 (cs : List NVal) : nfield Tryz.prog 38 (.agg cs) 1 = cs[1]? := by kernel_rfl
theorem fa38_2 (b o : Nat) : nfieldAddr Tryz.prog 38 (.ptr (some (b, o))) 2 = some (.ptr (some (b, o + 2))) := by kernel_rfl
theorem fi38_2 (cs : List NVal) : nfield Tryz.prog 38 (.agg cs) 2 = some (.agg ((cs.drop 2).take 8)) := by kernel_rfl
theorem sz42 : szOf Tryz.prog 42 = some 2 := by kernel_rfl
theorem ag42 : aggT Tryz.prog 42 = some true := by kernel_rfl
theorem by42 : bytesOf Tryz.prog 42 = some 24 := by kernel_rfl
theorem ze42 : zeroOf Tryz.prog 42 = some (.agg [(.str []), (.int .i64 0)]) := by kernel_rfl
theorem fa42_0 (b o : Nat) : nfieldAddr Tryz.prog 42 (.ptr (some (b, o))) 0 = some (.ptr (some (b, o))) := by kernel_rfl
theorem fi42_0 (cs : List NVal) : nfield Tryz.prog 42 (.agg cs) 0 = cs[0]? := by kernel_rfl
theorem fa42_1 (b o : Nat) : nfieldAddr Tryz.prog 42 (.ptr (some (b, o))) 1 = some (.ptr (some (b, o + 1))) := by kernel_rfl
theorem fi42_1 (cs : List NVal) : nfield Tryz.prog 42 (.agg cs) 1 = cs[1]? := by kernel_rfl
theorem sz45 : szOf Tryz.prog 45 = some 1 := by kernel_rfl
theorem ag45 : aggT Tryz.prog 45 = some false := by kernel_rfl
theorem by45 : bytesOf Tryz.prog 45 = some 24 := by kernel_rfl
theorem ze45 : zeroOf Tryz.prog 45 = some (.slice none 0 0 none) := by kernel_rfl
theorem sz47 : szOf Tryz.prog 47 = some 4 := by kernel_rfl
theorem ag47 : aggT Tryz.prog 47 = some true := by kernel_rfl
theorem by47 : bytesOf Tryz.prog 47 = some 48 := by kernel_rfl
theorem ze47 : zeroOf Tryz.prog 47 = some (.agg [(.int .i64 0), (.int .i64 0), (.bool false), (.slice none 0 0 none)]) := by kernel_rfl
theorem fa47_0 (b o : Nat) : nfieldAddr Tryz.prog 47 (.ptr (some (b, o))) 0 = some (.ptr (some (b, o))) := by kernel_rfl
theorem fi47_0 (cs : List NVal) : nfield Tryz.prog 47 (.agg cs) 0 = cs[0]? := by kernel_rfl
theorem fa47_1 (b o : Nat) : nfieldAddr Tryz.prog 47 (.ptr (some (b, o))) 1 = some (.ptr (some (b, o + 1))) := by kernel_rfl
theorem fi47_1 (cs : List NVal) : nfield Tryz.prog 47 (.agg cs) 1 = cs[1]? := by kernel_rfl
theorem fa47_2 (b o : Nat) : nfieldAddr Tryz.prog 47 (.ptr (some (b, o))) 2 = some (.ptr (some (b, o + 2))) := by kernel_rfl
theorem fi47_2 (cs : List NVal) : nfield Tryz.prog 47 (.agg cs) 2 = cs[2]? := by kernel_rfl
theorem fa47_3 (b o : Nat) : nfieldAddr Tryz.prog 47 (.ptr (some (b, o))) 3 = some (.ptr (some (b, o + 3))) := by kernel_rfl
theorem fi47_3 (cs : List NVal) : nfield Tryz.prog 47 (.agg cs) 3 = cs[3]? := by kernel_rfl
theorem sz49 : szOf Tryz.prog 49 = some 1 := by kernel_rfl
theorem ag49 : aggT Tryz.prog 49 = some false := by kernel_rfl
theorem by49 : bytesOf Tryz.prog 49 = some 8 := by kernel_rfl
theorem ze49 : zeroOf Tryz.prog 49 = some (.int .u64 0) := by kernel_rfl
theorem sz51 : szOf Tryz.prog 51 = some 6 := by kernel_rfl
theorem ag51 : aggT Tryz.prog 51 = some true := by kernel_rfl
theorem by51 : bytesOf Tryz.prog 51 = some 64 := by kernel_rfl
theorem ze51 : zeroOf Tryz.prog 51 = some (.agg [(.int .i64 0), (.int .i64 0), (.int .i64 0), (.int .i64 0), (.int .u64 0), (.slice none 0 0 none)]) := by kernel_rfl
theorem fa51_0 (b o : Nat) : nfieldAddr Tryz.prog 51 (.ptr (some (b, o))) 0 = some (.ptr (some (b, o))) := by kernel_rfl
theorem fi51_0 (cs : List NVal) : nfield Tryz.prog 51 (.agg cs) 0 = cs[0]? := by kernel_rfl
theorem fa51_1 (b o : Nat) : nfieldAddr Tryz.prog 51 (.ptr (some (b, o))) 1 = some (.ptr (some (b, o + 1))) := by kernel_rfl
theorem fi51_1 (cs : List NVal) : nfield Tryz.prog 51 (.agg cs) 1 = cs[1]? := by kernel_rfl
theorem fa51_2 (b o : Nat) : nfieldAddr Tryz.prog 51 (.ptr (some (b, o))) 2 = some (.ptr (some (b, o + 2))) := by kernel_rfl
theorem fi51_2 (cs : List NVal) : nfield Tryz.prog 51 (.agg cs) 2 = cs[2]? := by kernel_rfl
theorem fa51_3 (b o : Nat) : nfieldAddr Tryz.prog 51 (.ptr (some (b, o))) 3 = some (.ptr (some (b, o + 3))) := by kernel_rfl
theorem fi51_3 (cs : List NVal) : nfield Tryz.prog 51 (.agg cs) 3 = cs[3]? := by kernel_rfl
theorem fa51_4 (b o : Nat) : nfieldAddr Tryz.prog 51 (.ptr (some (b, o))) 4 = some (.ptr (some (b, o + 4))) := by kernel_rfl
theorem fi51_4 (cs : List NVal) : nfield Tryz.prog 51 (.agg cs) 4 = cs[4]? := by kernel_rfl
theorem fa51_5 (b o : Nat) : nfieldAddr Tryz.prog 51 (.ptr (some (b, o))) 5 = some (.ptr (some (b, o + 5))) := by kernel_rfl
theorem fi51_5 (cs : List NVal) : nfield Tryz.prog 51 (.agg cs) 5 = cs[5]? := by kernel_rfl
theorem sz52 : szOf Tryz.prog 52 = some 1 := by kernel_rfl
theorem ag52 : aggT Tryz.prog 52 = some false := by kernel_rfl
theorem by52 : bytesOf Tryz.prog 52 = some 8 := by kernel_rfl
theorem ze52 : zeroOf Tryz.prog 52 = some (.ptr none) := by kernel_rfl
theorem sz56 : szOf Tryz.prog 56 = some 4 := by kernel_rfl
theorem ag56 : aggT Tryz.prog 56 = some true := by kernel_rfl
theorem by56 : bytesOf Tryz.prog 56 = some 48 := by kernel_rfl
theorem ze56 : zeroOf Tryz.prog 56 = some (.agg [(.int .i64 0), (.str []), (.str []), (.int .i64 0)]) := by kernel_rfl
theorem fa56_0 (b o : Nat) : nfieldAddr Tryz.prog 56 (.ptr (some (b, o))) 0 = some (.ptr (some (b, o))) := by kernel_rfl
theorem fi56_0 (cs : List NVal) : nfield Tryz.prog 56 (.agg cs) 0 = cs[0]? := by kernel_rfl
theorem fa56_1 (b o : Nat) : nfieldAddr Tryz.prog 56 (.ptr (some (b, o))) 1 = some (.ptr (some (b, o + 1))) := by kernel_rfl
theorem fi56_1 (cs : List NVal) : nfield Tryz.prog 56 (.agg cs) 1 = cs[1]? := by kernel_rfl
theorem fa56_2 (b o : Nat) : nfieldAddr Tryz.prog 56 (.ptr (some (b, o))) 2 = some (.ptr (some (b, o + 2))) := by kernel_rfl
theorem fi56_2 (cs : List NVal) : nfield Tryz.prog 56 (.agg cs) 2 = cs[2]? := by kernel_rfl
theorem fa56_3 (b o : Nat) : nfieldAddr Tryz.prog 56 (.ptr (some (b, o))) 3 = some (.ptr (some (b, o + 3))) := by kernel_rfl
theorem fi56_3 (cs : List NVal) : nfield Tryz.prog 56 (.agg cs) 3 = cs[3]? := by kernel_rfl
theorem sz64 : szOf Tryz.prog 64 = some 1 := by kernel_rfl
theorem ag64 : aggT Tryz.prog 64 = some false := by kernel_rfl
theorem by64 : bytesOf Tryz.prog 64 = some 24 := by kernel_rfl
theorem ze64 : zeroOf Tryz.prog 64 = some (.slice none 0 0 none) := by kernel_rfl
theorem sz73 : szOf Tryz.prog 73 = some 1 := by kernel_rfl
theorem ag73 : aggT Tryz.prog 73 = some false := by kernel_rfl
theorem by73 : bytesOf Tryz.prog 73 = some 8 := by kernel_rfl
theorem ze73 : zeroOf Tryz.prog 73 = some (.ptr none) := by kernel_rfl
theorem sz74 : szOf Tryz.prog 74 = some 1 := by kernel_rfl
theorem ag74 : aggT Tryz.prog 74 = some false := by kernel_rfl
theorem by74 : bytesOf Tryz.prog 74 = some 8 := by kernel_rfl
theorem ze74 : zeroOf Tryz.prog 74 = some (.ptr none) := by kernel_rfl
theorem sz76 : szOf Tryz.prog 76 = some 4 := by kernel_rfl
theorem ag76 : aggT Tryz.prog 76 = some true := by kernel_rfl
theorem by76 : bytesOf Tryz.prog 76 = some 32 := by kernel_rfl
theorem ze76 : zeroOf Tryz.prog 76 = some (.agg [(.ptr none), (.ptr none), (.int .i64 0), (.int .i64 0)]) := by kernel_rfl
theorem fa76_0 (b o : Nat) : nfieldAddr Tryz.prog 76 (.ptr (some (b, o))) 0 = some (.ptr (some (b, o))) := by kernel_rfl
theorem fi76_0 (cs : List NVal) : nfield Tryz.prog 76 (.agg cs) 0 = cs[0]? := by kernel_rfl
theorem fa76_1 (b o : Nat) : nfieldAddr Tryz.prog 76 (.ptr (some (b, o))) 1 = some (.ptr (some (b, o + 1))) := by kernel_rfl
theorem fi76_1 (cs : List NVal) : nfield Tryz.prog 76 (.agg cs) 1 = cs[1]? := by kernel_rfl
theorem fa76_2 (b o : Nat) : nfieldAddr Tryz.prog 76 (.ptr (some (b, o))) 2 = some (.ptr (some (b, o + 2))) := by kernel_rfl
theorem fi76_2 (cs : List NVal) : nfield Tryz.prog 76 (.agg cs) 2 = cs[2]? := by kernel_rfl
theorem fa76_3 (b o : Nat) : nfieldAddr Tryz.prog 76 (.ptr (some (b, o))) 3 = some (.ptr (some (b, o + 3))) := by kernel_rfl
theorem fi76_3 (cs : List NVal) : nfield Tryz.prog 76 (.agg cs) 3 = cs[3]? := by kernel_rfl
theorem sz78 : szOf Tryz.prog 78 = some 1 := by kernel_rfl
theorem ag78 : aggT Tryz.prog 78 = some false := by kernel_rfl
theorem by78 : bytesOf Tryz.prog 78 = some 8 := by kernel_rfl
theorem ze78 : zeroOf Tryz.prog 78 = some (.ptr none) := by kernel_rfl
theorem sz80 : szOf Tryz.prog 80 = some 1 := by kernel_rfl
theorem ag80 : aggT Tryz.prog 80 = some false := by kernel_rfl
theorem by80 : bytesOf Tryz.prog 80 = some 8 := by kernel_rfl
theorem ze80 : zeroOf Tryz.prog 80 = some (.ptr none) := by kernel_rfl
theorem sz81 : szOf Tryz.prog 81 = some 1 := by kernel_rfl
theorem ag81 : aggT Tryz.prog 81 = some false := by kernel_rfl
theorem by81 : bytesOf Tryz.prog 81 = some 8 := by kernel_rfl
theorem ze81 : zeroOf Tryz.prog 81 = some (.ptr none) := by kernel_rfl
theorem sz83 : szOf Tryz.prog 83 = some 5 := by kernel_rfl
theorem ag83 : aggT Tryz.prog 83 = some true := by kernel_rfl
theorem by83 : bytesOf Tryz.prog 83 = some 40 := by kernel_rfl
theorem ze83 : zeroOf Tryz.prog 83 = some (.agg [(.ptr none), (.ptr none), (.int .i64 0), (.int .i64 0), (.int .i64 0)]) := by kernel_rfl
theorem fa83_0 (b o : Nat) : nfieldAddr Tryz.prog 83 (.ptr (some (b, o))) 0 = some (.ptr (some (b, o))) := by kernel_rfl
theorem fi83_0 (cs : List NVal) : nfield Tryz.prog 83 (.agg cs) 0 = cs[0]? := by kernel_rfl
theorem fa83_1 (b o : Nat) : nfieldAddr Tryz.prog 83 (.ptr (some (b, o))) 1 = some (.ptr (some (b, o + 1))) := by kernel_rfl
theorem fi83_1 (cs : List NVal) : nfield Tryz.prog 83 (.agg cs) 1 = cs[1]? := by kernel_rfl
theorem fa83_2 (b o : Nat) : nfieldAddr Tryz.prog 83 (.ptr (some (b, o))) 2 = some (.ptr (some (b, o + 2))) := by kernel_rfl
theorem fi83_2 (cs : List NVal) : nfield Tryz.prog 83 (.agg cs) 2 = cs[2]? := by kernel_rfl
theorem fa83_3 (b o : Nat) : nfieldAddr Tryz.prog 83 (.ptr (some (b, o))) 3 = some (.ptr (some (b, o + 3))) := by kernel_rfl
theorem fi83_3 (cs : List NVal) : nfield Tryz.prog 83 (.agg cs) 3 = cs[3]? := by kernel_rfl
theorem fa83_4 (b o : Nat) : nfieldAddr Tryz.prog 83 (.ptr (some (b, o))) 4 = some (.ptr (some (b, o + 4))) := by kernel_rfl
theorem fi83_4 (cs : List NVal) : nfield Tryz.prog 83 (.agg cs) 4 = cs[4]? := by kernel_rfl
theorem sz90 : szOf Tryz.prog 90 = some 1 := by kernel_rfl
theorem ag90 : aggT Tryz.prog 90 = some false := by kernel_rfl
theorem by90 : bytesOf Tryz.prog 90 = some 8 := by kernel_rfl
theorem ze90 : zeroOf Tryz.prog 90 = some .nilFunc := by kernel_rfl
theorem sz91 : szOf Tryz.prog 91 = some 1 := by kernel_rfl
theorem ag91 : aggT Tryz.prog 91 = some false := by kernel_rfl
theorem by91 : bytesOf Tryz.prog 91 = some 8 := by kernel_rfl
theorem ze91 : zeroOf Tryz.prog 91 = some .nilFunc := by kernel_rfl
theorem sz92 : szOf Tryz.prog 92 = some 1 := by kernel_rfl
theorem ag92 : aggT Tryz.prog 92 = some false := by kernel_rfl
theorem by92 : bytesOf Tryz.prog 92 = some 24 := by kernel_rfl
theorem ze92 : zeroOf Tryz.prog 92 = some (.slice none 0 0 none) := by kernel_rfl
theorem sz94 : szOf Tryz.prog 94 = some 5 := by kernel_rfl
theorem ag94 : aggT Tryz.prog 94 = some true := by kernel_rfl
theorem by94 : bytesOf Tryz.prog 94 = some 80 := by kernel_rfl
theorem ze94 : zeroOf Tryz.prog 94 = some (.agg [(.int .i64 0), (.int .u64 0), (.str []), (.slice none 0 0 none), (.slice none 0 0 none)]) := by kernel_rfl
theorem fa94_0 (b o : Nat) : nfieldAddr Tryz.prog 94 (.ptr (some (b, o))) 0 = some (.ptr (some (b, o))) := by kernel_rfl
theorem fi94_0 (cs : List NVal) : nfield Tryz.prog 94 (.agg cs) 0 = cs[0]? := by kernel_rfl
theorem fa94_1 (b o : Nat) : nfieldAddr Tryz.prog 94 (.ptr (some (b, o))) 1 = some (.ptr (some (b, o + 1))) := by kernel_rfl
theorem fi94_1 (cs : List NVal) : nfield Tryz.prog 94 (.agg cs) 1 = cs[1]? := by kernel_rfl
theorem fa94_2 (b o : Nat) : nfieldAddr Tryz.prog 94 (.ptr (some (b, o))) 2 = some (.ptr (some (b, o + 2))) := by kernel_rfl
theorem fi94_2 (cs : List NVal) : nfield Tryz.prog 94 (.agg cs) 2 = cs[2]? := by kernel_rfl
theorem fa94_3 (b o : Nat) : nfieldAddr Tryz.prog 94 (.ptr (some (b, o))) 3 = some (.ptr (some (b, o + 3))) := by kernel_rfl
theorem fi94_3 (cs : List NVal) : nfield Tryz.prog 94 (.agg cs) 3 = cs[3]? := by kernel_rfl
theorem fa94_4 (b o : Nat) : nfieldAddr Tryz.prog 94 (.ptr (some (b, o))) 4 = some (.ptr (some (b, o + 4))) := by kernel_rfl
theorem fi94_4 (cs : List NVal) : nfield Tryz.prog 94 (.agg cs) 4 = cs[4]? := by kernel_rfl
theorem sz96 : szOf Tryz.prog 96 = some 7 := by kernel_rfl
theorem ag96 : aggT Tryz.prog 96 = some true := by kernel_rfl
theorem by96 : bytesOf Tryz.prog 96 = some 96 := by kernel_rfl
theorem ze96 : zeroOf Tryz.prog 96 = some (.agg [(.int .i64 0), (.int .i64 0), (.int .u64 0), (.str []), (.slice none 0 0 none), (.slice none 0 0 none), (.int .u8 0)]) := by kernel_rfl
theorem fa96_0 (b o : Nat) : nfieldAddr Tryz.prog 96 (.ptr (some (b, o))) 0 = some (.ptr (some (b, o))) := by kernel_rfl
theorem fi96_0 (cs : List NVal) : nfield Tryz.prog 96 (.agg cs) 0 = cs[0]? := by kernel_rfl
theorem fa96_1 (b o : Nat) : nfieldAddr Tryz.prog 96 (.ptr (some (b, o))) 1 = some (.ptr (some (b, o + 1))) := by kernel_rfl
theorem fi96_1 (cs : List NVal) : nfield Tryz.prog 96 (.agg cs) 1 = some (.agg ((cs.drop 1).take 5)) := by kernel_rfl
theorem fa96_2 (b o : Nat) : nfieldAddr Tryz.prog 96 (.ptr (some (b, o))) 2 = some (.ptr (some (b, o + 6))) := by kernel_rfl
theorem fi96_2 (cs : List NVal) : nfield Tryz.prog 96 (.agg cs) 2 = cs[6]? := by kernel_rfl
theorem sz97 : szOf Tryz.prog 97 = some 1 := by kernel_rfl
theorem ag97 : aggT Tryz.prog 97 = some false := by kernel_rfl
theorem by97 : bytesOf Tryz.prog 97 = some 24 := by kernel_rfl
theorem ze97 : zeroOf Tryz.prog 97 = some (.slice none 0 0 none) := by kernel_rfl
theorem sz99 : szOf Tryz.prog 99 = some 38 := by kernel_rfl
theorem ag99 : aggT Tryz.prog 99 = some true := by kernel_rfl
theorem by99 : bytesOf Tryz.prog 99 = some 472 := by kernel_rfl
theorem ze99 : zeroOf Tryz.prog 99 = some (.agg [(.str []), (.str []), (.int .i64 0), (.int .i64 0), (.int .i64 0), (.int .i64 0), (.bool false), (.int .i64 0), (.int .i64 0), (.int .i64 0), (.int .i64 0), (.int .u64 0), (.slice none 0 0 none), .nilFunc, .nilFunc, (.int .i64 0), (.int .i64 0), (.int .u64 0), (.str []), (.slice none 0 0 none), (.slice none 0 0 none), (.int .u8 0), (.int .i64 0), (.int .i64 0), (.int .u64 0), (.str []), (.slice none 0 0 none), (.slice none 0 0 none), (.int .u8 0), (.slice none 0 0 none), (.slice none 0 0 none), (.slice none 0 0 none), (.bool false), (.bool false), (.int .i64 0), (.bool false), (.int .i64 0), (.slice none 0 0 none)]) := by kernel_rfl
theorem fa99_0 (b o : Nat) : nfieldAddr Tryz.prog 99 (.ptr (some (b, o))) 0 = some (.ptr (some (b, o))) := by kernel_rfl
theorem fi99_0 (cs : List NVal) : nfield Tryz.prog 99 (.agg cs) 0 = cs[0]? := by kernel_rfl
theorem fa99_1 (b o : Nat) : nfieldAddr Tryz.prog 99 (.ptr (some (b, o))) 1 = some (.ptr (some (b, o + 1))) := by kernel_rfl
theorem fi99_1 (cs : List NVal) : nfield Tryz.prog 99 (.agg cs) 1 = cs[1]? := by kernel_rfl
theorem fa99_2 (b o : Nat) : nfieldAddr Tryz.prog 99 (.ptr (some (b, o))) 2 = some (.ptr (some (b, o + 2))) := by kernel_rfl
theorem fi99_2 (cs : List NVal) : nfield Tryz.prog 99 (.agg cs) 2 = cs[2]? := by kernel_rfl
theorem fa99_3 (b o : Nat) : nfieldAddr Tryz.prog 99 (.ptr (some (b, o))) 3 = some (.ptr (some (b, o + 3))) := by kernel_rfl
theorem fi99_3 (cs : List NVal) : nfield Tryz.prog 99 (.agg cs) 3 = cs[3]? := by kernel_rfl
theorem fa99_4 (b o : Nat) : nfieldAddr Tryz.prog 99 (.ptr (some (b, o))) 4 = some (.ptr (some (b, o + 4))) := by kernel_rfl
theorem fi99_4 (cs : List NVal) : nfield Tryz.prog 99 (.agg cs) 4 = cs[4]? := by kernel_rfl
theorem fa99_5 (b o : Nat) : nfieldAddr Tryz.prog 99 (.ptr (some (b, o))) 5 = some (.ptr (some (b, o + 5))) := by kernel_rfl
theorem fi99_5 (cs : List NVal) : nfield Tryz.prog 99 (.agg cs) 5 = cs[5]? := by kernel_rfl
theorem fa99_6 (b o : Nat) : nfieldAddr Tryz.prog 99 (.ptr (some (b, o))) 6 = some (.ptr (some (b, o + 6))) := by kernel_rfl
theorem fi99_6 (cs : List NVal) : nfield Tryz.prog 99 (.agg cs) 6 = cs[6]? := by kernel_rfl
theorem fa99_7 (b o : Nat) : nfieldAddr Tryz.prog 99 (.ptr (some (b, o))) 7 = some (.ptr (some (b, o + 7))) := by kernel_rfl
theorem fi99_7 (cs : List NVal) : nfield Tryz.prog 99 (.agg cs) 7 = some (.agg ((cs.drop 7).take 6)) := by kernel_rfl
theorem fa99_8 (b o : Nat) : nfieldAddr Tryz.prog 99 (.ptr (some (b, o))) 8 = some (.ptr (some (b, o + 13))) := by kernel_rfl
theorem fi99_8 (cs : List NVal) : nfield Tryz.prog 99 (.agg cs) 8 = cs[13]? := by kernel_rfl
theorem fa99_9 (b o : Nat) : nfieldAddr Tryz.prog 99 (.ptr (some (b, o))) 9 = some (.ptr (some (b, o + 14))) := by kernel_rfl
theorem fi99_9 (cs : List NVal) : nfield Tryz.prog 99 (.agg cs) 9 = cs[14]? := by kernel_rfl
theorem fa99_10 (b o : Nat) : nfieldAddr Tryz.prog 99 (.ptr (some (b, o))) 10 = some (.ptr (some (b, o + 15))) := by kernel_rfl
theorem fi99_10 (cs : List NVal) : nfield Tryz.prog 99 (.agg cs) 10 = some (.agg ((cs.drop 15).take 7)) := by kernel_rfl
theorem fa99_11 (b o : Nat) : nfieldAddr Tryz.prog 99 (.ptr (some (b, o))) 11 = some (.ptr (some (b, o + 22))) := by kernel_rfl
theorem fi99_11 (cs : List NVal) : nfield Tryz.prog 99 (.agg cs) 11 = some (.agg ((cs.drop 22).take 7)) := by kernel_rfl
theorem fa99_12 (b o : Nat) : nfieldAddr Tryz.prog 99 (.ptr (some (b, o))) 12 = some (.ptr (some (b, o + 29))) := by kernel_rfl
theorem fi99_12 (cs : List NVal) : nfield Tryz.prog 99 (.agg cs) 12 = cs[29]? := by kernel_rfl
theorem fa99_13 (b o : Nat) : nfieldAddr Tryz.prog 99 (.ptr (some (b, o))) 13 = some (.ptr (some (b, o + 30))) := by kernel_rfl
theorem fi99_13 (cs : List NVal) : nfield Tryz.prog 99 (.agg cs) 13 = cs[30]? := by kernel_rfl
theorem fa99_14 (b o : Nat) : nfieldAddr Tryz.prog 99 (.ptr (some (b, o))) 14 = some (.ptr (some (b, o + 31))) := by kernel_rfl
theorem fi99_14 (cs : List NVal) : nfield Tryz.prog 99 (.agg cs) 14 = cs[31]? := by kernel_rfl
theorem fa99_15 (b o : Nat) : nfieldAddr Tryz.prog 99 (.ptr (some (b, o))) 15 = some (.ptr (some (b, o + 32))) := by kernel_rfl
theorem fi99_15 (cs : List NVal) : nfield Tryz.prog 99 (.agg cs) 15 = cs[32]? := by kernel_rfl
theorem fa99_16 (b o : Nat) : nfieldAddr Tryz.prog 99 (.ptr (some (b, o))) 16 = some (.ptr (some (b, o + 33))) := by kernel_rfl
theorem fi99_16 (cs : List NVal) : nfield Tryz.prog 99 (.agg cs) 16 = cs[33]? := by kernel_rfl
theorem fa99_17 (b o : Nat) : nfieldAddr Tryz.prog 99 (.ptr (some (b, o))) 17 = some (.ptr (some (b, o + 34))) := by kernel_rfl
theorem fi99_17 (cs : List NVal) : nfield Tryz.prog 99 (.agg cs) 17 = some (.agg ((cs.drop 34).take 4)) := by kernel_rfl
theorem sz102 : szOf Tryz.prog 102 = some 1 := by kernel_rfl
theorem ag102 : aggT Tryz.prog 102 = some false := by kernel_rfl
theorem by102 : bytesOf Tryz.prog 102 = some 8 := by kernel_rfl
theorem ze102 : zeroOf Tryz.prog 102 = some (.ptr none) := by kernel_rfl
theorem sz107 : szOf Tryz.prog 107 = some 1 := by kernel_rfl
theorem ag107 : aggT Tryz.prog 107 = some false := by kernel_rfl
theorem by107 : bytesOf Tryz.prog 107 = some 8 := by kernel_rfl
theorem ze107 : zeroOf Tryz.prog 107 = some (.ptr none) := by kernel_rfl
theorem sz126 : szOf Tryz.prog 126 = some 2 := by kernel_rfl
theorem ag126 : aggT Tryz.prog 126 = some true := by kernel_rfl
theorem by126 : bytesOf Tryz.prog 126 = some 24 := by kernel_rfl
theorem ze126 : zeroOf Tryz.prog 126 = some (.agg [(.str []), (.int .i64 0)]) := by kernel_rfl
theorem fa126_0 (b o : Nat) : nfieldAddr Tryz.prog 126 (.ptr (some (b, o))) 0 = some (.ptr (some (b, o))) := by kernel_rfl
theorem fi126_0 (cs : List NVal) : nfield Tryz.prog 126 (.agg cs) 0 = cs[0]? := by kernel_rfl
theorem fa126_1 (b o : Nat) : nfieldAddr Tryz.prog 126 (.ptr (some (b, o))) 1 = some (.ptr (some (b, o + 1))) := by kernel_rfl
theorem fi126_1 (cs : List NVal) : nfield Tryz.prog 126 (.agg cs) 1 = cs[1]? := by kernel_rfl
theorem sz139 : szOf Tryz.prog 139 = some 1 := by kernel_rfl
theorem ag139 : aggT Tryz.prog 139 = some false := by kernel_rfl
theorem by139 : bytesOf Tryz.prog 139 = some 8 := by kernel_rfl
theorem ze139 : zeroOf Tryz.prog 139 = some (.ptr none) := by kernel_rfl
theorem sz141 : szOf Tryz.prog 141 = some 1 := by kernel_rfl
theorem ag141 : aggT Tryz.prog 141 = some false := by kernel_rfl
theorem by141 : bytesOf Tryz.prog 141 = some 24 := by kernel_rfl
theorem ze141 : zeroOf Tryz.prog 141 = some (.slice none 0 0 none) := by kernel_rfl
theorem sz143 : szOf Tryz.prog 143 = some 2 := by kernel_rfl
theorem ag143 : aggT Tryz.prog 143 = some true := by kernel_rfl
theorem by143 : bytesOf Tryz.prog 143 = some 32 := by kernel_rfl
theorem ze143 : zeroOf Tryz.prog 143 = some (.agg [(.int .i64 0), (.slice none 0 0 none)]) := by kernel_rfl
theorem fa143_0 (b o : Nat) : nfieldAddr Tryz.prog 143 (.ptr (some (b, o))) 0 = some (.ptr (some (b, o))) := by kernel_rfl
theorem fi143_0 (cs : List NVal) : nfield Tryz.prog 143 (.agg cs) 0 = cs[0]? := by kernel_rfl
theorem fa143_1 (b o : Nat) : nfieldAddr Tryz.prog 143 (.ptr (some (b, o))) 1 = some (.ptr (some (b, o + 1))) := by kernel_rfl
theorem fi143_1 (cs : List NVal) : nfield Tryz.prog 143 (.agg cs) 1 = cs[1]? := by kernel_rfl
theorem sz144 : szOf Tryz.prog 144 = some 1 := by kernel_rfl
theorem ag144 : aggT Tryz.prog 144 = some false := by kernel_rfl
theorem by144 : bytesOf Tryz.prog 144 = some 24 := by kernel_rfl
theorem ze144 : zeroOf Tryz.prog 144 = some (.slice none 0 0 none) := by kernel_rfl
theorem sz146 : szOf Tryz.prog 146 = some 3 := by kernel_rfl
theorem ag146 : aggT Tryz.prog 146 = some true := by kernel_rfl
theorem by146 : bytesOf Tryz.prog 146 = some 40 := by kernel_rfl
theorem ze146 : zeroOf Tryz.prog 146 = some (.agg [(.int .i64 0), (.int .i64 0), (.slice none 0 0 none)]) := by kernel_rfl
theorem fa146_0 (b o : Nat) : nfieldAddr Tryz.prog 146 (.ptr (some (b, o))) 0 = some (.ptr (some (b, o))) := by kernel_rfl
theorem fi146_0 (cs : List NVal) : nfield Tryz.prog 146 (.agg cs) 0 = cs[0]? := by kernel_rfl
theorem fa146_1 (b o : Nat) : nfieldAddr Tryz.prog 146 (.ptr (some (b, o))) 1 = some (.ptr (some (b, o + 1))) := by kernel_rfl
theorem fi146_1 (cs : List NVal) : nfield Tryz.prog 146 (.agg cs) 1 = cs[1]? := by kernel_rfl
theorem fa146_2 (b o : Nat) : nfieldAddr Tryz.prog 146 (.ptr (some (b, o))) 2 = some (.ptr (some (b, o + 2))) := by kernel_rfl
theorem fi146_2 (cs : List NVal) : nfield Tryz.prog 146 (.agg cs) 2 = cs[2]? := by kernel_rfl
theorem sz148 : szOf Tryz.prog 148 = some 2 := by kernel_rfl
theorem ag148 : aggT Tryz.prog 148 = some true := by kernel_rfl
theorem by148 : bytesOf Tryz.prog 148 = some 16 := by kernel_rfl
theorem ze148 : zeroOf Tryz.prog 148 = some (.agg [(.int .i64 0), (.int .i64 0)]) := by kernel_rfl
theorem fa148_0 (b o : Nat) : nfieldAddr Tryz.prog 148 (.ptr (some (b, o))) 0 = some (.ptr (some (b, o))) := by kernel_rfl
theorem fi148_0 (cs : List NVal) : nfield Tryz.prog 148 (.agg cs) 0 = cs[0]? := by kernel_rfl
theorem fa148_1 (b o : Nat) : nfieldAddr Tryz.prog 148 (.ptr (some (b, o))) 1 = some (.ptr (some (b, o + 1))) := by kernel_rfl
theorem fi148_1 (cs : List NVal) : nfield Tryz.prog 148 (.agg cs) 1 = cs[1]? := by kernel_rfl
theorem sz152 : szOf Tryz.prog 152 = some 1 := by kernel_rfl
theorem ag152 : aggT Tryz.prog 152 = some false := by kernel_rfl
theorem by152 : bytesOf Tryz.prog 152 = some 8 := by kernel_rfl
theorem ze152 : zeroOf Tryz.prog 152 = some (.ptr none) := by kernel_rfl
theorem sz153 : szOf Tryz.prog 153 = some 1 := by kernel_rfl
theorem ag153 : aggT Tryz.prog 153 = some false := by kernel_rfl
theorem by153 : bytesOf Tryz.prog 153 = some 24 := by kernel_rfl
theorem ze153 : zeroOf Tryz.prog 153 = some (.slice none 0 0 none) := by kernel_rfl
theorem sz154 : szOf Tryz.prog 154 = some 5 := by kernel_rfl
theorem ag154 : aggT Tryz.prog 154 = some true := by kernel_rfl
theorem by154 : bytesOf Tryz.prog 154 = some 40 := by kernel_rfl
theorem ze154 : zeroOf Tryz.prog 154 = some (.agg [(.ptr none), (.ptr none), (.ptr none), (.ptr none), (.ptr none)]) := by kernel_rfl
theorem sz156 : szOf Tryz.prog 156 = some 6 := by kernel_rfl
theorem ag156 : aggT Tryz.prog 156 = some true := by kernel_rfl
theorem by156 : bytesOf Tryz.prog 156 = some 64 := by kernel_rfl
theorem ze156 : zeroOf Tryz.prog 156 = some (.agg [(.slice none 0 0 none), (.ptr none), (.ptr none), (.ptr none), (.ptr none), (.ptr none)]) := by kernel_rfl
theorem fa156_0 (b o : Nat) : nfieldAddr Tryz.prog 156 (.ptr (some (b, o))) 0 = some (.ptr (some (b, o))) := by kernel_rfl
theorem fi156_0 (cs : List NVal) : nfield Tryz.prog 156 (.agg cs) 0 = cs[0]? := by kernel_rfl
theorem fa156_1 (b o : Nat) : nfieldAddr Tryz.prog 156 (.ptr (some (b, o))) 1 = some (.ptr (some (b, o + 1))) := by kernel_rfl
theorem fi156_1 (cs : List NVal) : nfield Tryz.prog 156 (.agg cs) 1 = some (.agg ((cs.drop 1).take 5)) := by kernel_rfl
theorem sz158 : szOf Tryz.prog 158 = some 7 := by kernel_rfl
theorem ag158 : aggT Tryz.prog 158 = some true := by kernel_rfl
theorem by158 : bytesOf Tryz.prog 158 = some 96 := by kernel_rfl
theorem ze158 : zeroOf Tryz.prog 158 = some (.agg [(.int .i64 0), (.int .i64 0), (.int .u64 0), (.str []), (.slice none 0 0 none), (.slice none 0 0 none), (.int .u8 0)]) := by kernel_rfl
theorem fa158_0 (b o : Nat) : nfieldAddr Tryz.prog 158 (.ptr (some (b, o))) 0 = some (.ptr (some (b, o))) := by kernel_rfl
theorem fi158_0 (cs : List NVal) : nfield Tryz.prog 158 (.agg cs) 0 = cs[0]? := by kernel_rfl
theorem fa158_1 (b o : Nat) : nfieldAddr Tryz.prog 158 (.ptr (some (b, o))) 1 = some (.ptr (some (b, o + 1))) := by kernel_rfl
theorem fi158_1 (cs : List NVal) : nfield Tryz.prog 158 (.agg cs) 1 = some (.agg ((cs.drop 1).take 5)) := by kernel_rfl
theorem fa158_2 (b o : Nat) : nfieldAddr Tryz.prog 158 (.ptr (some (b, o))) 2 = some (.ptr (some (b, o + 6))) := by kernel_rfl
theorem fi158_2 (cs : List NVal) : nfield Tryz.prog 158 (.agg cs) 2 = cs[6]? := by kernel_rfl
theorem sz159 : szOf Tryz.prog 159 = some 1 := by kernel_rfl
theorem ag159 : aggT Tryz.prog 159 = some false := by kernel_rfl
theorem by159 : bytesOf Tryz.prog 159 = some 24 := by kernel_rfl
theorem ze159 : zeroOf Tryz.prog 159 = some (.slice none 0 0 none) := by kernel_rfl
theorem sz161 : szOf Tryz.prog 161 = some 42 := by kernel_rfl
theorem ag161 : aggT Tryz.prog 161 = some true := by kernel_rfl
theorem by161 : bytesOf Tryz.prog 161 = some 520 := by kernel_rfl
theorem ze161 : zeroOf Tryz.prog 161 = some (.agg [(.int .i64 0), (.str []), (.str []), (.int .i64 0), (.int .i64 0), (.int .i64 0), (.str []), (.int .i64 0), (.int .i64 0), (.bool false), (.int .i64 0), (.int .i64 0), (.int .i64 0), (.int .u64 0), (.str []), (.slice none 0 0 none), (.slice none 0 0 none), (.int .u8 0), (.int .i64 0), (.int .i64 0), (.int .u64 0), (.str []), (.slice none 0 0 none), (.slice none 0 0 none), (.int .u8 0), (.int .i64 0), (.int .i64 0), (.int .u64 0), (.str []), (.slice none 0 0 none), (.slice none 0 0 none), (.int .u8 0), (.int .i64 0), (.slice none 0 0 none), (.slice none 0 0 none), (.bool false), (.bool false), (.int .i64 0), (.bool false), (.int .i64 0), (.slice none 0 0 none), (.bool false)]) := by kernel_rfl
theorem fa161_0 (b o : Nat) : nfieldAddr Tryz.prog 161 (.ptr (some (b, o))) 0 = some (.ptr (some (b, o))) := by kernel_rfl
theorem fi161_0 (cs : List NVal) : nfield Tryz.prog 161 (.agg cs) 0 = some (.agg ((cs.drop 0).take 4)) := by kernel_rfl
theorem fa161_1 (b o : Nat) : nfieldAddr Tryz.prog 161 (.ptr (some (b, o))) 1 = some (.ptr (some (b, o + 4))) := by kernel_rfl
theorem fi161_1 (cs : List NVal) : nfield Tryz.prog 161 (.agg cs) 1 = cs[4]? := by kernel_rfl
theorem fa161_2 (b o : Nat) : nfieldAddr Tryz.prog 161 (.ptr (some (b, o))) 2 = some (.ptr (some (b, o + 5))) := by kernel_rfl
theorem fi161_2 (cs : List NVal) : nfield Tryz.prog 161 (.agg cs) 2 = cs[5]? := by kernel_rfl
theorem fa161_3 (b o : Nat) : nfieldAddr Tryz.prog 161 (.ptr (some (b, o))) 3 = some (.ptr (some (b, o + 6))) := by kernel_rfl
theorem fi161_3 (cs : List NVal) : nfield Tryz.prog 161 (.agg cs) 3 = cs[6]? := by kernel_rfl
theorem fa161_4 (b o : Nat) : nfieldAddr Tryz.prog 161 (.ptr (some (b, o))) 4 = some (.ptr (some (b, o + 7))) := by kernel_rfl
theorem fi161_4 (cs : List NVal) : nfield Tryz.prog 161 (.agg cs) 4 = cs[7]? := by kernel_rfl
theorem fa161_5 (b o : Nat) : nfieldAddr Tryz.prog 161 (.ptr (some (b, o))) 5 = some (.ptr (some (b, o + 8))) := by kernel_rfl
theorem fi161_5 (cs : List NVal) : nfield Tryz.prog 161 (.agg cs) 5 = cs[8]? := by kernel_rfl
theorem fa161_6 (b o : Nat) : nfieldAddr Tryz.prog 161 (.ptr (some (b, o))) 6 = some (.ptr (some (b, o + 9))) := by kernel_rfl
theorem fi161_6 (cs : List NVal) : nfield Tryz.prog 161 (.agg cs) 6 = cs[9]? := by kernel_rfl
theorem fa161_7 (b o : Nat) : nfieldAddr Tryz.prog 161 (.ptr (some (b, o))) 7 = some (.ptr (some (b, o + 10))) := by kernel_rfl
theorem fi161_7 (cs : List NVal) : nfield Tryz.prog 161 (.agg cs) 7 = cs[10]? := by kernel_rfl
theorem fa161_8 (b o : Nat) : nfieldAddr Tryz.prog 161 (.ptr (some (b, o))) 8 = some (.ptr (some (b, o + 11))) := by kernel_rfl
theorem fi161_8 (cs : List NVal) : nfield Tryz.prog 161 (.agg cs) 8 = some (.agg ((cs.drop 11).take 7)) := by kernel_rfl
theorem fa161_9 (b o : Nat) : nfieldAddr Tryz.prog 161 (.ptr (some (b, o))) 9 = some (.ptr (some (b, o + 18))) := by kernel_rfl
theorem fi161_9 (cs : List NVal) : nfield Tryz.prog 161 (.agg cs) 9 = some (.agg ((cs.drop 18).take 7)) := by kernel_rfl
theorem fa161_10 (b o : Nat) : nfieldAddr Tryz.prog 161 (.ptr (some (b, o))) 10 = some (.ptr (some (b, o + 25))) := by kernel_rfl
theorem fi161_10 (cs : List NVal) : nfield Tryz.prog 161 (.agg cs) 10 = some (.agg ((cs.drop 25).take 7)) := by kernel_rfl
theorem fa161_11 (b o : Nat) : nfieldAddr Tryz.prog 161 (.ptr (some (b, o))) 11 = some (.ptr (some (b, o + 32))) := by kernel_rfl
theorem fi161_11 (cs : List NVal) : nfield Tryz.prog 161 (.agg cs) 11 = cs[32]? := by kernel_rfl
theorem fa161_12 (b o : Nat) : nfieldAddr Tryz.prog 161 (.ptr (some (b, o))) 12 = some (.ptr (some (b, o + 33))) := by kernel_rfl
theorem fi161_12 (cs : List NVal) : nfield Tryz.prog 161 (.agg cs) 12 = cs[33]? := by kernel_rfl
theorem fa161_13 (b o : Nat) : nfieldAddr Tryz.prog 161 (.ptr (some (b, o))) 13 = some (.ptr (some (b, o + 34))) := by kernel_rfl
theorem fi161_13 (cs : List NVal) : nfield Tryz.prog 161 (.agg cs) 13 = cs[34]? := by kernel_rfl
theorem fa161_14 (b o : Nat) : nfieldAddr Tryz.prog 161 (.ptr (some (b, o))) 14 = some (.ptr (some (b, o + 35))) := by kernel_rfl
theorem fi161_14 (cs : List NVal) : nfield Tryz.prog 161 (.agg cs) 14 = cs[35]? := by kernel_rfl
theorem fa161_15 (b o : Nat) : nfieldAddr Tryz.prog 161 (.ptr (some (b, o))) 15 = some (.ptr (some (b, o + 36))) := by kernel_rfl
theorem fi161_15 (cs : List NVal) : nfield Tryz.prog 161 (.agg cs) 15 = cs[36]? := by kernel_rfl
theorem fa161_16 (b o : Nat) : nfieldAddr Tryz.prog 161 (.ptr (some (b, o))) 16 = some (.ptr (some (b, o + 37))) := by kernel_rfl
theorem fi161_16 (cs : List NVal) : nfield Tryz.prog 161 (.agg cs) 16 = some (.agg ((cs.drop 37).take 4)) := by kernel_rfl
theorem fa161_17 (b o : Nat) : nfieldAddr Tryz.prog 161 (.ptr (some (b, o))) 17 = some (.ptr (some (b, o + 41))) := by kernel_rfl
theorem fi161_17 (cs : List NVal) : nfield Tryz.prog 161 (.agg cs) 17 = cs[41]? := by kernel_rfl
theorem sz164 : szOf Tryz.prog 164 = some 1 := by kernel_rfl
theorem ag164 : aggT Tryz.prog 164 = some false := by kernel_rfl
theorem by164 : bytesOf Tryz.prog 164 = some 8 := by kernel_rfl
theorem ze164 : zeroOf Tryz.prog 164 = some .nilFunc := by kernel_rfl
theorem sz165 : szOf Tryz.prog 165 = some 1 := by kernel_rfl
theorem ag165 : aggT Tryz.prog 165 = some false := by kernel_rfl
theorem by165 : bytesOf Tryz.prog 165 = some 8 := by kernel_rfl
theorem ze165 : zeroOf Tryz.prog 165 = some .nilFunc := by kernel_rfl
theorem sz167 : szOf Tryz.prog 167 = some 7 := by kernel_rfl
theorem ag167 : aggT Tryz.prog 167 = some true := by kernel_rfl
theorem by167 : bytesOf Tryz.prog 167 = some 96 := by kernel_rfl
theorem ze167 : zeroOf Tryz.prog 167 = some (.agg [(.int .i64 0), (.int .i64 0), (.int .u64 0), (.str []), (.slice none 0 0 none), (.slice none 0 0 none), (.int .u8 0)]) := by kernel_rfl
theorem fa167_0 (b o : Nat) : nfieldAddr Tryz.prog 167 (.ptr (some (b, o))) 0 = some (.ptr (some (b, o))) := by kernel_rfl
theorem fi167_0 (cs : List NVal) : nfield Tryz.prog 167 (.agg cs) 0 = cs[0]? := by kernel_rfl
theorem fa167_1 (b o : Nat) : nfieldAddr Tryz.prog 167 (.ptr (some (b, o))) 1 = some (.ptr (some (b, o + 1))) := by kernel_rfl
theorem fi167_1 (cs : List NVal) : nfield Tryz.prog 167 (.agg cs) 1 = some (.agg ((cs.drop 1).take 5)) := by kernel_rfl
theorem fa167_2 (b o : Nat) : nfieldAddr Tryz.prog 167 (.ptr (some (b, o))) 2 = some (.ptr (some (b, o + 6))) := by kernel_rfl
theorem fi167_2 (cs : List NVal) : nfield Tryz.prog 167 (.agg cs) 2 = cs[6]? := by kernel_rfl
theorem sz169 : szOf Tryz.prog 169 = some 45 := by kernel_rfl
theorem ag169 : aggT Tryz.prog 169 = some true := by kernel_rfl
theorem by169 : bytesOf Tryz.prog 169 = some 568 := by kernel_rfl
theorem ze169 : zeroOf Tryz.prog 169 = some (.agg [(.str []), (.str []), (.int .i64 0), (.int .i64 0), (.int .i64 0), (.bool false), (.int .i64 0), (.int .i64 0), (.int .i64 0), (.int .i64 0), (.int .u64 0), (.slice none 0 0 none), .nilFunc, .nilFunc, (.int .i64 0), (.int .i64 0), (.int .u64 0), (.str []), (.slice none 0 0 none), (.slice none 0 0 none), (.int .u8 0), (.int .i64 0), (.int .i64 0), (.int .u64 0), (.str []), (.slice none 0 0 none), (.slice none 0 0 none), (.int .u8 0), (.int .i64 0), (.int .i64 0), (.int .u64 0), (.str []), (.slice none 0 0 none), (.slice none 0 0 none), (.int .u8 0), (.int .i64 0), (.slice none 0 0 none), (.slice none 0 0 none), (.slice none 0 0 none), (.bool false), (.bool false), (.int .i64 0), (.bool false), (.int .i64 0), (.slice none 0 0 none)]) := by kernel_rfl
theorem fa169_0 (b o : Nat) : nfieldAddr Tryz.prog 169 (.ptr (some (b, o))) 0 = some (.ptr (some (b, o))) := by kernel_rfl
theorem fi169_0 (cs : List NVal) : nfield Tryz.prog 169 (.agg cs) 0 = cs[0]? := by kernel_rfl
theorem fa169_1 (b o : Nat) : nfieldAddr Tryz.prog 169 (.ptr (some (b, o))) 1 = some (.ptr (some (b, o + 1))) := by kernel_rfl
theorem fi169_1 (cs : List NVal) : nfield Tryz.prog 169 (.agg cs) 1 = cs[1]? := by kernel_rfl
theorem fa169_2 (b o : Nat) : nfieldAddr Tryz.prog 169 (.ptr (some (b, o))) 2 = some (.ptr (some (b, o + 2))) := by kernel_rfl
theorem fi169_2 (cs : List NVal) : nfield Tryz.prog 169 (.agg cs) 2 = cs[2]? := by kernel_rfl
theorem fa169_3 (b o : Nat) : nfieldAddr Tryz.prog 169 (.ptr (some (b, o))) 3 = some (.ptr (some (b, o + 3))) := by kernel_rfl
theorem fi169_3 (cs : List NVal) : nfield Tryz.prog 169 (.agg cs) 3 = cs[3]? := by kernel_rfl
theorem fa169_4 (b o : Nat) : nfieldAddr Tryz.prog 169 (.ptr (some (b, o))) 4 = some (.ptr (some (b, o + 4))) := by kernel_rfl
theorem fi169_4 (cs : List NVal) : nfield Tryz.prog 169 (.agg cs) 4 = cs[4]? := by kernel_rfl
theorem fa169_5 (b o : Nat) : nfieldAddr Tryz.prog 169 (.ptr (some (b, o))) 5 = some (.ptr (some (b, o + 5))) := by kernel_rfl
theorem fi169_5 (cs : List NVal) : nfield Tryz.prog 169 (.agg cs) 5 = cs[5]? := by kernel_rfl
theorem fa169_6 (b o : Nat) : nfieldAddr Tryz.prog 169 (.ptr (some (b, o))) 6 = some (.ptr (some (b, o + 6))) := by kernel_rfl
theorem fi169_6 (cs : List NVal) : nfield Tryz.prog 169 (.agg cs) 6 = some (.agg ((cs.drop 6).take 6)) := by kernel_rfl
theorem fa169_7 (b o : Nat) : nfieldAddr Tryz.prog 169 (.ptr (some (b, o))) 7 = some (.ptr (some (b, o + 12))) := by kernel_rfl
theorem fi169_7 (cs : List NVal) : nfield Tryz.prog 169 (.agg cs) 7 = cs[12]? := by kernel_rfl
theorem fa169_8 (b o : Nat) : nfieldAddr Tryz.prog 169 (.ptr (some (b, o))) 8 = some (.ptr (some (b, o + 13))) := by kernel_rfl
theorem fi169_8 (cs : List NVal) : nfield Tryz.prog 169 (.agg cs) 8 = cs[13]? := by kernel_rfl
theorem fa169_9 (b o : Nat) : nfieldAddr Tryz.prog 169 (.ptr (some (b, o))) 9 = some (.ptr (some (b, o + 14))) := by kernel_rfl
theorem fi169_9 (cs : List NVal) : nfield Tryz.prog 169 (.agg cs) 9 = some (.agg ((cs.drop 14).take 7)) := by kernel_rfl
theorem fa169_10 (b o : Nat) : nfieldAddr Tryz.prog 169 (.ptr (some (b, o))) 10 = some (.ptr (some (b, o + 21))) := by kernel_rfl
theorem fi169_10 (cs : List NVal) : nfield Tryz.prog 169 (.agg cs) 10 = some (.agg ((cs.drop 21).take 7)) := by kernel_rfl
theorem fa169_11 (b o : Nat) : nfieldAddr Tryz.prog 169 (.ptr (some (b, o))) 11 = some (.ptr (some (b, o + 28))) := by kernel_rfl
theorem fi169_11 (cs : List NVal) : nfield Tryz.prog 169 (.agg cs) 11 = some (.agg ((cs.drop 28).take 7)) := by kernel_rfl
theorem fa169_12 (b o : Nat) : nfieldAddr Tryz.prog 169 (.ptr (some (b, o))) 12 = some (.ptr (some (b, o + 35))) := by kernel_rfl
theorem fi169_12 (cs : List NVal) : nfield Tryz.prog 169 (.agg cs) 12 = cs[35]? := by kernel_rfl
theorem fa169_13 (b o : Nat) : nfieldAddr Tryz.prog 169 (.ptr (some (b, o))) 13 = some (.ptr (some (b, o + 36))) := by kernel_rfl
theorem fi169_13 (cs : List NVal) : nfield Tryz.prog 169 (.agg cs) 13 = cs[36]? := by kernel_rfl
theorem fa169_14 (b o : Nat) : nfieldAddr Tryz.prog 169 (.ptr (some (b, o))) 14 = some (.ptr (some (b, o + 37))) := by kernel_rfl
theorem fi169_14 (cs : List NVal) : nfield Tryz.prog 169 (.agg cs) 14 = cs[37]? := by kernel_rfl
theorem fa169_15 (b o : Nat) : nfieldAddr Tryz.prog 169 (.ptr (some (b, o))) 15 = some (.ptr (some (b, o + 38))) := by kernel_rfl
theorem fi169_15 (cs : List NVal) : nfield Tryz.prog 169 (.agg cs) 15 = cs[38]? := by kernel_rfl
theorem fa169_16 (b o : Nat) : nfieldAddr Tryz.prog 169 (.ptr (some (b, o))) 16 = some (.ptr (some (b, o + 39))) := by kernel_rfl
theorem fi169_16 (cs : List NVal) : nfield Tryz.prog 169 (.agg cs) 16 = cs[39]? := by kernel_rfl
theorem fa169_17 (b o : Nat) : nfieldAddr Tryz.prog 169 (.ptr (some (b, o))) 17 = some (.ptr (some (b, o + 40))) := by kernel_rfl
theorem fi169_17 (cs : List NVal) : nfield Tryz.prog 169 (.agg cs) 17 = cs[40]? := by kernel_rfl
theorem fa169_18 (b o : Nat) : nfieldAddr Tryz.prog 169 (.ptr (some (b, o))) 18 = some (.ptr (some (b, o + 41))) := by kernel_rfl
theorem fi169_18 (cs : List NVal) : nfield Tryz.prog 169 (.agg cs) 18 = some (.agg ((cs.drop 41).take 4)) := by kernel_rfl
theorem sz175 : szOf Tryz.prog 175 = some 4 := by kernel_rfl
theorem ag175 : aggT Tryz.prog 175 = some true := by kernel_rfl
theorem by175 : bytesOf Tryz.prog 175 = some 48 := by kernel_rfl
theorem ze175 : zeroOf Tryz.prog 175 = some (.agg [(.int .i64 0), (.int .i64 0), (.bool false), (.slice none 0 0 none)]) := by kernel_rfl
theorem fa175_0 (b o : Nat) : nfieldAddr Tryz.prog 175 (.ptr (some (b, o))) 0 = some (.ptr (some (b, o))) := by kernel_rfl
theorem fi175_0 (cs : List NVal) : nfield Tryz.prog 175 (.agg cs) 0 = cs[0]? := by kernel_rfl
theorem fa175_1 (b o : Nat) : nfieldAddr Tryz.prog 175 (.ptr (some (b, o))) 1 = some (.ptr (some (b, o + 1))) := by kernel_rfl
theorem fi175_1 (cs : List NVal) : nfield Tryz.prog 175 (.agg cs) 1 = cs[1]? := by kernel_rfl
theorem fa175_2 (b o : Nat) : nfieldAddr Tryz.prog 175 (.ptr (some (b, o))) 2 = some (.ptr (some (b, o + 2))) := by kernel_rfl
theorem fi175_2 (cs : List NVal) : nfield Tryz.prog 175 (.agg cs) 2 = cs[2]? := by kernel_rfl
theorem fa175_3 (b o : Nat) : nfieldAddr Tryz.prog 175 (.ptr (some (b, o))) 3 = some (.ptr (some (b, o + 3))) := by kernel_rfl
theorem fi175_3 (cs : List NVal) : nfield Tryz.prog 175 (.agg cs) 3 = cs[3]? := by kernel_rfl
theorem sz177 : szOf Tryz.prog 177 = some 1 := by kernel_rfl
theorem ag177 : aggT Tryz.prog 177 = some false := by kernel_rfl
theorem by177 : bytesOf Tryz.prog 177 = some 8 := by kernel_rfl
theorem ze177 : zeroOf Tryz.prog 177 = some (.ptr none) := by kernel_rfl
theorem sz181 : szOf Tryz.prog 181 = some 1 := by kernel_rfl
theorem ag181 : aggT Tryz.prog 181 = some false := by kernel_rfl
theorem by181 : bytesOf Tryz.prog 181 = some 8 := by kernel_rfl
theorem ze181 : zeroOf Tryz.prog 181 = some (.int .u64 0) := by kernel_rfl
theorem sz184 : szOf Tryz.prog 184 = some 1 := by kernel_rfl
theorem ag184 : aggT Tryz.prog 184 = some false := by kernel_rfl
theorem by184 : bytesOf Tryz.prog 184 = some 24 := by kernel_rfl
theorem ze184 : zeroOf Tryz.prog 184 = some (.slice none 0 0 none) := by kernel_rfl
theorem sz186 : szOf Tryz.prog 186 = some 2 := by kernel_rfl
theorem ag186 : aggT Tryz.prog 186 = some true := by kernel_rfl
theorem by186 : bytesOf Tryz.prog 186 = some 32 := by kernel_rfl
theorem ze186 : zeroOf Tryz.prog 186 = some (.agg [(.int .i64 0), (.slice none 0 0 none)]) := by kernel_rfl
theorem fa186_0 (b o : Nat) : nfieldAddr Tryz.prog 186 (.ptr (some (b, o))) 0 = some (.ptr (some (b, o))) := by kernel_rfl
theorem fi186_0 (cs : List NVal) : nfield Tryz.prog 186 (.agg cs) 0 = cs[0]? := by kernel_rfl
theorem fa186_1 (b o : Nat) : nfieldAddr Tryz.prog 186 (.ptr (some (b, o))) 1 = some (.ptr (some (b, o + 1))) := by kernel_rfl
theorem fi186_1 (cs : List NVal) : nfield Tryz.prog 186 (.agg cs) 1 = cs[1]? := by kernel_rfl
theorem sz187 : szOf Tryz.prog 187 = some 10 := by kernel_rfl
theorem ag187 : aggT Tryz.prog 187 = some true := by kernel_rfl
theorem by187 : bytesOf Tryz.prog 187 = some 160 := by kernel_rfl
theorem ze187 : zeroOf Tryz.prog 187 = some (.agg [(.int .i64 0), (.slice none 0 0 none), (.int .i64 0), (.slice none 0 0 none), (.int .i64 0), (.slice none 0 0 none), (.int .i64 0), (.slice none 0 0 none), (.int .i64 0), (.slice none 0 0 none)]) := by kernel_rfl
theorem sz189 : szOf Tryz.prog 189 = some 11 := by kernel_rfl
theorem ag189 : aggT Tryz.prog 189 = some true := by kernel_rfl
theorem by189 : bytesOf Tryz.prog 189 = some 184 := by kernel_rfl
theorem ze189 : zeroOf Tryz.prog 189 = some (.agg [(.slice none 0 0 none), (.int .i64 0), (.slice none 0 0 none), (.int .i64 0), (.slice none 0 0 none), (.int .i64 0), (.slice none 0 0 none), (.int .i64 0), (.slice none 0 0 none), (.int .i64 0), (.slice none 0 0 none)]) := by kernel_rfl
theorem fa189_0 (b o : Nat) : nfieldAddr Tryz.prog 189 (.ptr (some (b, o))) 0 = some (.ptr (some (b, o))) := by kernel_rfl
theorem fi189_0 (cs : List NVal) : nfield Tryz.prog 189 (.agg cs) 0 = cs[0]? := by kernel_rfl
theorem fa189_1 (b o : Nat) : nfieldAddr Tryz.prog 189 (.ptr (some (b, o))) 1 = some (.ptr (some (b, o + 1))) := by kernel_rfl
theorem fi189_1 (cs : List NVal) : nfield Tryz.prog 189 (.agg cs) 1 = some (.agg ((cs.drop 1).take 10)) := by kernel_rfl
theorem sz191 : szOf Tryz.prog 191 = some 4 := by kernel_rfl
theorem ag191 : aggT Tryz.prog 191 = some true := by kernel_rfl
theorem by191 : bytesOf Tryz.prog 191 = some 48 := by kernel_rfl
theorem ze191 : zeroOf Tryz.prog 191 = some (.agg [(.int .i64 0), (.int .i64 0), (.bool false), (.slice none 0 0 none)]) := by kernel_rfl
theorem fa191_0 (b o : Nat) : nfieldAddr Tryz.prog 191 (.ptr (some (b, o))) 0 = some (.ptr (some (b, o))) := by kernel_rfl
theorem fi191_0 (cs : List NVal) : nfield Tryz.prog 191 (.agg cs) 0 = cs[0]? := by kernel_rfl
theorem fa191_1 (b o : Nat) : nfieldAddr Tryz.prog 191 (.ptr (some (b, o))) 1 = some (.ptr (some (b, o + 1))) := by kernel_rfl
theorem fi191_1 (cs : List NVal) : nfield Tryz.prog 191 (.agg cs) 1 = cs[1]? := by kernel_rfl
theorem fa191_2 (b o : Nat) : nfieldAddr Tryz.prog 191 (.ptr (some (b, o))) 2 = some (.ptr (some (b, o + 2))) := by kernel_rfl
theorem fi191_2 (cs : List NVal) : nfield Tryz.prog 191 (.agg cs) 2 = cs[2]? := by kernel_rfl
theorem fa191_3 (b o : Nat) : nfieldAddr Tryz.prog 191 (.ptr (some (b, o))) 3 = some (.ptr (some (b, o + 3))) := by kernel_rfl
theorem fi191_3 (cs : List NVal) : nfield Tryz.prog 191 (.agg cs) 3 = cs[3]? := by kernel_rfl
theorem sz192 : szOf Tryz.prog 192 = some 1 := by kernel_rfl
theorem ag192 : aggT Tryz.prog 192 = some false := by kernel_rfl
theorem by192 : bytesOf Tryz.prog 192 = some 24 := by kernel_rfl
theorem ze192 : zeroOf Tryz.prog 192 = some (.slice none 0 0 none) := by kernel_rfl
theorem sz194 : szOf Tryz.prog 194 = some 4 := by kernel_rfl
theorem ag194 : aggT Tryz.prog 194 = some true := by kernel_rfl
theorem by194 : bytesOf Tryz.prog 194 = some 64 := by kernel_rfl
theorem ze194 : zeroOf Tryz.prog 194 = some (.agg [(.int .i64 0), (.int .i64 0), (.slice none 0 0 none), (.slice none 0 0 none)]) := by kernel_rfl
theorem fa194_0 (b o : Nat) : nfieldAddr Tryz.prog 194 (.ptr (some (b, o))) 0 = some (.ptr (some (b, o))) := by kernel_rfl
theorem fi194_0 (cs : List NVal) : nfield Tryz.prog 194 (.agg cs) 0 = cs[0]? := by kernel_rfl
theorem fa194_1 (b o : Nat) : nfieldAddr Tryz.prog 194 (.ptr (some (b, o))) 1 = some (.ptr (some (b, o + 1))) := by kernel_rfl
theorem fi194_1 (cs : List NVal) : nfield Tryz.prog 194 (.agg cs) 1 = cs[1]? := by kernel_rfl
theorem fa194_2 (b o : Nat) : nfieldAddr Tryz.prog 194 (.ptr (some (b, o))) 2 = some (.ptr (some (b, o + 2))) := by kernel_rfl
theorem fi194_2 (cs : List NVal) : nfield Tryz.prog 194 (.agg cs) 2 = cs[2]? := by kernel_rfl
theorem fa194_3 (b o : Nat) : nfieldAddr Tryz.prog 194 (.ptr (some (b, o))) 3 = some (.ptr (some (b, o + 3))) := by kernel_rfl
theorem fi194_3 (cs : List NVal) : nfield Tryz.prog 194 (.agg cs) 3 = cs[3]? := by kernel_rfl
theorem sz205 : szOf Tryz.prog 205 = some 1 := by kernel_rfl
theorem ag205 : aggT Tryz.prog 205 = some false := by kernel_rfl
theorem by205 : bytesOf Tryz.prog 205 = some 24 := by kernel_rfl
theorem ze205 : zeroOf Tryz.prog 205 = some (.slice none 0 0 none) := by kernel_rfl
theorem sz206 : szOf Tryz.prog 206 = some 1 := by kernel_rfl
theorem ag206 : aggT Tryz.prog 206 = some false := by kernel_rfl
theorem by206 : bytesOf Tryz.prog 206 = some 8 := by kernel_rfl
theorem ze206 : zeroOf Tryz.prog 206 = some (.map none) := by kernel_rfl
theorem sz208 : szOf Tryz.prog 208 = some 3 := by kernel_rfl
theorem ag208 : aggT Tryz.prog 208 = some true := by kernel_rfl
theorem by208 : bytesOf Tryz.prog 208 = some 40 := by kernel_rfl
theorem ze208 : zeroOf Tryz.prog 208 = some (.agg [(.int .i64 0), (.slice none 0 0 none), (.map none)]) := by kernel_rfl
theorem fa208_0 (b o : Nat) : nfieldAddr Tryz.prog 208 (.ptr (some (b, o))) 0 = some (.ptr (some (b, o))) := by kernel_rfl
theorem fi208_0 (cs : List NVal) : nfield Tryz.prog 208 (.agg cs) 0 = cs[0]? := by kernel_rfl
theorem fa208_1 (b o : Nat) : nfieldAddr Tryz.prog 208 (.ptr (some (b, o))) 1 = some (.ptr (some (b, o + 1))) := by kernel_rfl
theorem fi208_1 (cs : List NVal) : nfield Tryz.prog 208 (.agg cs) 1 = cs[1]? := by kernel_rfl
theorem fa208_2 (b o : Nat) : nfieldAddr Tryz.prog 208 (.ptr (some (b, o))) 2 = some (.ptr (some (b, o + 2))) := by kernel_rfl
theorem fi208_2 (cs : List NVal) : nfield Tryz.prog 208 (.agg cs) 2 = cs[2]? := by kernel_rfl
theorem sz210 : szOf Tryz.prog 210 = some 3 := by kernel_rfl
theorem ag210 : aggT Tryz.prog 210 = some true := by kernel_rfl
theorem by210 : bytesOf Tryz.prog 210 = some 40 := by kernel_rfl
theorem ze210 : zeroOf Tryz.prog 210 = some (.agg [(.int .i64 0), (.slice none 0 0 none), (.int .i64 0)]) := by kernel_rfl
theorem fa210_0 (b o : Nat) : nfieldAddr Tryz.prog 210 (.ptr (some (b, o))) 0 = some (.ptr (some (b, o))) := by kernel_rfl
theorem fi210_0 (cs : List NVal) : nfield Tryz.prog 210 (.agg cs) 0 = cs[0]? := by kernel_rfl
theorem fa210_1 (b o : Nat) : nfieldAddr Tryz.prog 210 (.ptr (some (b, o))) 1 = some (.ptr (some (b, o + 1))) := by kernel_rfl
theorem fi210_1 (cs : List NVal) : nfield Tryz.prog 210 (.agg cs) 1 = cs[1]? := by kernel_rfl
theorem fa210_2 (b o : Nat) : nfieldAddr Tryz.prog 210 (.ptr (some (b, o))) 2 = some (.ptr (some (b, o + 2))) := by kernel_rfl
theorem fi210_2 (cs : List NVal) : nfield Tryz.prog 210 (.agg cs) 2 = cs[2]? := by kernel_rfl
theorem sz212 : szOf Tryz.prog 212 = some 1 := by kernel_rfl
theorem ag212 : aggT Tryz.prog 212 = some false := by kernel_rfl
theorem by212 : bytesOf Tryz.prog 212 = some 8 := by kernel_rfl
theorem ze212 : zeroOf Tryz.prog 212 = some .nilFunc := by kernel_rfl
theorem sz218 : szOf Tryz.prog 218 = some 0 := by kernel_rfl
theorem ag218 : aggT Tryz.prog 218 = some true := by kernel_rfl
theorem by218 : bytesOf Tryz.prog 218 = some 0 := by kernel_rfl
theorem ze218 : zeroOf Tryz.prog 218 = some (.agg []) := by kernel_rfl
theorem sz220 : szOf Tryz.prog 220 = some 1 := by kernel_rfl
theorem ag220 : aggT Tryz.prog 220 = some false := by kernel_rfl
theorem by220 : bytesOf Tryz.prog 220 = some 8 := by kernel_rfl
theorem ze220 : zeroOf Tryz.prog 220 = some (.ptr none) := by kernel_rfl
theorem sz237 : szOf Tryz.prog 237 = some 1 := by kernel_rfl
theorem ag237 : aggT Tryz.prog 237 = some false := by kernel_rfl
theorem by237 : bytesOf Tryz.prog 237 = some 16 := by kernel_rfl
theorem ze237 : zeroOf Tryz.prog 237 = some .nilIface := by kernel_rfl
theorem sz248 : szOf Tryz.prog 248 = some 1 := by kernel_rfl
theorem ag248 : aggT Tryz.prog 248 = some false := by kernel_rfl
theorem by248 : bytesOf Tryz.prog 248 = some 24 := by kernel_rfl
theorem ze248 : zeroOf Tryz.prog 248 = some (.slice none 0 0 none) := by kernel_rfl
theorem sz250 : szOf Tryz.prog 250 = some 2 := by kernel_rfl
theorem ag250 : aggT Tryz.prog 250 = some true := by kernel_rfl
theorem by250 : bytesOf Tryz.prog 250 = some 16 := by kernel_rfl
theorem ze250 : zeroOf Tryz.prog 250 = some (.agg [(.int .i64 0), (.int .i64 0)]) := by kernel_rfl
theorem fa250_0 (b o : Nat) : nfieldAddr Tryz.prog 250 (.ptr (some (b, o))) 0 = some (.ptr (some (b, o))) := by kernel_rfl
theorem fi250_0 (cs : List NVal) : nfield Tryz.prog 250 (.agg cs) 0 = cs[0]? := by kernel_rfl
theorem fa250_1 (b o : Nat) : nfieldAddr Tryz.prog 250 (.ptr (some (b, o))) 1 = some (.ptr (some (b, o + 1))) := by kernel_rfl
theorem fi250_1 (cs : List NVal) : nfield Tryz.prog 250 (.agg cs) 1 = cs[1]? := by kernel_rfl
theorem sz255 : szOf Tryz.prog 255 = some 1 := by kernel_rfl
theorem ag255 : aggT Tryz.prog 255 = some false := by kernel_rfl
theorem by255 : bytesOf Tryz.prog 255 = some 4 := by kernel_rfl
theorem ze255 : zeroOf Tryz.prog 255 = some (.int .u32 0) := by kernel_rfl
theorem sz265 : szOf Tryz.prog 265 = some 1 := by kernel_rfl
theorem ag265 : aggT Tryz.prog 265 = some false := by kernel_rfl
theorem by265 : bytesOf Tryz.prog 265 = some 8 := by kernel_rfl
theorem ze265 : zeroOf Tryz.prog 265 = some .nilFunc := by kernel_rfl
theorem sz293 : szOf Tryz.prog 293 = some 1 := by kernel_rfl
theorem ag293 : aggT Tryz.prog 293 = some false := by kernel_rfl
theorem by293 : bytesOf Tryz.prog 293 = some 24 := by kernel_rfl
theorem ze293 : zeroOf Tryz.prog 293 = some (.slice none 0 0 none) := by kernel_rfl
theorem sz295 : szOf Tryz.prog 295 = some 1 := by kernel_rfl
theorem ag295 : aggT Tryz.prog 295 = some false := by kernel_rfl
theorem by295 : bytesOf Tryz.prog 295 = some 24 := by kernel_rfl
theorem ze295 : zeroOf Tryz.prog 295 = some (.slice none 0 0 none) := by kernel_rfl
theorem be4 (a b : Bool) : nbin Tryz.prog .eql 4 (.bool a) (.bool b) = some (.bool (a == b)) := bool_eql Tryz.underlying4 a b
theorem bn4 (a b : Bool) : nbin Tryz.prog .neq 4 (.bool a) (.bool b) = some (.bool !(a == b)) := bool_neq Tryz.underlying4 a b
theorem pe22 (a) : nbin Tryz.prog .eql 22 (.ptr a) (.ptr none) = some (.bool a.isNone) := ptr_eql Tryz.underlying22 a
theorem pn22 (a) : nbin Tryz.prog .neq 22 (.ptr a) (.ptr none) = some (.bool !a.isNone) := ptr_neq Tryz.underlying22 a
theorem bu26 (l : List (Nat × NVal)) : kBuild Tryz.prog 26 (some l) = (match nfill (fun i => ([(0, 5), (5, 1), (6, 1), (7, 1)] : List (Nat × Nat))[i]?) ([(.int .i64 0), (.int .i64 0), (.int .i64 0), (.int .i64 0), (.int .i64 0), (.int .i64 0), (.int .i64 0), (.int .i64 0)]) l with | none => none | some cs => some (.agg cs)) := kBuild_struct ze26 Tryz.underlying26 (by kernel_rfl) l
theorem ia28 (b o n c : Nat) (x k) (i : Int) (h0 : 0 ≤ i) (h1 : i < (n : Int)) : nindexAddr Tryz.prog 28 (.slice (some (b, o)) n c x) (.int k i) = some (.ptr (some (b, o + i.toNat * 1))) := indexAddr_slice Tryz.underlying28 sz3 b o n c x k i h0 h1
theorem se28 (a n c x) : nbin Tryz.prog .eql 28 (.slice a n c x) (.slice none 0 0 none) = some (.bool a.isNone) := slice_eql Tryz.underlying28 a n c x
theorem sn28 (a n c x) : nbin Tryz.prog .neq 28 (.slice a n c x) (.slice none 0 0 none) = some (.bool !a.isNone) := slice_neq Tryz.underlying28 a n c x
theorem ia30 (b o n c : Nat) (x k) (i : Int) (h0 : 0 ≤ i) (h1 : i < (n : Int)) : nindexAddr Tryz.prog 30 (.slice (some (b, o)) n c x) (.int k i) = some (.ptr (some (b, o + i.toNat * 2))) := indexAddr_slice Tryz.underlying30 sz42 b o n c x k i h0 h1
theorem se30 (a n c x) : nbin Tryz.prog .eql 30 (.slice a n c x) (.slice none 0 0 none) = some (.bool a.isNone) := slice_eql Tryz.underlying30 a n c x
theorem sn30 (a n c x) : nbin Tryz.prog .neq 30 (.slice a n c x) (.slice none 0 0 none) = some (.bool !a.isNone) := slice_neq Tryz.underlying30 a n c x
theorem bu32 (l : List (Nat × NVal)) : kBuild Tryz.prog 32 (some l) = (match nfill (fun i => ([(0, 1), (1, 1), (2, 1), (3, 1)] : List (Nat × Nat))[i]?) [(.int .i64 0), (.bool false), (.int .i64 0), (.slice none 0 0 none)] l with | none => none | some cs => some (.agg cs)) := kBuild_struct ze32 Tryz.underlying32 (by kernel_rfl) l
theorem pe35 (a) : nbin Tryz.prog .eql 35 (.ptr a) (.ptr none) = some (.bool a.isNone) := ptr_eql Tryz.underlying35 a
theorem pn35 (a) : nbin Tryz.prog .neq 35 (.ptr a) (.ptr none) = some (.bool !a.isNone) := ptr_neq Tryz.underlying35 a
theorem pe36 (a) : nbin Tryz.prog .eql 36 (.ptr a) (.ptr none) = some (.bool a.isNone) := ptr_eql Tryz.underlying36 a
theorem pn36 (a) : nbin Tryz.prog .neq 36 (.ptr a) (.ptr none) = some (.bool !a.isNone) := ptr_neq Tryz.underlying36 a
theorem bu38 (l : List (Nat × NVal)) : kBuild Tryz.prog 38 (some l) = (match nfill (fun i => ([(0, 1), (1, 1), (2, 8)] : List (Nat × Nat))[i]?) ([(.ptr none), (.ptr none), (.int .i64 0), (.int .i64 0), (.int .i64 0), (.int .i64 0), (.int .i64 0), (.int .i64 0), (.int .i64 0), (.int .i64 0)]) l with | none => none | some cs => some (.agg cs)) := kBuild_struct ze38 Tryz.underlying38 (by kernel_rfl) l
theorem bu42 (l : List (Nat × NVal)) : kBuild Tryz.prog 42 (some l) = (match nfill (fun i => ([(0, 1), (1, 1)] : List (Nat × Nat))[i]?) [(.str []), (.int .i64 0)] l with | none => none | some cs => some (.agg cs)) := kBuild_struct ze42 Tryz.underlying42 (by kernel_rfl) l
theorem ia45 (b o n c : Nat) (x k) (i : Int) (h0 : 0 ≤ i) (h1 : i < (n : Int)) : nindexAddr Tryz.prog 45 (.slice (some (b, o)) n c x) (.int k i) = some (.ptr (some (b, o + i.toNat * 1))) := indexAddr_slice Tryz.underlying45 sz49 b o n c x k i h0 h1
theorem se45 (a n c x) : nbin Tryz.prog .eql 45 (.slice a n c x) (.slice none 0 0 none) = some (.bool a.isNone) := slice_eql Tryz.underlying45 a n c x
theorem sn45 (a n c x) : nbin Tryz.prog .neq 45 (.slice a n c x) (.slice none 0 0 none) = some (.bool !a.isNone) := slice_neq Tryz.underlying45 a n c x
theorem bu47 (l : List (Nat × NVal)) : kBuild Tryz.prog 47 (some l) = (match nfill (fun i => ([(0, 1), (1, 1), (2, 1), (3, 1)] : List (Nat × Nat))[i]?) [(.int .i64 0), (.int .i64 0), (.bool false), (.slice none 0 0 none)] l with | none => none | some cs => some (.agg cs)) := kBuild_struct ze47 Tryz.underlying47 (by kernel_rfl) l
theorem bu51 (l : List (Nat × NVal)) : kBuild Tryz.prog 51 (some l) = (match nfill (fun i => ([(0, 1), (1, 1), (2, 1), (3, 1), (4, 1), (5, 1)] : List (Nat × Nat))[i]?) [(.int .i64 0), (.int .i64 0), (.int .i64 0), (.int .i64 0), (.int .u64 0), (.slice none 0 0 none)] l with | none => none | some cs => some (.agg cs)) := kBuild_struct ze51 Tryz.underlying51 (by kernel_rfl) l
theorem pe52 (a) : nbin Tryz.prog .eql 52 (.ptr a) (.ptr none) = some (.bool a.isNone) := ptr_eql Tryz.underlying52 a
theorem pn52 (a) : nbin Tryz.prog .neq 52 (.ptr a) (.ptr none) = some (.bool !a.isNone) := ptr_neq Tryz.underlying52 a
theorem bu56 (l : List (Nat × NVal)) : kBuild Tryz.prog 56 (some l) = (match nfill (fun i => ([(0, 1), (1, 1), (2, 1), (3, 1)] : List (Nat × Nat))[i]?) [(.int .i64 0), (.str []), (.str []), (.int .i64 0)] l with | none => none | some cs => some (.agg cs)) := kBuild_struct ze56 Tryz.underlying56 (by kernel_rfl) l
theorem ia64 (b o n c : Nat) (x k) (i : Int) (h0 : 0 ≤ i) (h1 : i < (n : Int)) : nindexAddr Tryz.prog 64 (.slice (some (b, o)) n c x) (.int k i) = some (.ptr (some (b, o + i.toNat * 1))) := indexAddr_slice Tryz.underlying64 sz9 b o n c x k i h0 h1
theorem se64 (a n c x) : nbin Tryz.prog .eql 64 (.slice a n c x) (.slice none 0 0 none) = some (.bool a.isNone) := slice_eql Tryz.underlying64 a n c x
theorem sn64 (a n c x) : nbin Tryz.prog .neq 64 (.slice a n c x) (.slice none 0 0 none) = some (.bool !a.isNone) := slice_neq Tryz.underlying64 a n c x
theorem pe73 (a) : nbin Tryz.prog .eql 73 (.ptr a) (.ptr none) = some (.bool a.isNone) := ptr_eql Tryz.underlying73 a
theorem pn73 (a) : nbin Tryz.prog .neq 73 (.ptr a) (.ptr none) = some (.bool !a.isNone) := ptr_neq Tryz.underlying73 a
theorem pe74 (a) : nbin Tryz.prog .eql 74 (.ptr a) (.ptr none) = some (.bool a.isNone) := ptr_eql Tryz.underlying74 a
theorem pn74 (a) : nbin Tryz.prog .neq 74 (.ptr a) (.ptr none) = some (.bool !a.isNone) := ptr_neq Tryz.underlying74 a
theorem bu76 (l : List (Nat × NVal)) : kBuild Tryz.prog 76 (some l) = (match nfill (fun i => ([(0, 1), (1, 1), (2, 1), (3, 1)] : List (Nat × Nat))[i]?) [(.ptr none), (.ptr none), (.int .i64 0), (.int .i64 0)] l with | none => none | some cs => some (.agg cs)) := kBuild_struct ze76 Tryz.underlying76 (by kernel_rfl) l
theorem pe78 (a) : nbin Tryz.prog .eql 78 (.ptr a) (.ptr none) = some (.bool a.isNone) := ptr_eql Tryz.underlying78 a
theorem pn78 (a) : nbin Tryz.prog .neq 78 (.ptr a) (.ptr none) = some (.bool !a.isNone) := ptr_neq Tryz.underlying78 a
theorem pe80 (a) : nbin Tryz.prog .eql 80 (.ptr a) (.ptr none) = some (.bool a.isNone) := ptr_eql Tryz.underlying80 a
theorem pn80 (a) : nbin Tryz.prog .neq 80 (.ptr a) (.ptr none) = some (.bool !a.isNone) := ptr_neq Tryz.underlying80 a
theorem pe81 (a) : nbin Tryz.prog .eql 81 (.ptr a) (.ptr none) = some (.bool a.isNone) := ptr_eql Tryz.underlying81 a
theorem pn81 (a) : nbin Tryz.prog .neq 81 (.ptr a) (.ptr none) = some (.bool !a.isNone) := ptr_neq Tryz.underlying81 a
theorem bu83 (l : List (Nat × NVal)) : kBuild Tryz.prog 83 (some l) = (match nfill (fun i => ([(0, 1), (1, 1), (2, 1), (3, 1), (4, 1)] : List (Nat × Nat))[i]?) [(.ptr none), (.ptr none), (.int .i64 0), (.int .i64 0), (.int .i64 0)] l with | none => none | some cs => some (.agg cs)) := kBuild_struct ze83 Tryz.underlying83 (by kernel_rfl) l
theorem ia92 (b o n c : Nat) (x k) (i : Int) (h0 : 0 ≤ i) (h1 : i < (n : Int)) : nindexAddr Tryz.prog 92 (.slice (some (b, o)) n c x) (.int k i) = some (.ptr (some (b, o + i.toNat * 1))) := indexAddr_slice Tryz.underlying92 sz5 b o n c x k i h0 h1
theorem se92 (a n c x) : nbin Tryz.prog .eql 92 (.slice a n c x) (.slice none 0 0 none) = some (.bool a.isNone) := slice_eql Tryz.underlying92 a n c x
theorem sn92 (a n c x) : nbin Tryz.prog .neq 92 (.slice a n c x) (.slice none 0 0 none) = some (.bool !a.isNone) := slice_neq Tryz.underlying92 a n c x
theorem bu94 (l : List (Nat × NVal)) : kBuild Tryz.prog 94 (some l) = (match nfill (fun i => ([(0, 1), (1, 1), (2, 1), (3, 1), (4, 1)] : List (Nat × Nat))[i]?) [(.int .i64 0), (.int .u64 0), (.str []), (.slice none 0 0 none), (.slice none 0 0 none)] l with | none => none | some cs => some (.agg cs)) := kBuild_struct ze94 Tryz.underlying94 (by kernel_rfl) l
theorem bu96 (l : List (Nat × NVal)) : kBuild Tryz.prog 96 (some l) = (match nfill (fun i => ([(0, 1), (1, 5), (6, 1)] : List (Nat × Nat))[i]?) [(.int .i64 0), (.int .i64 0), (.int .u64 0), (.str []), (.slice none 0 0 none), (.slice none 0 0 none), (.int .u8 0)] l with | none => none | some cs => some (.agg cs)) := kBuild_struct ze96 Tryz.underlying96 (by kernel_rfl) l
theorem ia97 (b o n c : Nat) (x k) (i : Int) (h0 : 0 ≤ i) (h1 : i < (n : Int)) : nindexAddr Tryz.prog 97 (.slice (some (b, o)) n c x) (.int k i) = some (.ptr (some (b, o + i.toNat * 1))) := indexAddr_slice Tryz.underlying97 sz265 b o n c x k i h0 h1
theorem se97 (a n c x) : nbin Tryz.prog .eql 97 (.slice a n c x) (.slice none 0 0 none) = some (.bool a.isNone) := slice_eql Tryz.underlying97 a n c x
theorem sn97 (a n c x) : nbin Tryz.prog .neq 97 (.slice a n c x) (.slice none 0 0 none) = some (.bool !a.isNone) := slice_neq Tryz.underlying97 a n c x
theorem bu99 (l : List (Nat × NVal)) : kBuild Tryz.prog 99 (some l) = (match nfill (fun i => ([(0, 1), (1, 1), (2, 1), (3, 1), (4, 1), (5, 1), (6, 1), (7, 6), (13, 1), (14, 1), (15, 7), (22, 7), (29, 1), (30, 1), (31, 1), (32, 1), (33, 1), (34, 4)] : List (Nat × Nat))[i]?) [(.str []), (.str []), (.int .i64 0), (.int .i64 0), (.int .i64 0), (.int .i64 0), (.bool false), (.int .i64 0), (.int .i64 0), (.int .i64 0), (.int .i64 0), (.int .u64 0), (.slice none 0 0 none), .nilFunc, .nilFunc, (.int .i64 0), (.int .i64 0), (.int .u64 0), (.str []), (.slice none 0 0 none), (.slice none 0 0 none), (.int .u8 0), (.int .i64 0), (.int .i64 0), (.int .u64 0), (.str []), (.slice none 0 0 none), (.slice none 0 0 none), (.int .u8 0), (.slice none 0 0 none), (.slice none 0 0 none), (.slice none 0 0 none), (.bool false), (.bool false), (.int .i64 0), (.bool false), (.int .i64 0), (.slice none 0 0 none)] l with | none => none | some cs => some (.agg cs)) := kBuild_struct ze99 Tryz.underlying99 (by kernel_rfl) l
theorem pe102 (a) : nbin Tryz.prog .eql 102 (.ptr a) (.ptr none) = some (.bool a.isNone) := ptr_eql Tryz.underlying102 a
theorem pn102 (a) : nbin Tryz.prog .neq 102 (.ptr a) (.ptr none) = some (.bool !a.isNone) := ptr_neq Tryz.underlying102 a
theorem pe107 (a) : nbin Tryz.prog .eql 107 (.ptr a) (.ptr none) = some (.bool a.isNone) := ptr_eql Tryz.underlying107 a
theorem pn107 (a) : nbin Tryz.prog .neq 107 (.ptr a) (.ptr none) = some (.bool !a.isNone) := ptr_neq Tryz.underlying107 a
theorem bu126 (l : List (Nat × NVal)) : kBuild Tryz.prog 126 (some l) = (match nfill (fun i => ([(0, 1), (1, 1)] : List (Nat × Nat))[i]?) [(.str []), (.int .i64 0)] l with | none => none | some cs => some (.agg cs)) := kBuild_struct ze126 Tryz.underlying126 (by kernel_rfl) l
theorem pe139 (a) : nbin Tryz.prog .eql 139 (.ptr a) (.ptr none) = some (.bool a.isNone) := ptr_eql Tryz.underlying139 a
theorem pn139 (a) : nbin Tryz.prog .neq 139 (.ptr a) (.ptr none) = some (.bool !a.isNone) := ptr_neq Tryz.underlying139 a
theorem ia141 (b o n c : Nat) (x k) (i : Int) (h0 : 0 ≤ i) (h1 : i < (n : Int)) : nindexAddr Tryz.prog 141 (.slice (some (b, o)) n c x) (.int k i) = some (.ptr (some (b, o + i.toNat * 2))) := indexAddr_slice Tryz.underlying141 sz148 b o n c x k i h0 h1
theorem se141 (a n c x) : nbin Tryz.prog .eql 141 (.slice a n c x) (.slice none 0 0 none) = some (.bool a.isNone) := slice_eql Tryz.underlying141 a n c x
theorem sn141 (a n c x) : nbin Tryz.prog .neq 141 (.slice a n c x) (.slice none 0 0 none) = some (.bool !a.isNone) := slice_neq Tryz.underlying141 a n c x
theorem bu143 (l : List (Nat × NVal)) : kBuild Tryz.prog 143 (some l) = (match nfill (fun i => ([(0, 1), (1, 1)] : List (Nat × Nat))[i]?) [(.int .i64 0), (.slice none 0 0 none)] l with | none => none | some cs => some (.agg cs)) := kBuild_struct ze143 Tryz.underlying143 (by kernel_rfl) l
theorem ia144 (b o n c : Nat) (x k) (i : Int) (h0 : 0 ≤ i) (h1 : i < (n : Int)) : nindexAddr Tryz.prog 144 (.slice (some (b, o)) n c x) (.int k i) = some (.ptr (some (b, o + i.toNat * 2))) := indexAddr_slice Tryz.underlying144 sz143 b o n c x k i h0 h1
theorem se144 (a n c x) : nbin Tryz.prog .eql 144 (.slice a n c x) (.slice none 0 0 none) = some (.bool a.isNone) := slice_eql Tryz.underlying144 a n c x
theorem sn144 (a n c x) : nbin Tryz.prog .neq 144 (.slice a n c x) (.slice none 0 0 none) = some (.bool !a.isNone) := slice_neq Tryz.underlying144 a n c x
theorem bu146 (l : List (Nat × NVal)) : kBuild Tryz.prog 146 (some l) = (match nfill (fun i => ([(0, 1), (1, 1), (2, 1)] : List (Nat × Nat))[i]?) [(.int .i64 0), (.int .i64 0), (.slice none 0 0 none)] l with | none => none | some cs => some (.agg cs)) := kBuild_struct ze146 Tryz.underlying146 (by kernel_rfl) l
theorem bu148 (l : List (Nat × NVal)) : kBuild Tryz.prog 148 (some l) = (match nfill (fun i => ([(0, 1), (1, 1)] : List (Nat × Nat))[i]?) [(.int .i64 0), (.int .i64 0)] l with | none => none | some cs => some (.agg cs)) := kBuild_struct ze148 Tryz.underlying148 (by kernel_rfl) l
theorem pe152 (a) : nbin Tryz.prog .eql 152 (.ptr a) (.ptr none) = some (.bool a.isNone) := ptr_eql Tryz.underlying152 a
theorem pn152 (a) : nbin Tryz.prog .neq 152 (.ptr a) (.ptr none) = some (.bool !a.isNone) := ptr_neq Tryz.underlying152 a
theorem ia153 (b o n c : Nat) (x k) (i : Int) (h0 : 0 ≤ i) (h1 : i < (n : Int)) : nindexAddr Tryz.prog 153 (.slice (some (b, o)) n c x) (.int k i) = some (.ptr (some (b, o + i.toNat * 4))) := indexAddr_slice Tryz.underlying153 sz175 b o n c x k i h0 h1
theorem se153 (a n c x) : nbin Tryz.prog .eql 153 (.slice a n c x) (.slice none 0 0 none) = some (.bool a.isNone) := slice_eql Tryz.underlying153 a n c x
theorem sn153 (a n c x) : nbin Tryz.prog .neq 153 (.slice a n c x) (.slice none 0 0 none) = some (.bool !a.isNone) := slice_neq Tryz.underlying153 a n c x
theorem bu156 (l : List (Nat × NVal)) : kBuild Tryz.prog 156 (some l) = (match nfill (fun i => ([(0, 1), (1, 5)] : List (Nat × Nat))[i]?) [(.slice none 0 0 none), (.ptr none), (.ptr none), (.ptr none), (.ptr none), (.ptr none)] l with | none => none | some cs => some (.agg cs)) := kBuild_struct ze156 Tryz.underlying156 (by kernel_rfl) l
theorem bu158 (l : List (Nat × NVal)) : kBuild Tryz.prog 158 (some l) = (match nfill (fun i => ([(0, 1), (1, 5), (6, 1)] : List (Nat × Nat))[i]?) [(.int .i64 0), (.int .i64 0), (.int .u64 0), (.str []), (.slice none 0 0 none), (.slice none 0 0 none), (.int .u8 0)] l with | none => none | some cs => some (.agg cs)) := kBuild_struct ze158 Tryz.underlying158 (by kernel_rfl) l
theorem ia159 (b o n c : Nat) (x k) (i : Int) (h0 : 0 ≤ i) (h1 : i < (n : Int)) : nindexAddr Tryz.prog 159 (.slice (some (b, o)) n c x) (.int k i) = some (.ptr (some (b, o + i.toNat * 3))) := indexAddr_slice Tryz.underlying159 sz210 b o n c x k i h0 h1
theorem se159 (a n c x) : nbin Tryz.prog .eql 159 (.slice a n c x) (.slice none 0 0 none) = some (.bool a.isNone) := slice_eql Tryz.underlying159 a n c x
theorem sn159 (a n c x) : nbin Tryz.prog .neq 159 (.slice a n c x) (.slice none 0 0 none) = some (.bool !a.isNone) := slice_neq Tryz.underlying159 a n c x
theorem bu161 (l : List (Nat × NVal)) : kBuild Tryz.prog 161 (some l) = (match nfill (fun i => ([(0, 4), (4, 1), (5, 1), (6, 1), (7, 1), (8, 1), (9, 1), (10, 1), (11, 7), (18, 7), (25, 7), (32, 1), (33, 1), (34, 1), (35, 1), (36, 1), (37, 4), (41, 1)] : List (Nat × Nat))[i]?) [(.int .i64 0), (.str []), (.str []), (.int .i64 0), (.int .i64 0), (.int .i64 0), (.str []), (.int .i64 0), (.int .i64 0), (.bool false), (.int .i64 0), (.int .i64 0), (.int .i64 0), (.int .u64 0), (.str []), (.slice none 0 0 none), (.slice none 0 0 none), (.int .u8 0), (.int .i64 0), (.int .i64 0), (.int .u64 0), (.str []), (.slice none 0 0 none), (.slice none 0 0 none), (.int .u8 0), (.int .i64 0), (.int .i64 0), (.int .u64 0), (.str []), (.slice none 0 0 none), (.slice none 0 0 none), (.int .u8 0), (.int .i64 0), (.slice none 0 0 none), (.slice none 0 0 none), (.bool false), (.bool false), (.int .i64 0), (.bool false), (.int .i64 0), (.slice none 0 0 none), (.bool false)] l with | none => none | some cs => some (.agg cs)) := kBuild_struct ze161 Tryz.underlying161 (by kernel_rfl) l
theorem bu167 (l : List (Nat × NVal)) : kBuild Tryz.prog 167 (some l) = (match nfill (fun i => ([(0, 1), (1, 5), (6, 1)] : List (Nat × Nat))[i]?) [(.int .i64 0), (.int .i64 0), (.int .u64 0), (.str []), (.slice none 0 0 none), (.slice none 0 0 none), (.int .u8 0)] l with | none => none | some cs => some (.agg cs)) := kBuild_struct ze167 Tryz.underlying167 (by kernel_rfl) l
theorem bu169 (l : List (Nat × NVal)) : kBuild Tryz.prog 169 (some l) = (match nfill (fun i => ([(0, 1), (1, 1), (2, 1), (3, 1), (4, 1), (5, 1), (6, 6), (12, 1), (13, 1), (14, 7), (21, 7), (28, 7), (35, 1), (36, 1), (37, 1), (38, 1), (39, 1), (40, 1), (41, 4)] : List (Nat × Nat))[i]?) [(.str []), (.str []), (.int .i64 0), (.int .i64 0), (.int .i64 0), (.bool false), (.int .i64 0), (.int .i64 0), (.int .i64 0), (.int .i64 0), (.int .u64 0), (.slice none 0 0 none), .nilFunc, .nilFunc, (.int .i64 0), (.int .i64 0), (.int .u64 0), (.str []), (.slice none 0 0 none), (.slice none 0 0 none), (.int .u8 0), (.int .i64 0), (.int .i64 0), (.int .u64 0), (.str []), (.slice none 0 0 none), (.slice none 0 0 none), (.int .u8 0), (.int .i64 0), (.int .i64 0), (.int .u64 0), (.str []), (.slice none 0 0 none), (.slice none 0 0 none), (.int .u8 0), (.int .i64 0), (.slice none 0 0 none), (.slice none 0 0 none), (.slice none 0 0 none), (.bool false), (.bool false), (.int .i64 0), (.bool false), (.int .i64 0), (.slice none 0 0 none)] l with | none => none | some cs => some (.agg cs)) := kBuild_struct ze169 Tryz.underlying169 (by kernel_rfl) l
theorem bu175 (l : List (Nat × NVal)) : kBuild Tryz.prog 175 (some l) = (match nfill (fun i => ([(0, 1), (1, 1), (2, 1), (3, 1)] : List (Nat × Nat))[i]?) [(.int .i64 0), (.int .i64 0), (.bool false), (.slice none 0 0 none)] l with | none => none | some cs => some (.agg cs)) := kBuild_struct ze175 Tryz.underlying175 (by kernel_rfl) l
theorem pe177 (a) : nbin Tryz.prog .eql 177 (.ptr a) (.ptr none) = some (.bool a.isNone) := ptr_eql Tryz.underlying177 a
theorem pn177 (a) : nbin Tryz.prog .neq 177 (.ptr a) (.ptr none) = some (.bool !a.isNone) := ptr_neq Tryz.underlying177 a
theorem ia184 (b o n c : Nat) (x k) (i : Int) (h0 : 0 ≤ i) (h1 : i < (n : Int)) : nindexAddr Tryz.prog 184 (.slice (some (b, o)) n c x) (.int k i) = some (.ptr (some (b, o + i.toNat * 4))) := indexAddr_slice Tryz.underlying184 sz191 b o n c x k i h0 h1
theorem se184 (a n c x) : nbin Tryz.prog .eql 184 (.slice a n c x) (.slice none 0 0 none) = some (.bool a.isNone) := slice_eql Tryz.underlying184 a n c x
theorem sn184 (a n c x) : nbin Tryz.prog .neq 184 (.slice a n c x) (.slice none 0 0 none) = some (.bool !a.isNone) := slice_neq Tryz.underlying184 a n c x
theorem bu186 (l : List (Nat × NVal)) : kBuild Tryz.prog 186 (some l) = (match nfill (fun i => ([(0, 1), (1, 1)] : List (Nat × Nat))[i]?) [(.int .i64 0), (.slice none 0 0 none)] l with | none => none | some cs => some (.agg cs)) := kBuild_struct ze186 Tryz.underlying186 (by kernel_rfl) l
theorem bu189 (l : List (Nat × NVal)) : kBuild Tryz.prog 189 (some l) = (match nfill (fun i => ([(0, 1), (1, 10)] : List (Nat × Nat))[i]?) [(.slice none 0 0 none), (.int .i64 0), (.slice none 0 0 none), (.int .i64 0), (.slice none 0 0 none), (.int .i64 0), (.slice none 0 0 none), (.int .i64 0), (.slice none 0 0 none), (.int .i64 0), (.slice none 0 0 none)] l with | none => none | some cs => some (.agg cs)) := kBuild_struct ze189 Tryz.underlying189 (by kernel_rfl) l
theorem bu191 (l : List (Nat × NVal)) : kBuild Tryz.prog 191 (some l) = (match nfill (fun i => ([(0, 1), (1, 1), (2, 1), (3, 1)] : List (Nat × Nat))[i]?) [(.int .i64 0), (.int .i64 0), (.bool false), (.slice none 0 0 none)] l with | none => none | some cs => some (.agg cs)) := kBuild_struct ze191 Tryz.underlying191 (by kernel_rfl) l
theorem ia192 (b o n c : Nat) (x k) (i : Int) (h0 : 0 ≤ i) (h1 : i < (n : Int)) : nindexAddr Tryz.prog 192 (.slice (some (b, o)) n c x) (.int k i) = some (.ptr (some (b, o + i.toNat * 1))) := indexAddr_slice Tryz.underlying192 sz248 b o n c x k i h0 h1
theorem se192 (a n c x) : nbin Tryz.prog .eql 192 (.slice a n c x) (.slice none 0 0 none) = some (.bool a.isNone) := slice_eql Tryz.underlying192 a n c x
theorem sn192 (a n c x) : nbin Tryz.prog .neq 192 (.slice a n c x) (.slice none 0 0 none) = some (.bool !a.isNone) := slice_neq Tryz.underlying192 a n c x
theorem bu194 (l : List (Nat × NVal)) : kBuild Tryz.prog 194 (some l) = (match nfill (fun i => ([(0, 1), (1, 1), (2, 1), (3, 1)] : List (Nat × Nat))[i]?) [(.int .i64 0), (.int .i64 0), (.slice none 0 0 none), (.slice none 0 0 none)] l with | none => none | some cs => some (.agg cs)) := kBuild_struct ze194 Tryz.underlying194 (by kernel_rfl) l
theorem ia205 (b o n c : Nat) (x k) (i : Int) (h0 : 0 ≤ i) (h1 : i < (n : Int)) : nindexAddr Tryz.prog 205 (.slice (some (b, o)) n c x) (.int k i) = some (.ptr (some (b, o + i.toNat * 1))) := indexAddr_slice Tryz.underlying205 sz3 b o n c x k i h0 h1
theorem se205 (a n c x) : nbin Tryz.prog .eql 205 (.slice a n c x) (.slice none 0 0 none) = some (.bool a.isNone) := slice_eql Tryz.underlying205 a n c x
theorem sn205 (a n c x) : nbin Tryz.prog .neq 205 (.slice a n c x) (.slice none 0 0 none) = some (.bool !a.isNone) := slice_neq Tryz.underlying205 a n c x
theorem bu208 (l : List (Nat × NVal)) : kBuild Tryz.prog 208 (some l) = (match nfill (fun i => ([(0, 1), (1, 1), (2, 1)] : List (Nat × Nat))[i]?) [(.int .i64 0), (.slice none 0 0 none), (.map none)] l with | none => none | some cs => some (.agg cs)) := kBuild_struct ze208 Tryz.underlying208 (by kernel_rfl) l
theorem bu210 (l : List (Nat × NVal)) : kBuild Tryz.prog 210 (some l) = (match nfill (fun i => ([(0, 1), (1, 1), (2, 1)] : List (Nat × Nat))[i]?) [(.int .i64 0), (.slice none 0 0 none), (.int .i64 0)] l with | none => none | some cs => some (.agg cs)) := kBuild_struct ze210 Tryz.underlying210 (by kernel_rfl) l
theorem bu218 (l : List (Nat × NVal)) : kBuild Tryz.prog 218 (some l) = (match nfill (fun i => ([] : List (Nat × Nat))[i]?) [] l with | none => none | some cs => some (.agg cs)) := kBuild_struct ze218 Tryz.underlying218 (by kernel_rfl) l
theorem pe220 (a) : nbin Tryz.prog .eql 220 (.ptr a) (.ptr none) = some (.bool a.isNone) := ptr_eql Tryz.underlying220 a
theorem pn220 (a) : nbin Tryz.prog .neq 220 (.ptr a) (.ptr none) = some (.bool !a.isNone) := ptr_neq Tryz.underlying220 a
theorem ia248 (b o n c : Nat) (x k) (i : Int) (h0 : 0 ≤ i) (h1 : i < (n : Int)) : nindexAddr Tryz.prog 248 (.slice (some (b, o)) n c x) (.int k i) = some (.ptr (some (b, o + i.toNat * 2))) := indexAddr_slice Tryz.underlying248 sz250 b o n c x k i h0 h1
theorem se248 (a n c x) : nbin Tryz.prog .eql 248 (.slice a n c x) (.slice none 0 0 none) = some (.bool a.isNone) := slice_eql Tryz.underlying248 a n c x
theorem sn248 (a n c x) : nbin Tryz.prog .neq 248 (.slice a n c x) (.slice none 0 0 none) = some (.bool !a.isNone) := slice_neq Tryz.underlying248 a n c x
theorem bu250 (l : List (Nat × NVal)) : kBuild Tryz.prog 250 (some l) = (match nfill (fun i => ([(0, 1), (1, 1)] : List (Nat × Nat))[i]?) [(.int .i64 0), (.int .i64 0)] l with | none => none | some cs => some (.agg cs)) := kBuild_struct ze250 Tryz.underlying250 (by kernel_rfl) l
theorem ia293 (b o n c : Nat) (x k) (i : Int) (h0 : 0 ≤ i) (h1 : i < (n : Int)) : nindexAddr Tryz.prog 293 (.slice (some (b, o)) n c x) (.int k i) = some (.ptr (some (b, o + i.toNat * 1))) := indexAddr_slice Tryz.underlying293 sz92 b o n c x k i h0 h1
theorem se293 (a n c x) : nbin Tryz.prog .eql 293 (.slice a n c x) (.slice none 0 0 none) = some (.bool a.isNone) := slice_eql Tryz.underlying293 a n c x
theorem sn293 (a n c x) : nbin Tryz.prog .neq 293 (.slice a n c x) (.slice none 0 0 none) = some (.bool !a.isNone) := slice_neq Tryz.underlying293 a n c x
theorem ia295 (b o n c : Nat) (x k) (i : Int) (h0 : 0 ≤ i) (h1 : i < (n : Int)) : nindexAddr Tryz.prog 295 (.slice (some (b, o)) n c x) (.int k i) = some (.ptr (some (b, o + i.toNat * 1))) := indexAddr_slice Tryz.underlying295 sz28 b o n c x k i h0 h1
theorem se295 (a n c x) : nbin Tryz.prog .eql 295 (.slice a n c x) (.slice none 0 0 none) = some (.bool a.isNone) := slice_eql Tryz.underlying295 a n c x
theorem sn295 (a n c x) : nbin Tryz.prog .neq 295 (.slice a n c x) (.slice none 0 0 none) = some (.bool !a.isNone) := slice_neq Tryz.underlying295 a n c x

attribute [go_sem] sz3 ag3 by3 ze3 sz4 ag4 by4 ze4 sz5 ag5 by5 ze5 sz9 ag9 by9 ze9 sz20 ag20 by20 ze20 sz22 ag22 by22 ze22 sz24 ag24 by24 ze24 sz26 ag26 by26 ze26 fa26_0 fi26_0 fa26_1 fi26_1 fa26_2 fi26_2 fa26_3 fi26_3 sz28 ag28 by28 ze28 sz29 ag29 by29 ze29 sz30 ag30 by30 ze30 sz32 ag32 by32 ze32 fa32_0 fi32_0 fa32_1 fi32_1 fa32_2 fi32_2 fa32_3 fi32_3 sz35 ag35 by35 ze35 sz36 ag36 by36 ze36 sz38 ag38 by38 ze38 fa38_0 fi38_0 fa38_1 fi38_1 fa38_2 fi38_2 sz42 ag42 by42 ze42 fa42_0 fi42_0 fa42_1 fi42_1 sz45 ag45 by45 ze45 sz47 ag47 by47 ze47 fa47_0 fi47_0 fa47_1 fi47_1 fa47_2 fi47_2 fa47_3 fi47_3 sz49 ag49 by49 ze49 sz51 ag51 by51 ze51 fa51_0 fi51_0 fa51_1 fi51_1 fa51_2 fi51_2 fa51_3 fi51_3 fa51_4 fi51_4 fa51_5 fi51_5 sz52 ag52 by52 ze52 sz56 ag56 by56 ze56 fa56_0 fi56_0 fa56_1 fi56_1 fa56_2 fi56_2 fa56_3 fi56_3 sz64 ag64 by64 ze64 sz73 ag73 by73 ze73 sz74 ag74 by74 ze74 sz76 ag76 by76 ze76 fa76_0 fi76_0 fa76_1 fi76_1 fa76_2 fi76_2 fa76_3 fi76_3 sz78 ag78 by78 ze78 sz80 ag80 by80 ze80 sz81 ag81 by81 ze81 sz83 ag83 by83 ze83 fa83_0 fi83_0 fa83_1 fi83_1 fa83_2 fi83_2 fa83_3 fi83_3 fa83_4 fi83_4 sz90 ag90 by90 ze90 sz91 ag91 by91 ze91 sz92 ag92 by92 ze92 sz94 ag94 by94 ze94 fa94_0 fi94_0 fa94_1 fi94_1 fa94_2 fi94_2 fa94_3 fi94_3 fa94_4 fi94_4 sz96 ag96 by96 ze96 fa96_0 fi96_0 fa96_1 fi96_1 fa96_2 fi96_2 sz97 ag97 by97 ze97 sz99 ag99 by99 ze99 fa99_0 fi99_0 fa99_1 fi99_1 fa99_2 fi99_2 fa99_3 fi99_3 fa99_4 fi99_4 fa99_5 fi99_5 fa99_6 fi99_6 fa99_7 fi99_7 fa99_8 fi99_8 fa99_9 fi99_9 fa99_10 fi99_10 fa99_11 fi99_11 fa99_12 fi99_12 fa99_13 fi99_13 fa99_14 fi99_14 fa99_15 fi99_15 fa99_16 fi99_16 fa99_17 fi99_17 sz102 ag102 by102 ze102 sz107 ag107 by107 ze107 sz126 ag126 by126 ze126 fa126_0 fi126_0 fa126_1 fi126_1 sz139 ag139 by139 ze139 sz141 ag141 by141 ze141 sz143 ag143 by143 ze143 fa143_0 fi143_0 fa143_1 fi143_1 sz144 ag144 by144 ze144 sz146 ag146 by146 ze146 fa146_0 fi146_0 fa146_1 fi146_1 fa146_2 fi146_2 sz148 ag148 by148 ze148 fa148_0 fi148_0 fa148_1 fi148_1 sz152 ag152 by152 ze152 sz153 ag153 by153 ze153 sz154 ag154 by154 ze154 sz156 ag156 by156 ze156 fa156_0 fi156_0 fa156_1 fi156_1 sz158 ag158 by158 ze158 fa158_0 fi158_0 fa158_1 fi158_1 fa158_2 fi158_2 sz159 ag159 by159 ze159 sz161 ag161 by161 ze161 fa161_0 fi161_0 fa161_1 fi161_1 fa161_2 fi161_2 fa161_3 fi161_3 fa161_4 fi161_4 fa161_5 fi161_5 fa161_6 fi161_6 fa161_7 fi161_7 fa161_8 fi161_8 fa161_9 fi161_9 fa161_10 fi161_10 fa161_11 fi161_11 fa161_12 fi161_12 fa161_13 fi161_13 fa161_14 fi161_14 fa161_15 fi161_15 fa161_16 fi161_16 fa161_17 fi161_17 sz164 ag164 by164 ze164 sz165 ag165 by165 ze165 sz167 ag167 by167 ze167 fa167_0 fi167_0 fa167_1 fi167_1 fa167_2 fi167_2 sz169 ag169 by169 ze169 fa169_0 fi169_0 fa169_1 fi169_1 fa169_2 fi169_2 fa169_3 fi169_3 fa169_4 fi169_4 fa169_5 fi169_5 fa169_6 fi169_6 fa169_7 fi169_7 fa169_8 fi169_8 fa169_9 fi169_9 fa169_10 fi169_10 fa169_11 fi169_11 fa169_12 fi169_12 fa169_13 fi169_13 fa169_14 fi169_14 fa169_15 fi169_15 fa169_16 fi169_16 fa169_17 fi169_17 fa169_18 fi169_18 sz175 ag175 by175 ze175 fa175_0 fi175_0 fa175_1 fi175_1 fa175_2 fi175_2 fa175_3 fi175_3 sz177 ag177 by177 ze177 sz181 ag181 by181 ze181 sz184 ag184 by184 ze184 sz186 ag186 by186 ze186 fa186_0 fi186_0 fa186_1 fi186_1 sz187 ag187 by187 ze187 sz189 ag189 by189 ze189 fa189_0 fi189_0 fa189_1 fi189_1 sz191 ag191 by191 ze191 fa191_0 fi191_0 fa191_1 fi191_1 fa191_2 fi191_2 fa191_3 fi191_3 sz192 ag192 by192 ze192 sz194 ag194 by194 ze194 fa194_0 fi194_0 fa194_1 fi194_1 fa194_2 fi194_2 fa194_3 fi194_3 sz205 ag205 by205 ze205 sz206 ag206 by206 ze206 sz208 ag208 by208 ze208 fa208_0 fi208_0 fa208_1 fi208_1 fa208_2 fi208_2 sz210 ag210 by210 ze210 fa210_0 fi210_0 fa210_1 fi210_1 fa210_2 fi210_2 sz212 ag212 by212 ze212 sz218 ag218 by218 ze218 sz220 ag220 by220 ze220 sz237 ag237 by237 ze237 sz248 ag248 by248 ze248 sz250 ag250 by250 ze250 fa250_0 fi250_0 fa250_1 fi250_1 sz255 ag255 by255 ze255 sz265 ag265 by265 ze265 sz293 ag293 by293 ze293 sz295 ag295 by295 ze295 be4 bn4 pe22 pn22 bu26 ia28 se28 sn28 ia30 se30 sn30 bu32 pe35 pn35 pe36 pn36 bu38 bu42 ia45 se45 sn45 bu47 bu51 pe52 pn52 bu56 ia64 se64 sn64 pe73 pn73 pe74 pn74 bu76 pe78 pn78 pe80 pn80 pe81 pn81 bu83 ia92 se92 sn92 bu94 bu96 ia97 se97 sn97 bu99 pe102 pn102 pe107 pn107 bu126 pe139 pn139 ia141 se141 sn141 bu143 ia144 se144 sn144 bu146 bu148 pe152 pn152 ia153 se153 sn153 bu156 bu158 ia159 se159 sn159 bu161 bu167 bu169 bu175 pe177 pn177 ia184 se184 sn184 bu186 bu189 bu191 ia192 se192 sn192 bu194 ia205 se205 sn205 bu208 bu210 bu218 pe220 pn220 ia248 se248 sn248 bu250 ia293 se293 sn293 ia295 se295 sn295
attribute [go_sem] Tryz.underlying3 Tryz.underlying4 Tryz.underlying5 Tryz.underlying9 Tryz.underlying20 Tryz.underlying22 Tryz.underlying24 Tryz.underlying26 Tryz.underlying28 Tryz.underlying29 Tryz.underlying30 Tryz.underlying32 Tryz.underlying35 Tryz.underlying36 Tryz.underlying38 Tryz.underlying42 Tryz.underlying45 Tryz.underlying47 Tryz.underlying49 Tryz.underlying51 Tryz.underlying52 Tryz.underlying56 Tryz.underlying64 Tryz.underlying73 Tryz.underlying74 Tryz.underlying76 Tryz.underlying78 Tryz.underlying80 Tryz.underlying81 Tryz.underlying83 Tryz.underlying90 Tryz.underlying91 Tryz.underlying92 Tryz.underlying94 Tryz.underlying96 Tryz.underlying97 Tryz.underlying99 Tryz.underlying102 Tryz.underlying107 Tryz.underlying126 Tryz.underlying139 Tryz.underlying141 Tryz.underlying143 Tryz.underlying144 Tryz.underlying146 Tryz.underlying148 Tryz.underlying152 Tryz.underlying153 Tryz.underlying154 Tryz.underlying156 Tryz.underlying158 Tryz.underlying159 Tryz.underlying161 Tryz.underlying164 Tryz.underlying165 Tryz.underlying167 Tryz.underlying169 Tryz.underlying175 Tryz.underlying177 Tryz.underlying181 Tryz.underlying184 Tryz.underlying186 Tryz.underlying187 Tryz.underlying189 Tryz.underlying191 Tryz.underlying192 Tryz.underlying194 Tryz.underlying205 Tryz.underlying206 Tryz.underlying208 Tryz.underlying210 Tryz.underlying212 Tryz.underlying218 Tryz.underlying220 Tryz.underlying237 Tryz.underlying248 Tryz.underlying250 Tryz.underlying255 Tryz.underlying265 Tryz.underlying293 Tryz.underlying295
theorem k8 (l : List NVal) (h : NHeap) (hl : l.length ≤ 24) : K env 8 l h = outF Tryz.prog [.tmp 6] (C env (bodyOf Tryz.f8) (toL 24 (argF l)) h) := K_bodyF rfl (by kernel_rfl) hl
end Go.Proofs.YtamcodigpocecaaGreat.S
