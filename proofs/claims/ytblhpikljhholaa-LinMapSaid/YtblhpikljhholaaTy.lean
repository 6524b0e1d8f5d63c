/-
  What the seat's types are. No conditions.
-/
import Derived.Test.YtblhpikljhholaaTab
import Derived.Test.YtblhpikljhholaaNice41
namespace Go.Proofs.Ytblhpikljhholaa.S
open Go Go.RowKit Go.Proofs.Ytblhpikljhholaa.NICE
set_option maxRecDepth 100000

theorem sz3 : szOf Try.prog 3 = some 1 := by kernel_rfl
theorem ag3 : aggT Try.prog 3 = some false := by kernel_rfl
theorem by3 : bytesOf Try.prog 3 = some 8 := by kernel_rfl
theorem ze3 : zeroOf Try.prog 3 = some (.int .i64 0) := by kernel_rfl
theorem sz4 : szOf Try.prog 4 = some 1 := by kernel_rfl
theorem ag4 : aggT Try.prog 4 = some false := by kernel_rfl
theorem by4 : bytesOf Try.prog 4 = some 1 := by kernel_rfl
theorem ze4 : zeroOf Try.prog 4 = some (.bool false) := by kernel_rfl
theorem sz5 : szOf Try.prog 5 = some 1 := by kernel_rfl
theorem ag5 : aggT Try.prog 5 = some false := by kernel_rfl
theorem by5 : bytesOf Try.prog 5 = some 1 := by kernel_rfl
theorem ze5 : zeroOf Try.prog 5 = some (.int .u8 0) := by kernel_rfl
theorem sz9 : szOf Try.prog 9 = some 1 := by kernel_rfl
theorem ag9 : aggT Try.prog 9 = some false := by kernel_rfl
theorem by9 : bytesOf Try.prog 9 = some 16 := by kernel_rfl
theorem ze9 : zeroOf Try.prog 9 = some (.str []) := by kernel_rfl
theorem sz22 : szOf Try.prog 22 = some 1 := by kernel_rfl
theorem ag22 : aggT Try.prog 22 = some false := by kernel_rfl
theorem by22 : bytesOf Try.prog 22 = some 24 := by kernel_rfl
theorem ze22 : zeroOf Try.prog 22 = some (.slice none 0 0 none) := by kernel_rfl
theorem sz23 : szOf Try.prog 23 = some 1 := by kernel_rfl
theorem ag23 : aggT Try.prog 23 = some false := by kernel_rfl
theorem by23 : bytesOf Try.prog 23 = some 24 := by kernel_rfl
theorem ze23 : zeroOf Try.prog 23 = some (.slice none 0 0 none) := by kernel_rfl
theorem sz24 : szOf Try.prog 24 = some 1 := by kernel_rfl
theorem ag24 : aggT Try.prog 24 = some false := by kernel_rfl
theorem by24 : bytesOf Try.prog 24 = some 24 := by kernel_rfl
theorem ze24 : zeroOf Try.prog 24 = some (.slice none 0 0 none) := by kernel_rfl
theorem sz25 : szOf Try.prog 25 = some 1 := by kernel_rfl
theorem ag25 : aggT Try.prog 25 = some false := by kernel_rfl
theorem by25 : bytesOf Try.prog 25 = some 24 := by kernel_rfl
theorem ze25 : zeroOf Try.prog 25 = some (.slice none 0 0 none) := by kernel_rfl
theorem sz29 : szOf Try.prog 29 = some 4 := by kernel_rfl
theorem ag29 : aggT Try.prog 29 = some true := by kernel_rfl
theorem by29 : bytesOf Try.prog 29 = some 48 := by kernel_rfl
theorem ze29 : zeroOf Try.prog 29 = some (.agg [(.int .i64 0), (.str []), (.str []), (.int .i64 0)]) := by kernel_rfl
theorem fa29_0 (b o : Nat) : nfieldAddr Try.prog 29 (.ptr (some (b, o))) 0 = some (.ptr (some (b, o))) := by kernel_rfl
theorem fi29_0 (cs : List NVal) : nfield Try.prog 29 (.agg cs) 0 = cs[0]? := by kernel_rfl
theorem fa29_1 (b o : Nat) : nfieldAddr Try.prog 29 (.ptr (some (b, o))) 1 = some (.ptr (some (b, o + 1))) := by kernel_rfl
theorem fi29_1 (cs : List NVal) : nfield Try.prog 29 (.agg cs) 1 = cs[1]? := by kernel_rfl
theorem fa29_2 (b o : Nat) : nfieldAddr Try.prog 29 (.ptr (some (b, o))) 2 = some (.ptr (some (b, o + 2))) := by kernel_rfl
theorem fi29_2 (cs : List NVal) : nfield Try.prog 29 (.agg cs) 2 = cs[2]? := by kernel_rfl
theorem fa29_3 (b o : Nat) : nfieldAddr Try.prog 29 (.ptr (some (b, o))) 3 = some (.ptr (some (b, o + 3))) := by kernel_rfl
theorem fi29_3 (cs : List NVal) : nfield Try.prog 29 (.agg cs) 3 = cs[3]? := by kernel_rfl
theorem sz30 : szOf Try.prog 30 = some 1 := by kernel_rfl
theorem ag30 : aggT Try.prog 30 = some false := by kernel_rfl
theorem by30 : bytesOf Try.prog 30 = some 8 := by kernel_rfl
theorem ze30 : zeroOf Try.prog 30 = some (.int .i64 0) := by kernel_rfl
theorem sz32 : szOf Try.prog 32 = some 4 := by kernel_rfl
theorem ag32 : aggT Try.prog 32 = some true := by kernel_rfl
theorem by32 : bytesOf Try.prog 32 = some 48 := by kernel_rfl
theorem ze32 : zeroOf Try.prog 32 = some (.agg [(.int .i64 0), (.bool false), (.int .i64 0), (.slice none 0 0 none)]) := by kernel_rfl
theorem fa32_0 (b o : Nat) : nfieldAddr Try.prog 32 (.ptr (some (b, o))) 0 = some (.ptr (some (b, o))) := by kernel_rfl
theorem fi32_0 (cs : List NVal) : nfield Try.prog 32 (.agg cs) 0 = cs[0]? := by kernel_rfl
theorem fa32_1 (b o : Nat) : nfieldAddr Try.prog 32 (.ptr (some (b, o))) 1 = some (.ptr (some (b, o + 1))) := by kernel_rfl
theorem fi32_1 (cs : List NVal) : nfield Try.prog 32 (.agg cs) 1 = cs[1]? := by kernel_rfl
theorem fa32_2 (b o : Nat) : nfieldAddr Try.prog 32 (.ptr (some (b, o))) 2 = some (.ptr (some (b, o + 2))) := by kernel_rfl
theorem fi32_2 (cs : List NVal) : nfield Try.prog 32 (.agg cs) 2 = cs[2]? := by kernel_rfl
theorem fa32_3 (b o : Nat) : nfieldAddr Try.prog 32 (.ptr (some (b, o))) 3 = some (.ptr (some (b, o + 3))) := by kernel_rfl
theorem fi32_3 (cs : List NVal) : nfield Try.prog 32 (.agg cs) 3 = cs[3]? := by kernel_rfl
theorem sz35 : szOf Try.prog 35 = some 2 := by kernel_rfl
theorem ag35 : aggT Try.prog 35 = some true := by kernel_rfl
theorem by35 : bytesOf Try.prog 35 = some 24 := by kernel_rfl
theorem ze35 : zeroOf Try.prog 35 = some (.agg [(.str []), (.int .i64 0)]) := by kernel_rfl
theorem fa35_0 (b o : Nat) : nfieldAddr Try.prog 35 (.ptr (some (b, o))) 0 = some (.ptr (some (b, o))) := by kernel_rfl
theorem fi35_0 (cs : List NVal) : nfield Try.prog 35 (.agg cs) 0 = cs[0]? := by kernel_rfl
theorem fa35_1 (b o : Nat) : nfieldAddr Try.prog 35 (.ptr (some (b, o))) 1 = some (.ptr (some (b, o + 1))) := by kernel_rfl
theorem fi35_1 (cs : List NVal) : nfield Try.prog 35 (.agg cs) 1 = cs[1]? := by kernel_rfl
theorem sz40 : szOf Try.prog 40 = some 10 := by kernel_rfl
theorem ag40 : aggT Try.prog 40 = some true := by kernel_rfl
theorem by40 : bytesOf Try.prog 40 = some 112 := by kernel_rfl
theorem ze40 : zeroOf Try.prog 40 = some (.agg [(.int .i64 0), (.int .i64 0), (.int .i64 0), (.str []), (.str []), (.int .i64 0), (.int .i64 0), (.bool false), (.int .i64 0), (.slice none 0 0 none)]) := by kernel_rfl
theorem fa40_0 (b o : Nat) : nfieldAddr Try.prog 40 (.ptr (some (b, o))) 0 = some (.ptr (some (b, o))) := by kernel_rfl
theorem fi40_0 (cs : List NVal) : nfield Try.prog 40 (.agg cs) 0 = cs[0]? := by kernel_rfl
theorem fa40_1 (b o : Nat) : nfieldAddr Try.prog 40 (.ptr (some (b, o))) 1 = some (.ptr (some (b, o + 1))) := by kernel_rfl
theorem fi40_1 (cs : List NVal) : nfield Try.prog 40 (.agg cs) 1 = cs[1]? := by kernel_rfl
theorem fa40_2 (b o : Nat) : nfieldAddr Try.prog 40 (.ptr (some (b, o))) 2 = some (.ptr (some (b, o + 2))) := by kernel_rfl
theorem fi40_2 (cs : List NVal) : nfield Try.prog 40 (.agg cs) 2 = some (.agg ((cs.drop 2).take 4)) := by kernel_rfl
theorem fa40_3 (b o : Nat) : nfieldAddr Try.prog 40 (.ptr (some (b, o))) 3 = some (.ptr (some (b, o + 6))) := by kernel_rfl
theorem fi40_3 (cs : List NVal) : nfield Try.prog 40 (.agg cs) 3 = some (.agg ((cs.drop 6).take 4)) := by kernel_rfl
theorem sz42 : szOf Try.prog 42 = some 10 := by kernel_rfl
theorem ag42 : aggT Try.prog 42 = some true := by kernel_rfl
theorem by42 : bytesOf Try.prog 42 = some 112 := by kernel_rfl
theorem ze42 : zeroOf Try.prog 42 = some (.agg [(.int .i64 0), (.int .i64 0), (.int .i64 0), (.str []), (.str []), (.int .i64 0), (.int .i64 0), (.bool false), (.int .i64 0), (.slice none 0 0 none)]) := by kernel_rfl
theorem fa42_0 (b o : Nat) : nfieldAddr Try.prog 42 (.ptr (some (b, o))) 0 = some (.ptr (some (b, o))) := by kernel_rfl
theorem fi42_0 (cs : List NVal) : nfield Try.prog 42 (.agg cs) 0 = cs[0]? := by kernel_rfl
theorem fa42_1 (b o : Nat) : nfieldAddr Try.prog 42 (.ptr (some (b, o))) 1 = some (.ptr (some (b, o + 1))) := by kernel_rfl
theorem fi42_1 (cs : List NVal) : nfield Try.prog 42 (.agg cs) 1 = cs[1]? := by kernel_rfl
theorem fa42_2 (b o : Nat) : nfieldAddr Try.prog 42 (.ptr (some (b, o))) 2 = some (.ptr (some (b, o + 2))) := by kernel_rfl
theorem fi42_2 (cs : List NVal) : nfield Try.prog 42 (.agg cs) 2 = some (.agg ((cs.drop 2).take 4)) := by kernel_rfl
theorem fa42_3 (b o : Nat) : nfieldAddr Try.prog 42 (.ptr (some (b, o))) 3 = some (.ptr (some (b, o + 6))) := by kernel_rfl
theorem fi42_3 (cs : List NVal) : nfield Try.prog 42 (.agg cs) 3 = some (.agg ((cs.drop 6).take 4)) := by kernel_rfl
theorem sz50 : szOf Try.prog 50 = some 1 := by kernel_rfl
theorem ag50 : aggT Try.prog 50 = some false := by kernel_rfl
theorem by50 : bytesOf Try.prog 50 = some 24 := by kernel_rfl
theorem ze50 : zeroOf Try.prog 50 = some (.slice none 0 0 none) := by kernel_rfl
theorem sz63 : szOf Try.prog 63 = some 1 := by kernel_rfl
theorem ag63 : aggT Try.prog 63 = some false := by kernel_rfl
theorem by63 : bytesOf Try.prog 63 = some 24 := by kernel_rfl
theorem ze63 : zeroOf Try.prog 63 = some (.slice none 0 0 none) := by kernel_rfl
theorem sz65 : szOf Try.prog 65 = some 1 := by kernel_rfl
theorem ag65 : aggT Try.prog 65 = some false := by kernel_rfl
theorem by65 : bytesOf Try.prog 65 = some 24 := by kernel_rfl
theorem ze65 : zeroOf Try.prog 65 = some (.slice none 0 0 none) := by kernel_rfl
theorem be4 (a b : Bool) : nbin Try.prog .eql 4 (.bool a) (.bool b) = some (.bool (a == b)) := bool_eql Try.underlying4 a b
theorem bn4 (a b : Bool) : nbin Try.prog .neq 4 (.bool a) (.bool b) = some (.bool !(a == b)) := bool_neq Try.underlying4 a b
theorem ia22 (b o n c : Nat) (x k) (i : Int) (h0 : 0 ≤ i) (h1 : i < (n : Int)) : nindexAddr Try.prog 22 (.slice (some (b, o)) n c x) (.int k i) = some (.ptr (some (b, o + i.toNat * 4))) := indexAddr_slice Try.underlying22 sz29 b o n c x k i h0 h1
theorem se22 (a n c x) : nbin Try.prog .eql 22 (.slice a n c x) (.slice none 0 0 none) = some (.bool a.isNone) := slice_eql Try.underlying22 a n c x
theorem sn22 (a n c x) : nbin Try.prog .neq 22 (.slice a n c x) (.slice none 0 0 none) = some (.bool !a.isNone) := slice_neq Try.underlying22 a n c x
theorem ia23 (b o n c : Nat) (x k) (i : Int) (h0 : 0 ≤ i) (h1 : i < (n : Int)) : nindexAddr Try.prog 23 (.slice (some (b, o)) n c x) (.int k i) = some (.ptr (some (b, o + i.toNat * 2))) := indexAddr_slice Try.underlying23 sz35 b o n c x k i h0 h1
theorem se23 (a n c x) : nbin Try.prog .eql 23 (.slice a n c x) (.slice none 0 0 none) = some (.bool a.isNone) := slice_eql Try.underlying23 a n c x
theorem sn23 (a n c x) : nbin Try.prog .neq 23 (.slice a n c x) (.slice none 0 0 none) = some (.bool !a.isNone) := slice_neq Try.underlying23 a n c x
theorem ia24 (b o n c : Nat) (x k) (i : Int) (h0 : 0 ≤ i) (h1 : i < (n : Int)) : nindexAddr Try.prog 24 (.slice (some (b, o)) n c x) (.int k i) = some (.ptr (some (b, o + i.toNat * 10))) := indexAddr_slice Try.underlying24 sz40 b o n c x k i h0 h1
theorem se24 (a n c x) : nbin Try.prog .eql 24 (.slice a n c x) (.slice none 0 0 none) = some (.bool a.isNone) := slice_eql Try.underlying24 a n c x
theorem sn24 (a n c x) : nbin Try.prog .neq 24 (.slice a n c x) (.slice none 0 0 none) = some (.bool !a.isNone) := slice_neq Try.underlying24 a n c x
theorem ia25 (b o n c : Nat) (x k) (i : Int) (h0 : 0 ≤ i) (h1 : i < (n : Int)) : nindexAddr Try.prog 25 (.slice (some (b, o)) n c x) (.int k i) = some (.ptr (some (b, o + i.toNat * 10))) := indexAddr_slice Try.underlying25 sz42 b o n c x k i h0 h1
theorem se25 (a n c x) : nbin Try.prog .eql 25 (.slice a n c x) (.slice none 0 0 none) = some (.bool a.isNone) := slice_eql Try.underlying25 a n c x
theorem sn25 (a n c x) : nbin Try.prog .neq 25 (.slice a n c x) (.slice none 0 0 none) = some (.bool !a.isNone) := slice_neq Try.underlying25 a n c x
theorem bu29 (l : List (Nat × NVal)) : kBuild Try.prog 29 (some l) = (match nfill (fun i => ([(0, 1), (1, 1), (2, 1), (3, 1)] : List (Nat × Nat))[i]?) [(.int .i64 0), (.str []), (.str []), (.int .i64 0)] l with | none => none | some cs => some (.agg cs)) := kBuild_struct ze29 Try.underlying29 (by kernel_rfl) l
theorem bu32 (l : List (Nat × NVal)) : kBuild Try.prog 32 (some l) = (match nfill (fun i => ([(0, 1), (1, 1), (2, 1), (3, 1)] : List (Nat × Nat))[i]?) [(.int .i64 0), (.bool false), (.int .i64 0), (.slice none 0 0 none)] l with | none => none | some cs => some (.agg cs)) := kBuild_struct ze32 Try.underlying32 (by kernel_rfl) l
theorem bu35 (l : List (Nat × NVal)) : kBuild Try.prog 35 (some l) = (match nfill (fun i => ([(0, 1), (1, 1)] : List (Nat × Nat))[i]?) [(.str []), (.int .i64 0)] l with | none => none | some cs => some (.agg cs)) := kBuild_struct ze35 Try.underlying35 (by kernel_rfl) l
theorem bu40 (l : List (Nat × NVal)) : kBuild Try.prog 40 (some l) = (match nfill (fun i => ([(0, 1), (1, 1), (2, 4), (6, 4)] : List (Nat × Nat))[i]?) [(.int .i64 0), (.int .i64 0), (.int .i64 0), (.str []), (.str []), (.int .i64 0), (.int .i64 0), (.bool false), (.int .i64 0), (.slice none 0 0 none)] l with | none => none | some cs => some (.agg cs)) := kBuild_struct ze40 Try.underlying40 (by kernel_rfl) l
theorem bu42 (l : List (Nat × NVal)) : kBuild Try.prog 42 (some l) = (match nfill (fun i => ([(0, 1), (1, 1), (2, 4), (6, 4)] : List (Nat × Nat))[i]?) [(.int .i64 0), (.int .i64 0), (.int .i64 0), (.str []), (.str []), (.int .i64 0), (.int .i64 0), (.bool false), (.int .i64 0), (.slice none 0 0 none)] l with | none => none | some cs => some (.agg cs)) := kBuild_struct ze42 Try.underlying42 (by kernel_rfl) l
theorem ia50 (b o n c : Nat) (x k) (i : Int) (h0 : 0 ≤ i) (h1 : i < (n : Int)) : nindexAddr Try.prog 50 (.slice (some (b, o)) n c x) (.int k i) = some (.ptr (some (b, o + i.toNat * 1))) := indexAddr_slice Try.underlying50 sz3 b o n c x k i h0 h1
theorem se50 (a n c x) : nbin Try.prog .eql 50 (.slice a n c x) (.slice none 0 0 none) = some (.bool a.isNone) := slice_eql Try.underlying50 a n c x
theorem sn50 (a n c x) : nbin Try.prog .neq 50 (.slice a n c x) (.slice none 0 0 none) = some (.bool !a.isNone) := slice_neq Try.underlying50 a n c x
theorem ia63 (b o n c : Nat) (x k) (i : Int) (h0 : 0 ≤ i) (h1 : i < (n : Int)) : nindexAddr Try.prog 63 (.slice (some (b, o)) n c x) (.int k i) = some (.ptr (some (b, o + i.toNat * 1))) := indexAddr_slice Try.underlying63 sz23 b o n c x k i h0 h1
theorem se63 (a n c x) : nbin Try.prog .eql 63 (.slice a n c x) (.slice none 0 0 none) = some (.bool a.isNone) := slice_eql Try.underlying63 a n c x
theorem sn63 (a n c x) : nbin Try.prog .neq 63 (.slice a n c x) (.slice none 0 0 none) = some (.bool !a.isNone) := slice_neq Try.underlying63 a n c x
theorem ia65 (b o n c : Nat) (x k) (i : Int) (h0 : 0 ≤ i) (h1 : i < (n : Int)) : nindexAddr Try.prog 65 (.slice (some (b, o)) n c x) (.int k i) = some (.ptr (some (b, o + i.toNat * 1))) := indexAddr_slice Try.underlying65 sz5 b o n c x k i h0 h1
theorem se65 (a n c x) : nbin Try.prog .eql 65 (.slice a n c x) (.slice none 0 0 none) = some (.bool a.isNone) := slice_eql Try.underlying65 a n c x
theorem sn65 (a n c x) : nbin Try.prog .neq 65 (.slice a n c x) (.slice none 0 0 none) = some (.bool !a.isNone) := slice_neq Try.underlying65 a n c x

attribute [go_sem] sz3 ag3 by3 ze3 sz4 ag4 by4 ze4 sz5 ag5 by5 ze5 sz9 ag9 by9 ze9 sz22 ag22 by22 ze22 sz23 ag23 by23 ze23 sz24 ag24 by24 ze24 sz25 ag25 by25 ze25 sz29 ag29 by29 ze29 fa29_0 fi29_0 fa29_1 fi29_1 fa29_2 fi29_2 fa29_3 fi29_3 sz30 ag30 by30 ze30 sz32 ag32 by32 ze32 fa32_0 fi32_0 fa32_1 fi32_1 fa32_2 fi32_2 fa32_3 fi32_3 sz35 ag35 by35 ze35 fa35_0 fi35_0 fa35_1 fi35_1 sz40 ag40 by40 ze40 fa40_0 fi40_0 fa40_1 fi40_1 fa40_2 fi40_2 fa40_3 fi40_3 sz42 ag42 by42 ze42 fa42_0 fi42_0 fa42_1 fi42_1 fa42_2 fi42_2 fa42_3 fi42_3 sz50 ag50 by50 ze50 sz63 ag63 by63 ze63 sz65 ag65 by65 ze65 be4 bn4 ia22 se22 sn22 ia23 se23 sn23 ia24 se24 sn24 ia25 se25 sn25 bu29 bu32 bu35 bu40 bu42 ia50 se50 sn50 ia63 se63 sn63 ia65 se65 sn65
attribute [go_sem] Try.underlying3 Try.underlying4 Try.underlying5 Try.underlying9 Try.underlying22 Try.underlying23 Try.underlying24 Try.underlying25 Try.underlying29 Try.underlying30 Try.underlying32 Try.underlying35 Try.underlying40 Try.underlying42 Try.underlying50 Try.underlying63 Try.underlying65
end Go.Proofs.Ytblhpikljhholaa.S
