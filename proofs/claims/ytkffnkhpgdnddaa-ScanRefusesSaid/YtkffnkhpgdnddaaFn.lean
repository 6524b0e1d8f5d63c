/-
  What the seat's types are, and each function's first step. No conditions.
-/
import Derived.Test.YtkffnkhpgdnddaaTab
import Derived.Test.YtkffnkhpgdnddaaNice31
import Derived.Test.YtkffnkhpgdnddaaSaysGetRuns
import Derived.Test.YtkffnkhpgdnddaaSaysScanRuns
namespace Go.Proofs.Ytkffnkhpgdnddaa.S
open Go Go.RowKit Go.Proofs.Ytkffnkhpgdnddaa.NICE
set_option maxRecDepth 100000
set_option linter.unusedSimpArgs false

theorem known_at3 : (Go.Proofs.Ytkffnkhpgdnddaa.env).known 3 [] NHeap.empty = none := by kernel_rfl
theorem known_ex3 : ∃ c, CallOk Try.prog (trueKnown 3 c) := trueKnown_ok (Checked.mixed Try.checked) Go.Proofs.Ytkffnkhpgdnddaa.env known_at3 Go.Proofs.Ytkffnkhpgdnddaa.scanRuns.says
noncomputable def runsN3 : Nat := Classical.choose known_ex3
theorem runsN3_ok : CallOk Try.prog (trueKnown 3 runsN3) := Classical.choose_spec known_ex3
theorem known_at5 : (Go.Proofs.Ytkffnkhpgdnddaa.env).known 5 [] NHeap.empty = none := by kernel_rfl
theorem known_ex5 : ∃ c, CallOk Try.prog (trueKnown 5 c) := trueKnown_ok (Checked.mixed Try.checked) Go.Proofs.Ytkffnkhpgdnddaa.env known_at5 Go.Proofs.Ytkffnkhpgdnddaa.getRuns.says
noncomputable def runsN5 : Nat := Classical.choose known_ex5
theorem runsN5_ok : CallOk Try.prog (trueKnown 5 runsN5) := Classical.choose_spec known_ex5
noncomputable def env : Env Try.prog drStatic := tab.env tab_ok (orKnown (trueKnown 5 runsN5) (orKnown (trueKnown 3 runsN3) (idxKnown 41))) (orKnown_ok runsN5_ok (orKnown_ok runsN3_ok idx_ok))
theorem runs_ok5 (h : NHeap) : ∃ h', K env 5 [] h = some (.bool true, h') ∧ Ext h h' :=
  ⟨layAll h.next (List.replicate runsN5 .dead) h, K_known (by simp [env, Tb.env, orKnown, trueKnown]), layAll_ext _ _ _⟩
theorem runs_ok3 (h : NHeap) : ∃ h', K env 3 [] h = some (.bool true, h') ∧ Ext h h' :=
  ⟨layAll h.next (List.replicate runsN3 .dead) h, K_known (by simp [env, Tb.env, orKnown, trueKnown]), layAll_ext _ _ _⟩
theorem sz3 : szOf Try.prog 3 = some 1 := by kernel_rfl
theorem ag3 : aggT Try.prog 3 = some false := by kernel_rfl
theorem by3 : bytesOf Try.prog 3 = some 8 := by kernel_rfl
theorem ze3 : zeroOf Try.prog 3 = some (.int .i64 0) := by kernel_rfl
theorem sz4 : szOf Try.prog 4 = some 1 := by kernel_rfl
theorem ag4 : aggT Try.prog 4 = some false := by kernel_rfl
theorem by4 : bytesOf Try.prog 4 = some 1 := by kernel_rfl
theorem ze4 : zeroOf Try.prog 4 = some (.bool false) := by kernel_rfl
theorem be4 (a b : Bool) : nbin Try.prog .eql 4 (.bool a) (.bool b) = some (.bool (a == b)) := bool_eql Try.underlying4 a b
theorem bn4 (a b : Bool) : nbin Try.prog .neq 4 (.bool a) (.bool b) = some (.bool !(a == b)) := bool_neq Try.underlying4 a b
theorem sz5 : szOf Try.prog 5 = some 1 := by kernel_rfl
theorem ag5 : aggT Try.prog 5 = some false := by kernel_rfl
theorem by5 : bytesOf Try.prog 5 = some 1 := by kernel_rfl
theorem ze5 : zeroOf Try.prog 5 = some (.int .u8 0) := by kernel_rfl
theorem sz9 : szOf Try.prog 9 = some 1 := by kernel_rfl
theorem ag9 : aggT Try.prog 9 = some false := by kernel_rfl
theorem by9 : bytesOf Try.prog 9 = some 16 := by kernel_rfl
theorem ze9 : zeroOf Try.prog 9 = some (.str []) := by kernel_rfl
theorem sz22 : szOf Try.prog 22 = some 1 := by kernel_rfl
theorem ag22 : aggT Try.prog 22 = some false := by kernel_rfl
theorem by22 : bytesOf Try.prog 22 = some 8 := by kernel_rfl
theorem ze22 : zeroOf Try.prog 22 = some (.ptr none) := by kernel_rfl
theorem pe22 (a) : nbin Try.prog .eql 22 (.ptr a) (.ptr none) = some (.bool a.isNone) := ptr_eql Try.underlying22 a
theorem pn22 (a) : nbin Try.prog .neq 22 (.ptr a) (.ptr none) = some (.bool !a.isNone) := ptr_neq Try.underlying22 a
theorem sz23 : szOf Try.prog 23 = some 1 := by kernel_rfl
theorem ag23 : aggT Try.prog 23 = some false := by kernel_rfl
theorem by23 : bytesOf Try.prog 23 = some 8 := by kernel_rfl
theorem ze23 : zeroOf Try.prog 23 = some (.int .i64 0) := by kernel_rfl
theorem sz27 : szOf Try.prog 27 = some 4 := by kernel_rfl
theorem ag27 : aggT Try.prog 27 = some true := by kernel_rfl
theorem by27 : bytesOf Try.prog 27 = some 48 := by kernel_rfl
theorem ze27 : zeroOf Try.prog 27 = some (.agg [(.int .i64 0), (.str []), (.str []), (.int .i64 0)]) := by kernel_rfl
theorem fa27_0 (b o : Nat) : nfieldAddr Try.prog 27 (.ptr (some (b, o))) 0 = some (.ptr (some (b, o))) := by kernel_rfl
theorem fa27_1 (b o : Nat) : nfieldAddr Try.prog 27 (.ptr (some (b, o))) 1 = some (.ptr (some (b, o + 1))) := by kernel_rfl
theorem fa27_2 (b o : Nat) : nfieldAddr Try.prog 27 (.ptr (some (b, o))) 2 = some (.ptr (some (b, o + 2))) := by kernel_rfl
theorem fa27_3 (b o : Nat) : nfieldAddr Try.prog 27 (.ptr (some (b, o))) 3 = some (.ptr (some (b, o + 3))) := by kernel_rfl
theorem sz28 : szOf Try.prog 28 = some 1 := by kernel_rfl
theorem ag28 : aggT Try.prog 28 = some false := by kernel_rfl
theorem by28 : bytesOf Try.prog 28 = some 8 := by kernel_rfl
theorem ze28 : zeroOf Try.prog 28 = some (.int .u64 0) := by kernel_rfl
theorem sz29 : szOf Try.prog 29 = some 1 := by kernel_rfl
theorem ag29 : aggT Try.prog 29 = some false := by kernel_rfl
theorem by29 : bytesOf Try.prog 29 = some 24 := by kernel_rfl
theorem ze29 : zeroOf Try.prog 29 = some (.slice none 0 0 none) := by kernel_rfl
theorem sz31 : szOf Try.prog 31 = some 6 := by kernel_rfl
theorem ag31 : aggT Try.prog 31 = some true := by kernel_rfl
theorem by31 : bytesOf Try.prog 31 = some 64 := by kernel_rfl
theorem ze31 : zeroOf Try.prog 31 = some (.agg [(.int .i64 0), (.int .i64 0), (.int .i64 0), (.int .i64 0), (.int .u64 0), (.slice none 0 0 none)]) := by kernel_rfl
theorem fa31_0 (b o : Nat) : nfieldAddr Try.prog 31 (.ptr (some (b, o))) 0 = some (.ptr (some (b, o))) := by kernel_rfl
theorem fa31_1 (b o : Nat) : nfieldAddr Try.prog 31 (.ptr (some (b, o))) 1 = some (.ptr (some (b, o + 1))) := by kernel_rfl
theorem fa31_2 (b o : Nat) : nfieldAddr Try.prog 31 (.ptr (some (b, o))) 2 = some (.ptr (some (b, o + 2))) := by kernel_rfl
theorem fa31_3 (b o : Nat) : nfieldAddr Try.prog 31 (.ptr (some (b, o))) 3 = some (.ptr (some (b, o + 3))) := by kernel_rfl
theorem fa31_4 (b o : Nat) : nfieldAddr Try.prog 31 (.ptr (some (b, o))) 4 = some (.ptr (some (b, o + 4))) := by kernel_rfl
theorem fa31_5 (b o : Nat) : nfieldAddr Try.prog 31 (.ptr (some (b, o))) 5 = some (.ptr (some (b, o + 5))) := by kernel_rfl
theorem sz36 : szOf Try.prog 36 = some 4 := by kernel_rfl
theorem ag36 : aggT Try.prog 36 = some true := by kernel_rfl
theorem by36 : bytesOf Try.prog 36 = some 48 := by kernel_rfl
theorem ze36 : zeroOf Try.prog 36 = some (.agg [(.int .i64 0), (.int .i64 0), (.bool false), (.slice none 0 0 none)]) := by kernel_rfl
theorem fa36_0 (b o : Nat) : nfieldAddr Try.prog 36 (.ptr (some (b, o))) 0 = some (.ptr (some (b, o))) := by kernel_rfl
theorem fa36_1 (b o : Nat) : nfieldAddr Try.prog 36 (.ptr (some (b, o))) 1 = some (.ptr (some (b, o + 1))) := by kernel_rfl
theorem fa36_2 (b o : Nat) : nfieldAddr Try.prog 36 (.ptr (some (b, o))) 2 = some (.ptr (some (b, o + 2))) := by kernel_rfl
theorem fa36_3 (b o : Nat) : nfieldAddr Try.prog 36 (.ptr (some (b, o))) 3 = some (.ptr (some (b, o + 3))) := by kernel_rfl
theorem sz38 : szOf Try.prog 38 = some 1 := by kernel_rfl
theorem ag38 : aggT Try.prog 38 = some false := by kernel_rfl
theorem by38 : bytesOf Try.prog 38 = some 24 := by kernel_rfl
theorem ze38 : zeroOf Try.prog 38 = some (.slice none 0 0 none) := by kernel_rfl
theorem sz39 : szOf Try.prog 39 = some 1 := by kernel_rfl
theorem ag39 : aggT Try.prog 39 = some false := by kernel_rfl
theorem by39 : bytesOf Try.prog 39 = some 24 := by kernel_rfl
theorem ze39 : zeroOf Try.prog 39 = some (.slice none 0 0 none) := by kernel_rfl
theorem sz41 : szOf Try.prog 41 = some 5 := by kernel_rfl
theorem ag41 : aggT Try.prog 41 = some true := by kernel_rfl
theorem by41 : bytesOf Try.prog 41 = some 80 := by kernel_rfl
theorem ze41 : zeroOf Try.prog 41 = some (.agg [(.int .i64 0), (.int .u64 0), (.str []), (.slice none 0 0 none), (.slice none 0 0 none)]) := by kernel_rfl
theorem fa41_0 (b o : Nat) : nfieldAddr Try.prog 41 (.ptr (some (b, o))) 0 = some (.ptr (some (b, o))) := by kernel_rfl
theorem fa41_1 (b o : Nat) : nfieldAddr Try.prog 41 (.ptr (some (b, o))) 1 = some (.ptr (some (b, o + 1))) := by kernel_rfl
theorem fa41_2 (b o : Nat) : nfieldAddr Try.prog 41 (.ptr (some (b, o))) 2 = some (.ptr (some (b, o + 2))) := by kernel_rfl
theorem fa41_3 (b o : Nat) : nfieldAddr Try.prog 41 (.ptr (some (b, o))) 3 = some (.ptr (some (b, o + 3))) := by kernel_rfl
theorem fa41_4 (b o : Nat) : nfieldAddr Try.prog 41 (.ptr (some (b, o))) 4 = some (.ptr (some (b, o + 4))) := by kernel_rfl
theorem sz43 : szOf Try.prog 43 = some 1 := by kernel_rfl
theorem ag43 : aggT Try.prog 43 = some false := by kernel_rfl
theorem by43 : bytesOf Try.prog 43 = some 24 := by kernel_rfl
theorem ze43 : zeroOf Try.prog 43 = some (.slice none 0 0 none) := by kernel_rfl
theorem sz45 : szOf Try.prog 45 = some 4 := by kernel_rfl
theorem ag45 : aggT Try.prog 45 = some true := by kernel_rfl
theorem by45 : bytesOf Try.prog 45 = some 48 := by kernel_rfl
theorem ze45 : zeroOf Try.prog 45 = some (.agg [(.int .i64 0), (.bool false), (.int .i64 0), (.slice none 0 0 none)]) := by kernel_rfl
theorem fa45_0 (b o : Nat) : nfieldAddr Try.prog 45 (.ptr (some (b, o))) 0 = some (.ptr (some (b, o))) := by kernel_rfl
theorem fa45_1 (b o : Nat) : nfieldAddr Try.prog 45 (.ptr (some (b, o))) 1 = some (.ptr (some (b, o + 1))) := by kernel_rfl
theorem fa45_2 (b o : Nat) : nfieldAddr Try.prog 45 (.ptr (some (b, o))) 2 = some (.ptr (some (b, o + 2))) := by kernel_rfl
theorem fa45_3 (b o : Nat) : nfieldAddr Try.prog 45 (.ptr (some (b, o))) 3 = some (.ptr (some (b, o + 3))) := by kernel_rfl
theorem sz50 : szOf Try.prog 50 = some 1 := by kernel_rfl
theorem ag50 : aggT Try.prog 50 = some false := by kernel_rfl
theorem by50 : bytesOf Try.prog 50 = some 8 := by kernel_rfl
theorem ze50 : zeroOf Try.prog 50 = some (.ptr none) := by kernel_rfl
theorem pe50 (a) : nbin Try.prog .eql 50 (.ptr a) (.ptr none) = some (.bool a.isNone) := ptr_eql Try.underlying50 a
theorem pn50 (a) : nbin Try.prog .neq 50 (.ptr a) (.ptr none) = some (.bool !a.isNone) := ptr_neq Try.underlying50 a
theorem sz54 : szOf Try.prog 54 = some 1 := by kernel_rfl
theorem ag54 : aggT Try.prog 54 = some false := by kernel_rfl
theorem by54 : bytesOf Try.prog 54 = some 8 := by kernel_rfl
theorem ze54 : zeroOf Try.prog 54 = some .nilFunc := by kernel_rfl
theorem sz55 : szOf Try.prog 55 = some 1 := by kernel_rfl
theorem ag55 : aggT Try.prog 55 = some false := by kernel_rfl
theorem by55 : bytesOf Try.prog 55 = some 24 := by kernel_rfl
theorem ze55 : zeroOf Try.prog 55 = some (.slice none 0 0 none) := by kernel_rfl
theorem sz57 : szOf Try.prog 57 = some 18 := by kernel_rfl
theorem ag57 : aggT Try.prog 57 = some true := by kernel_rfl
theorem by57 : bytesOf Try.prog 57 = some 216 := by kernel_rfl
theorem ze57 : zeroOf Try.prog 57 = some (.agg ([(.str []), (.str [])] ++ List.replicate 6 (.int .i64 0) ++ [(.int .u64 0), (.slice none 0 0 none), .nilFunc, (.str []), (.slice none 0 0 none), (.bool false), (.int .i64 0), (.bool false), (.int .i64 0), (.slice none 0 0 none)])) := by kernel_rfl
theorem fa57_0 (b o : Nat) : nfieldAddr Try.prog 57 (.ptr (some (b, o))) 0 = some (.ptr (some (b, o))) := by kernel_rfl
theorem fa57_1 (b o : Nat) : nfieldAddr Try.prog 57 (.ptr (some (b, o))) 1 = some (.ptr (some (b, o + 1))) := by kernel_rfl
theorem fa57_2 (b o : Nat) : nfieldAddr Try.prog 57 (.ptr (some (b, o))) 2 = some (.ptr (some (b, o + 2))) := by kernel_rfl
theorem fa57_3 (b o : Nat) : nfieldAddr Try.prog 57 (.ptr (some (b, o))) 3 = some (.ptr (some (b, o + 3))) := by kernel_rfl
theorem fa57_4 (b o : Nat) : nfieldAddr Try.prog 57 (.ptr (some (b, o))) 4 = some (.ptr (some (b, o + 4))) := by kernel_rfl
theorem fa57_5 (b o : Nat) : nfieldAddr Try.prog 57 (.ptr (some (b, o))) 5 = some (.ptr (some (b, o + 10))) := by kernel_rfl
theorem fa57_6 (b o : Nat) : nfieldAddr Try.prog 57 (.ptr (some (b, o))) 6 = some (.ptr (some (b, o + 11))) := by kernel_rfl
theorem fa57_7 (b o : Nat) : nfieldAddr Try.prog 57 (.ptr (some (b, o))) 7 = some (.ptr (some (b, o + 12))) := by kernel_rfl
theorem fa57_8 (b o : Nat) : nfieldAddr Try.prog 57 (.ptr (some (b, o))) 8 = some (.ptr (some (b, o + 13))) := by kernel_rfl
theorem fa57_9 (b o : Nat) : nfieldAddr Try.prog 57 (.ptr (some (b, o))) 9 = some (.ptr (some (b, o + 14))) := by kernel_rfl
theorem sz63 : szOf Try.prog 63 = some 2 := by kernel_rfl
theorem ag63 : aggT Try.prog 63 = some true := by kernel_rfl
theorem by63 : bytesOf Try.prog 63 = some 24 := by kernel_rfl
theorem ze63 : zeroOf Try.prog 63 = some (.agg [(.str []), (.int .i64 0)]) := by kernel_rfl
theorem fa63_0 (b o : Nat) : nfieldAddr Try.prog 63 (.ptr (some (b, o))) 0 = some (.ptr (some (b, o))) := by kernel_rfl
theorem fa63_1 (b o : Nat) : nfieldAddr Try.prog 63 (.ptr (some (b, o))) 1 = some (.ptr (some (b, o + 1))) := by kernel_rfl
theorem sz65 : szOf Try.prog 65 = some 1 := by kernel_rfl
theorem ag65 : aggT Try.prog 65 = some false := by kernel_rfl
theorem by65 : bytesOf Try.prog 65 = some 8 := by kernel_rfl
theorem ze65 : zeroOf Try.prog 65 = some .nilFunc := by kernel_rfl
theorem sz67 : szOf Try.prog 67 = some 17 := by kernel_rfl
theorem ag67 : aggT Try.prog 67 = some true := by kernel_rfl
theorem by67 : bytesOf Try.prog 67 = some 176 := by kernel_rfl
theorem ze67 : zeroOf Try.prog 67 = some (.agg [(.str []), (.str []), (.int .i64 0), (.int .i64 0), (.int .i64 0), (.int .i64 0), (.int .i64 0), (.int .u64 0), (.slice none 0 0 none), .nilFunc, (.int .i64 0), (.bool false), (.bool false), (.int .i64 0), (.bool false), (.int .i64 0), (.slice none 0 0 none)]) := by kernel_rfl
theorem fa67_0 (b o : Nat) : nfieldAddr Try.prog 67 (.ptr (some (b, o))) 0 = some (.ptr (some (b, o))) := by kernel_rfl
theorem fa67_1 (b o : Nat) : nfieldAddr Try.prog 67 (.ptr (some (b, o))) 1 = some (.ptr (some (b, o + 1))) := by kernel_rfl
theorem fa67_2 (b o : Nat) : nfieldAddr Try.prog 67 (.ptr (some (b, o))) 2 = some (.ptr (some (b, o + 2))) := by kernel_rfl
theorem fa67_3 (b o : Nat) : nfieldAddr Try.prog 67 (.ptr (some (b, o))) 3 = some (.ptr (some (b, o + 3))) := by kernel_rfl
theorem fa67_4 (b o : Nat) : nfieldAddr Try.prog 67 (.ptr (some (b, o))) 4 = some (.ptr (some (b, o + 9))) := by kernel_rfl
theorem fa67_5 (b o : Nat) : nfieldAddr Try.prog 67 (.ptr (some (b, o))) 5 = some (.ptr (some (b, o + 10))) := by kernel_rfl
theorem fa67_6 (b o : Nat) : nfieldAddr Try.prog 67 (.ptr (some (b, o))) 6 = some (.ptr (some (b, o + 11))) := by kernel_rfl
theorem fa67_7 (b o : Nat) : nfieldAddr Try.prog 67 (.ptr (some (b, o))) 7 = some (.ptr (some (b, o + 12))) := by kernel_rfl
theorem fa67_8 (b o : Nat) : nfieldAddr Try.prog 67 (.ptr (some (b, o))) 8 = some (.ptr (some (b, o + 13))) := by kernel_rfl
theorem sz72 : szOf Try.prog 72 = some 1 := by kernel_rfl
theorem ag72 : aggT Try.prog 72 = some false := by kernel_rfl
theorem by72 : bytesOf Try.prog 72 = some 8 := by kernel_rfl
theorem ze72 : zeroOf Try.prog 72 = some (.int .u64 0) := by kernel_rfl
theorem sz81 : szOf Try.prog 81 = some 7 := by kernel_rfl
theorem ag81 : aggT Try.prog 81 = some true := by kernel_rfl
theorem by81 : bytesOf Try.prog 81 = some 104 := by kernel_rfl
theorem ze81 : zeroOf Try.prog 81 = some (.agg [(.int .i64 0), (.int .u64 0), (.str []), (.slice none 0 0 none), (.slice none 0 0 none), (.str []), (.int .i64 0)]) := by kernel_rfl
theorem fa81_0 (b o : Nat) : nfieldAddr Try.prog 81 (.ptr (some (b, o))) 0 = some (.ptr (some (b, o))) := by kernel_rfl
theorem fa81_1 (b o : Nat) : nfieldAddr Try.prog 81 (.ptr (some (b, o))) 1 = some (.ptr (some (b, o + 5))) := by kernel_rfl
theorem fa81_2 (b o : Nat) : nfieldAddr Try.prog 81 (.ptr (some (b, o))) 2 = some (.ptr (some (b, o + 6))) := by kernel_rfl
theorem sz98 : szOf Try.prog 98 = some 2 := by kernel_rfl
theorem ag98 : aggT Try.prog 98 = some true := by kernel_rfl
theorem by98 : bytesOf Try.prog 98 = some 24 := by kernel_rfl
theorem ze98 : zeroOf Try.prog 98 = some (.agg [(.str []), (.int .i64 0)]) := by kernel_rfl
theorem fa98_0 (b o : Nat) : nfieldAddr Try.prog 98 (.ptr (some (b, o))) 0 = some (.ptr (some (b, o))) := by kernel_rfl
theorem fa98_1 (b o : Nat) : nfieldAddr Try.prog 98 (.ptr (some (b, o))) 1 = some (.ptr (some (b, o + 1))) := by kernel_rfl
theorem bu27 (l : List (Nat × NVal)) : kBuild Try.prog 27 (some l) = (match nfill (fun i => ([(0, 1), (1, 1), (2, 1), (3, 1)] : List (Nat × Nat))[i]?) [(.int .i64 0), (.str []), (.str []), (.int .i64 0)] l with | none => none | some cs => some (.agg cs)) := kBuild_struct ze27 Try.underlying27 (by kernel_rfl) l
theorem ia29 (b o n c : Nat) (x k) (i : Int) (h0 : 0 ≤ i) (h1 : i < (n : Int)) : nindexAddr Try.prog 29 (.slice (some (b, o)) n c x) (.int k i) = some (.ptr (some (b, o + i.toNat * 1))) := indexAddr_slice Try.underlying29 sz28 b o n c x k i h0 h1
theorem se29 (a n c x) : nbin Try.prog .eql 29 (.slice a n c x) (.slice none 0 0 none) = some (.bool a.isNone) := slice_eql Try.underlying29 a n c x
theorem sn29 (a n c x) : nbin Try.prog .neq 29 (.slice a n c x) (.slice none 0 0 none) = some (.bool !a.isNone) := slice_neq Try.underlying29 a n c x
theorem bu31 (l : List (Nat × NVal)) : kBuild Try.prog 31 (some l) = (match nfill (fun i => ([(0, 1), (1, 1), (2, 1), (3, 1), (4, 1), (5, 1)] : List (Nat × Nat))[i]?) [(.int .i64 0), (.int .i64 0), (.int .i64 0), (.int .i64 0), (.int .u64 0), (.slice none 0 0 none)] l with | none => none | some cs => some (.agg cs)) := kBuild_struct ze31 Try.underlying31 (by kernel_rfl) l
theorem bu36 (l : List (Nat × NVal)) : kBuild Try.prog 36 (some l) = (match nfill (fun i => ([(0, 1), (1, 1), (2, 1), (3, 1)] : List (Nat × Nat))[i]?) [(.int .i64 0), (.int .i64 0), (.bool false), (.slice none 0 0 none)] l with | none => none | some cs => some (.agg cs)) := kBuild_struct ze36 Try.underlying36 (by kernel_rfl) l
theorem ia38 (b o n c : Nat) (x k) (i : Int) (h0 : 0 ≤ i) (h1 : i < (n : Int)) : nindexAddr Try.prog 38 (.slice (some (b, o)) n c x) (.int k i) = some (.ptr (some (b, o + i.toNat * 1))) := indexAddr_slice Try.underlying38 sz5 b o n c x k i h0 h1
theorem se38 (a n c x) : nbin Try.prog .eql 38 (.slice a n c x) (.slice none 0 0 none) = some (.bool a.isNone) := slice_eql Try.underlying38 a n c x
theorem sn38 (a n c x) : nbin Try.prog .neq 38 (.slice a n c x) (.slice none 0 0 none) = some (.bool !a.isNone) := slice_neq Try.underlying38 a n c x
theorem ia39 (b o n c : Nat) (x k) (i : Int) (h0 : 0 ≤ i) (h1 : i < (n : Int)) : nindexAddr Try.prog 39 (.slice (some (b, o)) n c x) (.int k i) = some (.ptr (some (b, o + i.toNat * 1))) := indexAddr_slice Try.underlying39 sz3 b o n c x k i h0 h1
theorem se39 (a n c x) : nbin Try.prog .eql 39 (.slice a n c x) (.slice none 0 0 none) = some (.bool a.isNone) := slice_eql Try.underlying39 a n c x
theorem sn39 (a n c x) : nbin Try.prog .neq 39 (.slice a n c x) (.slice none 0 0 none) = some (.bool !a.isNone) := slice_neq Try.underlying39 a n c x
theorem bu41 (l : List (Nat × NVal)) : kBuild Try.prog 41 (some l) = (match nfill (fun i => ([(0, 1), (1, 1), (2, 1), (3, 1), (4, 1)] : List (Nat × Nat))[i]?) [(.int .i64 0), (.int .u64 0), (.str []), (.slice none 0 0 none), (.slice none 0 0 none)] l with | none => none | some cs => some (.agg cs)) := kBuild_struct ze41 Try.underlying41 (by kernel_rfl) l
theorem ia43 (b o n c : Nat) (x k) (i : Int) (h0 : 0 ≤ i) (h1 : i < (n : Int)) : nindexAddr Try.prog 43 (.slice (some (b, o)) n c x) (.int k i) = some (.ptr (some (b, o + i.toNat * 2))) := indexAddr_slice Try.underlying43 sz63 b o n c x k i h0 h1
theorem se43 (a n c x) : nbin Try.prog .eql 43 (.slice a n c x) (.slice none 0 0 none) = some (.bool a.isNone) := slice_eql Try.underlying43 a n c x
theorem sn43 (a n c x) : nbin Try.prog .neq 43 (.slice a n c x) (.slice none 0 0 none) = some (.bool !a.isNone) := slice_neq Try.underlying43 a n c x
theorem bu45 (l : List (Nat × NVal)) : kBuild Try.prog 45 (some l) = (match nfill (fun i => ([(0, 1), (1, 1), (2, 1), (3, 1)] : List (Nat × Nat))[i]?) [(.int .i64 0), (.bool false), (.int .i64 0), (.slice none 0 0 none)] l with | none => none | some cs => some (.agg cs)) := kBuild_struct ze45 Try.underlying45 (by kernel_rfl) l
theorem ia55 (b o n c : Nat) (x k) (i : Int) (h0 : 0 ≤ i) (h1 : i < (n : Int)) : nindexAddr Try.prog 55 (.slice (some (b, o)) n c x) (.int k i) = some (.ptr (some (b, o + i.toNat * 7))) := indexAddr_slice Try.underlying55 sz81 b o n c x k i h0 h1
theorem se55 (a n c x) : nbin Try.prog .eql 55 (.slice a n c x) (.slice none 0 0 none) = some (.bool a.isNone) := slice_eql Try.underlying55 a n c x
theorem sn55 (a n c x) : nbin Try.prog .neq 55 (.slice a n c x) (.slice none 0 0 none) = some (.bool !a.isNone) := slice_neq Try.underlying55 a n c x
theorem bu57 (l : List (Nat × NVal)) : kBuild Try.prog 57 (some l) = (match nfill (fun i => ([(0, 1), (1, 1), (2, 1), (3, 1), (4, 6), (10, 1), (11, 1), (12, 1), (13, 1), (14, 4)] : List (Nat × Nat))[i]?) ([(.str []), (.str [])] ++ List.replicate 6 (.int .i64 0) ++ [(.int .u64 0), (.slice none 0 0 none), .nilFunc, (.str []), (.slice none 0 0 none), (.bool false), (.int .i64 0), (.bool false), (.int .i64 0), (.slice none 0 0 none)]) l with | none => none | some cs => some (.agg cs)) := kBuild_struct ze57 Try.underlying57 (by kernel_rfl) l
theorem bu63 (l : List (Nat × NVal)) : kBuild Try.prog 63 (some l) = (match nfill (fun i => ([(0, 1), (1, 1)] : List (Nat × Nat))[i]?) [(.str []), (.int .i64 0)] l with | none => none | some cs => some (.agg cs)) := kBuild_struct ze63 Try.underlying63 (by kernel_rfl) l
theorem bu67 (l : List (Nat × NVal)) : kBuild Try.prog 67 (some l) = (match nfill (fun i => ([(0, 1), (1, 1), (2, 1), (3, 6), (9, 1), (10, 1), (11, 1), (12, 1), (13, 4)] : List (Nat × Nat))[i]?) [(.str []), (.str []), (.int .i64 0), (.int .i64 0), (.int .i64 0), (.int .i64 0), (.int .i64 0), (.int .u64 0), (.slice none 0 0 none), .nilFunc, (.int .i64 0), (.bool false), (.bool false), (.int .i64 0), (.bool false), (.int .i64 0), (.slice none 0 0 none)] l with | none => none | some cs => some (.agg cs)) := kBuild_struct ze67 Try.underlying67 (by kernel_rfl) l
theorem bu81 (l : List (Nat × NVal)) : kBuild Try.prog 81 (some l) = (match nfill (fun i => ([(0, 5), (5, 1), (6, 1)] : List (Nat × Nat))[i]?) [(.int .i64 0), (.int .u64 0), (.str []), (.slice none 0 0 none), (.slice none 0 0 none), (.str []), (.int .i64 0)] l with | none => none | some cs => some (.agg cs)) := kBuild_struct ze81 Try.underlying81 (by kernel_rfl) l
theorem bu98 (l : List (Nat × NVal)) : kBuild Try.prog 98 (some l) = (match nfill (fun i => ([(0, 1), (1, 1)] : List (Nat × Nat))[i]?) [(.str []), (.int .i64 0)] l with | none => none | some cs => some (.agg cs)) := kBuild_struct ze98 Try.underlying98 (by kernel_rfl) l

theorem k2 (l : List NVal) (h : NHeap) : K env 2 l h = outF Try.prog [] (C env (bodyOf Try.f2) (l ++ List.replicate (1 - l.length) nundef) h) := K_body rfl (by kernel_rfl)
theorem k4 (l : List NVal) (h : NHeap) : K env 4 l h = outF Try.prog [.tmp 8] (C env (bodyOf Try.f4) (l ++ List.replicate (80 - l.length) nundef) h) := K_body rfl (by kernel_rfl)
theorem k6 (l : List NVal) (h : NHeap) : K env 6 l h = outF Try.prog [.tmp 8] (C env (bodyOf Try.f6) (l ++ List.replicate (80 - l.length) nundef) h) := K_body rfl (by kernel_rfl)
theorem k7 (l : List NVal) (h : NHeap) : K env 7 l h = outF Try.prog [.tmp 4, .tmp 5] (C env (bodyOf Try.f7) (l ++ List.replicate (45 - l.length) nundef) h) := K_body rfl (by kernel_rfl)
theorem k8 (l : List NVal) (h : NHeap) : K env 8 l h = outF Try.prog [.cell 2 31, .tmp 3] (C env (bodyOf Try.f8) (l ++ List.replicate (14 - l.length) nundef) h) := K_body rfl (by kernel_rfl)
theorem k9 (l : List NVal) (h : NHeap) : K env 9 l h = outF Try.prog [] (C env (bodyOf Try.f9) (l ++ List.replicate (19 - l.length) nundef) h) := K_body rfl (by kernel_rfl)
theorem k10 (l : List NVal) (h : NHeap) : K env 10 l h = outF Try.prog [.tmp 2] (C env (bodyOf Try.f10) (l ++ List.replicate (133 - l.length) nundef) h) := K_body rfl (by kernel_rfl)
theorem k11 (l : List NVal) (h : NHeap) : K env 11 l h = outF Try.prog [.tmp 2] (C env (bodyOf Try.f11) (l ++ List.replicate (7 - l.length) nundef) h) := K_body rfl (by kernel_rfl)
theorem k12 (l : List NVal) (h : NHeap) : K env 12 l h = outF Try.prog [.cell 2 45, .tmp 3] (C env (bodyOf Try.f12) (l ++ List.replicate (20 - l.length) nundef) h) := K_body rfl (by kernel_rfl)
theorem k13 (l : List NVal) (h : NHeap) : K env 13 l h = outF Try.prog [.tmp 6] (C env (bodyOf Try.f13) (l ++ List.replicate (24 - l.length) nundef) h) := K_body rfl (by kernel_rfl)
theorem k14 (l : List NVal) (h : NHeap) : K env 14 l h = outF Try.prog [.tmp 4, .tmp 5] (C env (bodyOf Try.f14) (l ++ List.replicate (36 - l.length) nundef) h) := K_body rfl (by kernel_rfl)
theorem k15 (l : List NVal) (h : NHeap) : K env 15 l h = outF Try.prog [.cell 2 31, .tmp 3] (C env (bodyOf Try.f15) (l ++ List.replicate (14 - l.length) nundef) h) := K_body rfl (by kernel_rfl)
theorem k16 (l : List NVal) (h : NHeap) : K env 16 l h = outF Try.prog [] (C env (bodyOf Try.f16) (l ++ List.replicate (19 - l.length) nundef) h) := K_body rfl (by kernel_rfl)
theorem k17 (l : List NVal) (h : NHeap) : K env 17 l h = outF Try.prog [.tmp 2] (C env (bodyOf Try.f17) (l ++ List.replicate (7 - l.length) nundef) h) := K_body rfl (by kernel_rfl)
theorem k18 (l : List NVal) (h : NHeap) : K env 18 l h = outF Try.prog [.cell 2 45, .tmp 3] (C env (bodyOf Try.f18) (l ++ List.replicate (14 - l.length) nundef) h) := K_body rfl (by kernel_rfl)
theorem k19 (l : List NVal) (h : NHeap) : K env 19 l h = outF Try.prog [.tmp 2] (C env (bodyOf Try.f19) (l ++ List.replicate (22 - l.length) nundef) h) := K_body rfl (by kernel_rfl)
theorem k20 (l : List NVal) (h : NHeap) : K env 20 l h = outF Try.prog [] (C env (bodyOf Try.f20) (l ++ List.replicate (14 - l.length) nundef) h) := K_body rfl (by kernel_rfl)
theorem k21 (l : List NVal) (h : NHeap) : K env 21 l h = outF Try.prog [] (C env (bodyOf Try.f21) (l ++ List.replicate (9 - l.length) nundef) h) := K_body rfl (by kernel_rfl)
theorem k22 (l : List NVal) (h : NHeap) : K env 22 l h = outF Try.prog [.tmp 2] (C env (bodyOf Try.f22) (l ++ List.replicate (84 - l.length) nundef) h) := K_body rfl (by kernel_rfl)
theorem k23 (l : List NVal) (h : NHeap) : K env 23 l h = outF Try.prog [.tmp 2] (C env (bodyOf Try.f23) (l ++ List.replicate (36 - l.length) nundef) h) := K_body rfl (by kernel_rfl)
theorem k24 (l : List NVal) (h : NHeap) : K env 24 l h = outF Try.prog [.tmp 2] (C env (bodyOf Try.f24) (l ++ List.replicate (35 - l.length) nundef) h) := K_body rfl (by kernel_rfl)
theorem k25 (l : List NVal) (h : NHeap) : K env 25 l h = outF Try.prog [.tmp 2] (C env (bodyOf Try.f25) (l ++ List.replicate (8 - l.length) nundef) h) := K_body rfl (by kernel_rfl)
theorem k26 (l : List NVal) (h : NHeap) : K env 26 l h = outF Try.prog [.tmp 2] (C env (bodyOf Try.f26) (l ++ List.replicate (15 - l.length) nundef) h) := K_body rfl (by kernel_rfl)
theorem k27 (l : List NVal) (h : NHeap) : K env 27 l h = outF Try.prog [.tmp 2] (C env (bodyOf Try.f27) (l ++ List.replicate (8 - l.length) nundef) h) := K_body rfl (by kernel_rfl)
theorem k28 (l : List NVal) (h : NHeap) : K env 28 l h = outF Try.prog [] (C env (bodyOf Try.f28) (l ++ List.replicate (14 - l.length) nundef) h) := K_body rfl (by kernel_rfl)
theorem k29 (l : List NVal) (h : NHeap) : K env 29 l h = outF Try.prog [] (C env (bodyOf Try.f29) (l ++ List.replicate (9 - l.length) nundef) h) := K_body rfl (by kernel_rfl)
theorem k30 (l : List NVal) (h : NHeap) : K env 30 l h = outF Try.prog [] (C env (bodyOf Try.f30) (l ++ List.replicate (6 - l.length) nundef) h) := K_body rfl (by kernel_rfl)
theorem k31 (l : List NVal) (h : NHeap) : K env 31 l h = outF Try.prog [.tmp 2] (C env (bodyOf Try.f31) (l ++ List.replicate (12 - l.length) nundef) h) := K_body rfl (by kernel_rfl)
theorem k32 (l : List NVal) (h : NHeap) : K env 32 l h = outF Try.prog [.tmp 2, .tmp 3, .tmp 4, .tmp 5] (C env (bodyOf Try.f32) (l ++ List.replicate (29 - l.length) nundef) h) := K_body rfl (by kernel_rfl)
theorem k33 (l : List NVal) (h : NHeap) : K env 33 l h = outF Try.prog [.tmp 2] (C env (bodyOf Try.f33) (l ++ List.replicate (14 - l.length) nundef) h) := K_body rfl (by kernel_rfl)
theorem k34 (l : List NVal) (h : NHeap) : K env 34 l h = outF Try.prog [.tmp 4] (C env (bodyOf Try.f34) (l ++ List.replicate (8 - l.length) nundef) h) := K_body rfl (by kernel_rfl)
theorem k35 (l : List NVal) (h : NHeap) : K env 35 l h = outF Try.prog [] (C env (bodyOf Try.f35) (l ++ List.replicate (6 - l.length) nundef) h) := K_body rfl (by kernel_rfl)
theorem k36 (l : List NVal) (h : NHeap) : K env 36 l h = outF Try.prog [] (C env (bodyOf Try.f36) (l ++ List.replicate (15 - l.length) nundef) h) := K_body rfl (by kernel_rfl)
theorem k37 (l : List NVal) (h : NHeap) : K env 37 l h = outF Try.prog [.tmp 6] (C env (bodyOf Try.f37) (l ++ List.replicate (30 - l.length) nundef) h) := K_body rfl (by kernel_rfl)
theorem k38 (l : List NVal) (h : NHeap) : K env 38 l h = outF Try.prog [.tmp 4] (C env (bodyOf Try.f38) (l ++ List.replicate (8 - l.length) nundef) h) := K_body rfl (by kernel_rfl)
theorem k39 (l : List NVal) (h : NHeap) : K env 39 l h = outF Try.prog [] (C env (bodyOf Try.f39) (l ++ List.replicate (15 - l.length) nundef) h) := K_body rfl (by kernel_rfl)
theorem k40 (l : List NVal) (h : NHeap) : K env 40 l h = outF Try.prog [] (C env (bodyOf Try.f40) (l ++ List.replicate (55 - l.length) nundef) h) := K_body rfl (by kernel_rfl)
theorem k42 (l : List NVal) (h : NHeap) : K env 42 l h = outF Try.prog [] (C env (bodyOf Try.f42) (l ++ List.replicate (15 - l.length) nundef) h) := K_body rfl (by kernel_rfl)
theorem k43 (l : List NVal) (h : NHeap) : K env 43 l h = outF Try.prog [] (C env (bodyOf Try.f43) (l ++ List.replicate (38 - l.length) nundef) h) := K_body rfl (by kernel_rfl)
theorem k44 (l : List NVal) (h : NHeap) : K env 44 l h = outF Try.prog [.cell 2 41, .tmp 3] (C env (bodyOf Try.f44) (l ++ List.replicate (108 - l.length) nundef) h) := K_body rfl (by kernel_rfl)
theorem k45 (l : List NVal) (h : NHeap) : K env 45 l h = outF Try.prog [] (C env (bodyOf Try.f45) (l ++ List.replicate (11 - l.length) nundef) h) := K_body rfl (by kernel_rfl)
theorem k46 (l : List NVal) (h : NHeap) : K env 46 l h = outF Try.prog [.tmp 2] (C env (bodyOf Try.f46) (l ++ List.replicate (6 - l.length) nundef) h) := K_body rfl (by kernel_rfl)
theorem k47 (l : List NVal) (h : NHeap) : K env 47 l h = outF Try.prog [.tmp 2] (C env (bodyOf Try.f47) (l ++ List.replicate (6 - l.length) nundef) h) := K_body rfl (by kernel_rfl)
theorem k48 (l : List NVal) (h : NHeap) : K env 48 l h = outF Try.prog [] (C env (bodyOf Try.f48) (l ++ List.replicate (57 - l.length) nundef) h) := K_body rfl (by kernel_rfl)
theorem k49 (l : List NVal) (h : NHeap) : K env 49 l h = outF Try.prog [] (C env (bodyOf Try.f49) (l ++ List.replicate (10 - l.length) nundef) h) := K_body rfl (by kernel_rfl)
theorem k50 (l : List NVal) (h : NHeap) : K env 50 l h = outF Try.prog [] (C env (bodyOf Try.f50) (l ++ List.replicate (81 - l.length) nundef) h) := K_body rfl (by kernel_rfl)
theorem k51 (l : List NVal) (h : NHeap) : K env 51 l h = outF Try.prog [.tmp 2] (C env (bodyOf Try.f51) (l ++ List.replicate (12 - l.length) nundef) h) := K_body rfl (by kernel_rfl)
theorem k52 (l : List NVal) (h : NHeap) : K env 52 l h = outF Try.prog [.tmp 2] (C env (bodyOf Try.f52) (l ++ List.replicate (14 - l.length) nundef) h) := K_body rfl (by kernel_rfl)
theorem k53 (l : List NVal) (h : NHeap) : K env 53 l h = outF Try.prog [.tmp 4, .tmp 5] (C env (bodyOf Try.f53) (l ++ List.replicate (60 - l.length) nundef) h) := K_body rfl (by kernel_rfl)
theorem k54 (l : List NVal) (h : NHeap) : K env 54 l h = outF Try.prog [.tmp 6, .tmp 7] (C env (bodyOf Try.f54) (l ++ List.replicate (87 - l.length) nundef) h) := K_body rfl (by kernel_rfl)
theorem k55 (l : List NVal) (h : NHeap) : K env 55 l h = outF Try.prog [.tmp 6] (C env (bodyOf Try.f55) (l ++ List.replicate (23 - l.length) nundef) h) := K_body rfl (by kernel_rfl)
theorem k56 (l : List NVal) (h : NHeap) : K env 56 l h = outF Try.prog [.tmp 4] (C env (bodyOf Try.f56) (l ++ List.replicate (26 - l.length) nundef) h) := K_body rfl (by kernel_rfl)
theorem k57 (l : List NVal) (h : NHeap) : K env 57 l h = outF Try.prog [.tmp 2] (C env (bodyOf Try.f57) (l ++ List.replicate (96 - l.length) nundef) h) := K_body rfl (by kernel_rfl)
theorem k58 (l : List NVal) (h : NHeap) : K env 58 l h = outF Try.prog [] (C env (bodyOf Try.f58) (l ++ List.replicate (5 - l.length) nundef) h) := K_body rfl (by kernel_rfl)
theorem k59 (l : List NVal) (h : NHeap) : K env 59 l h = outF Try.prog [.tmp 2, .tmp 3, .tmp 4] (C env (bodyOf Try.f59) (l ++ List.replicate (86 - l.length) nundef) h) := K_body rfl (by kernel_rfl)
theorem k60 (l : List NVal) (h : NHeap) : K env 60 l h = outF Try.prog [.tmp 2, .tmp 3, .tmp 4, .tmp 5] (C env (bodyOf Try.f60) (l ++ List.replicate (27 - l.length) nundef) h) := K_body rfl (by kernel_rfl)
theorem k61 (l : List NVal) (h : NHeap) : K env 61 l h = outF Try.prog [] (C env (bodyOf Try.f61) (l ++ List.replicate (93 - l.length) nundef) h) := K_body rfl (by kernel_rfl)
theorem k62 (l : List NVal) (h : NHeap) : K env 62 l h = outF Try.prog [] (C env (bodyOf Try.f62) (l ++ List.replicate (13 - l.length) nundef) h) := K_body rfl (by kernel_rfl)
theorem k63 (l : List NVal) (h : NHeap) : K env 63 l h = outF Try.prog [] (C env (bodyOf Try.f63) (l ++ List.replicate (11 - l.length) nundef) h) := K_body rfl (by kernel_rfl)
theorem k64 (l : List NVal) (h : NHeap) : K env 64 l h = outF Try.prog [.tmp 4] (C env (bodyOf Try.f64) (l ++ List.replicate (28 - l.length) nundef) h) := K_body rfl (by kernel_rfl)
theorem k65 (l : List NVal) (h : NHeap) : K env 65 l h = outF Try.prog [.tmp 4, .tmp 5] (C env (bodyOf Try.f65) (l ++ List.replicate (17 - l.length) nundef) h) := K_body rfl (by kernel_rfl)
theorem k66 (l : List NVal) (h : NHeap) : K env 66 l h = outF Try.prog [] (C env (bodyOf Try.f66) (l ++ List.replicate (41 - l.length) nundef) h) := K_body rfl (by kernel_rfl)
theorem k67 (l : List NVal) (h : NHeap) : K env 67 l h = outF Try.prog [.tmp 2] (C env (bodyOf Try.f67) (l ++ List.replicate (9 - l.length) nundef) h) := K_body rfl (by kernel_rfl)
theorem k68 (l : List NVal) (h : NHeap) : K env 68 l h = outF Try.prog [.tmp 2] (C env (bodyOf Try.f68) (l ++ List.replicate (74 - l.length) nundef) h) := K_body rfl (by kernel_rfl)
theorem k69 (l : List NVal) (h : NHeap) : K env 69 l h = outF Try.prog [.tmp 2] (C env (bodyOf Try.f69) (l ++ List.replicate (32 - l.length) nundef) h) := K_body rfl (by kernel_rfl)
theorem k70 (l : List NVal) (h : NHeap) : K env 70 l h = outF Try.prog [.tmp 2] (C env (bodyOf Try.f70) (l ++ List.replicate (30 - l.length) nundef) h) := K_body rfl (by kernel_rfl)
theorem k71 (l : List NVal) (h : NHeap) : K env 71 l h = outF Try.prog [] (C env (bodyOf Try.f71) (l ++ List.replicate (10 - l.length) nundef) h) := K_body rfl (by kernel_rfl)
theorem k72 (l : List NVal) (h : NHeap) : K env 72 l h = outF Try.prog [.tmp 6] (C env (bodyOf Try.f72) (l ++ List.replicate (30 - l.length) nundef) h) := K_body rfl (by kernel_rfl)
theorem k73 (l : List NVal) (h : NHeap) : K env 73 l h = outF Try.prog [.cell 2 98, .tmp 3] (C env (bodyOf Try.f73) (l ++ List.replicate (41 - l.length) nundef) h) := K_body rfl (by kernel_rfl)
theorem k74 (l : List NVal) (h : NHeap) : K env 74 l h = outF Try.prog [.tmp 2, .tmp 3] (C env (bodyOf Try.f74) (l ++ List.replicate (19 - l.length) nundef) h) := K_body rfl (by kernel_rfl)
theorem k75 (l : List NVal) (h : NHeap) : K env 75 l h = outF Try.prog [.tmp 2] (C env (bodyOf Try.f75) (l ++ List.replicate (5 - l.length) nundef) h) := K_body rfl (by kernel_rfl)
theorem k76 (l : List NVal) (h : NHeap) : K env 76 l h = outF Try.prog [] (C env (bodyOf Try.f76) (l ++ List.replicate (7 - l.length) nundef) h) := K_body rfl (by kernel_rfl)
theorem k77 (l : List NVal) (h : NHeap) : K env 77 l h = outF Try.prog [.tmp 4] (C env (bodyOf Try.f77) (l ++ List.replicate (27 - l.length) nundef) h) := K_body rfl (by kernel_rfl)
theorem k78 (l : List NVal) (h : NHeap) : K env 78 l h = outF Try.prog [.tmp 2] (C env (bodyOf Try.f78) (l ++ List.replicate (15 - l.length) nundef) h) := K_body rfl (by kernel_rfl)
theorem k79 (l : List NVal) (h : NHeap) : K env 79 l h = outF Try.prog [.tmp 2] (C env (bodyOf Try.f79) (l ++ List.replicate (28 - l.length) nundef) h) := K_body rfl (by kernel_rfl)
theorem k80 (l : List NVal) (h : NHeap) : K env 80 l h = outF Try.prog [.tmp 4, .tmp 5] (C env (bodyOf Try.f80) (l ++ List.replicate (11 - l.length) nundef) h) := K_body rfl (by kernel_rfl)
theorem k81 (l : List NVal) (h : NHeap) : K env 81 l h = outF Try.prog [.tmp 2] (C env (bodyOf Try.f81) (l ++ List.replicate (22 - l.length) nundef) h) := K_body rfl (by kernel_rfl)
theorem k82 (l : List NVal) (h : NHeap) : K env 82 l h = outF Try.prog [.tmp 4, .tmp 5] (C env (bodyOf Try.f82) (l ++ List.replicate (18 - l.length) nundef) h) := K_body rfl (by kernel_rfl)
theorem k83 (l : List NVal) (h : NHeap) : K env 83 l h = outF Try.prog [.tmp 4] (C env (bodyOf Try.f83) (l ++ List.replicate (21 - l.length) nundef) h) := K_body rfl (by kernel_rfl)
end Go.Proofs.Ytkffnkhpgdnddaa.S
