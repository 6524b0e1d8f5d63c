/-
  What the seat's types are, and each function's first step. No conditions.
-/
import Derived.Test.YtkffnkhpgdnddaaGreatTab
import Derived.Test.YtkffnkhpgdnddaaGreatNice31
import Derived.Test.YtkffnkhpgdnddaaGreatSaysDropRuns
namespace Go.Proofs.YtkffnkhpgdnddaaGreat.S
open Go Go.RowKit Go.Proofs.YtkffnkhpgdnddaaGreat.NICE
set_option maxRecDepth 100000
set_option linter.unusedSimpArgs false

theorem known_at5 : (Go.Proofs.YtkffnkhpgdnddaaGreat.envQ).known 5 [] NHeap.empty = none := by kernel_rfl
theorem known_ex5 : ∃ c, CallOk Tryz.prog (trueKnown 5 c) := trueKnown_ok (Checked.mixed Tryz.checked) Go.Proofs.YtkffnkhpgdnddaaGreat.envQ known_at5 Go.Proofs.YtkffnkhpgdnddaaGreat.dropRuns.says
noncomputable def runsN5 : Nat := Classical.choose known_ex5
theorem runsN5_ok : CallOk Tryz.prog (trueKnown 5 runsN5) := Classical.choose_spec known_ex5
noncomputable def env : Env Tryz.prog drStatic := tab.env tab_ok (orKnown (trueKnown 5 runsN5) (idxKnown 183)) (orKnown_ok runsN5_ok idx_ok)
theorem runs_ok5 (h : NHeap) : ∃ h', K env 5 [] h = some (.bool true, h') ∧ Ext h h' :=
  ⟨layAll h.next (List.replicate runsN5 .dead) h, K_known (by simp [env, Tb.env, orKnown, trueKnown]), layAll_ext _ _ _⟩
theorem sz3 : szOf Tryz.prog 3 = some 1 := by kernel_rfl
theorem ag3 : aggT Tryz.prog 3 = some false := by kernel_rfl
theorem by3 : bytesOf Tryz.prog 3 = some 8 := by kernel_rfl
theorem ze3 : zeroOf Tryz.prog 3 = some (.int .i64 0) := by kernel_rfl
theorem sz4 : szOf Tryz.prog 4 = some 1 := by kernel_rfl
theorem ag4 : aggT Tryz.prog 4 = some false := by kernel_rfl
theorem by4 : bytesOf Tryz.prog 4 = some 1 := by kernel_rfl
theorem ze4 : zeroOf Tryz.prog 4 = some (.bool false) := by kernel_rfl
theorem sz5 : szOf Tryz.prog 5 = some 1 := by kernel_rfl
theorem ag5 : aggT Tryz.prog 5 = some false := by kernel_rfl
theorem by5 : bytesOf Tryz.prog 5 = some 1 := by kernel_rfl
theorem ze5 : zeroOf Tryz.prog 5 = some (.int .u8 0) := by kernel_rfl
theorem sz9 : szOf Tryz.prog 9 = some 1 := by kernel_rfl
theorem ag9 : aggT Tryz.prog 9 = some false := by kernel_rfl
theorem by9 : bytesOf Tryz.prog 9 = some 16 := by kernel_rfl
theorem ze9 : zeroOf Tryz.prog 9 = some (.str []) := by kernel_rfl
theorem sz27 : szOf Tryz.prog 27 = some 1 := by kernel_rfl
theorem ag27 : aggT Tryz.prog 27 = some false := by kernel_rfl
theorem by27 : bytesOf Tryz.prog 27 = some 8 := by kernel_rfl
theorem ze27 : zeroOf Tryz.prog 27 = some (.ptr none) := by kernel_rfl
theorem sz28 : szOf Tryz.prog 28 = some 1 := by kernel_rfl
theorem ag28 : aggT Tryz.prog 28 = some false := by kernel_rfl
theorem by28 : bytesOf Tryz.prog 28 = some 8 := by kernel_rfl
theorem ze28 : zeroOf Tryz.prog 28 = some (.int .i64 0) := by kernel_rfl
theorem sz32 : szOf Tryz.prog 32 = some 4 := by kernel_rfl
theorem ag32 : aggT Tryz.prog 32 = some true := by kernel_rfl
theorem by32 : bytesOf Tryz.prog 32 = some 48 := by kernel_rfl
theorem ze32 : zeroOf Tryz.prog 32 = some (.agg [(.int .i64 0), (.str []), (.str []), (.int .i64 0)]) := by kernel_rfl
theorem fa32_0 (b o : Nat) : nfieldAddr Tryz.prog 32 (.ptr (some (b, o))) 0 = some (.ptr (some (b, o))) := by kernel_rfl
theorem fa32_1 (b o : Nat) : nfieldAddr Tryz.prog 32 (.ptr (some (b, o))) 1 = some (.ptr (some (b, o + 1))) := by kernel_rfl
theorem fa32_2 (b o : Nat) : nfieldAddr Tryz.prog 32 (.ptr (some (b, o))) 2 = some (.ptr (some (b, o + 2))) := by kernel_rfl
theorem fa32_3 (b o : Nat) : nfieldAddr Tryz.prog 32 (.ptr (some (b, o))) 3 = some (.ptr (some (b, o + 3))) := by kernel_rfl
theorem sz42 : szOf Tryz.prog 42 = some 6 := by kernel_rfl
theorem ag42 : aggT Tryz.prog 42 = some true := by kernel_rfl
theorem by42 : bytesOf Tryz.prog 42 = some 64 := by kernel_rfl
theorem ze42 : zeroOf Tryz.prog 42 = some (.agg [(.int .i64 0), (.int .i64 0), (.int .i64 0), (.int .i64 0), (.int .u64 0), (.slice none 0 0 none)]) := by kernel_rfl
theorem fa42_0 (b o : Nat) : nfieldAddr Tryz.prog 42 (.ptr (some (b, o))) 0 = some (.ptr (some (b, o))) := by kernel_rfl
theorem fa42_1 (b o : Nat) : nfieldAddr Tryz.prog 42 (.ptr (some (b, o))) 1 = some (.ptr (some (b, o + 1))) := by kernel_rfl
theorem fa42_2 (b o : Nat) : nfieldAddr Tryz.prog 42 (.ptr (some (b, o))) 2 = some (.ptr (some (b, o + 2))) := by kernel_rfl
theorem fa42_3 (b o : Nat) : nfieldAddr Tryz.prog 42 (.ptr (some (b, o))) 3 = some (.ptr (some (b, o + 3))) := by kernel_rfl
theorem fa42_4 (b o : Nat) : nfieldAddr Tryz.prog 42 (.ptr (some (b, o))) 4 = some (.ptr (some (b, o + 4))) := by kernel_rfl
theorem fa42_5 (b o : Nat) : nfieldAddr Tryz.prog 42 (.ptr (some (b, o))) 5 = some (.ptr (some (b, o + 5))) := by kernel_rfl
theorem sz59 : szOf Tryz.prog 59 = some 1 := by kernel_rfl
theorem ag59 : aggT Tryz.prog 59 = some false := by kernel_rfl
theorem by59 : bytesOf Tryz.prog 59 = some 8 := by kernel_rfl
theorem ze59 : zeroOf Tryz.prog 59 = some (.ptr none) := by kernel_rfl
theorem sz94 : szOf Tryz.prog 94 = some 1 := by kernel_rfl
theorem ag94 : aggT Tryz.prog 94 = some false := by kernel_rfl
theorem by94 : bytesOf Tryz.prog 94 = some 8 := by kernel_rfl
theorem ze94 : zeroOf Tryz.prog 94 = some .nilFunc := by kernel_rfl
theorem sz103 : szOf Tryz.prog 103 = some 38 := by kernel_rfl
theorem ag103 : aggT Tryz.prog 103 = some true := by kernel_rfl
theorem by103 : bytesOf Tryz.prog 103 = some 472 := by kernel_rfl
theorem ze103 : zeroOf Tryz.prog 103 = some (.agg [(.str []), (.str []), (.int .i64 0), (.int .i64 0), (.int .i64 0), (.int .i64 0), (.bool false), (.int .i64 0), (.int .i64 0), (.int .i64 0), (.int .i64 0), (.int .u64 0), (.slice none 0 0 none), .nilFunc, .nilFunc, (.int .i64 0), (.int .i64 0), (.int .u64 0), (.str []), (.slice none 0 0 none), (.slice none 0 0 none), (.int .u8 0), (.int .i64 0), (.int .i64 0), (.int .u64 0), (.str []), (.slice none 0 0 none), (.slice none 0 0 none), (.int .u8 0), (.slice none 0 0 none), (.slice none 0 0 none), (.slice none 0 0 none), (.bool false), (.bool false), (.int .i64 0), (.bool false), (.int .i64 0), (.slice none 0 0 none)]) := by kernel_rfl
theorem fa103_0 (b o : Nat) : nfieldAddr Tryz.prog 103 (.ptr (some (b, o))) 0 = some (.ptr (some (b, o))) := by kernel_rfl
theorem fa103_1 (b o : Nat) : nfieldAddr Tryz.prog 103 (.ptr (some (b, o))) 1 = some (.ptr (some (b, o + 1))) := by kernel_rfl
theorem fa103_2 (b o : Nat) : nfieldAddr Tryz.prog 103 (.ptr (some (b, o))) 2 = some (.ptr (some (b, o + 2))) := by kernel_rfl
theorem fa103_3 (b o : Nat) : nfieldAddr Tryz.prog 103 (.ptr (some (b, o))) 3 = some (.ptr (some (b, o + 3))) := by kernel_rfl
theorem fa103_4 (b o : Nat) : nfieldAddr Tryz.prog 103 (.ptr (some (b, o))) 4 = some (.ptr (some (b, o + 4))) := by kernel_rfl
theorem fa103_5 (b o : Nat) : nfieldAddr Tryz.prog 103 (.ptr (some (b, o))) 5 = some (.ptr (some (b, o + 5))) := by kernel_rfl
theorem fa103_6 (b o : Nat) : nfieldAddr Tryz.prog 103 (.ptr (some (b, o))) 6 = some (.ptr (some (b, o + 6))) := by kernel_rfl
theorem fa103_7 (b o : Nat) : nfieldAddr Tryz.prog 103 (.ptr (some (b, o))) 7 = some (.ptr (some (b, o + 7))) := by kernel_rfl
theorem fa103_8 (b o : Nat) : nfieldAddr Tryz.prog 103 (.ptr (some (b, o))) 8 = some (.ptr (some (b, o + 13))) := by kernel_rfl
theorem fa103_9 (b o : Nat) : nfieldAddr Tryz.prog 103 (.ptr (some (b, o))) 9 = some (.ptr (some (b, o + 14))) := by kernel_rfl
theorem fa103_10 (b o : Nat) : nfieldAddr Tryz.prog 103 (.ptr (some (b, o))) 10 = some (.ptr (some (b, o + 15))) := by kernel_rfl
theorem fa103_11 (b o : Nat) : nfieldAddr Tryz.prog 103 (.ptr (some (b, o))) 11 = some (.ptr (some (b, o + 22))) := by kernel_rfl
theorem fa103_12 (b o : Nat) : nfieldAddr Tryz.prog 103 (.ptr (some (b, o))) 12 = some (.ptr (some (b, o + 29))) := by kernel_rfl
theorem fa103_13 (b o : Nat) : nfieldAddr Tryz.prog 103 (.ptr (some (b, o))) 13 = some (.ptr (some (b, o + 30))) := by kernel_rfl
theorem fa103_14 (b o : Nat) : nfieldAddr Tryz.prog 103 (.ptr (some (b, o))) 14 = some (.ptr (some (b, o + 31))) := by kernel_rfl
theorem fa103_15 (b o : Nat) : nfieldAddr Tryz.prog 103 (.ptr (some (b, o))) 15 = some (.ptr (some (b, o + 32))) := by kernel_rfl
theorem fa103_16 (b o : Nat) : nfieldAddr Tryz.prog 103 (.ptr (some (b, o))) 16 = some (.ptr (some (b, o + 33))) := by kernel_rfl
theorem fa103_17 (b o : Nat) : nfieldAddr Tryz.prog 103 (.ptr (some (b, o))) 17 = some (.ptr (some (b, o + 34))) := by kernel_rfl
theorem sz121 : szOf Tryz.prog 121 = some 1 := by kernel_rfl
theorem ag121 : aggT Tryz.prog 121 = some false := by kernel_rfl
theorem by121 : bytesOf Tryz.prog 121 = some 8 := by kernel_rfl
theorem ze121 : zeroOf Tryz.prog 121 = some .nilFunc := by kernel_rfl
theorem sz126 : szOf Tryz.prog 126 = some 45 := by kernel_rfl
theorem ag126 : aggT Tryz.prog 126 = some true := by kernel_rfl
theorem by126 : bytesOf Tryz.prog 126 = some 568 := by kernel_rfl
theorem ze126 : zeroOf Tryz.prog 126 = some (.agg [(.str []), (.str []), (.int .i64 0), (.int .i64 0), (.int .i64 0), (.bool false), (.int .i64 0), (.int .i64 0), (.int .i64 0), (.int .i64 0), (.int .u64 0), (.slice none 0 0 none), .nilFunc, .nilFunc, (.int .i64 0), (.int .i64 0), (.int .u64 0), (.str []), (.slice none 0 0 none), (.slice none 0 0 none), (.int .u8 0), (.int .i64 0), (.int .i64 0), (.int .u64 0), (.str []), (.slice none 0 0 none), (.slice none 0 0 none), (.int .u8 0), (.int .i64 0), (.int .i64 0), (.int .u64 0), (.str []), (.slice none 0 0 none), (.slice none 0 0 none), (.int .u8 0), (.int .i64 0), (.slice none 0 0 none), (.slice none 0 0 none), (.slice none 0 0 none), (.bool false), (.bool false), (.int .i64 0), (.bool false), (.int .i64 0), (.slice none 0 0 none)]) := by kernel_rfl
theorem fa126_0 (b o : Nat) : nfieldAddr Tryz.prog 126 (.ptr (some (b, o))) 0 = some (.ptr (some (b, o))) := by kernel_rfl
theorem fa126_1 (b o : Nat) : nfieldAddr Tryz.prog 126 (.ptr (some (b, o))) 1 = some (.ptr (some (b, o + 1))) := by kernel_rfl
theorem fa126_2 (b o : Nat) : nfieldAddr Tryz.prog 126 (.ptr (some (b, o))) 2 = some (.ptr (some (b, o + 2))) := by kernel_rfl
theorem fa126_3 (b o : Nat) : nfieldAddr Tryz.prog 126 (.ptr (some (b, o))) 3 = some (.ptr (some (b, o + 3))) := by kernel_rfl
theorem fa126_4 (b o : Nat) : nfieldAddr Tryz.prog 126 (.ptr (some (b, o))) 4 = some (.ptr (some (b, o + 4))) := by kernel_rfl
theorem fa126_5 (b o : Nat) : nfieldAddr Tryz.prog 126 (.ptr (some (b, o))) 5 = some (.ptr (some (b, o + 5))) := by kernel_rfl
theorem fa126_6 (b o : Nat) : nfieldAddr Tryz.prog 126 (.ptr (some (b, o))) 6 = some (.ptr (some (b, o + 6))) := by kernel_rfl
theorem fa126_7 (b o : Nat) : nfieldAddr Tryz.prog 126 (.ptr (some (b, o))) 7 = some (.ptr (some (b, o + 12))) := by kernel_rfl
theorem fa126_8 (b o : Nat) : nfieldAddr Tryz.prog 126 (.ptr (some (b, o))) 8 = some (.ptr (some (b, o + 13))) := by kernel_rfl
theorem fa126_9 (b o : Nat) : nfieldAddr Tryz.prog 126 (.ptr (some (b, o))) 9 = some (.ptr (some (b, o + 14))) := by kernel_rfl
theorem fa126_10 (b o : Nat) : nfieldAddr Tryz.prog 126 (.ptr (some (b, o))) 10 = some (.ptr (some (b, o + 21))) := by kernel_rfl
theorem fa126_11 (b o : Nat) : nfieldAddr Tryz.prog 126 (.ptr (some (b, o))) 11 = some (.ptr (some (b, o + 28))) := by kernel_rfl
theorem fa126_12 (b o : Nat) : nfieldAddr Tryz.prog 126 (.ptr (some (b, o))) 12 = some (.ptr (some (b, o + 35))) := by kernel_rfl
theorem fa126_13 (b o : Nat) : nfieldAddr Tryz.prog 126 (.ptr (some (b, o))) 13 = some (.ptr (some (b, o + 36))) := by kernel_rfl
theorem fa126_14 (b o : Nat) : nfieldAddr Tryz.prog 126 (.ptr (some (b, o))) 14 = some (.ptr (some (b, o + 37))) := by kernel_rfl
theorem fa126_15 (b o : Nat) : nfieldAddr Tryz.prog 126 (.ptr (some (b, o))) 15 = some (.ptr (some (b, o + 38))) := by kernel_rfl
theorem fa126_16 (b o : Nat) : nfieldAddr Tryz.prog 126 (.ptr (some (b, o))) 16 = some (.ptr (some (b, o + 39))) := by kernel_rfl
theorem fa126_17 (b o : Nat) : nfieldAddr Tryz.prog 126 (.ptr (some (b, o))) 17 = some (.ptr (some (b, o + 40))) := by kernel_rfl
theorem fa126_18 (b o : Nat) : nfieldAddr Tryz.prog 126 (.ptr (some (b, o))) 18 = some (.ptr (some (b, o + 41))) := by kernel_rfl
theorem be4 (a b : Bool) : nbin Tryz.prog .eql 4 (.bool a) (.bool b) = some (.bool (a == b)) := bool_eql Tryz.underlying4 a b
theorem bn4 (a b : Bool) : nbin Tryz.prog .neq 4 (.bool a) (.bool b) = some (.bool !(a == b)) := bool_neq Tryz.underlying4 a b
theorem pe27 (a) : nbin Tryz.prog .eql 27 (.ptr a) (.ptr none) = some (.bool a.isNone) := ptr_eql Tryz.underlying27 a
theorem pn27 (a) : nbin Tryz.prog .neq 27 (.ptr a) (.ptr none) = some (.bool !a.isNone) := ptr_neq Tryz.underlying27 a
theorem bu32 (l : List (Nat × NVal)) : kBuild Tryz.prog 32 (some l) = (match nfill (fun i => ([(0, 1), (1, 1), (2, 1), (3, 1)] : List (Nat × Nat))[i]?) [(.int .i64 0), (.str []), (.str []), (.int .i64 0)] l with | none => none | some cs => some (.agg cs)) := kBuild_struct ze32 Tryz.underlying32 (by kernel_rfl) l
theorem bu42 (l : List (Nat × NVal)) : kBuild Tryz.prog 42 (some l) = (match nfill (fun i => ([(0, 1), (1, 1), (2, 1), (3, 1), (4, 1), (5, 1)] : List (Nat × Nat))[i]?) [(.int .i64 0), (.int .i64 0), (.int .i64 0), (.int .i64 0), (.int .u64 0), (.slice none 0 0 none)] l with | none => none | some cs => some (.agg cs)) := kBuild_struct ze42 Tryz.underlying42 (by kernel_rfl) l
theorem pe59 (a) : nbin Tryz.prog .eql 59 (.ptr a) (.ptr none) = some (.bool a.isNone) := ptr_eql Tryz.underlying59 a
theorem pn59 (a) : nbin Tryz.prog .neq 59 (.ptr a) (.ptr none) = some (.bool !a.isNone) := ptr_neq Tryz.underlying59 a
theorem bu103 (l : List (Nat × NVal)) : kBuild Tryz.prog 103 (some l) = (match nfill (fun i => ([(0, 1), (1, 1), (2, 1), (3, 1), (4, 1), (5, 1), (6, 1), (7, 6), (13, 1), (14, 1), (15, 7), (22, 7), (29, 1), (30, 1), (31, 1), (32, 1), (33, 1), (34, 4)] : List (Nat × Nat))[i]?) [(.str []), (.str []), (.int .i64 0), (.int .i64 0), (.int .i64 0), (.int .i64 0), (.bool false), (.int .i64 0), (.int .i64 0), (.int .i64 0), (.int .i64 0), (.int .u64 0), (.slice none 0 0 none), .nilFunc, .nilFunc, (.int .i64 0), (.int .i64 0), (.int .u64 0), (.str []), (.slice none 0 0 none), (.slice none 0 0 none), (.int .u8 0), (.int .i64 0), (.int .i64 0), (.int .u64 0), (.str []), (.slice none 0 0 none), (.slice none 0 0 none), (.int .u8 0), (.slice none 0 0 none), (.slice none 0 0 none), (.slice none 0 0 none), (.bool false), (.bool false), (.int .i64 0), (.bool false), (.int .i64 0), (.slice none 0 0 none)] l with | none => none | some cs => some (.agg cs)) := kBuild_struct ze103 Tryz.underlying103 (by kernel_rfl) l
theorem bu126 (l : List (Nat × NVal)) : kBuild Tryz.prog 126 (some l) = (match nfill (fun i => ([(0, 1), (1, 1), (2, 1), (3, 1), (4, 1), (5, 1), (6, 6), (12, 1), (13, 1), (14, 7), (21, 7), (28, 7), (35, 1), (36, 1), (37, 1), (38, 1), (39, 1), (40, 1), (41, 4)] : List (Nat × Nat))[i]?) [(.str []), (.str []), (.int .i64 0), (.int .i64 0), (.int .i64 0), (.bool false), (.int .i64 0), (.int .i64 0), (.int .i64 0), (.int .i64 0), (.int .u64 0), (.slice none 0 0 none), .nilFunc, .nilFunc, (.int .i64 0), (.int .i64 0), (.int .u64 0), (.str []), (.slice none 0 0 none), (.slice none 0 0 none), (.int .u8 0), (.int .i64 0), (.int .i64 0), (.int .u64 0), (.str []), (.slice none 0 0 none), (.slice none 0 0 none), (.int .u8 0), (.int .i64 0), (.int .i64 0), (.int .u64 0), (.str []), (.slice none 0 0 none), (.slice none 0 0 none), (.int .u8 0), (.int .i64 0), (.slice none 0 0 none), (.slice none 0 0 none), (.slice none 0 0 none), (.bool false), (.bool false), (.int .i64 0), (.bool false), (.int .i64 0), (.slice none 0 0 none)] l with | none => none | some cs => some (.agg cs)) := kBuild_struct ze126 Tryz.underlying126 (by kernel_rfl) l

theorem k6 (l : List NVal) (h : NHeap) : K env 6 l h = outF Tryz.prog [.tmp 8] (C env (bodyOf Tryz.f6) (l ++ List.replicate (97 - l.length) nundef) h) := K_body rfl (by kernel_rfl)
theorem k17 (l : List NVal) (h : NHeap) : K env 17 l h = outF Tryz.prog [.tmp 6] (C env (bodyOf Tryz.f17) (l ++ List.replicate (24 - l.length) nundef) h) := K_body rfl (by kernel_rfl)
theorem k19 (l : List NVal) (h : NHeap) : K env 19 l h = outF Tryz.prog [.tmp 6, .tmp 7] (C env (bodyOf Tryz.f19) (l ++ List.replicate (43 - l.length) nundef) h) := K_body rfl (by kernel_rfl)
theorem k38 (l : List NVal) (h : NHeap) : K env 38 l h = outF Tryz.prog [.tmp 2] (C env (bodyOf Tryz.f38) (l ++ List.replicate (15 - l.length) nundef) h) := K_body rfl (by kernel_rfl)
theorem k39 (l : List NVal) (h : NHeap) : K env 39 l h = outF Tryz.prog [.tmp 2] (C env (bodyOf Tryz.f39) (l ++ List.replicate (8 - l.length) nundef) h) := K_body rfl (by kernel_rfl)
theorem k54 (l : List NVal) (h : NHeap) : K env 54 l h = outF Tryz.prog [] (C env (bodyOf Tryz.f54) (l ++ List.replicate (14 - l.length) nundef) h) := K_body rfl (by kernel_rfl)
theorem k85 (l : List NVal) (h : NHeap) : K env 85 l h = outF Tryz.prog [.tmp 4] (C env (bodyOf Tryz.f85) (l ++ List.replicate (8 - l.length) nundef) h) := K_body rfl (by kernel_rfl)
theorem k133 (l : List NVal) (h : NHeap) : K env 133 l h = outF Tryz.prog [.tmp 4] (C env (bodyOf Tryz.f133) (l ++ List.replicate (8 - l.length) nundef) h) := K_body rfl (by kernel_rfl)
end Go.Proofs.YtkffnkhpgdnddaaGreat.S
