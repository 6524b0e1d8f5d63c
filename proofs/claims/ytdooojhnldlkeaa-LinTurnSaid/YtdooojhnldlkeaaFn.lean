/-
  What the seat's types are, and each function's first step. No conditions.
-/
import Derived.Test.YtdooojhnldlkeaaTab
import Derived.Test.YtdooojhnldlkeaaNice32
import Derived.Test.YtdooojhnldlkeaaSaysLinRuns
namespace Go.Proofs.Ytdooojhnldlkeaa.S
open Go Go.RowKit Go.Proofs.Ytdooojhnldlkeaa.NICE
set_option maxRecDepth 100000
set_option linter.unusedSimpArgs false

theorem known_at3 : (Go.Proofs.Ytdooojhnldlkeaa.env).known 3 [] NHeap.empty = none := by kernel_rfl
theorem known_ex3 : ∃ c, CallOk Try.prog (trueKnown 3 c) := trueKnown_ok (Checked.mixed Try.checked) Go.Proofs.Ytdooojhnldlkeaa.env known_at3 Go.Proofs.Ytdooojhnldlkeaa.linRuns.says
noncomputable def runsN3 : Nat := Classical.choose known_ex3
theorem runsN3_ok : CallOk Try.prog (trueKnown 3 runsN3) := Classical.choose_spec known_ex3
noncomputable def env : Env Try.prog drStatic := tab.env tab_ok (orKnown (trueKnown 3 runsN3) noneKnown) (orKnown_ok runsN3_ok noneKnown_ok)
theorem runs_ok3 (h : NHeap) : ∃ h', K env 3 [] h = some (.bool true, h') ∧ Ext h h' :=
  ⟨layAll h.next (List.replicate runsN3 .dead) h, K_known (by simp [env, Tb.env, orKnown, trueKnown]), layAll_ext _ _ _⟩
theorem sz3 : szOf Try.prog 3 = some 1 := by kernel_rfl
theorem ag3 : aggT Try.prog 3 = some false := by kernel_rfl
theorem by3 : bytesOf Try.prog 3 = some 8 := by kernel_rfl
theorem ze3 : zeroOf Try.prog 3 = some (.int .i64 0) := by kernel_rfl
theorem sz4 : szOf Try.prog 4 = some 1 := by kernel_rfl
theorem ag4 : aggT Try.prog 4 = some false := by kernel_rfl
theorem by4 : bytesOf Try.prog 4 = some 1 := by kernel_rfl
theorem ze4 : zeroOf Try.prog 4 = some (.bool false) := by kernel_rfl
theorem be4 (a b : Bool) : nbin Try.prog .eql 4 (.bool a) (.bool b) = some (.bool (a == b)) := bool_eql Try.underlying4 a b
theorem bn4 (a b : Bool) : nbin Try.prog .neq 4 (.bool a) (.bool b) = some (.bool !(a == b)) := bool_neq Try.underlying4 a b
theorem sz5 : szOf Try.prog 5 = some 1 := by kernel_rfl
theorem ag5 : aggT Try.prog 5 = some false := by kernel_rfl
theorem by5 : bytesOf Try.prog 5 = some 1 := by kernel_rfl
theorem ze5 : zeroOf Try.prog 5 = some (.int .u8 0) := by kernel_rfl
theorem sz9 : szOf Try.prog 9 = some 1 := by kernel_rfl
theorem ag9 : aggT Try.prog 9 = some false := by kernel_rfl
theorem by9 : bytesOf Try.prog 9 = some 16 := by kernel_rfl
theorem ze9 : zeroOf Try.prog 9 = some (.str []) := by kernel_rfl
theorem sz23 : szOf Try.prog 23 = some 4 := by kernel_rfl
theorem ag23 : aggT Try.prog 23 = some true := by kernel_rfl
theorem by23 : bytesOf Try.prog 23 = some 48 := by kernel_rfl
theorem ze23 : zeroOf Try.prog 23 = some (.agg [(.int .i64 0), (.str []), (.str []), (.int .i64 0)]) := by kernel_rfl
theorem fa23_0 (b o : Nat) : nfieldAddr Try.prog 23 (.ptr (some (b, o))) 0 = some (.ptr (some (b, o))) := by kernel_rfl
theorem fa23_1 (b o : Nat) : nfieldAddr Try.prog 23 (.ptr (some (b, o))) 1 = some (.ptr (some (b, o + 1))) := by kernel_rfl
theorem fa23_2 (b o : Nat) : nfieldAddr Try.prog 23 (.ptr (some (b, o))) 2 = some (.ptr (some (b, o + 2))) := by kernel_rfl
theorem fa23_3 (b o : Nat) : nfieldAddr Try.prog 23 (.ptr (some (b, o))) 3 = some (.ptr (some (b, o + 3))) := by kernel_rfl
theorem sz24 : szOf Try.prog 24 = some 1 := by kernel_rfl
theorem ag24 : aggT Try.prog 24 = some false := by kernel_rfl
theorem by24 : bytesOf Try.prog 24 = some 8 := by kernel_rfl
theorem ze24 : zeroOf Try.prog 24 = some (.int .i64 0) := by kernel_rfl
theorem sz25 : szOf Try.prog 25 = some 1 := by kernel_rfl
theorem ag25 : aggT Try.prog 25 = some false := by kernel_rfl
theorem by25 : bytesOf Try.prog 25 = some 24 := by kernel_rfl
theorem ze25 : zeroOf Try.prog 25 = some (.slice none 0 0 none) := by kernel_rfl
theorem sz27 : szOf Try.prog 27 = some 4 := by kernel_rfl
theorem ag27 : aggT Try.prog 27 = some true := by kernel_rfl
theorem by27 : bytesOf Try.prog 27 = some 48 := by kernel_rfl
theorem ze27 : zeroOf Try.prog 27 = some (.agg [(.int .i64 0), (.bool false), (.int .i64 0), (.slice none 0 0 none)]) := by kernel_rfl
theorem fa27_0 (b o : Nat) : nfieldAddr Try.prog 27 (.ptr (some (b, o))) 0 = some (.ptr (some (b, o))) := by kernel_rfl
theorem fa27_1 (b o : Nat) : nfieldAddr Try.prog 27 (.ptr (some (b, o))) 1 = some (.ptr (some (b, o + 1))) := by kernel_rfl
theorem fa27_2 (b o : Nat) : nfieldAddr Try.prog 27 (.ptr (some (b, o))) 2 = some (.ptr (some (b, o + 2))) := by kernel_rfl
theorem fa27_3 (b o : Nat) : nfieldAddr Try.prog 27 (.ptr (some (b, o))) 3 = some (.ptr (some (b, o + 3))) := by kernel_rfl
theorem sz29 : szOf Try.prog 29 = some 10 := by kernel_rfl
theorem ag29 : aggT Try.prog 29 = some true := by kernel_rfl
theorem by29 : bytesOf Try.prog 29 = some 112 := by kernel_rfl
theorem ze29 : zeroOf Try.prog 29 = some (.agg [(.int .i64 0), (.int .i64 0), (.int .i64 0), (.str []), (.str []), (.int .i64 0), (.int .i64 0), (.bool false), (.int .i64 0), (.slice none 0 0 none)]) := by kernel_rfl
theorem fa29_0 (b o : Nat) : nfieldAddr Try.prog 29 (.ptr (some (b, o))) 0 = some (.ptr (some (b, o))) := by kernel_rfl
theorem fa29_1 (b o : Nat) : nfieldAddr Try.prog 29 (.ptr (some (b, o))) 1 = some (.ptr (some (b, o + 1))) := by kernel_rfl
theorem fa29_2 (b o : Nat) : nfieldAddr Try.prog 29 (.ptr (some (b, o))) 2 = some (.ptr (some (b, o + 2))) := by kernel_rfl
theorem fa29_3 (b o : Nat) : nfieldAddr Try.prog 29 (.ptr (some (b, o))) 3 = some (.ptr (some (b, o + 6))) := by kernel_rfl
theorem sz31 : szOf Try.prog 31 = some 10 := by kernel_rfl
theorem ag31 : aggT Try.prog 31 = some true := by kernel_rfl
theorem by31 : bytesOf Try.prog 31 = some 112 := by kernel_rfl
theorem ze31 : zeroOf Try.prog 31 = some (.agg [(.int .i64 0), (.int .i64 0), (.int .i64 0), (.str []), (.str []), (.int .i64 0), (.int .i64 0), (.bool false), (.int .i64 0), (.slice none 0 0 none)]) := by kernel_rfl
theorem fa31_0 (b o : Nat) : nfieldAddr Try.prog 31 (.ptr (some (b, o))) 0 = some (.ptr (some (b, o))) := by kernel_rfl
theorem fa31_1 (b o : Nat) : nfieldAddr Try.prog 31 (.ptr (some (b, o))) 1 = some (.ptr (some (b, o + 1))) := by kernel_rfl
theorem fa31_2 (b o : Nat) : nfieldAddr Try.prog 31 (.ptr (some (b, o))) 2 = some (.ptr (some (b, o + 2))) := by kernel_rfl
theorem fa31_3 (b o : Nat) : nfieldAddr Try.prog 31 (.ptr (some (b, o))) 3 = some (.ptr (some (b, o + 6))) := by kernel_rfl
theorem sz32 : szOf Try.prog 32 = some 1 := by kernel_rfl
theorem ag32 : aggT Try.prog 32 = some false := by kernel_rfl
theorem by32 : bytesOf Try.prog 32 = some 24 := by kernel_rfl
theorem ze32 : zeroOf Try.prog 32 = some (.slice none 0 0 none) := by kernel_rfl
theorem sz35 : szOf Try.prog 35 = some 1 := by kernel_rfl
theorem ag35 : aggT Try.prog 35 = some false := by kernel_rfl
theorem by35 : bytesOf Try.prog 35 = some 24 := by kernel_rfl
theorem ze35 : zeroOf Try.prog 35 = some (.slice none 0 0 none) := by kernel_rfl
theorem sz38 : szOf Try.prog 38 = some 2 := by kernel_rfl
theorem ag38 : aggT Try.prog 38 = some true := by kernel_rfl
theorem by38 : bytesOf Try.prog 38 = some 24 := by kernel_rfl
theorem ze38 : zeroOf Try.prog 38 = some (.agg [(.str []), (.int .i64 0)]) := by kernel_rfl
theorem fa38_0 (b o : Nat) : nfieldAddr Try.prog 38 (.ptr (some (b, o))) 0 = some (.ptr (some (b, o))) := by kernel_rfl
theorem fa38_1 (b o : Nat) : nfieldAddr Try.prog 38 (.ptr (some (b, o))) 1 = some (.ptr (some (b, o + 1))) := by kernel_rfl
theorem sz42 : szOf Try.prog 42 = some 1 := by kernel_rfl
theorem ag42 : aggT Try.prog 42 = some false := by kernel_rfl
theorem by42 : bytesOf Try.prog 42 = some 24 := by kernel_rfl
theorem ze42 : zeroOf Try.prog 42 = some (.slice none 0 0 none) := by kernel_rfl
theorem sz50 : szOf Try.prog 50 = some 1 := by kernel_rfl
theorem ag50 : aggT Try.prog 50 = some false := by kernel_rfl
theorem by50 : bytesOf Try.prog 50 = some 24 := by kernel_rfl
theorem ze50 : zeroOf Try.prog 50 = some (.slice none 0 0 none) := by kernel_rfl
theorem sz53 : szOf Try.prog 53 = some 1 := by kernel_rfl
theorem ag53 : aggT Try.prog 53 = some false := by kernel_rfl
theorem by53 : bytesOf Try.prog 53 = some 24 := by kernel_rfl
theorem ze53 : zeroOf Try.prog 53 = some (.slice none 0 0 none) := by kernel_rfl
theorem sz63 : szOf Try.prog 63 = some 1 := by kernel_rfl
theorem ag63 : aggT Try.prog 63 = some false := by kernel_rfl
theorem by63 : bytesOf Try.prog 63 = some 24 := by kernel_rfl
theorem ze63 : zeroOf Try.prog 63 = some (.slice none 0 0 none) := by kernel_rfl
theorem sz68 : szOf Try.prog 68 = some 1 := by kernel_rfl
theorem ag68 : aggT Try.prog 68 = some false := by kernel_rfl
theorem by68 : bytesOf Try.prog 68 = some 24 := by kernel_rfl
theorem ze68 : zeroOf Try.prog 68 = some (.slice none 0 0 none) := by kernel_rfl
theorem bu23 (l : List (Nat × NVal)) : kBuild Try.prog 23 (some l) = (match nfill (fun i => ([(0, 1), (1, 1), (2, 1), (3, 1)] : List (Nat × Nat))[i]?) [(.int .i64 0), (.str []), (.str []), (.int .i64 0)] l with | none => none | some cs => some (.agg cs)) := kBuild_struct ze23 Try.underlying23 (by kernel_rfl) l
theorem ia25 (b o n c : Nat) (x k) (i : Int) (h0 : 0 ≤ i) (h1 : i < (n : Int)) : nindexAddr Try.prog 25 (.slice (some (b, o)) n c x) (.int k i) = some (.ptr (some (b, o + i.toNat * 2))) := indexAddr_slice Try.underlying25 sz38 b o n c x k i h0 h1
theorem se25 (a n c x) : nbin Try.prog .eql 25 (.slice a n c x) (.slice none 0 0 none) = some (.bool a.isNone) := slice_eql Try.underlying25 a n c x
theorem sn25 (a n c x) : nbin Try.prog .neq 25 (.slice a n c x) (.slice none 0 0 none) = some (.bool !a.isNone) := slice_neq Try.underlying25 a n c x
theorem bu27 (l : List (Nat × NVal)) : kBuild Try.prog 27 (some l) = (match nfill (fun i => ([(0, 1), (1, 1), (2, 1), (3, 1)] : List (Nat × Nat))[i]?) [(.int .i64 0), (.bool false), (.int .i64 0), (.slice none 0 0 none)] l with | none => none | some cs => some (.agg cs)) := kBuild_struct ze27 Try.underlying27 (by kernel_rfl) l
theorem bu29 (l : List (Nat × NVal)) : kBuild Try.prog 29 (some l) = (match nfill (fun i => ([(0, 1), (1, 1), (2, 4), (6, 4)] : List (Nat × Nat))[i]?) [(.int .i64 0), (.int .i64 0), (.int .i64 0), (.str []), (.str []), (.int .i64 0), (.int .i64 0), (.bool false), (.int .i64 0), (.slice none 0 0 none)] l with | none => none | some cs => some (.agg cs)) := kBuild_struct ze29 Try.underlying29 (by kernel_rfl) l
theorem bu31 (l : List (Nat × NVal)) : kBuild Try.prog 31 (some l) = (match nfill (fun i => ([(0, 1), (1, 1), (2, 4), (6, 4)] : List (Nat × Nat))[i]?) [(.int .i64 0), (.int .i64 0), (.int .i64 0), (.str []), (.str []), (.int .i64 0), (.int .i64 0), (.bool false), (.int .i64 0), (.slice none 0 0 none)] l with | none => none | some cs => some (.agg cs)) := kBuild_struct ze31 Try.underlying31 (by kernel_rfl) l
theorem ia32 (b o n c : Nat) (x k) (i : Int) (h0 : 0 ≤ i) (h1 : i < (n : Int)) : nindexAddr Try.prog 32 (.slice (some (b, o)) n c x) (.int k i) = some (.ptr (some (b, o + i.toNat * 10))) := indexAddr_slice Try.underlying32 sz31 b o n c x k i h0 h1
theorem se32 (a n c x) : nbin Try.prog .eql 32 (.slice a n c x) (.slice none 0 0 none) = some (.bool a.isNone) := slice_eql Try.underlying32 a n c x
theorem sn32 (a n c x) : nbin Try.prog .neq 32 (.slice a n c x) (.slice none 0 0 none) = some (.bool !a.isNone) := slice_neq Try.underlying32 a n c x
theorem ia35 (b o n c : Nat) (x k) (i : Int) (h0 : 0 ≤ i) (h1 : i < (n : Int)) : nindexAddr Try.prog 35 (.slice (some (b, o)) n c x) (.int k i) = some (.ptr (some (b, o + i.toNat * 10))) := indexAddr_slice Try.underlying35 sz29 b o n c x k i h0 h1
theorem se35 (a n c x) : nbin Try.prog .eql 35 (.slice a n c x) (.slice none 0 0 none) = some (.bool a.isNone) := slice_eql Try.underlying35 a n c x
theorem sn35 (a n c x) : nbin Try.prog .neq 35 (.slice a n c x) (.slice none 0 0 none) = some (.bool !a.isNone) := slice_neq Try.underlying35 a n c x
theorem bu38 (l : List (Nat × NVal)) : kBuild Try.prog 38 (some l) = (match nfill (fun i => ([(0, 1), (1, 1)] : List (Nat × Nat))[i]?) [(.str []), (.int .i64 0)] l with | none => none | some cs => some (.agg cs)) := kBuild_struct ze38 Try.underlying38 (by kernel_rfl) l
theorem ia42 (b o n c : Nat) (x k) (i : Int) (h0 : 0 ≤ i) (h1 : i < (n : Int)) : nindexAddr Try.prog 42 (.slice (some (b, o)) n c x) (.int k i) = some (.ptr (some (b, o + i.toNat * 4))) := indexAddr_slice Try.underlying42 sz23 b o n c x k i h0 h1
theorem se42 (a n c x) : nbin Try.prog .eql 42 (.slice a n c x) (.slice none 0 0 none) = some (.bool a.isNone) := slice_eql Try.underlying42 a n c x
theorem sn42 (a n c x) : nbin Try.prog .neq 42 (.slice a n c x) (.slice none 0 0 none) = some (.bool !a.isNone) := slice_neq Try.underlying42 a n c x
theorem ia50 (b o n c : Nat) (x k) (i : Int) (h0 : 0 ≤ i) (h1 : i < (n : Int)) : nindexAddr Try.prog 50 (.slice (some (b, o)) n c x) (.int k i) = some (.ptr (some (b, o + i.toNat * 1))) := indexAddr_slice Try.underlying50 sz4 b o n c x k i h0 h1
theorem se50 (a n c x) : nbin Try.prog .eql 50 (.slice a n c x) (.slice none 0 0 none) = some (.bool a.isNone) := slice_eql Try.underlying50 a n c x
theorem sn50 (a n c x) : nbin Try.prog .neq 50 (.slice a n c x) (.slice none 0 0 none) = some (.bool !a.isNone) := slice_neq Try.underlying50 a n c x
theorem ia53 (b o n c : Nat) (x k) (i : Int) (h0 : 0 ≤ i) (h1 : i < (n : Int)) : nindexAddr Try.prog 53 (.slice (some (b, o)) n c x) (.int k i) = some (.ptr (some (b, o + i.toNat * 1))) := indexAddr_slice Try.underlying53 sz3 b o n c x k i h0 h1
theorem se53 (a n c x) : nbin Try.prog .eql 53 (.slice a n c x) (.slice none 0 0 none) = some (.bool a.isNone) := slice_eql Try.underlying53 a n c x
theorem sn53 (a n c x) : nbin Try.prog .neq 53 (.slice a n c x) (.slice none 0 0 none) = some (.bool !a.isNone) := slice_neq Try.underlying53 a n c x
theorem ia63 (b o n c : Nat) (x k) (i : Int) (h0 : 0 ≤ i) (h1 : i < (n : Int)) : nindexAddr Try.prog 63 (.slice (some (b, o)) n c x) (.int k i) = some (.ptr (some (b, o + i.toNat * 1))) := indexAddr_slice Try.underlying63 sz25 b o n c x k i h0 h1
theorem se63 (a n c x) : nbin Try.prog .eql 63 (.slice a n c x) (.slice none 0 0 none) = some (.bool a.isNone) := slice_eql Try.underlying63 a n c x
theorem sn63 (a n c x) : nbin Try.prog .neq 63 (.slice a n c x) (.slice none 0 0 none) = some (.bool !a.isNone) := slice_neq Try.underlying63 a n c x
theorem ia68 (b o n c : Nat) (x k) (i : Int) (h0 : 0 ≤ i) (h1 : i < (n : Int)) : nindexAddr Try.prog 68 (.slice (some (b, o)) n c x) (.int k i) = some (.ptr (some (b, o + i.toNat * 1))) := indexAddr_slice Try.underlying68 sz5 b o n c x k i h0 h1
theorem se68 (a n c x) : nbin Try.prog .eql 68 (.slice a n c x) (.slice none 0 0 none) = some (.bool a.isNone) := slice_eql Try.underlying68 a n c x
theorem sn68 (a n c x) : nbin Try.prog .neq 68 (.slice a n c x) (.slice none 0 0 none) = some (.bool !a.isNone) := slice_neq Try.underlying68 a n c x

theorem k2 (l : List NVal) (h : NHeap) : K env 2 l h = outF Try.prog [] (C env (bodyOf Try.f2) (l ++ List.replicate (1 - l.length) nundef) h) := K_body rfl (by kernel_rfl)
theorem k4 (l : List NVal) (h : NHeap) : K env 4 l h = outF Try.prog [.tmp 4] (C env (bodyOf Try.f4) (l ++ List.replicate (135 - l.length) nundef) h) := K_body rfl (by kernel_rfl)
theorem k5 (l : List NVal) (h : NHeap) : K env 5 l h = outF Try.prog [.tmp 8] (C env (bodyOf Try.f5) (l ++ List.replicate (122 - l.length) nundef) h) := K_body rfl (by kernel_rfl)
theorem k6 (l : List NVal) (h : NHeap) : K env 6 l h = outF Try.prog [.tmp 4] (C env (bodyOf Try.f6) (l ++ List.replicate (118 - l.length) nundef) h) := K_body rfl (by kernel_rfl)
theorem k7 (l : List NVal) (h : NHeap) : K env 7 l h = outF Try.prog [.tmp 8] (C env (bodyOf Try.f7) (l ++ List.replicate (161 - l.length) nundef) h) := K_body rfl (by kernel_rfl)
theorem k8 (l : List NVal) (h : NHeap) : K env 8 l h = outF Try.prog [.tmp 2, .tmp 3] (C env (bodyOf Try.f8) (l ++ List.replicate (60 - l.length) nundef) h) := K_body rfl (by kernel_rfl)
theorem k9 (l : List NVal) (h : NHeap) : K env 9 l h = outF Try.prog [.tmp 4] (C env (bodyOf Try.f9) (l ++ List.replicate (26 - l.length) nundef) h) := K_body rfl (by kernel_rfl)
theorem k10 (l : List NVal) (h : NHeap) : K env 10 l h = outF Try.prog [.tmp 4] (C env (bodyOf Try.f10) (l ++ List.replicate (45 - l.length) nundef) h) := K_body rfl (by kernel_rfl)
theorem k11 (l : List NVal) (h : NHeap) : K env 11 l h = outF Try.prog [.tmp 4] (C env (bodyOf Try.f11) (l ++ List.replicate (72 - l.length) nundef) h) := K_body rfl (by kernel_rfl)
theorem k12 (l : List NVal) (h : NHeap) : K env 12 l h = outF Try.prog [.tmp 4] (C env (bodyOf Try.f12) (l ++ List.replicate (69 - l.length) nundef) h) := K_body rfl (by kernel_rfl)
theorem k13 (l : List NVal) (h : NHeap) : K env 13 l h = outF Try.prog [.tmp 6] (C env (bodyOf Try.f13) (l ++ List.replicate (24 - l.length) nundef) h) := K_body rfl (by kernel_rfl)
theorem k14 (l : List NVal) (h : NHeap) : K env 14 l h = outF Try.prog [.tmp 4] (C env (bodyOf Try.f14) (l ++ List.replicate (22 - l.length) nundef) h) := K_body rfl (by kernel_rfl)
theorem k15 (l : List NVal) (h : NHeap) : K env 15 l h = outF Try.prog [.tmp 4, .tmp 5, .tmp 6] (C env (bodyOf Try.f15) (l ++ List.replicate (44 - l.length) nundef) h) := K_body rfl (by kernel_rfl)
theorem k16 (l : List NVal) (h : NHeap) : K env 16 l h = outF Try.prog [.tmp 4, .tmp 5, .tmp 6] (C env (bodyOf Try.f16) (l ++ List.replicate (37 - l.length) nundef) h) := K_body rfl (by kernel_rfl)
theorem k17 (l : List NVal) (h : NHeap) : K env 17 l h = outF Try.prog [.tmp 2] (C env (bodyOf Try.f17) (l ++ List.replicate (33 - l.length) nundef) h) := K_body rfl (by kernel_rfl)
theorem k18 (l : List NVal) (h : NHeap) : K env 18 l h = outF Try.prog [.tmp 4, .cell 5 27, .tmp 6] (C env (bodyOf Try.f18) (l ++ List.replicate (89 - l.length) nundef) h) := K_body rfl (by kernel_rfl)
theorem k19 (l : List NVal) (h : NHeap) : K env 19 l h = outF Try.prog [.tmp 4] (C env (bodyOf Try.f19) (l ++ List.replicate (38 - l.length) nundef) h) := K_body rfl (by kernel_rfl)
theorem k20 (l : List NVal) (h : NHeap) : K env 20 l h = outF Try.prog [.tmp 4] (C env (bodyOf Try.f20) (l ++ List.replicate (42 - l.length) nundef) h) := K_body rfl (by kernel_rfl)
theorem k21 (l : List NVal) (h : NHeap) : K env 21 l h = outF Try.prog [.tmp 2] (C env (bodyOf Try.f21) (l ++ List.replicate (46 - l.length) nundef) h) := K_body rfl (by kernel_rfl)
theorem k22 (l : List NVal) (h : NHeap) : K env 22 l h = outF Try.prog [.tmp 6, .tmp 7] (C env (bodyOf Try.f22) (l ++ List.replicate (53 - l.length) nundef) h) := K_body rfl (by kernel_rfl)
theorem k23 (l : List NVal) (h : NHeap) : K env 23 l h = outF Try.prog [.tmp 4] (C env (bodyOf Try.f23) (l ++ List.replicate (105 - l.length) nundef) h) := K_body rfl (by kernel_rfl)
theorem k24 (l : List NVal) (h : NHeap) : K env 24 l h = outF Try.prog [.tmp 2] (C env (bodyOf Try.f24) (l ++ List.replicate (8 - l.length) nundef) h) := K_body rfl (by kernel_rfl)
theorem k25 (l : List NVal) (h : NHeap) : K env 25 l h = outF Try.prog [.tmp 6] (C env (bodyOf Try.f25) (l ++ List.replicate (95 - l.length) nundef) h) := K_body rfl (by kernel_rfl)
theorem k26 (l : List NVal) (h : NHeap) : K env 26 l h = outF Try.prog [.tmp 6] (C env (bodyOf Try.f26) (l ++ List.replicate (33 - l.length) nundef) h) := K_body rfl (by kernel_rfl)
theorem k27 (l : List NVal) (h : NHeap) : K env 27 l h = outF Try.prog [.tmp 4] (C env (bodyOf Try.f27) (l ++ List.replicate (20 - l.length) nundef) h) := K_body rfl (by kernel_rfl)
theorem k28 (l : List NVal) (h : NHeap) : K env 28 l h = outF Try.prog [.tmp 4, .tmp 5] (C env (bodyOf Try.f28) (l ++ List.replicate (28 - l.length) nundef) h) := K_body rfl (by kernel_rfl)
theorem k29 (l : List NVal) (h : NHeap) : K env 29 l h = outF Try.prog [.tmp 2] (C env (bodyOf Try.f29) (l ++ List.replicate (43 - l.length) nundef) h) := K_body rfl (by kernel_rfl)
theorem k31 (l : List NVal) (h : NHeap) : K env 31 l h = outF Try.prog [] (C env (bodyOf Try.f31) (l ++ List.replicate (10 - l.length) nundef) h) := K_body rfl (by kernel_rfl)
theorem k32 (l : List NVal) (h : NHeap) : K env 32 l h = outF Try.prog [] (C env (bodyOf Try.f32) (l ++ List.replicate (14 - l.length) nundef) h) := K_body rfl (by kernel_rfl)
theorem k33 (l : List NVal) (h : NHeap) : K env 33 l h = outF Try.prog [] (C env (bodyOf Try.f33) (l ++ List.replicate (28 - l.length) nundef) h) := K_body rfl (by kernel_rfl)
end Go.Proofs.Ytdooojhnldlkeaa.S
