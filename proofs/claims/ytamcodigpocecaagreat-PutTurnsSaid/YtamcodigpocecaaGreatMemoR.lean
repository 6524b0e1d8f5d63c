/-
  Calls without memory among their arguments, worked out once: refArena. No conditions.
-/
import Derived.Test.YtamcodigpocecaaGreatMemoP
import Derived.Test.YtamcodigpocecaaGreatMemoN
import Derived.Test.YtamcodigpocecaaGreatNice27
namespace Go.Proofs.YtamcodigpocecaaGreat
open Go Go.Proofs.YtamcodigpocecaaGreat.NICE
set_option maxRecDepth 100000

set_option linter.unusedSectionVars false
variable [Syms]
noncomputable def refArenaArgs : List NVal := [(.agg [(.int .i64 40), (.int .i64 24), (.int .i64 8), (.int .i64 4), (.int .i64 2)])]
noncomputable def refArenaVal : NVal := (.tuple [(.ptr (some (1, 0))), (.int .i64 0)])
noncomputable def refArenaHeap : List NObj := 
  (apL [.dead, .cells [(.slice (some (542, 0)) 78 78 (some 4)), (.int .i64 78), (.slice (some (277, 0)) 40 40 (some 1)), (.int .i64 78), (.slice (some (444, 0)) 24 24 (some 1)), (.int .i64 78), (.slice (some (499, 0)) 8 8 (some 1)), (.int .i64 78), (.slice (some (526, 0)) 4 4 (some 1)), (.int .i64 78), (.slice (some (539, 0)) 2 2 (some 1))] (.own none)]
  (apL (List.replicate 4 (.dead))
  (apL [.cells (List.replicate 8 (.int .u64 16045690984833335023)) (.own none)]
  (apL (List.replicate 6 (.dead))
  (apL [.cells (List.replicate 8 (.int .u64 16045690984833335023)) (.own none)]
  (apL (List.replicate 6 (.dead))
  (apL [.cells (List.replicate 8 (.int .u64 16045690984833335023)) (.own none)]
  (apL (List.replicate 6 (.dead))
  (apL [.cells (List.replicate 8 (.int .u64 16045690984833335023)) (.own none)]
  (apL (List.replicate 6 (.dead))
  (apL [.cells (List.replicate 8 (.int .u64 16045690984833335023)) (.own none)]
  (apL (List.replicate 6 (.dead))
  (apL [.cells (List.replicate 8 (.int .u64 16045690984833335023)) (.own none)]
  (apL (List.replicate 6 (.dead))
  (apL [.cells (List.replicate 8 (.int .u64 16045690984833335023)) (.own none)]
  (apL (List.replicate 6 (.dead))
  (apL [.cells (List.replicate 8 (.int .u64 16045690984833335023)) (.own none)]
  (apL (List.replicate 6 (.dead))
  (apL [.cells (List.replicate 8 (.int .u64 16045690984833335023)) (.own none)]
  (apL (List.replicate 6 (.dead))
  (apL [.cells (List.replicate 8 (.int .u64 16045690984833335023)) (.own none)]
  (apL (List.replicate 6 (.dead))
  (apL [.cells (List.replicate 8 (.int .u64 16045690984833335023)) (.own none)]
  (apL (List.replicate 6 (.dead))
  (apL [.cells (List.replicate 8 (.int .u64 16045690984833335023)) (.own none)]
  (apL (List.replicate 6 (.dead))
  (apL [.cells (List.replicate 8 (.int .u64 16045690984833335023)) (.own none)]
  (apL (List.replicate 6 (.dead))
  (apL [.cells (List.replicate 8 (.int .u64 16045690984833335023)) (.own none)]
  (apL (List.replicate 6 (.dead))
  (apL [.cells (List.replicate 8 (.int .u64 16045690984833335023)) (.own none)]
  (apL (List.replicate 6 (.dead))
  (apL [.cells (List.replicate 8 (.int .u64 16045690984833335023)) (.own none)]
  (apL (List.replicate 6 (.dead))
  (apL [.cells (List.replicate 8 (.int .u64 16045690984833335023)) (.own none)]
  (apL (List.replicate 6 (.dead))
  (apL [.cells (List.replicate 8 (.int .u64 16045690984833335023)) (.own none)]
  (apL (List.replicate 6 (.dead))
  (apL [.cells (List.replicate 8 (.int .u64 16045690984833335023)) (.own none)]
  (apL (List.replicate 6 (.dead))
  (apL [.cells (List.replicate 8 (.int .u64 16045690984833335023)) (.own none)]
  (apL (List.replicate 6 (.dead))
  (apL [.cells (List.replicate 8 (.int .u64 16045690984833335023)) (.own none)]
  (apL (List.replicate 6 (.dead))
  (apL [.cells (List.replicate 8 (.int .u64 16045690984833335023)) (.own none)]
  (apL (List.replicate 6 (.dead))
  (apL [.cells (List.replicate 8 (.int .u64 16045690984833335023)) (.own none)]
  (apL (List.replicate 6 (.dead))
  (apL [.cells (List.replicate 8 (.int .u64 16045690984833335023)) (.own none)]
  (apL (List.replicate 6 (.dead))
  (apL [.cells (List.replicate 8 (.int .u64 16045690984833335023)) (.own none)]
  (apL (List.replicate 6 (.dead))
  (apL [.cells (List.replicate 8 (.int .u64 16045690984833335023)) (.own none)]
  (apL (List.replicate 6 (.dead))
  (apL [.cells (List.replicate 8 (.int .u64 16045690984833335023)) (.own none)]
  (apL (List.replicate 6 (.dead))
  (apL [.cells (List.replicate 8 (.int .u64 16045690984833335023)) (.own none)]
  (apL (List.replicate 6 (.dead))
  (apL [.cells (List.replicate 8 (.int .u64 16045690984833335023)) (.own none)]
  (apL (List.replicate 6 (.dead))
  (apL [.cells (List.replicate 8 (.int .u64 16045690984833335023)) (.own none)]
  (apL (List.replicate 6 (.dead))
  (apL [.cells (List.replicate 8 (.int .u64 16045690984833335023)) (.own none)]
  (apL (List.replicate 6 (.dead))
  (apL [.cells (List.replicate 8 (.int .u64 16045690984833335023)) (.own none)]
  (apL (List.replicate 6 (.dead))
  (apL [.cells (List.replicate 8 (.int .u64 16045690984833335023)) (.own none)]
  (apL (List.replicate 6 (.dead))
  (apL [.cells (List.replicate 8 (.int .u64 16045690984833335023)) (.own none)]
  (apL (List.replicate 6 (.dead))
  (apL [.cells (List.replicate 8 (.int .u64 16045690984833335023)) (.own none)]
  (apL (List.replicate 6 (.dead))
  (apL [.cells (List.replicate 8 (.int .u64 16045690984833335023)) (.own none)]
  (apL (List.replicate 6 (.dead))
  (apL [.cells (List.replicate 8 (.int .u64 16045690984833335023)) (.own none)]
  (apL (List.replicate 6 (.dead))
  (apL [.cells (List.replicate 8 (.int .u64 16045690984833335023)) (.own none)]
  (apL (List.replicate 6 (.dead))
  (apL [.cells (List.replicate 8 (.int .u64 16045690984833335023)) (.own none)]
  (apL (List.replicate 4 (.dead))
  (apL [.cells [(.int .i64 0), (.int .i64 1), (.int .i64 2), (.int .i64 3), (.int .i64 4), (.int .i64 5), (.int .i64 6), (.int .i64 7), (.int .i64 8), (.int .i64 9), (.int .i64 10), (.int .i64 11), (.int .i64 12), (.int .i64 13), (.int .i64 14), (.int .i64 15), (.int .i64 16), (.int .i64 17), (.int .i64 18), (.int .i64 19), (.int .i64 20), (.int .i64 21), (.int .i64 22), (.int .i64 23), (.int .i64 24), (.int .i64 25), (.int .i64 26), (.int .i64 27), (.int .i64 28), (.int .i64 29), (.int .i64 30), (.int .i64 31), (.int .i64 32), (.int .i64 33), (.int .i64 34), (.int .i64 35), (.int .i64 36), (.int .i64 37), (.int .i64 38), (.int .i64 39)] (.own (some (3, 0))), .dead, .cells (List.replicate 8 (.int .u64 16045690984833335023)) (.own none)]
  (apL (List.replicate 5 (.dead))
  (apL [.cells (List.replicate 12 (.int .u64 16045690984833335023)) (.own none)]
  (apL (List.replicate 6 (.dead))
  (apL [.cells (List.replicate 12 (.int .u64 16045690984833335023)) (.own none)]
  (apL (List.replicate 6 (.dead))
  (apL [.cells (List.replicate 12 (.int .u64 16045690984833335023)) (.own none)]
  (apL (List.replicate 6 (.dead))
  (apL [.cells (List.replicate 12 (.int .u64 16045690984833335023)) (.own none)]
  (apL (List.replicate 6 (.dead))
  (apL [.cells (List.replicate 12 (.int .u64 16045690984833335023)) (.own none)]
  (apL (List.replicate 6 (.dead))
  (apL [.cells (List.replicate 12 (.int .u64 16045690984833335023)) (.own none)]
  (apL (List.replicate 6 (.dead))
  (apL [.cells (List.replicate 12 (.int .u64 16045690984833335023)) (.own none)]
  (apL (List.replicate 6 (.dead))
  (apL [.cells (List.replicate 12 (.int .u64 16045690984833335023)) (.own none)]
  (apL (List.replicate 6 (.dead))
  (apL [.cells (List.replicate 12 (.int .u64 16045690984833335023)) (.own none)]
  (apL (List.replicate 6 (.dead))
  (apL [.cells (List.replicate 12 (.int .u64 16045690984833335023)) (.own none)]
  (apL (List.replicate 6 (.dead))
  (apL [.cells (List.replicate 12 (.int .u64 16045690984833335023)) (.own none)]
  (apL (List.replicate 6 (.dead))
  (apL [.cells (List.replicate 12 (.int .u64 16045690984833335023)) (.own none)]
  (apL (List.replicate 6 (.dead))
  (apL [.cells (List.replicate 12 (.int .u64 16045690984833335023)) (.own none)]
  (apL (List.replicate 6 (.dead))
  (apL [.cells (List.replicate 12 (.int .u64 16045690984833335023)) (.own none)]
  (apL (List.replicate 6 (.dead))
  (apL [.cells (List.replicate 12 (.int .u64 16045690984833335023)) (.own none)]
  (apL (List.replicate 6 (.dead))
  (apL [.cells (List.replicate 12 (.int .u64 16045690984833335023)) (.own none)]
  (apL (List.replicate 6 (.dead))
  (apL [.cells (List.replicate 12 (.int .u64 16045690984833335023)) (.own none)]
  (apL (List.replicate 6 (.dead))
  (apL [.cells (List.replicate 12 (.int .u64 16045690984833335023)) (.own none)]
  (apL (List.replicate 6 (.dead))
  (apL [.cells (List.replicate 12 (.int .u64 16045690984833335023)) (.own none)]
  (apL (List.replicate 6 (.dead))
  (apL [.cells (List.replicate 12 (.int .u64 16045690984833335023)) (.own none)]
  (apL (List.replicate 6 (.dead))
  (apL [.cells (List.replicate 12 (.int .u64 16045690984833335023)) (.own none)]
  (apL (List.replicate 6 (.dead))
  (apL [.cells (List.replicate 12 (.int .u64 16045690984833335023)) (.own none)]
  (apL (List.replicate 6 (.dead))
  (apL [.cells (List.replicate 12 (.int .u64 16045690984833335023)) (.own none)]
  (apL (List.replicate 4 (.dead))
  (apL [.cells [(.int .i64 40), (.int .i64 41), (.int .i64 42), (.int .i64 43), (.int .i64 44), (.int .i64 45), (.int .i64 46), (.int .i64 47), (.int .i64 48), (.int .i64 49), (.int .i64 50), (.int .i64 51), (.int .i64 52), (.int .i64 53), (.int .i64 54), (.int .i64 55), (.int .i64 56), (.int .i64 57), (.int .i64 58), (.int .i64 59), (.int .i64 60), (.int .i64 61), (.int .i64 62), (.int .i64 63)] (.own (some (3, 0))), .dead, .cells (List.replicate 12 (.int .u64 16045690984833335023)) (.own none)]
  (apL (List.replicate 5 (.dead))
  (apL [.cells (List.replicate 24 (.int .u64 16045690984833335023)) (.own none)]
  (apL (List.replicate 6 (.dead))
  (apL [.cells (List.replicate 24 (.int .u64 16045690984833335023)) (.own none)]
  (apL (List.replicate 6 (.dead))
  (apL [.cells (List.replicate 24 (.int .u64 16045690984833335023)) (.own none)]
  (apL (List.replicate 6 (.dead))
  (apL [.cells (List.replicate 24 (.int .u64 16045690984833335023)) (.own none)]
  (apL (List.replicate 6 (.dead))
  (apL [.cells (List.replicate 24 (.int .u64 16045690984833335023)) (.own none)]
  (apL (List.replicate 6 (.dead))
  (apL [.cells (List.replicate 24 (.int .u64 16045690984833335023)) (.own none)]
  (apL (List.replicate 6 (.dead))
  (apL [.cells (List.replicate 24 (.int .u64 16045690984833335023)) (.own none)]
  (apL (List.replicate 4 (.dead))
  (apL [.cells [(.int .i64 64), (.int .i64 65), (.int .i64 66), (.int .i64 67), (.int .i64 68), (.int .i64 69), (.int .i64 70), (.int .i64 71)] (.own (some (3, 0))), .dead, .cells (List.replicate 24 (.int .u64 16045690984833335023)) (.own none)]
  (apL (List.replicate 5 (.dead))
  (apL [.cells (List.replicate 88 (.int .u64 16045690984833335023)) (.own none)]
  (apL (List.replicate 6 (.dead))
  (apL [.cells (List.replicate 88 (.int .u64 16045690984833335023)) (.own none)]
  (apL (List.replicate 6 (.dead))
  (apL [.cells (List.replicate 88 (.int .u64 16045690984833335023)) (.own none)]
  (apL (List.replicate 4 (.dead))
  (apL [.cells [(.int .i64 72), (.int .i64 73), (.int .i64 74), (.int .i64 75)] (.own (some (3, 0))), .dead, .cells (List.replicate 88 (.int .u64 16045690984833335023)) (.own none)]
  (apL (List.replicate 5 (.dead))
  (apL [.cells (List.replicate 264 (.int .u64 16045690984833335023)) (.own none)]
  (apL (List.replicate 4 (.dead))
  [.cells [(.int .i64 76), (.int .i64 77)] (.own (some (3, 0))), .dead, .cells (List.replicate 264 (.int .u64 16045690984833335023)) (.own none), .cells [(.int .i64 0), (.int .i64 1), (.bool false), (.slice (some (6, 0)) 8 8 none), (.int .i64 0), (.int .i64 1), (.bool false), (.slice (some (13, 0)) 8 8 none), (.int .i64 0), (.int .i64 1), (.bool false), (.slice (some (20, 0)) 8 8 none), (.int .i64 0), (.int .i64 1), (.bool false), (.slice (some (27, 0)) 8 8 none), (.int .i64 0), (.int .i64 1), (.bool false), (.slice (some (34, 0)) 8 8 none), (.int .i64 0), (.int .i64 1), (.bool false), (.slice (some (41, 0)) 8 8 none), (.int .i64 0), (.int .i64 1), (.bool false), (.slice (some (48, 0)) 8 8 none), (.int .i64 0), (.int .i64 1), (.bool false), (.slice (some (55, 0)) 8 8 none), (.int .i64 0), (.int .i64 1), (.bool false), (.slice (some (62, 0)) 8 8 none), (.int .i64 0), (.int .i64 1), (.bool false), (.slice (some (69, 0)) 8 8 none), (.int .i64 0), (.int .i64 1), (.bool false), (.slice (some (76, 0)) 8 8 none), (.int .i64 0), (.int .i64 1), (.bool false), (.slice (some (83, 0)) 8 8 none), (.int .i64 0), (.int .i64 1), (.bool false), (.slice (some (90, 0)) 8 8 none), (.int .i64 0), (.int .i64 1), (.bool false), (.slice (some (97, 0)) 8 8 none), (.int .i64 0), (.int .i64 1), (.bool false), (.slice (some (104, 0)) 8 8 none), (.int .i64 0), (.int .i64 1), (.bool false), (.slice (some (111, 0)) 8 8 none), (.int .i64 0), (.int .i64 1), (.bool false), (.slice (some (118, 0)) 8 8 none), (.int .i64 0), (.int .i64 1), (.bool false), (.slice (some (125, 0)) 8 8 none), (.int .i64 0), (.int .i64 1), (.bool false), (.slice (some (132, 0)) 8 8 none), (.int .i64 0), (.int .i64 1), (.bool false), (.slice (some (139, 0)) 8 8 none), (.int .i64 0), (.int .i64 1), (.bool false), (.slice (some (146, 0)) 8 8 none), (.int .i64 0), (.int .i64 1), (.bool false), (.slice (some (153, 0)) 8 8 none), (.int .i64 0), (.int .i64 1), (.bool false), (.slice (some (160, 0)) 8 8 none), (.int .i64 0), (.int .i64 1), (.bool false), (.slice (some (167, 0)) 8 8 none), (.int .i64 0), (.int .i64 1), (.bool false), (.slice (some (174, 0)) 8 8 none), (.int .i64 0), (.int .i64 1), (.bool false), (.slice (some (181, 0)) 8 8 none), (.int .i64 0), (.int .i64 1), (.bool false), (.slice (some (188, 0)) 8 8 none), (.int .i64 0), (.int .i64 1), (.bool false), (.slice (some (195, 0)) 8 8 none), (.int .i64 0), (.int .i64 1), (.bool false), (.slice (some (202, 0)) 8 8 none), (.int .i64 0), (.int .i64 1), (.bool false), (.slice (some (209, 0)) 8 8 none), (.int .i64 0), (.int .i64 1), (.bool false), (.slice (some (216, 0)) 8 8 none), (.int .i64 0), (.int .i64 1), (.bool false), (.slice (some (223, 0)) 8 8 none), (.int .i64 0), (.int .i64 1), (.bool false), (.slice (some (230, 0)) 8 8 none), (.int .i64 0), (.int .i64 1), (.bool false), (.slice (some (237, 0)) 8 8 none), (.int .i64 0), (.int .i64 1), (.bool false), (.slice (some (244, 0)) 8 8 none), (.int .i64 0), (.int .i64 1), (.bool false), (.slice (some (251, 0)) 8 8 none), (.int .i64 0), (.int .i64 1), (.bool false), (.slice (some (258, 0)) 8 8 none), (.int .i64 0), (.int .i64 1), (.bool false), (.slice (some (265, 0)) 8 8 none), (.int .i64 0), (.int .i64 1), (.bool false), (.slice (some (272, 0)) 8 8 none), (.int .i64 0), (.int .i64 1), (.bool false), (.slice (some (279, 0)) 8 8 none), (.int .i64 1), (.int .i64 1), (.bool false), (.slice (some (285, 0)) 12 12 none), (.int .i64 1), (.int .i64 1), (.bool false), (.slice (some (292, 0)) 12 12 none), (.int .i64 1), (.int .i64 1), (.bool false), (.slice (some (299, 0)) 12 12 none), (.int .i64 1), (.int .i64 1), (.bool false), (.slice (some (306, 0)) 12 12 none), (.int .i64 1), (.int .i64 1), (.bool false), (.slice (some (313, 0)) 12 12 none), (.int .i64 1), (.int .i64 1), (.bool false), (.slice (some (320, 0)) 12 12 none), (.int .i64 1), (.int .i64 1), (.bool false), (.slice (some (327, 0)) 12 12 none), (.int .i64 1), (.int .i64 1), (.bool false), (.slice (some (334, 0)) 12 12 none), (.int .i64 1), (.int .i64 1), (.bool false), (.slice (some (341, 0)) 12 12 none), (.int .i64 1), (.int .i64 1), (.bool false), (.slice (some (348, 0)) 12 12 none), (.int .i64 1), (.int .i64 1), (.bool false), (.slice (some (355, 0)) 12 12 none), (.int .i64 1), (.int .i64 1), (.bool false), (.slice (some (362, 0)) 12 12 none), (.int .i64 1), (.int .i64 1), (.bool false), (.slice (some (369, 0)) 12 12 none), (.int .i64 1), (.int .i64 1), (.bool false), (.slice (some (376, 0)) 12 12 none), (.int .i64 1), (.int .i64 1), (.bool false), (.slice (some (383, 0)) 12 12 none), (.int .i64 1), (.int .i64 1), (.bool false), (.slice (some (390, 0)) 12 12 none), (.int .i64 1), (.int .i64 1), (.bool false), (.slice (some (397, 0)) 12 12 none), (.int .i64 1), (.int .i64 1), (.bool false), (.slice (some (404, 0)) 12 12 none), (.int .i64 1), (.int .i64 1), (.bool false), (.slice (some (411, 0)) 12 12 none), (.int .i64 1), (.int .i64 1), (.bool false), (.slice (some (418, 0)) 12 12 none), (.int .i64 1), (.int .i64 1), (.bool false), (.slice (some (425, 0)) 12 12 none), (.int .i64 1), (.int .i64 1), (.bool false), (.slice (some (432, 0)) 12 12 none), (.int .i64 1), (.int .i64 1), (.bool false), (.slice (some (439, 0)) 12 12 none), (.int .i64 1), (.int .i64 1), (.bool false), (.slice (some (446, 0)) 12 12 none), (.int .i64 2), (.int .i64 1), (.bool false), (.slice (some (452, 0)) 24 24 none), (.int .i64 2), (.int .i64 1), (.bool false), (.slice (some (459, 0)) 24 24 none), (.int .i64 2), (.int .i64 1), (.bool false), (.slice (some (466, 0)) 24 24 none), (.int .i64 2), (.int .i64 1), (.bool false), (.slice (some (473, 0)) 24 24 none), (.int .i64 2), (.int .i64 1), (.bool false), (.slice (some (480, 0)) 24 24 none), (.int .i64 2), (.int .i64 1), (.bool false), (.slice (some (487, 0)) 24 24 none), (.int .i64 2), (.int .i64 1), (.bool false), (.slice (some (494, 0)) 24 24 none), (.int .i64 2), (.int .i64 1), (.bool false), (.slice (some (501, 0)) 24 24 none), (.int .i64 3), (.int .i64 1), (.bool false), (.slice (some (507, 0)) 88 88 none), (.int .i64 3), (.int .i64 1), (.bool false), (.slice (some (514, 0)) 88 88 none), (.int .i64 3), (.int .i64 1), (.bool false), (.slice (some (521, 0)) 88 88 none), (.int .i64 3), (.int .i64 1), (.bool false), (.slice (some (528, 0)) 88 88 none), (.int .i64 4), (.int .i64 1), (.bool false), (.slice (some (534, 0)) 264 264 none), (.int .i64 4), (.int .i64 1), (.bool false), (.slice (some (541, 0)) 264 264 none)] (.own (some (191, 0)))]))))))))))))))))))))))))))))))))))))))))))))))))))))))))))))))))))))))))))))))))))))))))))))))))))))))))))))))))))))))))))))))))))))))))))))))))))))))))))))

theorem refArenaRun : memoIs refArenaVal refArenaHeap (tF Tryz.prog envP 100000 (300 + 1) 54 refArenaArgs NHeap.empty) = true := by kernel_rfl
noncomputable def envRKnown : CallF := (memoF 54 refArenaArgs refArenaVal refArenaHeap envNKnown)
theorem envRKnown_ok : CallOk Tryz.prog envRKnown := (memoF_ok (Checked.mixed Tryz.checked) envP (m := 100000) (n := 300) (by kernel_rfl) refArenaRun (by kernel_rfl) (by kernel_rfl) envNKnown_ok)
noncomputable def envR : Env Tryz.prog drStatic := tab.env tab_ok envRKnown envRKnown_ok
end Go.Proofs.YtamcodigpocecaaGreat
