/-
  Calls without memory among their arguments, worked out once: newArena. No conditions.
-/
import Derived.Test.YtamcodigpocecaaGreatTab
import Derived.Test.YtamcodigpocecaaGreatNice27
namespace Go.Proofs.YtamcodigpocecaaGreat
open Go Go.Proofs.YtamcodigpocecaaGreat.NICE
set_option maxRecDepth 100000

set_option linter.unusedSectionVars false
variable [Syms]
noncomputable def newArenaArgs : List NVal := [(.agg [(.int .i64 40), (.int .i64 24), (.int .i64 8), (.int .i64 4), (.int .i64 2)])]
noncomputable def newArenaVal : NVal := (.tuple [(.ptr (some (1, 0))), (.int .i64 0)])
noncomputable def newArenaHeap : List NObj := 
  (apL [.dead, .cells [(.slice (some (557, 0)) 78 78 (some 4)), (.ptr (some (3, 0))), (.ptr (some (285, 0))), (.ptr (some (455, 0))), (.ptr (some (513, 0))), (.ptr (some (543, 0)))] (.own none), .map [((.int .i64 0), (.agg [])), ((.int .i64 1), (.agg [])), ((.int .i64 2), (.agg [])), ((.int .i64 3), (.agg [])), ((.int .i64 4), (.agg [])), ((.int .i64 5), (.agg [])), ((.int .i64 6), (.agg [])), ((.int .i64 7), (.agg [])), ((.int .i64 8), (.agg [])), ((.int .i64 9), (.agg [])), ((.int .i64 10), (.agg [])), ((.int .i64 11), (.agg [])), ((.int .i64 12), (.agg [])), ((.int .i64 13), (.agg [])), ((.int .i64 14), (.agg [])), ((.int .i64 15), (.agg [])), ((.int .i64 16), (.agg [])), ((.int .i64 17), (.agg [])), ((.int .i64 18), (.agg [])), ((.int .i64 19), (.agg [])), ((.int .i64 20), (.agg [])), ((.int .i64 21), (.agg [])), ((.int .i64 22), (.agg [])), ((.int .i64 23), (.agg [])), ((.int .i64 24), (.agg [])), ((.int .i64 25), (.agg [])), ((.int .i64 26), (.agg [])), ((.int .i64 27), (.agg [])), ((.int .i64 28), (.agg [])), ((.int .i64 29), (.agg [])), ((.int .i64 30), (.agg [])), ((.int .i64 31), (.agg [])), ((.int .i64 32), (.agg [])), ((.int .i64 33), (.agg [])), ((.int .i64 34), (.agg [])), ((.int .i64 35), (.agg [])), ((.int .i64 36), (.agg [])), ((.int .i64 37), (.agg [])), ((.int .i64 38), (.agg [])), ((.int .i64 39), (.agg []))], .cells [(.int .i64 1024), (.slice (some (279, 0)) 40 40 (some 1)), (.map (some 2))] (.own none)]
  (apL (List.replicate 5 (.dead))
  (apL [.cells (List.replicate 8 (.int .u64 16045690984833335023)) (.own none)]
  (apL (List.replicate 6 (.dead))
  (apL [.cells (List.replicate 8 (.int .u64 16045690984833335023)) (.own none)]
  (apL (List.replicate 6 (.dead))
  (apL [.cells (List.replicate 8 (.int .u64 16045690984833335023)) (.own none)]
  (apL (List.replicate 6 (.dead))
  (apL [.cells (List.replicate 8 (.int .u64 16045690984833335023)) (.own none)]
  (apL (List.replicate 6 (.dead))
  (apL [.cells (List.replicate 8 (.int .u64 16045690984833335023)) (.own none)]
  (apL (List.replicate 6 (.dead))
  (apL [.cells (List.replicate 8 (.int .u64 16045690984833335023)) (.own none)]
  (apL (List.replicate 6 (.dead))
  (apL [.cells (List.replicate 8 (.int .u64 16045690984833335023)) (.own none)]
  (apL (List.replicate 6 (.dead))
  (apL [.cells (List.replicate 8 (.int .u64 16045690984833335023)) (.own none)]
  (apL (List.replicate 6 (.dead))
  (apL [.cells (List.replicate 8 (.int .u64 16045690984833335023)) (.own none)]
  (apL (List.replicate 6 (.dead))
  (apL [.cells (List.replicate 8 (.int .u64 16045690984833335023)) (.own none)]
  (apL (List.replicate 6 (.dead))
  (apL [.cells (List.replicate 8 (.int .u64 16045690984833335023)) (.own none)]
  (apL (List.replicate 6 (.dead))
  (apL [.cells (List.replicate 8 (.int .u64 16045690984833335023)) (.own none)]
  (apL (List.replicate 6 (.dead))
  (apL [.cells (List.replicate 8 (.int .u64 16045690984833335023)) (.own none)]
  (apL (List.replicate 6 (.dead))
  (apL [.cells (List.replicate 8 (.int .u64 16045690984833335023)) (.own none)]
  (apL (List.replicate 6 (.dead))
  (apL [.cells (List.replicate 8 (.int .u64 16045690984833335023)) (.own none)]
  (apL (List.replicate 6 (.dead))
  (apL [.cells (List.replicate 8 (.int .u64 16045690984833335023)) (.own none)]
  (apL (List.replicate 6 (.dead))
  (apL [.cells (List.replicate 8 (.int .u64 16045690984833335023)) (.own none)]
  (apL (List.replicate 6 (.dead))
  (apL [.cells (List.replicate 8 (.int .u64 16045690984833335023)) (.own none)]
  (apL (List.replicate 6 (.dead))
  (apL [.cells (List.replicate 8 (.int .u64 16045690984833335023)) (.own none)]
  (apL (List.replicate 6 (.dead))
  (apL [.cells (List.replicate 8 (.int .u64 16045690984833335023)) (.own none)]
  (apL (List.replicate 6 (.dead))
  (apL [.cells (List.replicate 8 (.int .u64 16045690984833335023)) (.own none)]
  (apL (List.replicate 6 (.dead))
  (apL [.cells (List.replicate 8 (.int .u64 16045690984833335023)) (.own none)]
  (apL (List.replicate 6 (.dead))
  (apL [.cells (List.replicate 8 (.int .u64 16045690984833335023)) (.own none)]
  (apL (List.replicate 6 (.dead))
  (apL [.cells (List.replicate 8 (.int .u64 16045690984833335023)) (.own none)]
  (apL (List.replicate 6 (.dead))
  (apL [.cells (List.replicate 8 (.int .u64 16045690984833335023)) (.own none)]
  (apL (List.replicate 6 (.dead))
  (apL [.cells (List.replicate 8 (.int .u64 16045690984833335023)) (.own none)]
  (apL (List.replicate 6 (.dead))
  (apL [.cells (List.replicate 8 (.int .u64 16045690984833335023)) (.own none)]
  (apL (List.replicate 6 (.dead))
  (apL [.cells (List.replicate 8 (.int .u64 16045690984833335023)) (.own none)]
  (apL (List.replicate 6 (.dead))
  (apL [.cells (List.replicate 8 (.int .u64 16045690984833335023)) (.own none)]
  (apL (List.replicate 6 (.dead))
  (apL [.cells (List.replicate 8 (.int .u64 16045690984833335023)) (.own none)]
  (apL (List.replicate 6 (.dead))
  (apL [.cells (List.replicate 8 (.int .u64 16045690984833335023)) (.own none)]
  (apL (List.replicate 6 (.dead))
  (apL [.cells (List.replicate 8 (.int .u64 16045690984833335023)) (.own none)]
  (apL (List.replicate 6 (.dead))
  (apL [.cells (List.replicate 8 (.int .u64 16045690984833335023)) (.own none)]
  (apL (List.replicate 6 (.dead))
  (apL [.cells (List.replicate 8 (.int .u64 16045690984833335023)) (.own none)]
  (apL (List.replicate 6 (.dead))
  (apL [.cells (List.replicate 8 (.int .u64 16045690984833335023)) (.own none)]
  (apL (List.replicate 6 (.dead))
  (apL [.cells (List.replicate 8 (.int .u64 16045690984833335023)) (.own none)]
  (apL (List.replicate 6 (.dead))
  (apL [.cells (List.replicate 8 (.int .u64 16045690984833335023)) (.own none)]
  (apL (List.replicate 6 (.dead))
  (apL [.cells (List.replicate 8 (.int .u64 16045690984833335023)) (.own none)]
  (apL (List.replicate 6 (.dead))
  (apL [.cells (List.replicate 8 (.int .u64 16045690984833335023)) (.own none), .dead, .dead, .dead, .cells [(.int .i64 0), (.int .i64 1), (.int .i64 2), (.int .i64 3), (.int .i64 4), (.int .i64 5), (.int .i64 6), (.int .i64 7), (.int .i64 8), (.int .i64 9), (.int .i64 10), (.int .i64 11), (.int .i64 12), (.int .i64 13), (.int .i64 14), (.int .i64 15), (.int .i64 16), (.int .i64 17), (.int .i64 18), (.int .i64 19), (.int .i64 20), (.int .i64 21), (.int .i64 22), (.int .i64 23), (.int .i64 24), (.int .i64 25), (.int .i64 26), (.int .i64 27), (.int .i64 28), (.int .i64 29), (.int .i64 30), (.int .i64 31), (.int .i64 32), (.int .i64 33), (.int .i64 34), (.int .i64 35), (.int .i64 36), (.int .i64 37), (.int .i64 38), (.int .i64 39)] (.own (some (3, 0))), .dead, .dead, .cells (List.replicate 8 (.int .u64 16045690984833335023)) (.own none), .dead, .map [((.int .i64 40), (.agg [])), ((.int .i64 41), (.agg [])), ((.int .i64 42), (.agg [])), ((.int .i64 43), (.agg [])), ((.int .i64 44), (.agg [])), ((.int .i64 45), (.agg [])), ((.int .i64 46), (.agg [])), ((.int .i64 47), (.agg [])), ((.int .i64 48), (.agg [])), ((.int .i64 49), (.agg [])), ((.int .i64 50), (.agg [])), ((.int .i64 51), (.agg [])), ((.int .i64 52), (.agg [])), ((.int .i64 53), (.agg [])), ((.int .i64 54), (.agg [])), ((.int .i64 55), (.agg [])), ((.int .i64 56), (.agg [])), ((.int .i64 57), (.agg [])), ((.int .i64 58), (.agg [])), ((.int .i64 59), (.agg [])), ((.int .i64 60), (.agg [])), ((.int .i64 61), (.agg [])), ((.int .i64 62), (.agg [])), ((.int .i64 63), (.agg []))], .cells [(.int .i64 1024), (.slice (some (449, 0)) 24 24 (some 1)), (.map (some 284))] (.own none)]
  (apL (List.replicate 5 (.dead))
  (apL [.cells (List.replicate 12 (.int .u64 16045690984833335023)) (.own none)]
  (apL (List.replicate 6 (.dead))
  (apL [.cells (List.replicate 12 (.int .u64 16045690984833335023)) (.own none)]
  (apL (List.replicate 6 (.dead))
  (apL [.cells (List.replicate 12 (.int .u64 16045690984833335023)) (.own none)]
  (apL (List.replicate 6 (.dead))
  (apL [.cells (List.replicate 12 (.int .u64 16045690984833335023)) (.own none)]
  (apL (List.replicate 6 (.dead))
  (apL [.cells (List.replicate 12 (.int .u64 16045690984833335023)) (.own none)]
  (apL (List.replicate 6 (.dead))
  (apL [.cells (List.replicate 12 (.int .u64 16045690984833335023)) (.own none)]
  (apL (List.replicate 6 (.dead))
  (apL [.cells (List.replicate 12 (.int .u64 16045690984833335023)) (.own none)]
  (apL (List.replicate 6 (.dead))
  (apL [.cells (List.replicate 12 (.int .u64 16045690984833335023)) (.own none)]
  (apL (List.replicate 6 (.dead))
  (apL [.cells (List.replicate 12 (.int .u64 16045690984833335023)) (.own none)]
  (apL (List.replicate 6 (.dead))
  (apL [.cells (List.replicate 12 (.int .u64 16045690984833335023)) (.own none)]
  (apL (List.replicate 6 (.dead))
  (apL [.cells (List.replicate 12 (.int .u64 16045690984833335023)) (.own none)]
  (apL (List.replicate 6 (.dead))
  (apL [.cells (List.replicate 12 (.int .u64 16045690984833335023)) (.own none)]
  (apL (List.replicate 6 (.dead))
  (apL [.cells (List.replicate 12 (.int .u64 16045690984833335023)) (.own none)]
  (apL (List.replicate 6 (.dead))
  (apL [.cells (List.replicate 12 (.int .u64 16045690984833335023)) (.own none)]
  (apL (List.replicate 6 (.dead))
  (apL [.cells (List.replicate 12 (.int .u64 16045690984833335023)) (.own none)]
  (apL (List.replicate 6 (.dead))
  (apL [.cells (List.replicate 12 (.int .u64 16045690984833335023)) (.own none)]
  (apL (List.replicate 6 (.dead))
  (apL [.cells (List.replicate 12 (.int .u64 16045690984833335023)) (.own none)]
  (apL (List.replicate 6 (.dead))
  (apL [.cells (List.replicate 12 (.int .u64 16045690984833335023)) (.own none)]
  (apL (List.replicate 6 (.dead))
  (apL [.cells (List.replicate 12 (.int .u64 16045690984833335023)) (.own none)]
  (apL (List.replicate 6 (.dead))
  (apL [.cells (List.replicate 12 (.int .u64 16045690984833335023)) (.own none)]
  (apL (List.replicate 6 (.dead))
  (apL [.cells (List.replicate 12 (.int .u64 16045690984833335023)) (.own none)]
  (apL (List.replicate 6 (.dead))
  (apL [.cells (List.replicate 12 (.int .u64 16045690984833335023)) (.own none)]
  (apL (List.replicate 6 (.dead))
  (apL [.cells (List.replicate 12 (.int .u64 16045690984833335023)) (.own none), .dead, .dead, .dead, .cells [(.int .i64 40), (.int .i64 41), (.int .i64 42), (.int .i64 43), (.int .i64 44), (.int .i64 45), (.int .i64 46), (.int .i64 47), (.int .i64 48), (.int .i64 49), (.int .i64 50), (.int .i64 51), (.int .i64 52), (.int .i64 53), (.int .i64 54), (.int .i64 55), (.int .i64 56), (.int .i64 57), (.int .i64 58), (.int .i64 59), (.int .i64 60), (.int .i64 61), (.int .i64 62), (.int .i64 63)] (.own (some (3, 0))), .dead, .dead, .cells (List.replicate 12 (.int .u64 16045690984833335023)) (.own none), .dead, .map [((.int .i64 64), (.agg [])), ((.int .i64 65), (.agg [])), ((.int .i64 66), (.agg [])), ((.int .i64 67), (.agg [])), ((.int .i64 68), (.agg [])), ((.int .i64 69), (.agg [])), ((.int .i64 70), (.agg [])), ((.int .i64 71), (.agg []))], .cells [(.int .i64 1024), (.slice (some (507, 0)) 8 8 (some 1)), (.map (some 454))] (.own none)]
  (apL (List.replicate 5 (.dead))
  (apL [.cells (List.replicate 24 (.int .u64 16045690984833335023)) (.own none)]
  (apL (List.replicate 6 (.dead))
  (apL [.cells (List.replicate 24 (.int .u64 16045690984833335023)) (.own none)]
  (apL (List.replicate 6 (.dead))
  (apL [.cells (List.replicate 24 (.int .u64 16045690984833335023)) (.own none)]
  (apL (List.replicate 6 (.dead))
  (apL [.cells (List.replicate 24 (.int .u64 16045690984833335023)) (.own none)]
  (apL (List.replicate 6 (.dead))
  (apL [.cells (List.replicate 24 (.int .u64 16045690984833335023)) (.own none)]
  (apL (List.replicate 6 (.dead))
  (apL [.cells (List.replicate 24 (.int .u64 16045690984833335023)) (.own none)]
  (apL (List.replicate 6 (.dead))
  (apL [.cells (List.replicate 24 (.int .u64 16045690984833335023)) (.own none), .dead, .dead, .dead, .cells [(.int .i64 64), (.int .i64 65), (.int .i64 66), (.int .i64 67), (.int .i64 68), (.int .i64 69), (.int .i64 70), (.int .i64 71)] (.own (some (3, 0))), .dead, .dead, .cells (List.replicate 24 (.int .u64 16045690984833335023)) (.own none), .dead, .map [((.int .i64 72), (.agg [])), ((.int .i64 73), (.agg [])), ((.int .i64 74), (.agg [])), ((.int .i64 75), (.agg []))], .cells [(.int .i64 1024), (.slice (some (537, 0)) 4 4 (some 1)), (.map (some 512))] (.own none)]
  (apL (List.replicate 5 (.dead))
  (apL [.cells (List.replicate 88 (.int .u64 16045690984833335023)) (.own none)]
  (apL (List.replicate 6 (.dead))
  (apL [.cells (List.replicate 88 (.int .u64 16045690984833335023)) (.own none)]
  (apL (List.replicate 6 (.dead))
  (apL [.cells (List.replicate 88 (.int .u64 16045690984833335023)) (.own none), .dead, .dead, .dead, .cells [(.int .i64 72), (.int .i64 73), (.int .i64 74), (.int .i64 75)] (.own (some (3, 0))), .dead, .dead, .cells (List.replicate 88 (.int .u64 16045690984833335023)) (.own none), .dead, .map [((.int .i64 76), (.agg [])), ((.int .i64 77), (.agg []))], .cells [(.int .i64 1024), (.slice (some (553, 0)) 2 2 (some 1)), (.map (some 542))] (.own none)]
  (apL (List.replicate 5 (.dead))
  [.cells (List.replicate 264 (.int .u64 16045690984833335023)) (.own none), .dead, .dead, .dead, .cells [(.int .i64 76), (.int .i64 77)] (.own (some (3, 0))), .dead, .dead, .cells (List.replicate 264 (.int .u64 16045690984833335023)) (.own none), .cells [(.int .i64 0), (.int .i64 1), (.bool false), (.slice (some (9, 0)) 8 8 none), (.int .i64 0), (.int .i64 1), (.bool false), (.slice (some (16, 0)) 8 8 none), (.int .i64 0), (.int .i64 1), (.bool false), (.slice (some (23, 0)) 8 8 none), (.int .i64 0), (.int .i64 1), (.bool false), (.slice (some (30, 0)) 8 8 none), (.int .i64 0), (.int .i64 1), (.bool false), (.slice (some (37, 0)) 8 8 none), (.int .i64 0), (.int .i64 1), (.bool false), (.slice (some (44, 0)) 8 8 none), (.int .i64 0), (.int .i64 1), (.bool false), (.slice (some (51, 0)) 8 8 none), (.int .i64 0), (.int .i64 1), (.bool false), (.slice (some (58, 0)) 8 8 none), (.int .i64 0), (.int .i64 1), (.bool false), (.slice (some (65, 0)) 8 8 none), (.int .i64 0), (.int .i64 1), (.bool false), (.slice (some (72, 0)) 8 8 none), (.int .i64 0), (.int .i64 1), (.bool false), (.slice (some (79, 0)) 8 8 none), (.int .i64 0), (.int .i64 1), (.bool false), (.slice (some (86, 0)) 8 8 none), (.int .i64 0), (.int .i64 1), (.bool false), (.slice (some (93, 0)) 8 8 none), (.int .i64 0), (.int .i64 1), (.bool false), (.slice (some (100, 0)) 8 8 none), (.int .i64 0), (.int .i64 1), (.bool false), (.slice (some (107, 0)) 8 8 none), (.int .i64 0), (.int .i64 1), (.bool false), (.slice (some (114, 0)) 8 8 none), (.int .i64 0), (.int .i64 1), (.bool false), (.slice (some (121, 0)) 8 8 none), (.int .i64 0), (.int .i64 1), (.bool false), (.slice (some (128, 0)) 8 8 none), (.int .i64 0), (.int .i64 1), (.bool false), (.slice (some (135, 0)) 8 8 none), (.int .i64 0), (.int .i64 1), (.bool false), (.slice (some (142, 0)) 8 8 none), (.int .i64 0), (.int .i64 1), (.bool false), (.slice (some (149, 0)) 8 8 none), (.int .i64 0), (.int .i64 1), (.bool false), (.slice (some (156, 0)) 8 8 none), (.int .i64 0), (.int .i64 1), (.bool false), (.slice (some (163, 0)) 8 8 none), (.int .i64 0), (.int .i64 1), (.bool false), (.slice (some (170, 0)) 8 8 none), (.int .i64 0), (.int .i64 1), (.bool false), (.slice (some (177, 0)) 8 8 none), (.int .i64 0), (.int .i64 1), (.bool false), (.slice (some (184, 0)) 8 8 none), (.int .i64 0), (.int .i64 1), (.bool false), (.slice (some (191, 0)) 8 8 none), (.int .i64 0), (.int .i64 1), (.bool false), (.slice (some (198, 0)) 8 8 none), (.int .i64 0), (.int .i64 1), (.bool false), (.slice (some (205, 0)) 8 8 none), (.int .i64 0), (.int .i64 1), (.bool false), (.slice (some (212, 0)) 8 8 none), (.int .i64 0), (.int .i64 1), (.bool false), (.slice (some (219, 0)) 8 8 none), (.int .i64 0), (.int .i64 1), (.bool false), (.slice (some (226, 0)) 8 8 none), (.int .i64 0), (.int .i64 1), (.bool false), (.slice (some (233, 0)) 8 8 none), (.int .i64 0), (.int .i64 1), (.bool false), (.slice (some (240, 0)) 8 8 none), (.int .i64 0), (.int .i64 1), (.bool false), (.slice (some (247, 0)) 8 8 none), (.int .i64 0), (.int .i64 1), (.bool false), (.slice (some (254, 0)) 8 8 none), (.int .i64 0), (.int .i64 1), (.bool false), (.slice (some (261, 0)) 8 8 none), (.int .i64 0), (.int .i64 1), (.bool false), (.slice (some (268, 0)) 8 8 none), (.int .i64 0), (.int .i64 1), (.bool false), (.slice (some (275, 0)) 8 8 none), (.int .i64 0), (.int .i64 1), (.bool false), (.slice (some (282, 0)) 8 8 none), (.int .i64 1), (.int .i64 1), (.bool false), (.slice (some (291, 0)) 12 12 none), (.int .i64 1), (.int .i64 1), (.bool false), (.slice (some (298, 0)) 12 12 none), (.int .i64 1), (.int .i64 1), (.bool false), (.slice (some (305, 0)) 12 12 none), (.int .i64 1), (.int .i64 1), (.bool false), (.slice (some (312, 0)) 12 12 none), (.int .i64 1), (.int .i64 1), (.bool false), (.slice (some (319, 0)) 12 12 none), (.int .i64 1), (.int .i64 1), (.bool false), (.slice (some (326, 0)) 12 12 none), (.int .i64 1), (.int .i64 1), (.bool false), (.slice (some (333, 0)) 12 12 none), (.int .i64 1), (.int .i64 1), (.bool false), (.slice (some (340, 0)) 12 12 none), (.int .i64 1), (.int .i64 1), (.bool false), (.slice (some (347, 0)) 12 12 none), (.int .i64 1), (.int .i64 1), (.bool false), (.slice (some (354, 0)) 12 12 none), (.int .i64 1), (.int .i64 1), (.bool false), (.slice (some (361, 0)) 12 12 none), (.int .i64 1), (.int .i64 1), (.bool false), (.slice (some (368, 0)) 12 12 none), (.int .i64 1), (.int .i64 1), (.bool false), (.slice (some (375, 0)) 12 12 none), (.int .i64 1), (.int .i64 1), (.bool false), (.slice (some (382, 0)) 12 12 none), (.int .i64 1), (.int .i64 1), (.bool false), (.slice (some (389, 0)) 12 12 none), (.int .i64 1), (.int .i64 1), (.bool false), (.slice (some (396, 0)) 12 12 none), (.int .i64 1), (.int .i64 1), (.bool false), (.slice (some (403, 0)) 12 12 none), (.int .i64 1), (.int .i64 1), (.bool false), (.slice (some (410, 0)) 12 12 none), (.int .i64 1), (.int .i64 1), (.bool false), (.slice (some (417, 0)) 12 12 none), (.int .i64 1), (.int .i64 1), (.bool false), (.slice (some (424, 0)) 12 12 none), (.int .i64 1), (.int .i64 1), (.bool false), (.slice (some (431, 0)) 12 12 none), (.int .i64 1), (.int .i64 1), (.bool false), (.slice (some (438, 0)) 12 12 none), (.int .i64 1), (.int .i64 1), (.bool false), (.slice (some (445, 0)) 12 12 none), (.int .i64 1), (.int .i64 1), (.bool false), (.slice (some (452, 0)) 12 12 none), (.int .i64 2), (.int .i64 1), (.bool false), (.slice (some (461, 0)) 24 24 none), (.int .i64 2), (.int .i64 1), (.bool false), (.slice (some (468, 0)) 24 24 none), (.int .i64 2), (.int .i64 1), (.bool false), (.slice (some (475, 0)) 24 24 none), (.int .i64 2), (.int .i64 1), (.bool false), (.slice (some (482, 0)) 24 24 none), (.int .i64 2), (.int .i64 1), (.bool false), (.slice (some (489, 0)) 24 24 none), (.int .i64 2), (.int .i64 1), (.bool false), (.slice (some (496, 0)) 24 24 none), (.int .i64 2), (.int .i64 1), (.bool false), (.slice (some (503, 0)) 24 24 none), (.int .i64 2), (.int .i64 1), (.bool false), (.slice (some (510, 0)) 24 24 none), (.int .i64 3), (.int .i64 1), (.bool false), (.slice (some (519, 0)) 88 88 none), (.int .i64 3), (.int .i64 1), (.bool false), (.slice (some (526, 0)) 88 88 none), (.int .i64 3), (.int .i64 1), (.bool false), (.slice (some (533, 0)) 88 88 none), (.int .i64 3), (.int .i64 1), (.bool false), (.slice (some (540, 0)) 88 88 none), (.int .i64 4), (.int .i64 1), (.bool false), (.slice (some (549, 0)) 264 264 none), (.int .i64 4), (.int .i64 1), (.bool false), (.slice (some (556, 0)) 264 264 none)] (.own (some (175, 0)))]))))))))))))))))))))))))))))))))))))))))))))))))))))))))))))))))))))))))))))))))))))))))))))))))))))))))))))))))))))))))))))))))))))))))))))))))))

theorem newArenaRun : memoIs newArenaVal newArenaHeap (tF Tryz.prog env 100000 (300 + 1) 50 newArenaArgs NHeap.empty) = true := by kernel_rfl
noncomputable def envNKnown : CallF := (memoF 50 newArenaArgs newArenaVal newArenaHeap (idxKnown 134))
theorem envNKnown_ok : CallOk Tryz.prog envNKnown := (memoF_ok (Checked.mixed Tryz.checked) env (m := 100000) (n := 300) (by kernel_rfl) newArenaRun (by kernel_rfl) (by kernel_rfl) idx_ok)
noncomputable def envN : Env Tryz.prog drStatic := tab.env tab_ok envNKnown envNKnown_ok
end Go.Proofs.YtamcodigpocecaaGreat
