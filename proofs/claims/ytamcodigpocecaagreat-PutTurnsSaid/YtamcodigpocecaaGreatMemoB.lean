/-
  Calls without memory among their arguments, worked out once: begin. No conditions.
-/
import Derived.Test.YtamcodigpocecaaGreatMemoR
import Derived.Test.YtamcodigpocecaaGreatNice27
namespace Go.Proofs.YtamcodigpocecaaGreat
open Go Go.Proofs.YtamcodigpocecaaGreat.NICE
set_option maxRecDepth 100000

set_option linter.unusedSectionVars false
variable [Syms]
noncomputable def beginArgs : List NVal := [(.agg (List.replicate 8 (.int .i64 0)))]
noncomputable def beginVal : NVal := (.ptr (some (1133, 0)))
noncomputable def beginHeap : List NObj := 
  (apL (List.replicate 7 (.dead))
  (apL [.cells [(.slice (some (563, 0)) 78 78 (some 4)), (.ptr (some (9, 0))), (.ptr (some (291, 0))), (.ptr (some (461, 0))), (.ptr (some (519, 0))), (.ptr (some (549, 0)))] (.own none), .map [((.int .i64 0), (.agg [])), ((.int .i64 1), (.agg [])), ((.int .i64 2), (.agg [])), ((.int .i64 3), (.agg [])), ((.int .i64 4), (.agg [])), ((.int .i64 5), (.agg [])), ((.int .i64 6), (.agg [])), ((.int .i64 7), (.agg [])), ((.int .i64 8), (.agg [])), ((.int .i64 9), (.agg [])), ((.int .i64 10), (.agg [])), ((.int .i64 11), (.agg [])), ((.int .i64 12), (.agg [])), ((.int .i64 13), (.agg [])), ((.int .i64 14), (.agg [])), ((.int .i64 15), (.agg [])), ((.int .i64 16), (.agg [])), ((.int .i64 17), (.agg [])), ((.int .i64 18), (.agg [])), ((.int .i64 19), (.agg [])), ((.int .i64 20), (.agg [])), ((.int .i64 21), (.agg [])), ((.int .i64 22), (.agg [])), ((.int .i64 23), (.agg [])), ((.int .i64 24), (.agg [])), ((.int .i64 25), (.agg [])), ((.int .i64 26), (.agg [])), ((.int .i64 27), (.agg [])), ((.int .i64 28), (.agg [])), ((.int .i64 29), (.agg [])), ((.int .i64 30), (.agg [])), ((.int .i64 31), (.agg [])), ((.int .i64 32), (.agg [])), ((.int .i64 33), (.agg [])), ((.int .i64 34), (.agg [])), ((.int .i64 35), (.agg [])), ((.int .i64 36), (.agg [])), ((.int .i64 37), (.agg [])), ((.int .i64 38), (.agg [])), ((.int .i64 39), (.agg []))], .cells [(.int .i64 1024), (.slice (some (285, 0)) 40 40 (some 1)), (.map (some 8))] (.own none)]
  (apL (List.replicate 5 (.dead))
  (apL [.cells (List.replicate 8 (.int .u64 16045690984833335023)) (.own none)]
  (apL (List.replicate 6 (.dead))
  (apL [.cells (List.replicate 8 (.int .u64 16045690984833335023)) (.own none)]
  (apL (List.replicate 6 (.dead))
  (apL [.cells (List.replicate 8 (.int .u64 16045690984833335023)) (.own none)]
  (apL (List.replicate 6 (.dead))
  (apL [.cells (List.replicate 8 (.int .u64 16045690984833335023)) (.own none)]
  (apL (List.replicate 6 (.dead))
  (apL [.cells (List.replicate 8 (.int .u64 16045690984833335023)) (.own none)]
  (apL (List.replicate 6 (.dead))
  (apL [.cells (List.replicate 8 (.int .u64 16045690984833335023)) (.own none)]
  (apL (List.replicate 6 (.dead))
  (apL [.cells (List.replicate 8 (.int .u64 16045690984833335023)) (.own none)]
  (apL (List.replicate 6 (.dead))
  (apL [.cells (List.replicate 8 (.int .u64 16045690984833335023)) (.own none)]
  (apL (List.replicate 6 (.dead))
  (apL [.cells (List.replicate 8 (.int .u64 16045690984833335023)) (.own none)]
  (apL (List.replicate 6 (.dead))
  (apL [.cells (List.replicate 8 (.int .u64 16045690984833335023)) (.own none)]
  (apL (List.replicate 6 (.dead))
  (apL [.cells (List.replicate 8 (.int .u64 16045690984833335023)) (.own none)]
  (apL (List.replicate 6 (.dead))
  (apL [.cells (List.replicate 8 (.int .u64 16045690984833335023)) (.own none)]
  (apL (List.replicate 6 (.dead))
  (apL [.cells (List.replicate 8 (.int .u64 16045690984833335023)) (.own none)]
  (apL (List.replicate 6 (.dead))
  (apL [.cells (List.replicate 8 (.int .u64 16045690984833335023)) (.own none)]
  (apL (List.replicate 6 (.dead))
  (apL [.cells (List.replicate 8 (.int .u64 16045690984833335023)) (.own none)]
  (apL (List.replicate 6 (.dead))
  (apL [.cells (List.replicate 8 (.int .u64 16045690984833335023)) (.own none)]
  (apL (List.replicate 6 (.dead))
  (apL [.cells (List.replicate 8 (.int .u64 16045690984833335023)) (.own none)]
  (apL (List.replicate 6 (.dead))
  (apL [.cells (List.replicate 8 (.int .u64 16045690984833335023)) (.own none)]
  (apL (List.replicate 6 (.dead))
  (apL [.cells (List.replicate 8 (.int .u64 16045690984833335023)) (.own none)]
  (apL (List.replicate 6 (.dead))
  (apL [.cells (List.replicate 8 (.int .u64 16045690984833335023)) (.own none)]
  (apL (List.replicate 6 (.dead))
  (apL [.cells (List.replicate 8 (.int .u64 16045690984833335023)) (.own none)]
  (apL (List.replicate 6 (.dead))
  (apL [.cells (List.replicate 8 (.int .u64 16045690984833335023)) (.own none)]
  (apL (List.replicate 6 (.dead))
  (apL [.cells (List.replicate 8 (.int .u64 16045690984833335023)) (.own none)]
  (apL (List.replicate 6 (.dead))
  (apL [.cells (List.replicate 8 (.int .u64 16045690984833335023)) (.own none)]
  (apL (List.replicate 6 (.dead))
  (apL [.cells (List.replicate 8 (.int .u64 16045690984833335023)) (.own none)]
  (apL (List.replicate 6 (.dead))
  (apL [.cells (List.replicate 8 (.int .u64 16045690984833335023)) (.own none)]
  (apL (List.replicate 6 (.dead))
  (apL [.cells (List.replicate 8 (.int .u64 16045690984833335023)) (.own none)]
  (apL (List.replicate 6 (.dead))
  (apL [.cells (List.replicate 8 (.int .u64 16045690984833335023)) (.own none)]
  (apL (List.replicate 6 (.dead))
  (apL [.cells (List.replicate 8 (.int .u64 16045690984833335023)) (.own none)]
  (apL (List.replicate 6 (.dead))
  (apL [.cells (List.replicate 8 (.int .u64 16045690984833335023)) (.own none)]
  (apL (List.replicate 6 (.dead))
  (apL [.cells (List.replicate 8 (.int .u64 16045690984833335023)) (.own none)]
  (apL (List.replicate 6 (.dead))
  (apL [.cells (List.replicate 8 (.int .u64 16045690984833335023)) (.own none)]
  (apL (List.replicate 6 (.dead))
  (apL [.cells (List.replicate 8 (.int .u64 16045690984833335023)) (.own none)]
  (apL (List.replicate 6 (.dead))
  (apL [.cells (List.replicate 8 (.int .u64 16045690984833335023)) (.own none)]
  (apL (List.replicate 6 (.dead))
  (apL [.cells (List.replicate 8 (.int .u64 16045690984833335023)) (.own none)]
  (apL (List.replicate 6 (.dead))
  (apL [.cells (List.replicate 8 (.int .u64 16045690984833335023)) (.own none)]
  (apL (List.replicate 6 (.dead))
  (apL [.cells (List.replicate 8 (.int .u64 16045690984833335023)) (.own none)]
  (apL (List.replicate 6 (.dead))
  (apL [.cells (List.replicate 8 (.int .u64 16045690984833335023)) (.own none)]
  (apL (List.replicate 6 (.dead))
  (apL [.cells (List.replicate 8 (.int .u64 16045690984833335023)) (.own none), .dead, .dead, .dead, .cells [(.int .i64 0), (.int .i64 1), (.int .i64 2), (.int .i64 3), (.int .i64 4), (.int .i64 5), (.int .i64 6), (.int .i64 7), (.int .i64 8), (.int .i64 9), (.int .i64 10), (.int .i64 11), (.int .i64 12), (.int .i64 13), (.int .i64 14), (.int .i64 15), (.int .i64 16), (.int .i64 17), (.int .i64 18), (.int .i64 19), (.int .i64 20), (.int .i64 21), (.int .i64 22), (.int .i64 23), (.int .i64 24), (.int .i64 25), (.int .i64 26), (.int .i64 27), (.int .i64 28), (.int .i64 29), (.int .i64 30), (.int .i64 31), (.int .i64 32), (.int .i64 33), (.int .i64 34), (.int .i64 35), (.int .i64 36), (.int .i64 37), (.int .i64 38), (.int .i64 39)] (.own (some (3, 0))), .dead, .dead, .cells (List.replicate 8 (.int .u64 16045690984833335023)) (.own none), .dead, .map [((.int .i64 40), (.agg [])), ((.int .i64 41), (.agg [])), ((.int .i64 42), (.agg [])), ((.int .i64 43), (.agg [])), ((.int .i64 44), (.agg [])), ((.int .i64 45), (.agg [])), ((.int .i64 46), (.agg [])), ((.int .i64 47), (.agg [])), ((.int .i64 48), (.agg [])), ((.int .i64 49), (.agg [])), ((.int .i64 50), (.agg [])), ((.int .i64 51), (.agg [])), ((.int .i64 52), (.agg [])), ((.int .i64 53), (.agg [])), ((.int .i64 54), (.agg [])), ((.int .i64 55), (.agg [])), ((.int .i64 56), (.agg [])), ((.int .i64 57), (.agg [])), ((.int .i64 58), (.agg [])), ((.int .i64 59), (.agg [])), ((.int .i64 60), (.agg [])), ((.int .i64 61), (.agg [])), ((.int .i64 62), (.agg [])), ((.int .i64 63), (.agg []))], .cells [(.int .i64 1024), (.slice (some (455, 0)) 24 24 (some 1)), (.map (some 290))] (.own none)]
  (apL (List.replicate 5 (.dead))
  (apL [.cells (List.replicate 12 (.int .u64 16045690984833335023)) (.own none)]
  (apL (List.replicate 6 (.dead))
  (apL [.cells (List.replicate 12 (.int .u64 16045690984833335023)) (.own none)]
  (apL (List.replicate 6 (.dead))
  (apL [.cells (List.replicate 12 (.int .u64 16045690984833335023)) (.own none)]
  (apL (List.replicate 6 (.dead))
  (apL [.cells (List.replicate 12 (.int .u64 16045690984833335023)) (.own none)]
  (apL (List.replicate 6 (.dead))
  (apL [.cells (List.replicate 12 (.int .u64 16045690984833335023)) (.own none)]
  (apL (List.replicate 6 (.dead))
  (apL [.cells (List.replicate 12 (.int .u64 16045690984833335023)) (.own none)]
  (apL (List.replicate 6 (.dead))
  (apL [.cells (List.replicate 12 (.int .u64 16045690984833335023)) (.own none)]
  (apL (List.replicate 6 (.dead))
  (apL [.cells (List.replicate 12 (.int .u64 16045690984833335023)) (.own none)]
  (apL (List.replicate 6 (.dead))
  (apL [.cells (List.replicate 12 (.int .u64 16045690984833335023)) (.own none)]
  (apL (List.replicate 6 (.dead))
  (apL [.cells (List.replicate 12 (.int .u64 16045690984833335023)) (.own none)]
  (apL (List.replicate 6 (.dead))
  (apL [.cells (List.replicate 12 (.int .u64 16045690984833335023)) (.own none)]
  (apL (List.replicate 6 (.dead))
  (apL [.cells (List.replicate 12 (.int .u64 16045690984833335023)) (.own none)]
  (apL (List.replicate 6 (.dead))
  (apL [.cells (List.replicate 12 (.int .u64 16045690984833335023)) (.own none)]
  (apL (List.replicate 6 (.dead))
  (apL [.cells (List.replicate 12 (.int .u64 16045690984833335023)) (.own none)]
  (apL (List.replicate 6 (.dead))
  (apL [.cells (List.replicate 12 (.int .u64 16045690984833335023)) (.own none)]
  (apL (List.replicate 6 (.dead))
  (apL [.cells (List.replicate 12 (.int .u64 16045690984833335023)) (.own none)]
  (apL (List.replicate 6 (.dead))
  (apL [.cells (List.replicate 12 (.int .u64 16045690984833335023)) (.own none)]
  (apL (List.replicate 6 (.dead))
  (apL [.cells (List.replicate 12 (.int .u64 16045690984833335023)) (.own none)]
  (apL (List.replicate 6 (.dead))
  (apL [.cells (List.replicate 12 (.int .u64 16045690984833335023)) (.own none)]
  (apL (List.replicate 6 (.dead))
  (apL [.cells (List.replicate 12 (.int .u64 16045690984833335023)) (.own none)]
  (apL (List.replicate 6 (.dead))
  (apL [.cells (List.replicate 12 (.int .u64 16045690984833335023)) (.own none)]
  (apL (List.replicate 6 (.dead))
  (apL [.cells (List.replicate 12 (.int .u64 16045690984833335023)) (.own none)]
  (apL (List.replicate 6 (.dead))
  (apL [.cells (List.replicate 12 (.int .u64 16045690984833335023)) (.own none), .dead, .dead, .dead, .cells [(.int .i64 40), (.int .i64 41), (.int .i64 42), (.int .i64 43), (.int .i64 44), (.int .i64 45), (.int .i64 46), (.int .i64 47), (.int .i64 48), (.int .i64 49), (.int .i64 50), (.int .i64 51), (.int .i64 52), (.int .i64 53), (.int .i64 54), (.int .i64 55), (.int .i64 56), (.int .i64 57), (.int .i64 58), (.int .i64 59), (.int .i64 60), (.int .i64 61), (.int .i64 62), (.int .i64 63)] (.own (some (3, 0))), .dead, .dead, .cells (List.replicate 12 (.int .u64 16045690984833335023)) (.own none), .dead, .map [((.int .i64 64), (.agg [])), ((.int .i64 65), (.agg [])), ((.int .i64 66), (.agg [])), ((.int .i64 67), (.agg [])), ((.int .i64 68), (.agg [])), ((.int .i64 69), (.agg [])), ((.int .i64 70), (.agg [])), ((.int .i64 71), (.agg []))], .cells [(.int .i64 1024), (.slice (some (513, 0)) 8 8 (some 1)), (.map (some 460))] (.own none)]
  (apL (List.replicate 5 (.dead))
  (apL [.cells (List.replicate 24 (.int .u64 16045690984833335023)) (.own none)]
  (apL (List.replicate 6 (.dead))
  (apL [.cells (List.replicate 24 (.int .u64 16045690984833335023)) (.own none)]
  (apL (List.replicate 6 (.dead))
  (apL [.cells (List.replicate 24 (.int .u64 16045690984833335023)) (.own none)]
  (apL (List.replicate 6 (.dead))
  (apL [.cells (List.replicate 24 (.int .u64 16045690984833335023)) (.own none)]
  (apL (List.replicate 6 (.dead))
  (apL [.cells (List.replicate 24 (.int .u64 16045690984833335023)) (.own none)]
  (apL (List.replicate 6 (.dead))
  (apL [.cells (List.replicate 24 (.int .u64 16045690984833335023)) (.own none)]
  (apL (List.replicate 6 (.dead))
  (apL [.cells (List.replicate 24 (.int .u64 16045690984833335023)) (.own none), .dead, .dead, .dead, .cells [(.int .i64 64), (.int .i64 65), (.int .i64 66), (.int .i64 67), (.int .i64 68), (.int .i64 69), (.int .i64 70), (.int .i64 71)] (.own (some (3, 0))), .dead, .dead, .cells (List.replicate 24 (.int .u64 16045690984833335023)) (.own none), .dead, .map [((.int .i64 72), (.agg [])), ((.int .i64 73), (.agg [])), ((.int .i64 74), (.agg [])), ((.int .i64 75), (.agg []))], .cells [(.int .i64 1024), (.slice (some (543, 0)) 4 4 (some 1)), (.map (some 518))] (.own none)]
  (apL (List.replicate 5 (.dead))
  (apL [.cells (List.replicate 88 (.int .u64 16045690984833335023)) (.own none)]
  (apL (List.replicate 6 (.dead))
  (apL [.cells (List.replicate 88 (.int .u64 16045690984833335023)) (.own none)]
  (apL (List.replicate 6 (.dead))
  (apL [.cells (List.replicate 88 (.int .u64 16045690984833335023)) (.own none), .dead, .dead, .dead, .cells [(.int .i64 72), (.int .i64 73), (.int .i64 74), (.int .i64 75)] (.own (some (3, 0))), .dead, .dead, .cells (List.replicate 88 (.int .u64 16045690984833335023)) (.own none), .dead, .map [((.int .i64 77), (.agg []))], .cells [(.int .i64 1024), (.slice (some (559, 0)) 1 2 (some 1)), (.map (some 548))] (.own none)]
  (apL (List.replicate 9 (.dead))
  (apL [.cells [(.int .i64 77), (.int .i64 76)] (.own (some (3, 0))), .dead, .dead, .cells (List.replicate 264 (.int .u64 16045690984833335023)) (.own none), .cells [(.int .i64 0), (.int .i64 1), (.bool false), (.slice (some (15, 0)) 8 8 none), (.int .i64 0), (.int .i64 1), (.bool false), (.slice (some (22, 0)) 8 8 none), (.int .i64 0), (.int .i64 1), (.bool false), (.slice (some (29, 0)) 8 8 none), (.int .i64 0), (.int .i64 1), (.bool false), (.slice (some (36, 0)) 8 8 none), (.int .i64 0), (.int .i64 1), (.bool false), (.slice (some (43, 0)) 8 8 none), (.int .i64 0), (.int .i64 1), (.bool false), (.slice (some (50, 0)) 8 8 none), (.int .i64 0), (.int .i64 1), (.bool false), (.slice (some (57, 0)) 8 8 none), (.int .i64 0), (.int .i64 1), (.bool false), (.slice (some (64, 0)) 8 8 none), (.int .i64 0), (.int .i64 1), (.bool false), (.slice (some (71, 0)) 8 8 none), (.int .i64 0), (.int .i64 1), (.bool false), (.slice (some (78, 0)) 8 8 none), (.int .i64 0), (.int .i64 1), (.bool false), (.slice (some (85, 0)) 8 8 none), (.int .i64 0), (.int .i64 1), (.bool false), (.slice (some (92, 0)) 8 8 none), (.int .i64 0), (.int .i64 1), (.bool false), (.slice (some (99, 0)) 8 8 none), (.int .i64 0), (.int .i64 1), (.bool false), (.slice (some (106, 0)) 8 8 none), (.int .i64 0), (.int .i64 1), (.bool false), (.slice (some (113, 0)) 8 8 none), (.int .i64 0), (.int .i64 1), (.bool false), (.slice (some (120, 0)) 8 8 none), (.int .i64 0), (.int .i64 1), (.bool false), (.slice (some (127, 0)) 8 8 none), (.int .i64 0), (.int .i64 1), (.bool false), (.slice (some (134, 0)) 8 8 none), (.int .i64 0), (.int .i64 1), (.bool false), (.slice (some (141, 0)) 8 8 none), (.int .i64 0), (.int .i64 1), (.bool false), (.slice (some (148, 0)) 8 8 none), (.int .i64 0), (.int .i64 1), (.bool false), (.slice (some (155, 0)) 8 8 none), (.int .i64 0), (.int .i64 1), (.bool false), (.slice (some (162, 0)) 8 8 none), (.int .i64 0), (.int .i64 1), (.bool false), (.slice (some (169, 0)) 8 8 none), (.int .i64 0), (.int .i64 1), (.bool false), (.slice (some (176, 0)) 8 8 none), (.int .i64 0), (.int .i64 1), (.bool false), (.slice (some (183, 0)) 8 8 none), (.int .i64 0), (.int .i64 1), (.bool false), (.slice (some (190, 0)) 8 8 none), (.int .i64 0), (.int .i64 1), (.bool false), (.slice (some (197, 0)) 8 8 none), (.int .i64 0), (.int .i64 1), (.bool false), (.slice (some (204, 0)) 8 8 none), (.int .i64 0), (.int .i64 1), (.bool false), (.slice (some (211, 0)) 8 8 none), (.int .i64 0), (.int .i64 1), (.bool false), (.slice (some (218, 0)) 8 8 none), (.int .i64 0), (.int .i64 1), (.bool false), (.slice (some (225, 0)) 8 8 none), (.int .i64 0), (.int .i64 1), (.bool false), (.slice (some (232, 0)) 8 8 none), (.int .i64 0), (.int .i64 1), (.bool false), (.slice (some (239, 0)) 8 8 none), (.int .i64 0), (.int .i64 1), (.bool false), (.slice (some (246, 0)) 8 8 none), (.int .i64 0), (.int .i64 1), (.bool false), (.slice (some (253, 0)) 8 8 none), (.int .i64 0), (.int .i64 1), (.bool false), (.slice (some (260, 0)) 8 8 none), (.int .i64 0), (.int .i64 1), (.bool false), (.slice (some (267, 0)) 8 8 none), (.int .i64 0), (.int .i64 1), (.bool false), (.slice (some (274, 0)) 8 8 none), (.int .i64 0), (.int .i64 1), (.bool false), (.slice (some (281, 0)) 8 8 none), (.int .i64 0), (.int .i64 1), (.bool false), (.slice (some (288, 0)) 8 8 none), (.int .i64 1), (.int .i64 1), (.bool false), (.slice (some (297, 0)) 12 12 none), (.int .i64 1), (.int .i64 1), (.bool false), (.slice (some (304, 0)) 12 12 none), (.int .i64 1), (.int .i64 1), (.bool false), (.slice (some (311, 0)) 12 12 none), (.int .i64 1), (.int .i64 1), (.bool false), (.slice (some (318, 0)) 12 12 none), (.int .i64 1), (.int .i64 1), (.bool false), (.slice (some (325, 0)) 12 12 none), (.int .i64 1), (.int .i64 1), (.bool false), (.slice (some (332, 0)) 12 12 none), (.int .i64 1), (.int .i64 1), (.bool false), (.slice (some (339, 0)) 12 12 none), (.int .i64 1), (.int .i64 1), (.bool false), (.slice (some (346, 0)) 12 12 none), (.int .i64 1), (.int .i64 1), (.bool false), (.slice (some (353, 0)) 12 12 none), (.int .i64 1), (.int .i64 1), (.bool false), (.slice (some (360, 0)) 12 12 none), (.int .i64 1), (.int .i64 1), (.bool false), (.slice (some (367, 0)) 12 12 none), (.int .i64 1), (.int .i64 1), (.bool false), (.slice (some (374, 0)) 12 12 none), (.int .i64 1), (.int .i64 1), (.bool false), (.slice (some (381, 0)) 12 12 none), (.int .i64 1), (.int .i64 1), (.bool false), (.slice (some (388, 0)) 12 12 none), (.int .i64 1), (.int .i64 1), (.bool false), (.slice (some (395, 0)) 12 12 none), (.int .i64 1), (.int .i64 1), (.bool false), (.slice (some (402, 0)) 12 12 none), (.int .i64 1), (.int .i64 1), (.bool false), (.slice (some (409, 0)) 12 12 none), (.int .i64 1), (.int .i64 1), (.bool false), (.slice (some (416, 0)) 12 12 none), (.int .i64 1), (.int .i64 1), (.bool false), (.slice (some (423, 0)) 12 12 none), (.int .i64 1), (.int .i64 1), (.bool false), (.slice (some (430, 0)) 12 12 none), (.int .i64 1), (.int .i64 1), (.bool false), (.slice (some (437, 0)) 12 12 none), (.int .i64 1), (.int .i64 1), (.bool false), (.slice (some (444, 0)) 12 12 none), (.int .i64 1), (.int .i64 1), (.bool false), (.slice (some (451, 0)) 12 12 none), (.int .i64 1), (.int .i64 1), (.bool false), (.slice (some (458, 0)) 12 12 none), (.int .i64 2), (.int .i64 1), (.bool false), (.slice (some (467, 0)) 24 24 none), (.int .i64 2), (.int .i64 1), (.bool false), (.slice (some (474, 0)) 24 24 none), (.int .i64 2), (.int .i64 1), (.bool false), (.slice (some (481, 0)) 24 24 none), (.int .i64 2), (.int .i64 1), (.bool false), (.slice (some (488, 0)) 24 24 none), (.int .i64 2), (.int .i64 1), (.bool false), (.slice (some (495, 0)) 24 24 none), (.int .i64 2), (.int .i64 1), (.bool false), (.slice (some (502, 0)) 24 24 none), (.int .i64 2), (.int .i64 1), (.bool false), (.slice (some (509, 0)) 24 24 none), (.int .i64 2), (.int .i64 1), (.bool false), (.slice (some (516, 0)) 24 24 none), (.int .i64 3), (.int .i64 1), (.bool false), (.slice (some (525, 0)) 88 88 none), (.int .i64 3), (.int .i64 1), (.bool false), (.slice (some (532, 0)) 88 88 none), (.int .i64 3), (.int .i64 1), (.bool false), (.slice (some (539, 0)) 88 88 none), (.int .i64 3), (.int .i64 1), (.bool false), (.slice (some (546, 0)) 88 88 none), (.int .i64 4), (.int .i64 1), (.bool true), (.slice (some (577, 0)) 264 264 none), (.int .i64 4), (.int .i64 1), (.bool false), (.slice (some (562, 0)) 264 264 none)] (.own (some (175, 0))), .cells [(.int .i64 0), (.int .i64 8), (.slice (some (572, 0)) 4 4 (some 2))] (.own none)]
  (apL (List.replicate 7 (.dead))
  (apL [.cells [(.int .i64 (-1)), (.slice none 0 0 none), (.int .i64 (-1)), (.slice none 0 0 none), (.int .i64 (-1)), (.slice none 0 0 none), (.int .i64 (-1)), (.slice none 0 0 none)] (.own (some (143, 0)))]
  (apL (List.replicate 4 (.dead))
  (apL [.cells ([(.int .u64 0), (.int .u64 4)] ++ List.replicate 262 (.int .u64 0)) (.own none), .cells [(.ptr (some (7, 0))), (.ptr (some (564, 0))), (.int .i64 4), (.int .i64 65612), (.int .i64 (-1))] (.own none), .dead, .dead, .cells [(.slice (some (1122, 0)) 78 78 (some 4)), (.int .i64 78), (.slice (some (857, 0)) 40 40 (some 1)), (.int .i64 78), (.slice (some (1024, 0)) 24 24 (some 1)), (.int .i64 78), (.slice (some (1079, 0)) 8 8 (some 1)), (.int .i64 78), (.slice (some (1106, 0)) 4 4 (some 1)), (.int .i64 78), (.slice (some (1119, 1)) 1 1 (some 1))] (.own none)]
  (apL (List.replicate 4 (.dead))
  (apL [.cells (List.replicate 8 (.int .u64 16045690984833335023)) (.own none)]
  (apL (List.replicate 6 (.dead))
  (apL [.cells (List.replicate 8 (.int .u64 16045690984833335023)) (.own none)]
  (apL (List.replicate 6 (.dead))
  (apL [.cells (List.replicate 8 (.int .u64 16045690984833335023)) (.own none)]
  (apL (List.replicate 6 (.dead))
  (apL [.cells (List.replicate 8 (.int .u64 16045690984833335023)) (.own none)]
  (apL (List.replicate 6 (.dead))
  (apL [.cells (List.replicate 8 (.int .u64 16045690984833335023)) (.own none)]
  (apL (List.replicate 6 (.dead))
  (apL [.cells (List.replicate 8 (.int .u64 16045690984833335023)) (.own none)]
  (apL (List.replicate 6 (.dead))
  (apL [.cells (List.replicate 8 (.int .u64 16045690984833335023)) (.own none)]
  (apL (List.replicate 6 (.dead))
  (apL [.cells (List.replicate 8 (.int .u64 16045690984833335023)) (.own none)]
  (apL (List.replicate 6 (.dead))
  (apL [.cells (List.replicate 8 (.int .u64 16045690984833335023)) (.own none)]
  (apL (List.replicate 6 (.dead))
  (apL [.cells (List.replicate 8 (.int .u64 16045690984833335023)) (.own none)]
  (apL (List.replicate 6 (.dead))
  (apL [.cells (List.replicate 8 (.int .u64 16045690984833335023)) (.own none)]
  (apL (List.replicate 6 (.dead))
  (apL [.cells (List.replicate 8 (.int .u64 16045690984833335023)) (.own none)]
  (apL (List.replicate 6 (.dead))
  (apL [.cells (List.replicate 8 (.int .u64 16045690984833335023)) (.own none)]
  (apL (List.replicate 6 (.dead))
  (apL [.cells (List.replicate 8 (.int .u64 16045690984833335023)) (.own none)]
  (apL (List.replicate 6 (.dead))
  (apL [.cells (List.replicate 8 (.int .u64 16045690984833335023)) (.own none)]
  (apL (List.replicate 6 (.dead))
  (apL [.cells (List.replicate 8 (.int .u64 16045690984833335023)) (.own none)]
  (apL (List.replicate 6 (.dead))
  (apL [.cells (List.replicate 8 (.int .u64 16045690984833335023)) (.own none)]
  (apL (List.replicate 6 (.dead))
  (apL [.cells (List.replicate 8 (.int .u64 16045690984833335023)) (.own none)]
  (apL (List.replicate 6 (.dead))
  (apL [.cells (List.replicate 8 (.int .u64 16045690984833335023)) (.own none)]
  (apL (List.replicate 6 (.dead))
  (apL [.cells (List.replicate 8 (.int .u64 16045690984833335023)) (.own none)]
  (apL (List.replicate 6 (.dead))
  (apL [.cells (List.replicate 8 (.int .u64 16045690984833335023)) (.own none)]
  (apL (List.replicate 6 (.dead))
  (apL [.cells (List.replicate 8 (.int .u64 16045690984833335023)) (.own none)]
  (apL (List.replicate 6 (.dead))
  (apL [.cells (List.replicate 8 (.int .u64 16045690984833335023)) (.own none)]
  (apL (List.replicate 6 (.dead))
  (apL [.cells (List.replicate 8 (.int .u64 16045690984833335023)) (.own none)]
  (apL (List.replicate 6 (.dead))
  (apL [.cells (List.replicate 8 (.int .u64 16045690984833335023)) (.own none)]
  (apL (List.replicate 6 (.dead))
  (apL [.cells (List.replicate 8 (.int .u64 16045690984833335023)) (.own none)]
  (apL (List.replicate 6 (.dead))
  (apL [.cells (List.replicate 8 (.int .u64 16045690984833335023)) (.own none)]
  (apL (List.replicate 6 (.dead))
  (apL [.cells (List.replicate 8 (.int .u64 16045690984833335023)) (.own none)]
  (apL (List.replicate 6 (.dead))
  (apL [.cells (List.replicate 8 (.int .u64 16045690984833335023)) (.own none)]
  (apL (List.replicate 6 (.dead))
  (apL [.cells (List.replicate 8 (.int .u64 16045690984833335023)) (.own none)]
  (apL (List.replicate 6 (.dead))
  (apL [.cells (List.replicate 8 (.int .u64 16045690984833335023)) (.own none)]
  (apL (List.replicate 6 (.dead))
  (apL [.cells (List.replicate 8 (.int .u64 16045690984833335023)) (.own none)]
  (apL (List.replicate 6 (.dead))
  (apL [.cells (List.replicate 8 (.int .u64 16045690984833335023)) (.own none)]
  (apL (List.replicate 6 (.dead))
  (apL [.cells (List.replicate 8 (.int .u64 16045690984833335023)) (.own none)]
  (apL (List.replicate 6 (.dead))
  (apL [.cells (List.replicate 8 (.int .u64 16045690984833335023)) (.own none)]
  (apL (List.replicate 6 (.dead))
  (apL [.cells (List.replicate 8 (.int .u64 16045690984833335023)) (.own none)]
  (apL (List.replicate 6 (.dead))
  (apL [.cells (List.replicate 8 (.int .u64 16045690984833335023)) (.own none)]
  (apL (List.replicate 6 (.dead))
  (apL [.cells (List.replicate 8 (.int .u64 16045690984833335023)) (.own none)]
  (apL (List.replicate 6 (.dead))
  (apL [.cells (List.replicate 8 (.int .u64 16045690984833335023)) (.own none)]
  (apL (List.replicate 4 (.dead))
  (apL [.cells [(.int .i64 0), (.int .i64 1), (.int .i64 2), (.int .i64 3), (.int .i64 4), (.int .i64 5), (.int .i64 6), (.int .i64 7), (.int .i64 8), (.int .i64 9), (.int .i64 10), (.int .i64 11), (.int .i64 12), (.int .i64 13), (.int .i64 14), (.int .i64 15), (.int .i64 16), (.int .i64 17), (.int .i64 18), (.int .i64 19), (.int .i64 20), (.int .i64 21), (.int .i64 22), (.int .i64 23), (.int .i64 24), (.int .i64 25), (.int .i64 26), (.int .i64 27), (.int .i64 28), (.int .i64 29), (.int .i64 30), (.int .i64 31), (.int .i64 32), (.int .i64 33), (.int .i64 34), (.int .i64 35), (.int .i64 36), (.int .i64 37), (.int .i64 38), (.int .i64 39)] (.own (some (3, 0))), .dead, .cells (List.replicate 8 (.int .u64 16045690984833335023)) (.own none)]
  (apL (List.replicate 5 (.dead))
  (apL [.cells (List.replicate 12 (.int .u64 16045690984833335023)) (.own none)]
  (apL (List.replicate 6 (.dead))
  (apL [.cells (List.replicate 12 (.int .u64 16045690984833335023)) (.own none)]
  (apL (List.replicate 6 (.dead))
  (apL [.cells (List.replicate 12 (.int .u64 16045690984833335023)) (.own none)]
  (apL (List.replicate 6 (.dead))
  (apL [.cells (List.replicate 12 (.int .u64 16045690984833335023)) (.own none)]
  (apL (List.replicate 6 (.dead))
  (apL [.cells (List.replicate 12 (.int .u64 16045690984833335023)) (.own none)]
  (apL (List.replicate 6 (.dead))
  (apL [.cells (List.replicate 12 (.int .u64 16045690984833335023)) (.own none)]
  (apL (List.replicate 6 (.dead))
  (apL [.cells (List.replicate 12 (.int .u64 16045690984833335023)) (.own none)]
  (apL (List.replicate 6 (.dead))
  (apL [.cells (List.replicate 12 (.int .u64 16045690984833335023)) (.own none)]
  (apL (List.replicate 6 (.dead))
  (apL [.cells (List.replicate 12 (.int .u64 16045690984833335023)) (.own none)]
  (apL (List.replicate 6 (.dead))
  (apL [.cells (List.replicate 12 (.int .u64 16045690984833335023)) (.own none)]
  (apL (List.replicate 6 (.dead))
  (apL [.cells (List.replicate 12 (.int .u64 16045690984833335023)) (.own none)]
  (apL (List.replicate 6 (.dead))
  (apL [.cells (List.replicate 12 (.int .u64 16045690984833335023)) (.own none)]
  (apL (List.replicate 6 (.dead))
  (apL [.cells (List.replicate 12 (.int .u64 16045690984833335023)) (.own none)]
  (apL (List.replicate 6 (.dead))
  (apL [.cells (List.replicate 12 (.int .u64 16045690984833335023)) (.own none)]
  (apL (List.replicate 6 (.dead))
  (apL [.cells (List.replicate 12 (.int .u64 16045690984833335023)) (.own none)]
  (apL (List.replicate 6 (.dead))
  (apL [.cells (List.replicate 12 (.int .u64 16045690984833335023)) (.own none)]
  (apL (List.replicate 6 (.dead))
  (apL [.cells (List.replicate 12 (.int .u64 16045690984833335023)) (.own none)]
  (apL (List.replicate 6 (.dead))
  (apL [.cells (List.replicate 12 (.int .u64 16045690984833335023)) (.own none)]
  (apL (List.replicate 6 (.dead))
  (apL [.cells (List.replicate 12 (.int .u64 16045690984833335023)) (.own none)]
  (apL (List.replicate 6 (.dead))
  (apL [.cells (List.replicate 12 (.int .u64 16045690984833335023)) (.own none)]
  (apL (List.replicate 6 (.dead))
  (apL [.cells (List.replicate 12 (.int .u64 16045690984833335023)) (.own none)]
  (apL (List.replicate 6 (.dead))
  (apL [.cells (List.replicate 12 (.int .u64 16045690984833335023)) (.own none)]
  (apL (List.replicate 6 (.dead))
  (apL [.cells (List.replicate 12 (.int .u64 16045690984833335023)) (.own none)]
  (apL (List.replicate 4 (.dead))
  (apL [.cells [(.int .i64 40), (.int .i64 41), (.int .i64 42), (.int .i64 43), (.int .i64 44), (.int .i64 45), (.int .i64 46), (.int .i64 47), (.int .i64 48), (.int .i64 49), (.int .i64 50), (.int .i64 51), (.int .i64 52), (.int .i64 53), (.int .i64 54), (.int .i64 55), (.int .i64 56), (.int .i64 57), (.int .i64 58), (.int .i64 59), (.int .i64 60), (.int .i64 61), (.int .i64 62), (.int .i64 63)] (.own (some (3, 0))), .dead, .cells (List.replicate 12 (.int .u64 16045690984833335023)) (.own none)]
  (apL (List.replicate 5 (.dead))
  (apL [.cells (List.replicate 24 (.int .u64 16045690984833335023)) (.own none)]
  (apL (List.replicate 6 (.dead))
  (apL [.cells (List.replicate 24 (.int .u64 16045690984833335023)) (.own none)]
  (apL (List.replicate 6 (.dead))
  (apL [.cells (List.replicate 24 (.int .u64 16045690984833335023)) (.own none)]
  (apL (List.replicate 6 (.dead))
  (apL [.cells (List.replicate 24 (.int .u64 16045690984833335023)) (.own none)]
  (apL (List.replicate 6 (.dead))
  (apL [.cells (List.replicate 24 (.int .u64 16045690984833335023)) (.own none)]
  (apL (List.replicate 6 (.dead))
  (apL [.cells (List.replicate 24 (.int .u64 16045690984833335023)) (.own none)]
  (apL (List.replicate 6 (.dead))
  (apL [.cells (List.replicate 24 (.int .u64 16045690984833335023)) (.own none)]
  (apL (List.replicate 4 (.dead))
  (apL [.cells [(.int .i64 64), (.int .i64 65), (.int .i64 66), (.int .i64 67), (.int .i64 68), (.int .i64 69), (.int .i64 70), (.int .i64 71)] (.own (some (3, 0))), .dead, .cells (List.replicate 24 (.int .u64 16045690984833335023)) (.own none)]
  (apL (List.replicate 5 (.dead))
  (apL [.cells (List.replicate 88 (.int .u64 16045690984833335023)) (.own none)]
  (apL (List.replicate 6 (.dead))
  (apL [.cells (List.replicate 88 (.int .u64 16045690984833335023)) (.own none)]
  (apL (List.replicate 6 (.dead))
  (apL [.cells (List.replicate 88 (.int .u64 16045690984833335023)) (.own none)]
  (apL (List.replicate 4 (.dead))
  (apL [.cells [(.int .i64 72), (.int .i64 73), (.int .i64 74), (.int .i64 75)] (.own (some (3, 0))), .dead, .cells (List.replicate 88 (.int .u64 16045690984833335023)) (.own none)]
  (apL (List.replicate 10 (.dead))
  (apL [.cells [(.int .i64 76), (.int .i64 77)] (.own (some (3, 0))), .dead, .cells (List.replicate 264 (.int .u64 16045690984833335023)) (.own none), .cells [(.int .i64 0), (.int .i64 1), (.bool false), (.slice (some (586, 0)) 8 8 none), (.int .i64 0), (.int .i64 1), (.bool false), (.slice (some (593, 0)) 8 8 none), (.int .i64 0), (.int .i64 1), (.bool false), (.slice (some (600, 0)) 8 8 none), (.int .i64 0), (.int .i64 1), (.bool false), (.slice (some (607, 0)) 8 8 none), (.int .i64 0), (.int .i64 1), (.bool false), (.slice (some (614, 0)) 8 8 none), (.int .i64 0), (.int .i64 1), (.bool false), (.slice (some (621, 0)) 8 8 none), (.int .i64 0), (.int .i64 1), (.bool false), (.slice (some (628, 0)) 8 8 none), (.int .i64 0), (.int .i64 1), (.bool false), (.slice (some (635, 0)) 8 8 none), (.int .i64 0), (.int .i64 1), (.bool false), (.slice (some (642, 0)) 8 8 none), (.int .i64 0), (.int .i64 1), (.bool false), (.slice (some (649, 0)) 8 8 none), (.int .i64 0), (.int .i64 1), (.bool false), (.slice (some (656, 0)) 8 8 none), (.int .i64 0), (.int .i64 1), (.bool false), (.slice (some (663, 0)) 8 8 none), (.int .i64 0), (.int .i64 1), (.bool false), (.slice (some (670, 0)) 8 8 none), (.int .i64 0), (.int .i64 1), (.bool false), (.slice (some (677, 0)) 8 8 none), (.int .i64 0), (.int .i64 1), (.bool false), (.slice (some (684, 0)) 8 8 none), (.int .i64 0), (.int .i64 1), (.bool false), (.slice (some (691, 0)) 8 8 none), (.int .i64 0), (.int .i64 1), (.bool false), (.slice (some (698, 0)) 8 8 none), (.int .i64 0), (.int .i64 1), (.bool false), (.slice (some (705, 0)) 8 8 none), (.int .i64 0), (.int .i64 1), (.bool false), (.slice (some (712, 0)) 8 8 none), (.int .i64 0), (.int .i64 1), (.bool false), (.slice (some (719, 0)) 8 8 none), (.int .i64 0), (.int .i64 1), (.bool false), (.slice (some (726, 0)) 8 8 none), (.int .i64 0), (.int .i64 1), (.bool false), (.slice (some (733, 0)) 8 8 none), (.int .i64 0), (.int .i64 1), (.bool false), (.slice (some (740, 0)) 8 8 none), (.int .i64 0), (.int .i64 1), (.bool false), (.slice (some (747, 0)) 8 8 none), (.int .i64 0), (.int .i64 1), (.bool false), (.slice (some (754, 0)) 8 8 none), (.int .i64 0), (.int .i64 1), (.bool false), (.slice (some (761, 0)) 8 8 none), (.int .i64 0), (.int .i64 1), (.bool false), (.slice (some (768, 0)) 8 8 none), (.int .i64 0), (.int .i64 1), (.bool false), (.slice (some (775, 0)) 8 8 none), (.int .i64 0), (.int .i64 1), (.bool false), (.slice (some (782, 0)) 8 8 none), (.int .i64 0), (.int .i64 1), (.bool false), (.slice (some (789, 0)) 8 8 none), (.int .i64 0), (.int .i64 1), (.bool false), (.slice (some (796, 0)) 8 8 none), (.int .i64 0), (.int .i64 1), (.bool false), (.slice (some (803, 0)) 8 8 none), (.int .i64 0), (.int .i64 1), (.bool false), (.slice (some (810, 0)) 8 8 none), (.int .i64 0), (.int .i64 1), (.bool false), (.slice (some (817, 0)) 8 8 none), (.int .i64 0), (.int .i64 1), (.bool false), (.slice (some (824, 0)) 8 8 none), (.int .i64 0), (.int .i64 1), (.bool false), (.slice (some (831, 0)) 8 8 none), (.int .i64 0), (.int .i64 1), (.bool false), (.slice (some (838, 0)) 8 8 none), (.int .i64 0), (.int .i64 1), (.bool false), (.slice (some (845, 0)) 8 8 none), (.int .i64 0), (.int .i64 1), (.bool false), (.slice (some (852, 0)) 8 8 none), (.int .i64 0), (.int .i64 1), (.bool false), (.slice (some (859, 0)) 8 8 none), (.int .i64 1), (.int .i64 1), (.bool false), (.slice (some (865, 0)) 12 12 none), (.int .i64 1), (.int .i64 1), (.bool false), (.slice (some (872, 0)) 12 12 none), (.int .i64 1), (.int .i64 1), (.bool false), (.slice (some (879, 0)) 12 12 none), (.int .i64 1), (.int .i64 1), (.bool false), (.slice (some (886, 0)) 12 12 none), (.int .i64 1), (.int .i64 1), (.bool false), (.slice (some (893, 0)) 12 12 none), (.int .i64 1), (.int .i64 1), (.bool false), (.slice (some (900, 0)) 12 12 none), (.int .i64 1), (.int .i64 1), (.bool false), (.slice (some (907, 0)) 12 12 none), (.int .i64 1), (.int .i64 1), (.bool false), (.slice (some (914, 0)) 12 12 none), (.int .i64 1), (.int .i64 1), (.bool false), (.slice (some (921, 0)) 12 12 none), (.int .i64 1), (.int .i64 1), (.bool false), (.slice (some (928, 0)) 12 12 none), (.int .i64 1), (.int .i64 1), (.bool false), (.slice (some (935, 0)) 12 12 none), (.int .i64 1), (.int .i64 1), (.bool false), (.slice (some (942, 0)) 12 12 none), (.int .i64 1), (.int .i64 1), (.bool false), (.slice (some (949, 0)) 12 12 none), (.int .i64 1), (.int .i64 1), (.bool false), (.slice (some (956, 0)) 12 12 none), (.int .i64 1), (.int .i64 1), (.bool false), (.slice (some (963, 0)) 12 12 none), (.int .i64 1), (.int .i64 1), (.bool false), (.slice (some (970, 0)) 12 12 none), (.int .i64 1), (.int .i64 1), (.bool false), (.slice (some (977, 0)) 12 12 none), (.int .i64 1), (.int .i64 1), (.bool false), (.slice (some (984, 0)) 12 12 none), (.int .i64 1), (.int .i64 1), (.bool false), (.slice (some (991, 0)) 12 12 none), (.int .i64 1), (.int .i64 1), (.bool false), (.slice (some (998, 0)) 12 12 none), (.int .i64 1), (.int .i64 1), (.bool false), (.slice (some (1005, 0)) 12 12 none), (.int .i64 1), (.int .i64 1), (.bool false), (.slice (some (1012, 0)) 12 12 none), (.int .i64 1), (.int .i64 1), (.bool false), (.slice (some (1019, 0)) 12 12 none), (.int .i64 1), (.int .i64 1), (.bool false), (.slice (some (1026, 0)) 12 12 none), (.int .i64 2), (.int .i64 1), (.bool false), (.slice (some (1032, 0)) 24 24 none), (.int .i64 2), (.int .i64 1), (.bool false), (.slice (some (1039, 0)) 24 24 none), (.int .i64 2), (.int .i64 1), (.bool false), (.slice (some (1046, 0)) 24 24 none), (.int .i64 2), (.int .i64 1), (.bool false), (.slice (some (1053, 0)) 24 24 none), (.int .i64 2), (.int .i64 1), (.bool false), (.slice (some (1060, 0)) 24 24 none), (.int .i64 2), (.int .i64 1), (.bool false), (.slice (some (1067, 0)) 24 24 none), (.int .i64 2), (.int .i64 1), (.bool false), (.slice (some (1074, 0)) 24 24 none), (.int .i64 2), (.int .i64 1), (.bool false), (.slice (some (1081, 0)) 24 24 none), (.int .i64 3), (.int .i64 1), (.bool false), (.slice (some (1087, 0)) 88 88 none), (.int .i64 3), (.int .i64 1), (.bool false), (.slice (some (1094, 0)) 88 88 none), (.int .i64 3), (.int .i64 1), (.bool false), (.slice (some (1101, 0)) 88 88 none), (.int .i64 3), (.int .i64 1), (.bool false), (.slice (some (1108, 0)) 88 88 none), (.int .i64 4), (.int .i64 1), (.bool true), (.slice (some (1132, 0)) 264 264 none), (.int .i64 4), (.int .i64 1), (.bool false), (.slice (some (1121, 0)) 264 264 none)] (.own (some (191, 0))), .cells [(.int .i64 (-1)), (.int .i64 (-1)), (.int .i64 (-1)), (.int .i64 (-1))] (.own none), .cells [(.slice none 0 0 none), (.slice none 0 0 none), (.slice none 0 0 none), (.slice none 0 0 none)] (.own none), .cells [(.int .i64 0), (.int .i64 8), (.slice (some (1123, 0)) 4 4 none), (.slice (some (1124, 0)) 4 4 none)] (.own none), .cells [(.ptr (some (581, 0))), (.ptr (some (1125, 0))), (.int .i64 (-1)), (.int .i64 65612)] (.own none)]
  (apL (List.replicate 5 (.dead))
  [.cells ([(.int .u64 0), (.int .u64 4)] ++ List.replicate 262 (.int .u64 0)) (.own none), .cells [(.ptr (some (578, 0))), (.ptr (some (1126, 0))), (.int .i64 40), (.int .i64 24), (.int .i64 8), (.int .i64 4), (.int .i64 2), (.int .i64 4), (.int .i64 8), (.int .i64 1)] (.own none)])))))))))))))))))))))))))))))))))))))))))))))))))))))))))))))))))))))))))))))))))))))))))))))))))))))))))))))))))))))))))))))))))))))))))))))))))))))))))))))))))))))))))))))))))))))))))))))))))))))))))))))))))))))))))))))))))))))))))))))))))))))))))))))))))))))))))))))))))))))))))))))))))))))))))))))))))))

theorem beginRun : memoIs beginVal beginHeap (tF Tryz.prog envR 100000 (300 + 1) 7 beginArgs NHeap.empty) = true := by kernel_rfl
noncomputable def envBKnown : CallF := (memoF 7 beginArgs beginVal beginHeap (idxKnown 134))
theorem envBKnown_ok : CallOk Tryz.prog envBKnown := (memoF_ok (Checked.mixed Tryz.checked) envR (m := 100000) (n := 300) (by kernel_rfl) beginRun (by kernel_rfl) (by kernel_rfl) idx_ok)
noncomputable def envB : Env Tryz.prog drStatic := tab.env tab_ok envBKnown envBKnown_ok
end Go.Proofs.YtamcodigpocecaaGreat
