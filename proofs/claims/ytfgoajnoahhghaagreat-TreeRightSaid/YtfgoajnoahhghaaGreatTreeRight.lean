/-
  TreeRight: what the five kinds of programs are made of, and the law over it. Proved step by step; no conditions.
-/
import Derived.Test.YtfgoajnoahhghaaGreatMade
namespace Go.Proofs.YtfgoajnoahhghaaGreat.S
open Go Go.RowKit Go.Proofs.YtfgoajnoahhghaaGreat.NICE
set_option maxRecDepth 100000
set_option linter.unusedSimpArgs false
set_option linter.unusedVariables false
namespace treeRight
open made

theorem cut (s : List UInt8) : ∃ n : Int, 0 ≤ n ∧ n ≤ (s.length : Int) ∧ (if (30 : Int) < (s.length : Int) then (30 : Int) else (s.length : Int)) = n := ⟨_, by split <;> omega, by split <;> omega, rfl⟩

set_option maxHeartbeats 4000000 in
theorem law (runs : ∀ h, ∃ h', K env 11 [] h = some (.bool true, h')) (k : Int) (t0 to0 : List UInt8) (v cl : Int) (h : NHeap) : ∃ h', K env 3 [op k t0 to0 v, .int .i64 cl] h = some (.bool true, h') := by
  obtain ⟨n, n0, n1, hn⟩ := cut t0
  obtain ⟨m, m0, m1, hm⟩ := cut to0
  rw [k3 _ _ (by simp)]
  simp only [bodyOf, Option.getD_some, go_sem, seval, op, Tryz.f3, hn, n0, n1, hm, m0, m1, Nat.sub_zero]
  generalize hT : t0.take n.toNat = T
  generalize hU : to0.take m.toNat = U
  clear hT hU
  generalize hH : NHeap.set _ _ _ = H
  have g : H.get h.next = some (.cells [.int .i64 k, .str T, .str U, .int .i64 v] (.own none)) := by rw [← hH]; simp only [go_sem, seval]
  clear hH
  obtain ⟨q1, e1, h1, x1, E1, c1⟩ := get_K k T U v 65536 H
  have g1 := E1.get g
  obtain ⟨q2, e2, h2, x2, E2, c2⟩ := scan_K k T U v 65536 h1
  have g2 := E2.get g1
  obtain ⟨q3, e3, h3, x3, E3, c3⟩ := put_K k T U v 65536 h2
  have g3 := E3.get g2
  obtain ⟨q4, e4, h4, x4, E4, c4⟩ := drop_K k T U v 65536 h3
  have g4 := E4.get g3
  obtain ⟨q5, e5, h5, x5, E5, c5⟩ := tick_K k T U v cl h4
  have g5 := E5.get g4
  obtain ⟨b, h6, x6, hb⟩ := treeRight_K k T U v cl h5
  obtain ⟨h7, hR⟩ := runs h6
  simp only [op] at x1 x2 x3 x4 x5 x6
  refine ⟨h7, ?_⟩
  have hb' : (e1 = 0 ∧ b = true) ∨ (e1 = 1 ∧ ((e2 = 0 ∧ b = true) ∨ (e2 = 1 ∧ ((e3 = 0 ∧ b = true) ∨ (e3 = 1 ∧ ((e4 = 0 ∧ b = true) ∨ (e4 = 1 ∧ ((e5 = 0 ∧ b = true) ∨ (e5 = 1 ∧ b = false))))))))) := by
    rcases c1 with ⟨q1, c1⟩ | ⟨q1, c1⟩
    · exact .inl ⟨q1, hb.2 (.inl c1)⟩
    refine .inr ⟨q1, ?_⟩
    rcases c2 with ⟨q2, c2⟩ | ⟨q2, c2⟩
    · exact .inl ⟨q2, hb.2 (.inr (.inl c2))⟩
    refine .inr ⟨q2, ?_⟩
    rcases c3 with ⟨q3, c3⟩ | ⟨q3, c3⟩
    · exact .inl ⟨q3, hb.2 (.inr (.inr (.inl c3)))⟩
    refine .inr ⟨q3, ?_⟩
    rcases c4 with ⟨q4, c4⟩ | ⟨q4, c4⟩
    · exact .inl ⟨q4, hb.2 (.inr (.inr (.inr (.inl c4))))⟩
    refine .inr ⟨q4, ?_⟩
    rcases c5 with ⟨q5, c5⟩ | ⟨q5, c5⟩
    · exact .inl ⟨q5, hb.2 (.inr (.inr (.inr (.inr c5))))⟩
    refine .inr ⟨q5, ?_⟩
    cases b with
    | false => rfl
    | true =>
      rcases hb.1 rfl with q | q | q | q | q
      · exact absurd q c1
      · exact absurd q c2
      · exact absurd q c3
      · exact absurd q c4
      · exact absurd q c5
  clear c1 c2 c3 c4 c5 hb
  rcases hb' with ⟨rfl, rfl⟩ | ⟨rfl, ⟨rfl, rfl⟩ | ⟨rfl, ⟨rfl, rfl⟩ | ⟨rfl, ⟨rfl, rfl⟩ | ⟨rfl, ⟨rfl, rfl⟩ | ⟨rfl, rfl⟩⟩⟩⟩⟩
  all_goals simp only [go_sem, seval, g, x1, g1, x2, g2, x3, g3, x4, g4, x5, g5, x6, hR]
end treeRight
theorem law_true_TreeRight (h : NHeap) (k : Int) (t0 to0 : List UInt8) (v cl : Int) : ∃ h', K env 3 [.agg [.int .i64 k, .str t0, .str to0, .int .i64 v], .int .i64 cl] h = some (.bool true, h') :=
  treeRight.law (fun h => (runs_ok11 h).imp fun _ h => h.1) k t0 to0 v cl h
end Go.Proofs.YtfgoajnoahhghaaGreat.S
