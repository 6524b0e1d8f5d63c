/-
  What the five kinds of programs are made of, and what tree.Right says. Proved step by step; no conditions.
-/
import Derived.Test.YtfgoajnoahhghaaGreatDoorBytes
namespace Go.Proofs.YtfgoajnoahhghaaGreatDoor.S
open Go Go.RowKit Go.Proofs.YtfgoajnoahhghaaGreatDoor.NICE
set_option maxRecDepth 100000
set_option linter.unusedSimpArgs false
set_option linter.unusedVariables false
namespace made
abbrev op (k : Int) (t to : List UInt8) (v : Int) : NVal := .agg [.int .i64 k, .str t, .str to, .int .i64 v]
theorem idx_K (s : List UInt8) (h : NHeap) : K env 135 [.str s, .int .u8 0] h = some (.int .i64 (nfirst 0 s 0), h) := K_known (by simp [env, Tb.env, orKnown, trueKnown, sameKnown, idxKnown])

theorem first_neg (c : UInt8) : ∀ (s : List UInt8) (n : Nat), decide (nfirst c s n < 0) = s.all (fun x => !(x == c))
  | [], n => by simp [nfirst]
  | x :: l, n => by
    unfold nfirst
    rw [List.all_cons, ← first_neg c l (n + 1)]
    by_cases h : x = c
    · subst h; simp
    · have : (x == c) = false := by simpa using h
      simp [this]

/-- a right term -/
def rightT (s : List UInt8) : Bool := decide (1 ≤ s.length) && (decide (s.length ≤ 12) && s.all (fun x => !(x == 0)))

theorem right_K (s : List UInt8) (h : NHeap) : K env 18 [.str s] h = some (.bool (rightT s), h) := by
  have hf := first_neg 0 s 0
  by_cases h0 : s = []
  · subst h0
    simp only [k18, Tryz.f18, bodyOf, Option.getD_some, go_sem, seval]
    rfl
  · have h1 : (s == []) = false := by simpa using h0
    have h2 : 1 ≤ s.length := List.length_pos_iff.2 h0
    by_cases h3 : (s.length : Int) ≤ 12
    · have h4 : s.length ≤ 12 := by omega
      simp only [k18, Tryz.f18, k37, Tryz.f37, k87, Tryz.f87, idx_K, h1, h3, hf, bodyOf, Option.getD_some, go_sem, seval]
      simp [rightT, h2, h4]
    · have h4 : ¬ s.length ≤ 12 := by omega
      simp only [k18, Tryz.f18, k37, Tryz.f37, k87, Tryz.f87, idx_K, h1, h3, hf, bodyOf, Option.getD_some, go_sem, seval]
      simp [rightT, h2, h4]

namespace get
theorem new_good (t : List UInt8) (ht : rightT t = true) (r : Int) (h : NHeap) : ∃ p h', K env 62 [op 1 t [] 0, .int .i64 r] h = some (.tuple [.ptr (some p), .int .i64 0], h') ∧ Ext h h' := by
  have hl : t.length ≤ 12 := by simp [rightT] at ht; exact ht.2.1
  have ha : nbin Tryz.prog .add 9 (.str t) (.str [0]) = some (.str (t ++ [0])) := str_add _ _ _ (by simp; omega)
  refine ⟨_, _, (by simp only [k62, Tryz.f62, k122, Tryz.f122, k123, Tryz.f123, right_K, ht, ha, op, bodyOf, Option.getD_some, go_sem, seval]; exact rfl), ?_⟩
  repeat (first | exact Ext.refl _ | apply Ext.alloc | refine Ext.set ?_ (by omega) _)
theorem new_bad (k : Int) (t to : List UInt8) (v : Int) (hb : ¬ (k = 1 ∧ rightT t = true ∧ to = [] ∧ v = 0)) (r : Int) (h : NHeap) : ∃ h', K env 62 [op k t to v, .int .i64 r] h = some (.tuple [.ptr none, .int .i64 1], h') ∧ Ext h h' := by
  by_cases h1 : k = 1
  · subst h1
    cases h2 : rightT t with
    | false =>
      refine ⟨_, (by simp only [k62, Tryz.f62, right_K, h2, op, bodyOf, Option.getD_some, go_sem, seval]; exact rfl), ?_⟩
      repeat (first | exact Ext.refl _ | apply Ext.alloc | refine Ext.set ?_ (by omega) _)
    | true =>
      by_cases h3 : to = []
      · subst h3
        have h4 : ¬ v = 0 := fun q => hb ⟨rfl, h2, rfl, q⟩
        refine ⟨_, (by simp only [k62, Tryz.f62, right_K, h2, h4, op, bodyOf, Option.getD_some, go_sem, seval]; exact rfl), ?_⟩
        repeat (first | exact Ext.refl _ | apply Ext.alloc | refine Ext.set ?_ (by omega) _)
      · have h4 : (to == []) = false := by simpa using h3
        refine ⟨_, (by simp only [k62, Tryz.f62, right_K, h2, h4, op, bodyOf, Option.getD_some, go_sem, seval]; exact rfl), ?_⟩
        repeat (first | exact Ext.refl _ | apply Ext.alloc | refine Ext.set ?_ (by omega) _)
  · refine ⟨_, (by simp only [k62, Tryz.f62, h1, op, bodyOf, Option.getD_some, go_sem, seval]; exact rfl), ?_⟩
    repeat (first | exact Ext.refl _ | apply Ext.alloc | refine Ext.set ?_ (by omega) _)

end get
namespace scan
theorem new_good (t to : List UInt8) (v : Int) (hv1 : 1 ≤ v) (hv2 : v ≤ 16) (h1 : (t.length : Int) ≤ 13) (h2 : (to.length : Int) ≤ 13) (r : Int) (h : NHeap) : ∃ p h', K env 67 [op 4 t to v, .int .i64 r] h = some (.tuple [.ptr (some p), .int .i64 0], h') ∧ Ext h h' := by
  have a1 : ¬ v < 1 := by omega
  have a2 : ¬ (16 < v) := by omega
  have a3 : ¬ (13 < (t.length : Int)) := by omega
  have a4 : ¬ (13 < (to.length : Int)) := by omega
  refine ⟨_, _, (by simp only [k67, Tryz.f67, k125, Tryz.f125, a1, a2, a3, a4, op, bodyOf, Option.getD_some, go_sem, seval]; exact rfl), ?_⟩
  repeat (first | exact Ext.refl _ | apply Ext.alloc | refine Ext.set ?_ (by omega) _)
theorem new_bad (k : Int) (t to : List UInt8) (v : Int) (hb : ¬ (k = 4 ∧ 1 ≤ v ∧ v ≤ 16 ∧ (t.length : Int) ≤ 13 ∧ (to.length : Int) ≤ 13)) (r : Int) (h : NHeap) : ∃ h', K env 67 [op k t to v, .int .i64 r] h = some (.tuple [.ptr none, .int .i64 1], h') ∧ Ext h h' := by
  by_cases h1 : k = 4
  · subst h1
    by_cases a1 : v < 1
    · refine ⟨_, (by simp only [k67, Tryz.f67, a1, op, bodyOf, Option.getD_some, go_sem, seval]; exact rfl), ?_⟩
      repeat (first | exact Ext.refl _ | apply Ext.alloc | refine Ext.set ?_ (by omega) _)
    by_cases a2 : 16 < v
    · refine ⟨_, (by simp only [k67, Tryz.f67, a1, a2, op, bodyOf, Option.getD_some, go_sem, seval]; exact rfl), ?_⟩
      repeat (first | exact Ext.refl _ | apply Ext.alloc | refine Ext.set ?_ (by omega) _)
    by_cases a3 : 13 < (t.length : Int)
    · refine ⟨_, (by simp only [k67, Tryz.f67, a1, a2, a3, op, bodyOf, Option.getD_some, go_sem, seval]; exact rfl), ?_⟩
      repeat (first | exact Ext.refl _ | apply Ext.alloc | refine Ext.set ?_ (by omega) _)
    have a4 : 13 < (to.length : Int) := by omega
    refine ⟨_, (by simp only [k67, Tryz.f67, a1, a2, a3, a4, op, bodyOf, Option.getD_some, go_sem, seval]; exact rfl), ?_⟩
    repeat (first | exact Ext.refl _ | apply Ext.alloc | refine Ext.set ?_ (by omega) _)
  · refine ⟨_, (by simp only [k67, Tryz.f67, h1, op, bodyOf, Option.getD_some, go_sem, seval]; exact rfl), ?_⟩
    repeat (first | exact Ext.refl _ | apply Ext.alloc | refine Ext.set ?_ (by omega) _)

end scan
namespace put
theorem new_good (t : List UInt8) (ht : rightT t = true) (v : Int) (hv1 : 0 ≤ v) (hv2 : v ≤ 1099511627776) (tr : Int) (htr : 1 ≤ tr) (r : Int) (h : NHeap) : ∃ p h', K env 72 [op 2 t [] v, .int .i64 r, .int .i64 tr] h = some (.tuple [.ptr (some p), .int .i64 0], h') ∧ Ext h h' := by
  have hl : t.length ≤ 12 := by simp [rightT] at ht; exact ht.2.1
  have ha : nbin Tryz.prog .add 9 (.str t) (.str [0]) = some (.str (t ++ [0])) := str_add _ _ _ (by simp; omega)
  have a0 : ¬ tr < 1 := by omega
  have a1 : ¬ v < 0 := by omega
  have a2 : ¬ (1099511627776 < v) := by omega
  refine ⟨_, _, (by simp only [k72, Tryz.f72, k122, Tryz.f122, k128, Tryz.f128, right_K, ht, ha, a0, a1, a2, op, bodyOf, Option.getD_some, go_sem, seval]; exact rfl), ?_⟩
  repeat (first | exact Ext.refl _ | apply Ext.alloc | refine Ext.set ?_ (by omega) _)
theorem new_bad (k : Int) (t to : List UInt8) (v tr : Int) (hb : ¬ (k = 2 ∧ rightT t = true ∧ to = [] ∧ 0 ≤ v ∧ v ≤ 1099511627776 ∧ 1 ≤ tr)) (r : Int) (h : NHeap) : ∃ h', K env 72 [op k t to v, .int .i64 r, .int .i64 tr] h = some (.tuple [.ptr none, .int .i64 1], h') ∧ Ext h h' := by
  by_cases h1 : k = 2
  case neg =>
    refine ⟨_, (by simp only [k72, Tryz.f72, right_K, h1, op, bodyOf, Option.getD_some, go_sem, seval]; exact rfl), ?_⟩
    repeat (first | exact Ext.refl _ | apply Ext.alloc | refine Ext.set ?_ (by omega) _)
  subst h1
  cases h2 : rightT t with
  | false =>
    refine ⟨_, (by simp only [k72, Tryz.f72, right_K, h2, op, bodyOf, Option.getD_some, go_sem, seval]; exact rfl), ?_⟩
    repeat (first | exact Ext.refl _ | apply Ext.alloc | refine Ext.set ?_ (by omega) _)
  | true =>
    by_cases a1 : v < 0
    case pos =>
      refine ⟨_, (by simp only [k72, Tryz.f72, right_K, h2, a1, op, bodyOf, Option.getD_some, go_sem, seval]; exact rfl), ?_⟩
      repeat (first | exact Ext.refl _ | apply Ext.alloc | refine Ext.set ?_ (by omega) _)
    by_cases a2 : 1099511627776 < v
    case pos =>
      refine ⟨_, (by simp only [k72, Tryz.f72, right_K, h2, a1, a2, op, bodyOf, Option.getD_some, go_sem, seval]; exact rfl), ?_⟩
      repeat (first | exact Ext.refl _ | apply Ext.alloc | refine Ext.set ?_ (by omega) _)
    by_cases h3 : to = []
    case neg =>
      have h4 : (to == []) = false := by simpa using h3
      refine ⟨_, (by simp only [k72, Tryz.f72, right_K, h2, a1, a2, h4, op, bodyOf, Option.getD_some, go_sem, seval]; exact rfl), ?_⟩
      repeat (first | exact Ext.refl _ | apply Ext.alloc | refine Ext.set ?_ (by omega) _)
    subst h3
    have a3 : tr < 1 := by
      by_cases q : tr < 1
      · exact q
      · exact absurd ⟨rfl, h2, rfl, by omega, by omega, by omega⟩ hb
    refine ⟨_, (by simp only [k72, Tryz.f72, right_K, h2, a1, a2, a3, op, bodyOf, Option.getD_some, go_sem, seval]; exact rfl), ?_⟩
    repeat (first | exact Ext.refl _ | apply Ext.alloc | refine Ext.set ?_ (by omega) _)


end put
namespace drop
theorem new_good (t : List UInt8) (ht : rightT t = true)  (tr : Int) (htr : 1 ≤ tr) (r : Int) (h : NHeap) : ∃ p h', K env 77 [op 3 t [] 0, .int .i64 r, .int .i64 tr] h = some (.tuple [.ptr (some p), .int .i64 0], h') ∧ Ext h h' := by
  have hl : t.length ≤ 12 := by simp [rightT] at ht; exact ht.2.1
  have ha : nbin Tryz.prog .add 9 (.str t) (.str [0]) = some (.str (t ++ [0])) := str_add _ _ _ (by simp; omega)
  have a0 : ¬ tr < 1 := by omega
  refine ⟨_, _, (by simp only [k77, Tryz.f77, k122, Tryz.f122, k131, Tryz.f131, right_K, ht, ha, a0, op, bodyOf, Option.getD_some, go_sem, seval]; exact rfl), ?_⟩
  repeat (first | exact Ext.refl _ | apply Ext.alloc | refine Ext.set ?_ (by omega) _)
theorem new_bad (k : Int) (t to : List UInt8) (v tr : Int) (hb : ¬ (k = 3 ∧ rightT t = true ∧ to = [] ∧ v = 0 ∧ 1 ≤ tr)) (r : Int) (h : NHeap) : ∃ h', K env 77 [op k t to v, .int .i64 r, .int .i64 tr] h = some (.tuple [.ptr none, .int .i64 1], h') ∧ Ext h h' := by
  by_cases h1 : k = 3
  case neg =>
    refine ⟨_, (by simp only [k77, Tryz.f77, right_K, h1, op, bodyOf, Option.getD_some, go_sem, seval]; exact rfl), ?_⟩
    repeat (first | exact Ext.refl _ | apply Ext.alloc | refine Ext.set ?_ (by omega) _)
  subst h1
  cases h2 : rightT t with
  | false =>
    refine ⟨_, (by simp only [k77, Tryz.f77, right_K, h2, op, bodyOf, Option.getD_some, go_sem, seval]; exact rfl), ?_⟩
    repeat (first | exact Ext.refl _ | apply Ext.alloc | refine Ext.set ?_ (by omega) _)
  | true =>
    by_cases a1 : v = 0
    case neg =>
      refine ⟨_, (by simp only [k77, Tryz.f77, right_K, h2, a1, op, bodyOf, Option.getD_some, go_sem, seval]; exact rfl), ?_⟩
      repeat (first | exact Ext.refl _ | apply Ext.alloc | refine Ext.set ?_ (by omega) _)
    subst a1
    by_cases h3 : to = []
    case neg =>
      have h4 : (to == []) = false := by simpa using h3
      refine ⟨_, (by simp only [k77, Tryz.f77, right_K, h2, h4, op, bodyOf, Option.getD_some, go_sem, seval]; exact rfl), ?_⟩
      repeat (first | exact Ext.refl _ | apply Ext.alloc | refine Ext.set ?_ (by omega) _)
    subst h3
    have a3 : tr < 1 := by
      by_cases q : tr < 1
      · exact q
      · exact absurd ⟨rfl, h2, rfl, rfl, by omega⟩ hb
    refine ⟨_, (by simp only [k77, Tryz.f77, right_K, h2, a3, op, bodyOf, Option.getD_some, go_sem, seval]; exact rfl), ?_⟩
    repeat (first | exact Ext.refl _ | apply Ext.alloc | refine Ext.set ?_ (by omega) _)


end drop

namespace tick
theorem opEq (k : Int) (t to : List UInt8) (v : Int) : neq Tryz.prog 6 45 (op k t to v) (op 5 [] [] 0) = (match k == 5 with | false => some false | true => match t == [] with | false => some false | true => match to == [] with | false => some false | true => match v == 0 with | false => some false | true => some true) := by kernel_rfl
theorem opNeq (k : Int) (t to : List UInt8) (v : Int) (b : Bool) (hb : b = true ↔ (k = 5 ∧ t = [] ∧ to = [] ∧ v = 0)) : nbin Tryz.prog .neq 45 (op k t to v) (op 5 [] [] 0) = some (.bool !b) := by
  have h : nbin Tryz.prog .neq 45 (op k t to v) (op 5 [] [] 0) = (match neq Tryz.prog 6 45 (op k t to v) (op 5 [] [] 0) with | some b => some (.bool !b) | none => nsame Tryz.prog 23 (op k t to v) (op 5 [] [] 0) false) := rfl
  rw [h, opEq]
  cases h1 : k == 5 <;> cases h2 : t == [] <;> cases h3 : to == [] <;> cases h4 : v == 0 <;> cases b <;> simp_all
theorem new_good (cl : Int) (h1 : 1 ≤ cl) (h2 : cl ≤ 8) (h : NHeap) : ∃ p h', K env 82 [op 5 [] [] 0, .int .i64 cl] h = some (.tuple [.ptr (some p), .int .i64 0], h') ∧ Ext h h' := by
  have a1 : ¬ cl < 1 := by omega
  have a2 : ¬ 8 < cl := by omega
  have hn := opNeq 5 [] [] 0 true (by simp)
  simp only [op, Bool.not_true] at hn
  refine ⟨_, _, (by simp only [k82, Tryz.f82, k133, Tryz.f133, a1, a2, hn, op, bodyOf, Option.getD_some, go_sem, seval]; exact rfl), ?_⟩
  repeat (first | exact Ext.refl _ | apply Ext.alloc | refine Ext.set ?_ (by omega) _)
theorem new_bad (k : Int) (t to : List UInt8) (v cl : Int) (hb : ¬ (k = 5 ∧ t = [] ∧ to = [] ∧ v = 0 ∧ 1 ≤ cl ∧ cl ≤ 8)) (h : NHeap) : ∃ h', K env 82 [op k t to v, .int .i64 cl] h = some (.tuple [.ptr none, .int .i64 1], h') ∧ Ext h h' := by
  by_cases hm : k = 5 ∧ t = [] ∧ to = [] ∧ v = 0
  · have hn := opNeq k t to v true ⟨fun _ => hm, fun _ => rfl⟩
    simp only [op, Bool.not_true] at hn
    by_cases a1 : cl < 1
    · refine ⟨_, (by simp only [k82, Tryz.f82, a1, hn, op, bodyOf, Option.getD_some, go_sem, seval]; exact rfl), ?_⟩
      repeat (first | exact Ext.refl _ | apply Ext.alloc | refine Ext.set ?_ (by omega) _)
    · have a2 : 8 < cl := by
        by_cases q : 8 < cl
        · exact q
        · exact absurd ⟨hm.1, hm.2.1, hm.2.2.1, hm.2.2.2, by omega, by omega⟩ hb
      refine ⟨_, (by simp only [k82, Tryz.f82, a1, a2, hn, op, bodyOf, Option.getD_some, go_sem, seval]; exact rfl), ?_⟩
      repeat (first | exact Ext.refl _ | apply Ext.alloc | refine Ext.set ?_ (by omega) _)
  · have hn := opNeq k t to v false ⟨fun q => (by cases q), fun q => absurd q hm⟩
    simp only [op, Bool.not_false] at hn
    refine ⟨_, (by simp only [k82, Tryz.f82, hn, op, bodyOf, Option.getD_some, go_sem, seval]; exact rfl), ?_⟩
    repeat (first | exact Ext.refl _ | apply Ext.alloc | refine Ext.set ?_ (by omega) _)
end tick

def C1 (k : Int) (t to : List UInt8) (v : Int) : Prop := k = 1 ∧ rightT t = true ∧ to = [] ∧ v = 0
def C4 (k : Int) (t to : List UInt8) (v : Int) : Prop := k = 4 ∧ 1 ≤ v ∧ v ≤ 16 ∧ (t.length : Int) ≤ 13 ∧ (to.length : Int) ≤ 13
def C2 (k : Int) (t to : List UInt8) (v : Int) : Prop := k = 2 ∧ rightT t = true ∧ to = [] ∧ 0 ≤ v ∧ v ≤ 1099511627776
def C3 (k : Int) (t to : List UInt8) (v : Int) : Prop := k = 3 ∧ rightT t = true ∧ to = [] ∧ v = 0
def C5 (k : Int) (t to : List UInt8) (v cl : Int) : Prop := k = 5 ∧ t = [] ∧ to = [] ∧ v = 0 ∧ 1 ≤ cl ∧ cl ≤ 8
def CC (k : Int) (t to : List UInt8) (v cl : Int) : Prop := C1 k t to v ∨ C4 k t to v ∨ C2 k t to v ∨ C3 k t to v ∨ C5 k t to v cl

theorem get_K (k : Int) (t to : List UInt8) (v r : Int) (h : NHeap) : ∃ q e h', K env 62 [op k t to v, .int .i64 r] h = some (.tuple [.ptr q, .int .i64 e], h') ∧ Ext h h' ∧ ((e = 0 ∧ C1 k t to v) ∨ (e = 1 ∧ ¬ C1 k t to v)) := by
  by_cases hc : C1 k t to v
  · obtain ⟨rfl, h1, rfl, rfl⟩ := id hc
    obtain ⟨p, h', e, x⟩ := get.new_good t h1 r h
    exact ⟨_, _, _, e, x, .inl ⟨rfl, hc⟩⟩
  · obtain ⟨h', e, x⟩ := get.new_bad k t to v hc r h
    exact ⟨_, _, _, e, x, .inr ⟨rfl, hc⟩⟩
theorem scan_K (k : Int) (t to : List UInt8) (v r : Int) (h : NHeap) : ∃ q e h', K env 67 [op k t to v, .int .i64 r] h = some (.tuple [.ptr q, .int .i64 e], h') ∧ Ext h h' ∧ ((e = 0 ∧ C4 k t to v) ∨ (e = 1 ∧ ¬ C4 k t to v)) := by
  by_cases hc : C4 k t to v
  · obtain ⟨rfl, h1, h2, h3, h4⟩ := id hc
    obtain ⟨p, h', e, x⟩ := scan.new_good t to v h1 h2 h3 h4 r h
    exact ⟨_, _, _, e, x, .inl ⟨rfl, hc⟩⟩
  · obtain ⟨h', e, x⟩ := scan.new_bad k t to v hc r h
    exact ⟨_, _, _, e, x, .inr ⟨rfl, hc⟩⟩
theorem put_K (k : Int) (t to : List UInt8) (v r : Int) (h : NHeap) : ∃ q e h', K env 72 [op k t to v, .int .i64 r, .int .i64 1] h = some (.tuple [.ptr q, .int .i64 e], h') ∧ Ext h h' ∧ ((e = 0 ∧ C2 k t to v) ∨ (e = 1 ∧ ¬ C2 k t to v)) := by
  by_cases hc : C2 k t to v
  · obtain ⟨rfl, h1, rfl, h2, h3⟩ := id hc
    obtain ⟨p, h', e, x⟩ := put.new_good t h1 v h2 h3 1 (by decide) r h
    exact ⟨_, _, _, e, x, .inl ⟨rfl, hc⟩⟩
  · obtain ⟨h', e, x⟩ := put.new_bad k t to v 1 (fun q => hc ⟨q.1, q.2.1, q.2.2.1, q.2.2.2.1, q.2.2.2.2.1⟩) r h
    exact ⟨_, _, _, e, x, .inr ⟨rfl, hc⟩⟩
theorem drop_K (k : Int) (t to : List UInt8) (v r : Int) (h : NHeap) : ∃ q e h', K env 77 [op k t to v, .int .i64 r, .int .i64 1] h = some (.tuple [.ptr q, .int .i64 e], h') ∧ Ext h h' ∧ ((e = 0 ∧ C3 k t to v) ∨ (e = 1 ∧ ¬ C3 k t to v)) := by
  by_cases hc : C3 k t to v
  · obtain ⟨rfl, h1, rfl, rfl⟩ := id hc
    obtain ⟨p, h', e, x⟩ := drop.new_good t h1 1 (by decide) r h
    exact ⟨_, _, _, e, x, .inl ⟨rfl, hc⟩⟩
  · obtain ⟨h', e, x⟩ := drop.new_bad k t to v 1 (fun q => hc ⟨q.1, q.2.1, q.2.2.1, q.2.2.2.1⟩) r h
    exact ⟨_, _, _, e, x, .inr ⟨rfl, hc⟩⟩
theorem tick_K (k : Int) (t to : List UInt8) (v cl : Int) (h : NHeap) : ∃ q e h', K env 82 [op k t to v, .int .i64 cl] h = some (.tuple [.ptr q, .int .i64 e], h') ∧ Ext h h' ∧ ((e = 0 ∧ C5 k t to v cl) ∨ (e = 1 ∧ ¬ C5 k t to v cl)) := by
  by_cases hc : C5 k t to v cl
  · obtain ⟨rfl, rfl, rfl, rfl, h1, h2⟩ := id hc
    obtain ⟨p, h', e, x⟩ := tick.new_good cl h1 h2 h
    exact ⟨_, _, _, e, x, .inl ⟨rfl, hc⟩⟩
  · obtain ⟨h', e, x⟩ := tick.new_bad k t to v cl hc h
    exact ⟨_, _, _, e, x, .inr ⟨rfl, hc⟩⟩

theorem made_K (k : Int) (t to : List UInt8) (v cl : Int) (h : NHeap) : ∃ pv e h', K env 36 [op k t to v, .int .i64 1, .int .i64 1, .int .i64 cl] h = some (.tuple [.agg pv, .int .i64 e], h') ∧ Ext h h' ∧ pv.length = 4 ∧ allOne pv = true ∧ ((e = 0 ∧ CC k t to v cl) ∨ (e = 1 ∧ ¬ CC k t to v cl)) := by
  rw [k36 _ _ (by simp)]
  simp only [bodyOf, Option.getD_some, Tryz.f36, op]
  by_cases e1 : k = 1
  · subst e1
    simp only [go_sem, seval]
    generalize hH : NHeap.alloc (NHeap.alloc h _) _ = H
    have xH : Ext h H := by rw [← hH]; exact Ext.alloc (Ext.alloc (Ext.refl h) _) _
    have g8 : H.get (h.next + 1) = some (.cells [.nilFunc, .nilFunc, .nilFunc, .nilFunc] (.own (some (78, 4)))) := by rw [← hH]; simp only [go_sem, seval, reduceIte]
    clear hH
    obtain ⟨q, e, h1, e1, x1, hc⟩ := get_K 1 t to v 1 H
    have g8' := x1.get g8
    have l8 := NHeap.get_lt g8'
    simp only [op] at e1
    simp only [go_sem, seval, e1, kFunc, g8', l8]
    refine ⟨_, _, _, rfl, Ext.set (xH.trans x1) (Nat.le_succ _) _, rfl, rfl, ?_⟩
    rcases hc with ⟨rfl, hc⟩ | ⟨rfl, hc⟩
    · exact .inl ⟨rfl, by unfold CC; simp [hc]⟩
    · refine .inr ⟨rfl, ?_⟩
      rintro (q | q | q | q | q) <;> first | exact hc q | exact absurd q.1 (by decide)
  by_cases e4 : k = 4
  · subst e4
    simp only [go_sem, seval]
    generalize hH : NHeap.alloc (NHeap.alloc h _) _ = H
    have xH : Ext h H := by rw [← hH]; exact Ext.alloc (Ext.alloc (Ext.refl h) _) _
    have g8 : H.get (h.next + 1) = some (.cells [.nilFunc, .nilFunc, .nilFunc, .nilFunc] (.own (some (78, 4)))) := by rw [← hH]; simp only [go_sem, seval, reduceIte]
    clear hH
    obtain ⟨q, e, h1, e1, x1, hc⟩ := scan_K 4 t to v 1 H
    have g8' := x1.get g8
    have l8 := NHeap.get_lt g8'
    simp only [op] at e1
    simp only [go_sem, seval, e1, kFunc, g8', l8]
    refine ⟨_, _, _, rfl, Ext.set (xH.trans x1) (Nat.le_succ _) _, rfl, rfl, ?_⟩
    rcases hc with ⟨rfl, hc⟩ | ⟨rfl, hc⟩
    · exact .inl ⟨rfl, by unfold CC; simp [hc]⟩
    · refine .inr ⟨rfl, ?_⟩
      rintro (q | q | q | q | q) <;> first | exact hc q | exact absurd q.1 (by decide)
  by_cases e2 : k = 2
  · subst e2
    simp only [go_sem, seval]
    generalize hH : NHeap.alloc (NHeap.alloc h _) _ = H
    have xH : Ext h H := by rw [← hH]; exact Ext.alloc (Ext.alloc (Ext.refl h) _) _
    have g8 : H.get (h.next + 1) = some (.cells [.nilFunc, .nilFunc, .nilFunc, .nilFunc] (.own (some (78, 4)))) := by rw [← hH]; simp only [go_sem, seval, reduceIte]
    clear hH
    obtain ⟨q, e, h1, e1, x1, hc⟩ := put_K 2 t to v 1 H
    have g8' := x1.get g8
    have l8 := NHeap.get_lt g8'
    simp only [op] at e1
    simp only [go_sem, seval, e1, kFunc, g8', l8]
    refine ⟨_, _, _, rfl, Ext.set (xH.trans x1) (Nat.le_succ _) _, rfl, rfl, ?_⟩
    rcases hc with ⟨rfl, hc⟩ | ⟨rfl, hc⟩
    · exact .inl ⟨rfl, by unfold CC; simp [hc]⟩
    · refine .inr ⟨rfl, ?_⟩
      rintro (q | q | q | q | q) <;> first | exact hc q | exact absurd q.1 (by decide)
  by_cases e3 : k = 3
  · subst e3
    simp only [go_sem, seval]
    generalize hH : NHeap.alloc (NHeap.alloc h _) _ = H
    have xH : Ext h H := by rw [← hH]; exact Ext.alloc (Ext.alloc (Ext.refl h) _) _
    have g8 : H.get (h.next + 1) = some (.cells [.nilFunc, .nilFunc, .nilFunc, .nilFunc] (.own (some (78, 4)))) := by rw [← hH]; simp only [go_sem, seval, reduceIte]
    clear hH
    obtain ⟨q, e, h1, e1, x1, hc⟩ := drop_K 3 t to v 1 H
    have g8' := x1.get g8
    have l8 := NHeap.get_lt g8'
    simp only [op] at e1
    simp only [go_sem, seval, e1, kFunc, g8', l8]
    refine ⟨_, _, _, rfl, Ext.set (xH.trans x1) (Nat.le_succ _) _, rfl, rfl, ?_⟩
    rcases hc with ⟨rfl, hc⟩ | ⟨rfl, hc⟩
    · exact .inl ⟨rfl, by unfold CC; simp [hc]⟩
    · refine .inr ⟨rfl, ?_⟩
      rintro (q | q | q | q | q) <;> first | exact hc q | exact absurd q.1 (by decide)
  by_cases e5 : k = 5
  · subst e5
    simp only [go_sem, seval]
    generalize hH : NHeap.alloc (NHeap.alloc h _) _ = H
    have xH : Ext h H := by rw [← hH]; exact Ext.alloc (Ext.alloc (Ext.refl h) _) _
    have g8 : H.get (h.next + 1) = some (.cells [.nilFunc, .nilFunc, .nilFunc, .nilFunc] (.own (some (78, 4)))) := by rw [← hH]; simp only [go_sem, seval, reduceIte]
    clear hH
    obtain ⟨q, e, h1, e1, x1, hc⟩ := tick_K 5 t to v cl H
    have g8' := x1.get g8
    have l8 := NHeap.get_lt g8'
    simp only [op] at e1
    simp only [go_sem, seval, e1, kFunc, g8', l8]
    refine ⟨_, _, _, rfl, Ext.set (xH.trans x1) (Nat.le_succ _) _, rfl, rfl, ?_⟩
    rcases hc with ⟨rfl, hc⟩ | ⟨rfl, hc⟩
    · exact .inl ⟨rfl, by unfold CC; simp [hc]⟩
    · refine .inr ⟨rfl, ?_⟩
      rintro (q | q | q | q | q) <;> first | exact hc q | exact absurd q.1 (by decide)
  simp only [go_sem, seval, e1, e4, e2, e3, e5]
  refine ⟨_, _, _, rfl, ?_, rfl, rfl, .inr ⟨rfl, ?_⟩⟩
  · repeat (first | exact Ext.refl _ | apply Ext.alloc | refine Ext.set ?_ (by omega) _)
  · rintro (q | q | q | q | q)
    · exact e1 q.1
    · exact e4 q.1
    · exact e2 q.1
    · exact e3 q.1
    · exact e5 q.1

theorem treeRight_K (k : Int) (t to : List UInt8) (v cl : Int) (h : NHeap) : ∃ b h', K env 16 [op k t to v, .int .i64 cl] h = some (.bool b, h') ∧ (b = true ↔ CC k t to v cl) := by
  rw [k16 _ _ (by simp)]
  simp only [bodyOf, Option.getD_some, Tryz.f16, op]
  simp only [go_sem, seval]
  generalize hH : NHeap.alloc h _ = H
  obtain ⟨pv, e, h1, e1, x1, hpl, hpo, hc⟩ := made_K k t to v cl H
  simp only [op] at e1
  rcases hc with ⟨rfl, hc⟩ | ⟨rfl, hc⟩
  · refine ⟨true, _, (by simp only [go_sem, seval, e1, hpl, hpo]; exact rfl), ⟨fun _ => hc, fun _ => rfl⟩⟩
  · refine ⟨false, _, (by simp only [go_sem, seval, e1, hpl, hpo]; exact rfl), ⟨fun q => (by cases q), fun q => absurd q hc⟩⟩

end made
end Go.Proofs.YtfgoajnoahhghaaGreatDoor.S
