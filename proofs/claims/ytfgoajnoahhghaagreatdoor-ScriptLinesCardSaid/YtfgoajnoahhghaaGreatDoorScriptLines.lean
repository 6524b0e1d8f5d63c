/-
  ScriptLines: what lines of small events are, and the law over them, walked step by step. No conditions beside what is said.
-/
import Derived.Test.YtfgoajnoahhghaaGreatDoorScriptTerms
namespace Go.Proofs.YtfgoajnoahhghaaGreatDoor.S
open Go Go.RowKit Go.Proofs.YtfgoajnoahhghaaGreatDoor.NICE
set_option maxRecDepth 100000
set_option linter.unusedSimpArgs false
set_option linter.unusedVariables false
namespace scriptLines
open script

theorem digit_take : ∀ c : Fin 10, (([48, 49, 50, 51, 52, 53, 54, 55, 56, 57, 97, 98, 99, 100, 101, 102, 103, 104, 105, 106, 107, 108, 109, 110, 111, 112, 113, 114, 115, 116, 117, 118, 119, 120, 121, 122] : List UInt8).drop c.1).take 1 = [UInt8.ofNat (48 + c.1)] := by decide

theorem itoa_K (c : Nat) (hc : c < 10) (h : NHeap) : K env 38 [.int .i64 c] h = some (.str [UInt8.ofNat (48 + c)], h) := by
  have a1 : (0 : Int) ≤ (c : Int) := by omega
  have a2 : (c : Int) < 100 := by omega
  have a3 : (c : Int) < 10 := by omega
  have a4 : (c : Int) ≤ 36 := by omega
  have a5 : (0 : Int) ≤ (c : Int) + 1 := by omega
  have a6 : (c : Int) + 1 ≤ 36 := by omega
  have a7 : (c : Int) ≤ ((c : Int) + 1).toNat := by omega
  have a8 : ((c : Int) + 1).toNat - c = 1 := by omega
  have w1 : IntKind.i64.wrap ((c : Int) + 1) = (c : Int) + 1 := wrap_i64_small (by omega) (by omega)
  have dt := digit_take ⟨c, hc⟩
  simp only at dt
  simp only [bodyOf, Option.getD_some, go_sem, seval, k38, Tryz.f38, k88, Tryz.f88, k136, Tryz.f136, k169, Tryz.f169, a1, a2, a3, w1, a4, a5, a6, a7, a8, dt, Int.cast_ofNat_Int, nslice, nbound]

def beginsB (k : Nat) (t : List UInt8) (v : Nat) : List UInt8 := match k with
  | 1 => [32, 103, 101, 116, 32] ++ t
  | 2 => [32, 112, 117, 116, 32] ++ t ++ [32] ++ [UInt8.ofNat (48 + v)]
  | 3 => [32, 100, 114, 111, 112, 32] ++ t
  | 4 => [32, 115, 99, 97, 110, 32] ++ t ++ [32] ++ [UInt8.ofNat (48 + v)]
  | _ => [32, 116, 105, 99, 107]
abbrev opc (k : Nat) (t : List UInt8) (v : Nat) : List NVal := [.int .i64 k, .str t, .str [], .int .i64 v]

theorem begins_K (k : Nat) (hk : 1 ≤ k ∧ k ≤ 5) (t : List UInt8) (ht : t.length ≤ 10) (v : Nat) (hv : v < 10) (h : NHeap) : ∃ h', K env 39 [.agg (opc k t v)] h = some (.str (beginsB k t v), h') ∧ Ext h h' := by
  have hi := fun h => itoa_K v hv h
  have s1 : nbin Tryz.prog .add 9 (.str [32, 103, 101, 116, 32]) (.str t) = some (.str ([32, 103, 101, 116, 32] ++ t)) := str_add _ _ _ (by simp; omega)
  have s2 : nbin Tryz.prog .add 9 (.str [32, 112, 117, 116, 32]) (.str t) = some (.str ([32, 112, 117, 116, 32] ++ t)) := str_add _ _ _ (by simp; omega)
  have s3 : nbin Tryz.prog .add 9 (.str ([32, 112, 117, 116, 32] ++ t)) (.str [32]) = some (.str ([32, 112, 117, 116, 32] ++ t ++ [32])) := str_add _ _ _ (by simp; omega)
  have s4 : nbin Tryz.prog .add 9 (.str ([32, 112, 117, 116, 32] ++ t ++ [32])) (.str [UInt8.ofNat (48 + v)]) = some (.str ([32, 112, 117, 116, 32] ++ t ++ [32] ++ [UInt8.ofNat (48 + v)])) := str_add _ _ _ (by simp; omega)
  have s5 : nbin Tryz.prog .add 9 (.str [32, 100, 114, 111, 112, 32]) (.str t) = some (.str ([32, 100, 114, 111, 112, 32] ++ t)) := str_add _ _ _ (by simp; omega)
  have s6 : nbin Tryz.prog .add 9 (.str [32, 115, 99, 97, 110, 32]) (.str t) = some (.str ([32, 115, 99, 97, 110, 32] ++ t)) := str_add _ _ _ (by simp; omega)
  have s7 : nbin Tryz.prog .add 9 (.str ([32, 115, 99, 97, 110, 32] ++ t)) (.str [32]) = some (.str ([32, 115, 99, 97, 110, 32] ++ t ++ [32])) := str_add _ _ _ (by simp; omega)
  have s8 : nbin Tryz.prog .add 9 (.str ([32, 115, 99, 97, 110, 32] ++ t ++ [32])) (.str [UInt8.ofNat (48 + v)]) = some (.str ([32, 115, 99, 97, 110, 32] ++ t ++ [32] ++ [UInt8.ofNat (48 + v)])) := str_add _ _ _ (by simp; omega)
  simp only [List.cons_append, List.nil_append] at s1 s2 s3 s4 s5 s6 s7 s8
  have : k = 1 ∨ k = 2 ∨ k = 3 ∨ k = 4 ∨ k = 5 := by omega
  rcases this with rfl | rfl | rfl | rfl | rfl
  all_goals
    refine ⟨_, (by simp only [bodyOf, Option.getD_some, go_sem, seval, k39, Tryz.f39, opc, hi, s1, s2, s3, s4, s5, s6, s7, s8]; exact rfl), ?_⟩
    repeat (first | exact Ext.refl _ | apply Ext.alloc | refine Ext.set ?_ (by omega) _)

abbrev nilSl : NVal := .slice none 0 0 none
abbrev evb (c k : Nat) (t : List UInt8) (v : Nat) : List NVal := [.int .i64 1, .int .i64 c, .int .i64 k, .str t, .str [], .int .i64 v, .int .i64 0, .bool false, .int .i64 0, nilSl]

theorem line_begin (c : Nat) (hc : c < 10) (k : Nat) (hk : 1 ≤ k ∧ k ≤ 5) (t : List UInt8) (ht : t.length ≤ 10) (v : Nat) (hv : v < 10) (h : NHeap) : ∃ h', K env 22 [.agg (evb c k t v)] h = some (.str ([UInt8.ofNat (48 + c)] ++ beginsB k t v), h') ∧ Ext h h' := by
  have hi := fun h => itoa_K c hc h
  have hl : (beginsB k t v).length ≤ 30 := by
    have : k = 1 ∨ k = 2 ∨ k = 3 ∨ k = 4 ∨ k = 5 := by omega
    rcases this with rfl | rfl | rfl | rfl | rfl <;> simp [beginsB] <;> omega
  have s1 : nbin Tryz.prog .add 9 (.str [UInt8.ofNat (48 + c)]) (.str (beginsB k t v)) = some (.str ([UInt8.ofNat (48 + c)] ++ beginsB k t v)) := str_add _ _ _ (by simp; omega)
  obtain ⟨h', e, hE⟩ := begins_K k hk t ht v hv (h.alloc (.cells (evb c k t v) (.own none)))
  simp only [opc, evb] at e
  have ll := hE.next
  simp only [NHeap.next_alloc] at ll
  refine ⟨h', ?_, (Ext.alloc (Ext.refl h) _).trans hE⟩
  have g := hE.get (b := h.next) (o := .cells (evb c k t v) (.own none)) (by simp only [go_sem, seval])
  simp only [evb] at g
  simp only [bodyOf, Option.getD_some, go_sem, seval, k22, Tryz.f22, evb, hi, e, s1, g, ll]

abbrev evd (c v : Nat) : List NVal := [.int .i64 2, .int .i64 c, .int .i64 0, .str [], .str [], .int .i64 0, .int .i64 0, .bool true, .int .i64 v, nilSl]
theorem done_K (v : Nat) (hv : v < 10) (h : NHeap) : ∃ h', K env 40 [.agg [.int .i64 0, .bool true, .int .i64 v, nilSl]] h = some (.str ([32, 100, 111, 110, 101, 32] ++ [UInt8.ofNat (48 + v)]), h') ∧ Ext h h' := by
  have hi := fun h => itoa_K v hv h
  have s1 : nbin Tryz.prog .add 9 (.str [32]) (.str [UInt8.ofNat (48 + v)]) = some (.str ([32] ++ [UInt8.ofNat (48 + v)])) := str_add _ _ _ (by simp)
  have s2 : nbin Tryz.prog .add 9 (.str [32, 100, 111, 110, 101]) (.str ([32] ++ [UInt8.ofNat (48 + v)])) = some (.str ([32, 100, 111, 110, 101] ++ ([32] ++ [UInt8.ofNat (48 + v)]))) := str_add _ _ _ (by simp)
  simp only [List.cons_append, List.nil_append] at s1 s2
  refine ⟨_, (by
    simp only [bodyOf, Option.getD_some, go_sem, seval, k40, Tryz.f40, hi, s1, s2, ze25]
    rw [S_loop]
    simp only [bodyOf, Option.getD_some, go_sem, seval]
    exact rfl), ?_⟩
  repeat (first | exact Ext.refl _ | apply Ext.alloc | refine Ext.set ?_ (by omega) _)

theorem line_done (c v : Nat) (hc : c < 10) (hv : v < 10) (h : NHeap) : ∃ h', K env 22 [.agg (evd c v)] h = some (.str ([UInt8.ofNat (48 + c)] ++ ([32, 100, 111, 110, 101, 32] ++ [UInt8.ofNat (48 + v)])), h') ∧ Ext h h' := by
  have hi := fun h => itoa_K c hc h
  have s1 : nbin Tryz.prog .add 9 (.str [UInt8.ofNat (48 + c)]) (.str ([32, 100, 111, 110, 101, 32] ++ [UInt8.ofNat (48 + v)])) = some (.str ([UInt8.ofNat (48 + c)] ++ ([32, 100, 111, 110, 101, 32] ++ [UInt8.ofNat (48 + v)]))) := str_add _ _ _ (by simp)
  obtain ⟨h', e, hE⟩ := done_K v hv (h.alloc (.cells (evd c v) (.own none)))
  have g := hE.get (b := h.next) (o := .cells (evd c v) (.own none)) (by simp only [go_sem, seval])
  have ll := hE.next
  simp only [NHeap.next_alloc] at ll
  simp only [evd] at e g
  simp only [List.cons_append, List.nil_append] at s1
  refine ⟨h', ?_, (Ext.alloc (Ext.refl h) _).trans hE⟩
  simp only [bodyOf, Option.getD_some, go_sem, seval, k22, Tryz.f22, evd, hi, e, s1, g, ll]

theorem line_none (c v : Nat) (h : NHeap) : ∃ h', K env 22 [.agg [.int .i64 (3 + (v : Int)), .int .i64 c, .int .i64 0, .str [], .str [], .int .i64 0, .int .i64 0, .bool false, .int .i64 0, nilSl]] h = some (.str [], h') ∧ Ext h h' := by
  have a1 : ¬ 3 + (v : Int) = 1 := by omega
  have a2 : ¬ 3 + (v : Int) = 2 := by omega
  refine ⟨_, (by simp only [bodyOf, Option.getD_some, go_sem, seval, k22, Tryz.f22, a1, a2]; exact rfl), ?_⟩
  repeat (first | exact Ext.refl _ | apply Ext.alloc | refine Ext.set ?_ (by omega) _)

/-- the law's own small function -/
theorem op_K (kv : Int) (k c v : Nat) (hk : 1 + kv % 5 = (k : Int)) (t : List UInt8) (p1 p2 p3 : Nat) (q1 q2 q3) (h : NHeap) (g1 : h.get p1 = some (.cells [.str t] q1)) (g2 : h.get p2 = some (.cells [.int .i64 v] q2)) (g3 : h.get p3 = some (.cells [.int .i64 c] q3)) :
    ∃ h', K env 21 [.int .i64 kv, .ptr (some (p1, 0)), .ptr (some (p2, 0)), .ptr (some (p3, 0))] h = some (.agg (evb c k t v), h') ∧ Ext h h' := by
  have w1 : IntKind.i64.wrap (1 + kv % 5) = (k : Int) := by rw [hk]; exact wrap_i64_small (by omega) (by omega)
  have wi := within_K kv 0 4
  simp only [Int.zero_add, show (4 : Int) - 0 + 1 = 5 by decide] at wi
  have wi' := fun h => wi h (by decide) (by decide) (by decide)
  have n1 := NHeap.get_lt g1
  have n2 := NHeap.get_lt g2
  have n3 := NHeap.get_lt g3
  have m1 : ¬ p1 = h.next := by omega
  have m2 : ¬ p2 = h.next := by omega
  have m3 : ¬ p3 = h.next := by omega
  have m1' : ¬ p1 = h.next + 1 := by omega
  have m2' : ¬ p2 = h.next + 1 := by omega
  have m3' : ¬ p3 = h.next + 1 := by omega
  refine ⟨_, (by simp only [bodyOf, Option.getD_some, go_sem, seval, k21, Tryz.f21, wi', w1, g1, g2, g3, m1, m2, m3, m1', m2', m3', evb]; exact rfl), ?_⟩
  repeat (first | exact Ext.refl _ | apply Ext.alloc | refine Ext.set ?_ (by simp) _)

theorem kind_of (kv : Int) : ∃ k : Nat, 1 + kv % 5 = (k : Int) ∧ 1 ≤ k ∧ k ≤ 5 := ⟨(1 + kv % 5).toNat, by omega, by omega, by omega⟩
theorem beginsB_inj (t : List UInt8) (v : Nat) (k l : Nat) (hk : 1 ≤ k ∧ k ≤ 5) (hl : 1 ≤ l ∧ l ≤ 5) : (beginsB k t v == beginsB l t v) = decide ((k : Int) = l) := by
  have h1 : k = 1 ∨ k = 2 ∨ k = 3 ∨ k = 4 ∨ k = 5 := by omega
  have h2 : l = 1 ∨ l = 2 ∨ l = 3 ∨ l = 4 ∨ l = 5 := by omega
  rcases h1 with rfl | rfl | rfl | rfl | rfl <;> rcases h2 with rfl | rfl | rfl | rfl | rfl <;> simp [beginsB]
theorem beginsB_len (t : List UInt8) (v k : Nat) (hk : 1 ≤ k ∧ k ≤ 5) : 4 ≤ (beginsB k t v).length := by
  have h1 : k = 1 ∨ k = 2 ∨ k = 3 ∨ k = 4 ∨ k = 5 := by omega
  rcases h1 with rfl | rfl | rfl | rfl | rfl <;> simp [beginsB] <;> omega

set_option maxHeartbeats 4000000 in
theorem law (cl va kd ot : Int) (s : List UInt8) (h : NHeap) : ∃ h', K env 6 [.int .i64 cl, .int .i64 va, .int .i64 kd, .int .i64 ot, .str s] h = some (.bool true, h') := by
  obtain ⟨c, hc, c9⟩ : ∃ c : Nat, cl % 10 = (c : Int) ∧ c < 10 := ⟨(cl % 10).toNat, by omega, by omega⟩
  obtain ⟨v, hv, v9⟩ : ∃ v : Nat, va % 10 = (v : Int) ∧ v < 10 := ⟨(va % 10).toNat, by omega, by omega⟩
  obtain ⟨k, hk, hk5⟩ := kind_of kd
  obtain ⟨l, hl, hl5⟩ := kind_of ot
  have wi := fun n h => within_K n 0 9 h (by decide) (by decide) (by decide)
  simp only [Int.zero_add, show (9 : Int) - 0 + 1 = 10 by decide] at wi
  have wc := wi cl
  have wv := wi va
  rw [hc] at wc
  rw [hv] at wv
  rw [k6 _ _ (by simp)]
  simp only [bodyOf, Option.getD_some, go_sem, seval, Tryz.f6, wc, wv]
  generalize hH : NHeap.set _ _ _ = H
  obtain ⟨q3, g3⟩ : ∃ q, H.get h.next = some (.cells [.int .i64 c] q) := ⟨_, by rw [← hH]; simp only [go_sem, seval]; exact rfl⟩
  obtain ⟨q2, g2⟩ : ∃ q, H.get (h.next + 1) = some (.cells [.int .i64 v] q) := ⟨_, by rw [← hH]; simp only [go_sem, seval]; exact rfl⟩
  clear hH
  obtain ⟨h1, e1, x1⟩ := Term_K (s.length : Int) H
  have tl : (termB ((s.length : Int) % 256).toNat).length ≤ 10 := by have := letters_len 4 (((s.length : Int) % 256).toNat / 4); simp [termB]; omega
  generalize termB ((s.length : Int) % 256).toNat = t at *
  simp only [go_sem, seval, e1]
  have g3 := x1.get g3
  have g2 := x1.get g2
  have l3 := NHeap.get_lt g3
  have l2 := NHeap.get_lt g2
  have n3 : ¬ h.next = h1.next := by omega
  have n2 : ¬ h.next + 1 = h1.next := by omega
  generalize hH : NHeap.set _ _ _ = H2
  obtain ⟨q1, g1⟩ : ∃ q, H2.get h1.next = some (.cells [.str t] q) := ⟨_, by rw [← hH]; simp only [go_sem, seval]; exact rfl⟩
  have g2 : H2.get (h.next + 1) = some (.cells [.int .i64 v] q2) := by rw [← hH]; simp only [go_sem, seval, n2, g2]
  have g3 : H2.get h.next = some (.cells [.int .i64 c] q3) := by rw [← hH]; simp only [go_sem, seval, n3, g3]
  clear hH x1 e1
  obtain ⟨h3, e3, x3⟩ := op_K kd k c v hk t _ _ _ _ _ _ H2 g1 g2 g3
  have g1 := x3.get g1
  have g2 := x3.get g2
  have g3 := x3.get g3
  obtain ⟨h4, e4, x4⟩ := line_begin c c9 k hk5 t tl v v9 h3
  have g1 := x4.get g1
  have g2 := x4.get g2
  have g3 := x4.get g3
  obtain ⟨h5, e5, x5⟩ := op_K ot l c v hl t _ _ _ _ _ _ h4 g1 g2 g3
  have g1 := x5.get g1
  have g2 := x5.get g2
  have g3 := x5.get g3
  obtain ⟨h6, e6, x6⟩ := line_begin c c9 l hl5 t tl v v9 h5
  have g1 := x6.get g1
  have g2 := x6.get g2
  have g3 := x6.get g3
  obtain ⟨h7, e7, x7⟩ := line_done c v c9 v9 h6
  have f1 := x7.get g1
  have f2 := x7.get g2
  have f3 := x7.get g3
  obtain ⟨h8, e8, x8⟩ := line_none c v h7
  have d1 := x8.get f1
  have d2 := x8.get f2
  have d3 := x8.get f3
  have w1 : IntKind.i64.wrap (3 + (v : Int)) = 3 + (v : Int) := wrap_i64_small (by omega) (by omega)
  have w2 : IntKind.i64.wrap (48 + (c : Int)) = 48 + (c : Int) := wrap_i64_small (by omega) (by omega)
  have w3 : IntKind.u8.wrap (48 + (c : Int)) = ((48 + c : Nat) : Int) := by rw [IntKind.wrap_u8]; omega
  have w4 : IntKind.i64.wrap (48 + (v : Int)) = 48 + (v : Int) := wrap_i64_small (by omega) (by omega)
  have w5 : IntKind.u8.wrap (48 + (v : Int)) = ((48 + v : Nat) : Int) := by rw [IntKind.wrap_u8]; omega
  simp only [evb, evd] at e3 e4 e5 e6 e7
  have bl := beginsB_len t v k hk5
  have a4 : (4 : Int) < (((beginsB k t v).length + 1 : Nat) : Int) := by omega
  have a5 : (1 : Int) ≤ (((beginsB k t v).length + 1 : Nat) : Int) := by omega
  have bq : ((UInt8.ofNat (48 + c) :: beginsB k t v) == (UInt8.ofNat (48 + c) :: beginsB l t v)) = decide ((k : Int) = l) := by rw [← beginsB_inj t v k l hk5 hl5]; simp
  have u1 : UInt8.ofNat ((48 + c : Nat) : Int).toNat = UInt8.ofNat (48 + c) := by rw [Int.toNat_natCast]
  have u2 : UInt8.ofNat ((48 + v : Nat) : Int).toNat = UInt8.ofNat (48 + v) := by rw [Int.toNat_natCast]
  have r1 := (Ext.alloc (Ext.refl h8) (.cells [.int .u8 ((48 + c : Nat) : Int)] (.own none))).get d1
  have r2 := (Ext.alloc (Ext.refl h8) (.cells [.int .u8 ((48 + c : Nat) : Int)] (.own none))).get d2
  have r3 := (Ext.alloc (Ext.refl h8) (.cells [.int .u8 ((48 + c : Nat) : Int)] (.own none))).get d3
  obtain ⟨h10, e10, x10⟩ := op_K kd k c v hk t _ _ _ _ _ _ _ r1 r2 r3
  have r1 := x10.get r1
  have r2 := x10.get r2
  have r3 := x10.get r3
  obtain ⟨h11, e11, x11⟩ := op_K ot l c v hl t _ _ _ _ _ _ _ r1 r2 r3
  have j2 := x11.get r2
  obtain ⟨h12, e12, x12⟩ := runs_ok20 (h11.alloc (.cells [.int .u8 ((48 + v : Nat) : Int)] (.own none)))
  have s1 : nbin Tryz.prog .add 9 (.str [UInt8.ofNat (48 + c)]) (.str [32, 100, 111, 110, 101, 32]) = some (.str ([UInt8.ofNat (48 + c)] ++ [32, 100, 111, 110, 101, 32])) := str_add _ _ _ (by simp)
  have s2 : nbin Tryz.prog .add 9 (.str [UInt8.ofNat (48 + c), 32, 100, 111, 110, 101, 32]) (.str [UInt8.ofNat (48 + v)]) = some (.str ([UInt8.ofNat (48 + c), 32, 100, 111, 110, 101, 32] ++ [UInt8.ofNat (48 + v)])) := str_add _ _ _ (by simp)
  simp only [List.cons_append, List.nil_append] at s1 s2
  simp only [evb, evd] at e10 e11
  refine ⟨h12, ?_⟩
  simp only [go_sem, seval, e3, e4, e5, e6, g2, g3, f2, f3, e7, e8, d2, d3, w1, w2, w3, w4, w5, kStr, bytesVals, byteVal, a4, a5, bq, u1, u2, e10, e11, j2, s1, s2, e12, Nat.sub_zero, nslice, nbound]
end scriptLines
theorem law_true_ScriptLines (h : NHeap) (cl va kd ot : Int) (s : List UInt8) : ∃ h', K env 6 [.int .i64 cl, .int .i64 va, .int .i64 kd, .int .i64 ot, .str s] h = some (.bool true, h') := scriptLines.law cl va kd ot s h
end Go.Proofs.YtfgoajnoahhghaaGreatDoor.S
