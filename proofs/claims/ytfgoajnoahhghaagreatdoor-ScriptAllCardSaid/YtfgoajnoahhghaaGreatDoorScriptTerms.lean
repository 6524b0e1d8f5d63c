/-
  ScriptTerms: the law, walked step by step over what the terms of numbers are. No conditions beside what is said.
-/
import Derived.Test.YtfgoajnoahhghaaGreatDoorScriptTerm
namespace Go.Proofs.YtfgoajnoahhghaaGreatDoor.S
open Go Go.RowKit Go.Proofs.YtfgoajnoahhghaaGreatDoor.NICE
set_option maxRecDepth 100000
set_option linter.unusedSimpArgs false
set_option linter.unusedVariables false
namespace scriptTerms
open script

/-- the number that letters tell, the lowest first -/
def val : List UInt8 → Nat
  | [] => 0
  | c :: l => 4 * val l + (c.toNat - 97)
def okT (m : Nat) : Bool := let s := termB m
  decide (1 ≤ s.length) && (decide (s.length ≤ 4) && (s.all (fun c => decide (97 ≤ c.toNat) && decide (c.toNat ≤ 100)) && (decide (val s = m) && (decide (s.length = 1) || s[s.length - 1]? != some 97))))
theorem okAll : ∀ m : Fin 256, okT m.1 = true := by decide +kernel
theorem val_le : ∀ s : List UInt8, val s ≤ 1000 ^ s.length - 1
  | [] => by simp [val]
  | c :: l => by
    have := val_le l
    have h2 : c.toNat < 256 := c.toNat_lt
    have h3 : 0 < 1000 ^ l.length := Nat.pow_pos (by decide)
    simp only [val, List.length_cons, Nat.pow_succ]
    omega

noncomputable def lb7 : Code := inC (inC (atC (bodyOf Tryz.f7) 6))

theorem loop7 (s : List UInt8) (hs : s.length ≤ 4) (hc : ∀ c ∈ s, 97 ≤ c.toNat ∧ c.toNat ≤ 100) (n : Int) (h : NHeap) (Q : Out → Prop)
    (hQ : ∀ F : Fr, F 0 = .int .i64 n → F 3 = .str s → F 4 = .int .i64 (val s) → Q (some (.exit 0, toL 68 F, h))) :
    ∀ (i : Nat) (k : Int) (F : Fr), i ≤ s.length → k = (i : Int) - 1 → F 0 = .int .i64 n → F 3 = .str s → F 4 = .int .i64 (val (s.drop i)) → F 5 = .int .i64 k → Q (C env (.loop lb7) (toL 68 F) h) := by
  intro i
  induction i with
  | zero =>
    intro k F hi hk f0 f3 f4 f5
    subst hk
    rw [S_loop]
    conv => arg 1; arg 2; arg 2; simp only [lb7, bodyOf, Option.getD_some, atC, seqL, inC, elC, List.nil_append, List.cons_append, List.getElem?_cons_succ, List.getElem?_cons_zero, Tryz.f7]
    simp only [go_sem, seval, f0, f3, f4, f5]
    exact hQ _ (by simp only [go_sem, seval, f0]) (by simp only [go_sem, seval, f3]) (by simp only [go_sem, seval, f4])
  | succ i ih =>
    intro k F hi hk f0 f3 f4 f5
    obtain rfl : k = (i : Int) := by omega
    obtain ⟨c, hcg⟩ : ∃ c, s[i]? = some c := ⟨s[i]'(by omega), List.getElem?_eq_getElem (by omega)⟩
    have hix := fun k => index_str Tryz.underlying9 s k i c hcg
    have hcm := hc c (List.mem_of_getElem? hcg)
    have hd : s.drop i = c :: s.drop (i + 1) := by
      obtain ⟨hl, e⟩ := List.getElem?_eq_some_iff.1 hcg
      rw [List.drop_eq_getElem_cons hl, e]
    have hv : val (s.drop i) = 4 * val (s.drop (i + 1)) + (c.toNat - 97) := by rw [hd]; rfl
    have hb : val (s.drop (i + 1)) < 10 ^ 12 := by
      have h1 := val_le (s.drop (i + 1))
      have h2 : (s.drop (i + 1)).length ≤ 4 := by simp; omega
      have h3 : 1000 ^ (s.drop (i + 1)).length ≤ 1000 ^ 4 := Nat.pow_le_pow_right (by decide) h2
      have h4 : (0 : Nat) < 1000 ^ (s.drop (i + 1)).length := Nat.pow_pos (by decide)
      omega
    have p1 : (0 : Int) ≤ (i : Int) := by omega
    have p2 : ¬ ((c.toNat : Nat) : Int) < 97 := by omega
    have p3 : ¬ (100 : Int) < ((c.toNat : Nat) : Int) := by omega
    have w1 : IntKind.u8.wrap (((c.toNat : Nat) : Int) - 97) = ((c.toNat - 97 : Nat) : Int) := by rw [IntKind.wrap_u8]; omega
    have w2 : IntKind.i64.wrap ((c.toNat - 97 : Nat) : Int) = ((c.toNat - 97 : Nat) : Int) := wrap_i64_small (by omega) (by omega)
    have w3 : IntKind.i64.wrap (4 * ((val (s.drop (i + 1)) : Nat) : Int)) = 4 * ((val (s.drop (i + 1)) : Nat) : Int) := wrap_i64_small (by omega) (by omega)
    have w4 : IntKind.i64.wrap (4 * ((val (s.drop (i + 1)) : Nat) : Int) + ((c.toNat - 97 : Nat) : Int)) = ((val (s.drop i) : Nat) : Int) := by
      rw [hv, wrap_i64_small (by omega) (by omega)]; omega
    have w5 : IntKind.i64.wrap ((i : Int) - 1) = (i : Int) - 1 := wrap_i64_small (by omega) (by omega)
    rw [S_loop]
    conv => arg 1; arg 2; arg 2; simp only [lb7, bodyOf, Option.getD_some, atC, seqL, inC, elC, List.nil_append, List.cons_append, List.getElem?_cons_succ, List.getElem?_cons_zero, Tryz.f7]
    simp only [go_sem, seval, f0, f3, f4, f5, p1, p2, p3, hix, w1, w2, w3, w4, w5]
    exact ih _ _ (by omega) rfl (by simp only [go_sem, seval, f0]) (by simp only [go_sem, seval, f3]) (by simp only [go_sem, seval]) (by simp only [go_sem, seval])

theorem law (n : Int) (h : NHeap) : ∃ h', K env 7 [.int .i64 n] h = some (.bool true, h') := by
  have hok := okAll ⟨(n % 256).toNat, by omega⟩
  simp only [okT, Bool.and_eq_true, decide_eq_true_eq, List.all_eq_true] at hok
  obtain ⟨q1, q2, q3, q4, q5⟩ := hok
  obtain ⟨h1, e1, x1⟩ := Term_K n h
  obtain ⟨h2, e2, x2⟩ := Term_K (IntKind.i64.wrap (n + 256)) h1
  obtain ⟨h3, e3, x3⟩ := runs_ok20 h2
  have hn : (IntKind.i64.wrap (n + 256)) % 256 = n % 256 := by rw [IntKind.wrap_i64]; omega
  rw [hn] at e2
  have em : ∀ t, nbin Tryz.prog .and t (.int .i64 n) (.int .i64 255) = some (.int .i64 ((val (termB (n % 256).toNat) : Nat) : Int)) := fun t => by
    have := and_mask_i64 (P := Tryz.prog) t n 8 (by decide)
    rw [q4, Int.toNat_of_nonneg (Int.emod_nonneg _ (by decide))]
    simpa using this
  generalize hs : termB (n % 256).toNat = s at *
  have p1 : ¬ ((s.length : Nat) : Int) < 1 := by omega
  have p2 : ¬ (4 : Int) < ((s.length : Nat) : Int) := by omega
  have w1 : IntKind.i64.wrap ((s.length : Int) - 1) = (s.length : Int) - 1 := wrap_i64_small (by omega) (by omega)
  rw [k7 _ _ (by simp)]
  simp only [bodyOf, Option.getD_some, go_sem, seval, Tryz.f7, e1, e2, p1, p2, w1]
  have key := fun rest => loop7 s q2 q3 n h2 (fun r => ∃ h', outF Tryz.prog [.tmp 2] (thenD env (blockC 0 r) rest) = some (.bool true, h'))
  refine key _ ?_ s.length _ _ (Nat.le_refl _) rfl ?_ ?_ ?_ ?_
  · intro F f0 f3 f4
    by_cases hl : s.length = 1
    · have hl1 : ((s.length : Nat) : Int) = 1 := by omega
      refine ⟨h3, ?_⟩
      simp only [go_sem, seval, f0, f3, f4, em, hl1, e3]
    · have hl1 : ¬ ((s.length : Nat) : Int) = 1 := by omega
      have q6 : s[s.length - 1]? ≠ some 97 := by simpa [hl] using q5
      obtain ⟨c, hcg⟩ : ∃ c, s[s.length - 1]? = some c := ⟨s[s.length - 1]'(by omega), List.getElem?_eq_getElem (by omega)⟩
      have hix : ∀ k, nindex Tryz.prog 9 (.str s) (.int k ((s.length : Int) - 1)) = some (.int .u8 c.toNat) := fun k => by
        have := index_str Tryz.underlying9 s k (s.length - 1) c hcg
        rwa [show ((s.length - 1 : Nat) : Int) = (s.length : Int) - 1 by omega] at this
      have hc97 : ¬ ((c.toNat : Nat) : Int) = 97 := fun q => q6 (by
        rw [hcg]; congr 1
        exact UInt8.toNat_inj.1 (by show c.toNat = 97; omega))
      refine ⟨h3, ?_⟩
      simp only [go_sem, seval, f0, f3, f4, em, hl1, e3, hix, w1, hc97]
  · simp only [go_sem, seval]
  · simp only [go_sem, seval]
  · simp only [go_sem, seval, List.drop_length, val]
  · simp only [go_sem, seval]
end scriptTerms
theorem law_true_ScriptTerms (h : NHeap) (n : Int) : ∃ h', K env 7 [.int .i64 n] h = some (.bool true, h') := scriptTerms.law n h
end Go.Proofs.YtfgoajnoahhghaaGreatDoor.S
