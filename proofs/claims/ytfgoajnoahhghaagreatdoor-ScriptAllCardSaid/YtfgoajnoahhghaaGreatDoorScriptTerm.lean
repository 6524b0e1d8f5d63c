/-
  What the script's terms of numbers are: the code walked step by step. No conditions.
-/
import Derived.Test.YtfgoajnoahhghaaGreatDoorBytes
namespace Go.Proofs.YtfgoajnoahhghaaGreatDoor.S
open Go Go.RowKit Go.Proofs.YtfgoajnoahhghaaGreatDoor.NICE
set_option maxRecDepth 100000
set_option linter.unusedSimpArgs false
set_option linter.unusedVariables false
namespace script

/-- a number's letters behind the first -/
def letters : Nat → Nat → List UInt8
  | 0, _ => []
  | f + 1, m => if m = 0 then [] else UInt8.ofNat (97 + m % 4) :: letters f (m / 4)
def termB (m : Nat) : List UInt8 := UInt8.ofNat (97 + m % 4) :: letters 4 (m / 4)
theorem letters_len : ∀ f m, (letters f m).length ≤ f
  | 0, m => Nat.le_refl _
  | f + 1, m => by
    unfold letters
    split
    · simp
    · have := letters_len f (m / 4); simp; omega

noncomputable def lbTerm : Code := inC (inC (atC (bodyOf Tryz.f19) 4))

theorem loopTerm (h0 : NHeap) (Q : Out → Prop) : ∀ (f m : Nat) (acc : List UInt8) (h : NHeap) (b : Nat) (x q) (F : Fr), m < 4 ^ f → f ≤ 4 → acc.length ≤ 10 - f → acc ≠ [] →
    F 0 = .int .i64 m → F 3 = .slice (some (b, 0)) acc.length acc.length x → (x = none ∨ x = some 1) → h0.next ≤ b → h.get b = some (.cells (u8s acc) (.own q)) → Ext h0 h →
    (∀ (F' : Fr) h' b' x' q', F' 3 = .slice (some (b', 0)) (acc ++ letters f m).length (acc ++ letters f m).length x' → h0.next ≤ b' → h'.get b' = some (.cells (u8s (acc ++ letters f m)) (.own q')) → Ext h0 h' → Q (some (.exit 0, toL 26 F', h'))) →
    Q (C env (.loop lbTerm) (toL 26 F) h) := by
  intro f
  induction f with
  | zero =>
    intro m acc h b x q F hm hf hl hne f0 f3 hx hb g hE hQ
    have : m = 0 := by simpa using hm
    subst this
    rw [S_loop]
    conv => arg 1; arg 2; arg 2; simp only [lbTerm, bodyOf, Option.getD_some, atC, seqL, inC, elC, List.nil_append, List.cons_append, List.getElem?_cons_succ, List.getElem?_cons_zero, Tryz.f19]
    simp only [go_sem, seval, f0, f3]
    simp only [letters, List.append_nil] at hQ
    exact hQ _ h b x q (by simp only [go_sem, seval, f3]) hb g hE
  | succ f ih =>
    intro m acc h b x q F hm hf hl hne f0 f3 hx hb g hE hQ
    rw [S_loop]
    conv => arg 1; arg 2; arg 2; simp only [lbTerm, bodyOf, Option.getD_some, atC, seqL, inC, elC, List.nil_append, List.cons_append, List.getElem?_cons_succ, List.getElem?_cons_zero, Tryz.f19]
    by_cases h0 : m = 0
    · subst h0
      simp only [go_sem, seval, f0, f3]
      simp only [letters, if_true, List.append_nil] at hQ
      exact hQ _ h b x q (by simp only [go_sem, seval, f3]) hb g hE
    · have p1 : (0 : Int) < (m : Int) := by omega
      have hm4 : m / 4 < 4 ^ f := by rw [Nat.pow_succ] at hm; omega
      have am : ∀ t, nbin Tryz.prog .and t (.int .i64 (m : Int)) (.int .i64 3) = some (.int .i64 ((m % 4 : Nat) : Int)) := fun t => by
        have := and_mask_i64 (P := Tryz.prog) t (m : Int) 2 (by decide)
        simpa using this
      have sm : ∀ t, nbin Tryz.prog .shr t (.int .i64 (m : Int)) (.int .u64 2) = some (.int .i64 ((m / 4 : Nat) : Int)) := fun t => by
        have := shr_i64 (P := Tryz.prog) t .u64 (m : Int) 2 (by decide)
        simpa using this
      have w1 : IntKind.i64.wrap (97 + ((m % 4 : Nat) : Int)) = 97 + ((m % 4 : Nat) : Int) := wrap_i64_small (by omega) (by omega)
      have w2 : IntKind.u8.wrap (97 + ((m % 4 : Nat) : Int)) = ((UInt8.ofNat (97 + m % 4)).toNat : Int) := by
        rw [IntKind.wrap_u8, UInt8.toNat_ofNat']; omega
      have l1 : ¬ acc.length = 0 := by simpa using hne
      have l2 : ¬ acc.length + 1 ≤ acc.length := by omega
      have l3 : acc.length + 1 ≤ 1099511627776 := by omega
      have l4 : 0 < acc.length + acc.length := by omega
      have nb : ¬ b = h.next := by have := NHeap.get_lt g; omega
      have nb' : b < h.next := NHeap.get_lt g
      have ha : acc ++ letters (f + 1) m = (acc ++ [UInt8.ofNat (97 + m % 4)]) ++ letters f (m / 4) := by
        rw [letters, if_neg h0, List.append_assoc]; rfl
      rw [ha] at hQ
      have cells : ∀ v : UInt8, u8s acc ++ [.int .u8 (v.toNat : Int)] = u8s (acc ++ [v]) := fun v => by rw [u8s_append]; rfl
      rcases hx with rfl | rfl
      · simp only [go_sem, seval, nappend, appended, nlenOf, srcCells, f0, f3, p1, am, sm, w1, w2, l1, l2, l3, l4, g, nb, nb', u8s_len, u8s_take_self]
        refine ih (m / 4) (acc ++ [UInt8.ofNat (97 + m % 4)]) _ (h.next + 1) (some 1) _ _ hm4 (by omega) (by simp; omega) (by simp) (by simp only [go_sem, seval]) (by simp only [go_sem, seval]) (.inr rfl) (by have := hE.next; omega) (by simp only [go_sem, seval, cells]; rfl) ?_ hQ
        repeat (first | exact hE | apply Ext.alloc | refine Ext.set ?_ (by first | omega | (have := hE.next; simp; omega)) _)
      · simp only [go_sem, seval, nappend, appended, nlenOf, srcCells, f0, f3, p1, am, sm, w1, w2, l1, l2, l3, l4, g, nb, nb', u8s_len, u8s_take_self]
        refine ih (m / 4) (acc ++ [UInt8.ofNat (97 + m % 4)]) _ (h.next + 1) (some 1) _ _ hm4 (by omega) (by simp; omega) (by simp) (by simp only [go_sem, seval]) (by simp only [go_sem, seval]) (.inr rfl) (by have := hE.next; omega) (by simp only [go_sem, seval, cells]; rfl) ?_ hQ
        repeat (first | exact hE | apply Ext.alloc | refine Ext.set ?_ (by first | omega | (have := hE.next; simp; omega)) _)

theorem Term_K (n : Int) (h : NHeap) : ∃ h', K env 19 [.int .i64 n] h = some (.str (termB (n % 256).toNat), h') ∧ Ext h h' := by
  have hm : ∃ m : Nat, n % 256 = (m : Int) ∧ m < 256 := ⟨(n % 256).toNat, by omega, by omega⟩
  obtain ⟨m, hm, hm2⟩ := hm
  have e1 : ∀ t, nbin Tryz.prog .and t (.int .i64 n) (.int .i64 255) = some (.int .i64 (m : Int)) := fun t => by
    have := and_mask_i64 (P := Tryz.prog) t n 8 (by decide)
    simpa [hm] using this
  have am : ∀ t, nbin Tryz.prog .and t (.int .i64 (m : Int)) (.int .i64 3) = some (.int .i64 ((m % 4 : Nat) : Int)) := fun t => by
    have := and_mask_i64 (P := Tryz.prog) t (m : Int) 2 (by decide)
    simpa using this
  have sm : ∀ t, nbin Tryz.prog .shr t (.int .i64 (m : Int)) (.int .u64 2) = some (.int .i64 ((m / 4 : Nat) : Int)) := fun t => by
    have := shr_i64 (P := Tryz.prog) t .u64 (m : Int) 2 (by decide)
    simpa using this
  have w1 : IntKind.i64.wrap (97 + ((m % 4 : Nat) : Int)) = 97 + ((m % 4 : Nat) : Int) := wrap_i64_small (by omega) (by omega)
  have w2 : IntKind.u8.wrap (97 + ((m % 4 : Nat) : Int)) = ((UInt8.ofNat (97 + m % 4)).toNat : Int) := by
    rw [IntKind.wrap_u8, UInt8.toNat_ofNat']; omega
  rw [hm, Int.toNat_natCast, k19 _ _ (by simp)]
  simp only [bodyOf, Option.getD_some, go_sem, seval, Tryz.f19, e1, am, sm, w1, w2]
  have key := fun rest => loopTerm h (fun r => ∃ h', outF Tryz.prog [.tmp 2] (thenD env (blockC 0 r) rest) = some (.str (termB m), h') ∧ Ext h h')
  refine key _ 4 (m / 4) [UInt8.ofNat (97 + m % 4)] _ h.next none none _ (by omega) (by omega) (by simp) (by simp) ?_ ?_ (.inl rfl) (Nat.le_refl _) ?_ ?_ ?_
  · simp only [go_sem, seval]
  · simp only [go_sem, seval]
  · simp only [go_sem, seval]; rfl
  · repeat (first | exact Ext.refl _ | apply Ext.alloc | refine Ext.set ?_ (by omega) _)
  · intro F' h' b' x' q' f3 hb g hE
    have hT : [UInt8.ofNat (97 + m % 4)] ++ letters 4 (m / 4) = termB m := rfl
    rw [hT] at f3 g
    refine ⟨h', ?_, hE⟩
    simp only [go_sem, seval, f3, kStr, g, u8s_len, u8s_take_self, u8s_bytes]
end script
end Go.Proofs.YtfgoajnoahhghaaGreatDoor.S
