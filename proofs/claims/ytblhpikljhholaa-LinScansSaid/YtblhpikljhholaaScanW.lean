/-
  Keep, Sorted, LinScan, LinScan2, LinScan3, LinScan4, LinScan5, as one text. Proved step by step; no conditions beside what is said.
-/
import Derived.Test.YtblhpikljhholaaLinW
import Derived.Test.YtblhpikljhholaaNice43
namespace Go.Proofs.Ytblhpikljhholaa.S
open Go Go.RowKit Go.Proofs.Ytblhpikljhholaa.NICE
set_option maxRecDepth 100000
set_option linter.unusedSimpArgs false
set_option linter.unusedVariables false
namespace kp
open shape lin

/-- a number's letters behind the first -/
def letters : Nat → Nat → List UInt8
  | 0, _ => []
  | f + 1, m => if m = 0 then [] else UInt8.ofNat (97 + m % 6) :: letters f (m / 6)
def term (m : Nat) : List UInt8 := UInt8.ofNat (97 + m % 4) :: letters 7 (m / 4)
theorem letters_len : ∀ f m, (letters f m).length ≤ f
  | 0, m => Nat.le_refl _
  | f + 1, m => by
    unfold letters
    split
    · simp
    · have := letters_len f (m / 6); simp; omega
/-- the term of any number -/
def termI (n : Int) : List UInt8 := term (n % 1048576).toNat

noncomputable def lbK : Code := inC (inC (atC (bodyOf Try.f15) 4))

theorem loopK (h0 : NHeap) (Q : Out → Prop) : ∀ (f m : Nat) (acc : List UInt8) (h : NHeap) (F : Fr), m < 6 ^ f → f ≤ 7 → acc.length ≤ 8 - f →
    F 3 = .int .i64 m → F 4 = .str acc → Ext h0 h →
    (∀ (F' : Fr) h', F' 4 = .str (acc ++ letters f m) → Ext h0 h' → Q (some (.exit 0, toL 33 F', h'))) →
    Q (C env (.loop lbK) (toL 33 F) h) := by
  intro f
  induction f with
  | zero =>
    intro m acc h F hm hf hl f3 f4 hE hQ
    have : m = 0 := by simpa using hm
    subst this
    rw [S_loop]
    conv => arg 1; arg 2; arg 2; simp only [lbK, bodyOf, Option.getD_some, atC, seqL, inC, elC, List.nil_append, List.cons_append, List.getElem?_cons_succ, List.getElem?_cons_zero, Try.f15]
    simp only [go_sem, seval, f3, f4]
    simp only [letters, List.append_nil] at hQ
    exact hQ _ h (by simp only [go_sem, seval, f4]) hE
  | succ f ih =>
    intro m acc h F hm hf hl f3 f4 hE hQ
    rw [S_loop]
    conv => arg 1; arg 2; arg 2; simp only [lbK, bodyOf, Option.getD_some, atC, seqL, inC, elC, List.nil_append, List.cons_append, List.getElem?_cons_succ, List.getElem?_cons_zero, Try.f15]
    by_cases h0 : m = 0
    · subst h0
      simp only [go_sem, seval, f3, f4]
      simp only [letters, if_true, List.append_nil] at hQ
      exact hQ _ h (by simp only [go_sem, seval, f4]) hE
    · have p1 : (0 : Int) < (m : Int) := by omega
      have p2 : (acc.length : Int) < 12 := by omega
      have hm6 : m / 6 < 6 ^ f := by rw [Nat.pow_succ] at hm; omega
      have r6 : (m : Int).tmod 6 = ((m % 6 : Nat) : Int) := rfl
      have q6 : (m : Int).tdiv 6 = ((m / 6 : Nat) : Int) := rfl
      have w1 : IntKind.i64.wrap (97 + ((m % 6 : Nat) : Int)) = 97 + ((m % 6 : Nat) : Int) := wrap_i64_small (by omega) (by omega)
      have w2 : IntKind.u8.wrap (97 + ((m % 6 : Nat) : Int)) = ((UInt8.ofNat (97 + m % 6)).toNat : Int) := by
        rw [IntKind.wrap_u8, UInt8.toNat_ofNat']; omega
      have hb : m < 2 ^ 30 := by have : 6 ^ (f + 1) ≤ 6 ^ 7 := Nat.pow_le_pow_right (by decide) hf; omega
      have w3 : IntKind.i64.wrap ((m / 6 : Nat) : Int) = ((m / 6 : Nat) : Int) := wrap_i64_small (by omega) (by omega)
      have ha : acc ++ letters (f + 1) m = (acc ++ [UInt8.ofNat (97 + m % 6)]) ++ letters f (m / 6) := by
        rw [letters, if_neg h0, List.append_assoc]; rfl
      have sa := fun t => str_add (P := Try.prog) t acc [UInt8.ofNat (97 + m % 6)] (by simp; omega)
      have ks : u8s [UInt8.ofNat (97 + m % 6)] = [NVal.int .u8 ((UInt8.ofNat (97 + m % 6)).toNat : Int)] := rfl
      rw [ha] at hQ
      have kb : bytesVals [NVal.int .u8 ((UInt8.ofNat (97 + m % 6)).toNat : Int)] = some [UInt8.ofNat (97 + m % 6)] := by rw [← ks]; exact u8s_bytes _
      simp only [go_sem, seval, f3, f4, p1, p2, bin_rem, bin_quo, r6, q6, w1, w2, w3, kStr, kb, sa]
      refine ih (m / 6) (acc ++ [UInt8.ofNat (97 + m % 6)]) _ _ hm6 (by omega) (by simp; omega) (by simp only [go_sem, seval]) (by simp only [go_sem, seval]) ?_ hQ
      repeat (first | exact Ext.refl _ | assumption | apply Ext.alloc | refine Ext.set ?_ (by first | omega | (simp only [NHeap.next_alloc, NHeap.next_set]; omega)) _)

theorem Term_K (n : Int) (h : NHeap) : ∃ h', K env 15 [.int .i64 n] h = some (.str (termI n), h') ∧ Ext h h' := by
  have hm : ∃ m : Nat, n % 1048576 = (m : Int) ∧ m < 1048576 := ⟨(n % 1048576).toNat, by omega, by omega⟩
  obtain ⟨m, hm, hm2⟩ := hm
  have e1 := within_K n 0 1048575 h (by decide) (by decide) (by decide)
  rw [show (0 : Int) + n % (1048575 - 0 + 1) = (m : Int) by omega] at e1
  have r4 : (m : Int).tmod 4 = ((m % 4 : Nat) : Int) := rfl
  have q4 : (m : Int).tdiv 4 = ((m / 4 : Nat) : Int) := rfl
  have w1 : IntKind.i64.wrap (97 + ((m % 4 : Nat) : Int)) = 97 + ((m % 4 : Nat) : Int) := wrap_i64_small (by omega) (by omega)
  have w2 : IntKind.u8.wrap (97 + ((m % 4 : Nat) : Int)) = ((UInt8.ofNat (97 + m % 4)).toNat : Int) := by
    rw [IntKind.wrap_u8, UInt8.toNat_ofNat']; omega
  have w3 : IntKind.i64.wrap ((m / 4 : Nat) : Int) = ((m / 4 : Nat) : Int) := wrap_i64_small (by omega) (by omega)
  have ks : u8s [UInt8.ofNat (97 + m % 4)] = [NVal.int .u8 ((UInt8.ofNat (97 + m % 4)).toNat : Int)] := rfl
  have kb : bytesVals [NVal.int .u8 ((UInt8.ofNat (97 + m % 4)).toNat : Int)] = some [UInt8.ofNat (97 + m % 4)] := by rw [← ks]; exact u8s_bytes _
  have hT : termI n = term m := by rw [termI, hm]; rfl
  rw [hT, k15 _ _ (by simp)]
  simp only [bodyOf, Option.getD_some, go_sem, seval, Try.f15, e1, bin_rem, bin_quo, r4, q4, w1, w2, w3, kStr, kb]
  have key := fun rest => loopK h (fun r => ∃ h', outF Try.prog [.tmp 2] (thenD env (blockC 0 r) rest) = some (.str (term m), h') ∧ Ext h h')
  refine key _ 7 (m / 4) [UInt8.ofNat (97 + m % 4)] _ _ (by omega) (by omega) (by simp) ?_ ?_ ?_ ?_
  · simp only [go_sem, seval]
  · simp only [go_sem, seval]
  · repeat (first | exact Ext.refl _ | assumption | apply Ext.alloc | refine Ext.set ?_ (by first | omega | (simp only [NHeap.next_alloc, NHeap.next_set]; omega)) _)
  · intro F' h' f4 hE
    refine ⟨h', ?_, hE⟩
    simp only [go_sem, seval, f4]
    rfl
end kp
end Go.Proofs.Ytblhpikljhholaa.S

namespace Go.Proofs.Ytblhpikljhholaa.S
open Go Go.RowKit Go.Proofs.Ytblhpikljhholaa.NICE
set_option maxRecDepth 100000
set_option linter.unusedSimpArgs false
set_option linter.unusedVariables false
namespace so
open shape lin

theorem lt_irr : ∀ x, Op.bytesLess x x = false
  | [] => rfl
  | a :: x => by rw [Op.bytesLess, lt_irr x]; simp
theorem lt_trans : ∀ x y z, Op.bytesLess x y = true → Op.bytesLess y z = true → Op.bytesLess x z = true
  | _, _, [], _, h => by simp [Op.bytesLess] at h
  | _, [], _ :: _, h, _ => by simp [Op.bytesLess] at h
  | [], _ :: _, _ :: _, _, _ => rfl
  | a :: x, b :: y, c :: z, h1, h2 => by
    simp only [Op.bytesLess, Bool.or_eq_true, Bool.and_eq_true, decide_eq_true_eq, beq_iff_eq] at h1 h2 ⊢
    have ih := lt_trans x y z
    rcases h1 with h1 | ⟨rfl, h1⟩
    · rcases h2 with h2 | ⟨rfl, h2⟩
      · exact .inl (UInt8.lt_trans h1 h2)
      · exact .inl h1
    · rcases h2 with h2 | ⟨rfl, h2⟩
      · exact .inl h2
      · exact .inr ⟨rfl, ih h1 h2⟩
theorem lt_tot : ∀ x y, Op.bytesLess x y = false → Op.bytesLess y x = false → x = y
  | [], [], _, _ => rfl
  | [], _ :: _, h, _ => by simp [Op.bytesLess] at h
  | _ :: _, [], _, h => by simp [Op.bytesLess] at h
  | a :: x, b :: y, h1, h2 => by
    simp only [Op.bytesLess, Bool.or_eq_false_iff, Bool.and_eq_false_iff, decide_eq_false_iff_not, beq_eq_false_iff_ne] at h1 h2
    have hab : a = b := by
      apply UInt8.le_antisymm
      · exact UInt8.not_lt.1 h2.1
      · exact UInt8.not_lt.1 h1.1
    subst hab
    rw [lt_tot x y (h1.2.resolve_left (by simp)) (h2.2.resolve_left (by simp))]
theorem lt_asym {x y} (h : Op.bytesLess x y = true) : Op.bytesLess y x = false := by
  cases q : Op.bytesLess y x with
  | false => rfl
  | true => rw [← lt_irr x, lt_trans x y x h q]
theorem lt_ne {x y} (h : Op.bytesLess x y = true) : x ≠ y := by
  rintro rfl
  rw [lt_irr] at h; cases h

/-- in the order of their terms, each term once -/
def Sorted (l : List Ent) : Prop := l.Pairwise fun a b => Op.bytesLess a.1 b.1 = true
theorem Sorted.take {l : List Ent} (h : Sorted l) (n : Nat) : Sorted (l.take n) := List.Pairwise.sublist (List.take_sublist n l) h
theorem Sorted.erase {l : List Ent} (h : Sorted l) (n : Nat) : Sorted (l.eraseIdx n) := List.Pairwise.sublist (List.eraseIdx_sublist l n) h
theorem seek_mem {l : List Ent} (h : Sorted l) : ∀ (i : Nat) (e : Ent), l[i]? = some e → seek l e.1 = i := by
  induction l with
  | nil => intro i e q; simp at q
  | cons a l ih =>
    obtain ⟨h1, h2⟩ := List.pairwise_cons.1 h
    intro i e q
    cases i with
    | zero =>
      simp at q
      subst q
      rw [seek, lt_irr, if_neg (by decide)]
    | succ i =>
      simp at q
      rw [seek, if_pos (h1 e (List.mem_of_getElem? q)), ih h2 i e q]
theorem value_mem {l : List Ent} (h : Sorted l) {e : Ent} (he : e ∈ l) : value l e.1 = (e.2, true) := by
  obtain ⟨i, hi⟩ := List.mem_iff_getElem?.1 he
  unfold value
  have hd : l.getD i ([], 0) = e := by rw [List.getD, hi]; rfl
  rw [seek_mem h i e hi, hi, hd]
  exact if_pos rfl
theorem value_not {l : List Ent} {t : List UInt8} (h : ∀ e ∈ l, e.1 ≠ t) : value l t = (0, false) := by
  unfold value
  rw [if_neg]
  intro q
  obtain ⟨e, he, q⟩ := (found_iff l t).1 q
  exact h e (List.mem_of_getElem? he) q
/-- the ones ahead of a place are less, those behind it are not -/
theorem seek_split {l : List Ent} (h : Sorted l) (t : List UInt8) : (∀ e ∈ l.take (seek l t), Op.bytesLess e.1 t = true) ∧ ∀ e ∈ l.drop (seek l t), Op.bytesLess e.1 t = false := by
  induction l with
  | nil => simp
  | cons a l ih =>
    obtain ⟨h1, h2⟩ := List.pairwise_cons.1 h
    obtain ⟨i1, i2⟩ := ih h2
    rw [seek]
    by_cases q : Op.bytesLess a.1 t = true
    · rw [if_pos q]
      simp only [List.take_succ_cons, List.drop_succ_cons, List.mem_cons]
      exact ⟨fun e he => he.elim (fun r => r ▸ q) (i1 e), i2⟩
    · rw [if_neg q]
      refine ⟨by simp, fun e he => ?_⟩
      simp only [List.drop_zero, List.mem_cons] at he
      have qf : Op.bytesLess a.1 t = false := by simpa using q
      rcases he with rfl | he
      · exact qf
      · cases r : Op.bytesLess e.1 t with
        | false => rfl
        | true => rw [lt_trans _ _ _ (h1 e he) r] at qf; cases qf
theorem put_mem {l : List Ent} {e x : Ent} (h : x ∈ (put l e).1) : x = e ∨ x ∈ l := by
  unfold put at h
  split at h
  · rcases List.mem_or_eq_of_mem_set h with h | h
    · exact .inr h
    · exact .inl h
  · simp only [List.mem_append, List.mem_cons] at h
    rcases h with h | h | h
    · exact .inr (List.mem_of_mem_take h)
    · exact .inl h
    · exact .inr (List.mem_of_mem_drop h)
theorem put_sorted {l : List Ent} (h : Sorted l) (e : Ent) : Sorted (put l e).1 := by
  obtain ⟨s1, s2⟩ := seek_split h e.1
  unfold put
  split
  · rename_i q
    obtain ⟨x, hx, q⟩ := (found_iff l e.1).1 q
    have hlt := (List.getElem?_eq_some_iff.1 hx).1
    have hd : l.drop (seek l e.1) = x :: l.drop (seek l e.1 + 1) := drop_at hx
    have hall : l = l.take (seek l e.1) ++ x :: l.drop (seek l e.1 + 1) := by rw [← hd, List.take_append_drop]
    have hs : Sorted (l.take (seek l e.1) ++ x :: l.drop (seek l e.1 + 1)) := by rw [← hall]; exact h
    show Sorted (l.set (seek l e.1) e)
    rw [List.set_eq_take_append_cons_drop, if_pos hlt]
    unfold Sorted at hs ⊢
    rw [List.pairwise_append, List.pairwise_cons] at hs ⊢
    obtain ⟨p1, ⟨p2, p3⟩, p4⟩ := hs
    refine ⟨p1, ⟨fun a ha => q ▸ p2 a ha, p3⟩, fun a ha b hb => ?_⟩
    rcases List.mem_cons.1 hb with rfl | hb
    · exact q ▸ p4 a ha x (by simp)
    · exact p4 a ha b (by simp [hb])
  · rename_i q
    have hs : Sorted (l.take (seek l e.1) ++ l.drop (seek l e.1)) := by rw [List.take_append_drop]; exact h
    show Sorted (l.take (seek l e.1) ++ e :: l.drop (seek l e.1))
    unfold Sorted at hs ⊢
    rw [List.pairwise_append] at hs ⊢
    obtain ⟨p1, p2, p3⟩ := hs
    rw [List.pairwise_cons]
    have hne : ∀ b ∈ l.drop (seek l e.1), Op.bytesLess e.1 b.1 = true := by
      intro b hb
      have b1 := s2 b hb
      cases r : Op.bytesLess e.1 b.1 with
      | true => rfl
      | false =>
        exfalso
        have heq := lt_tot _ _ b1 r
        obtain ⟨j, hj⟩ := List.mem_iff_getElem?.1 hb
        rw [List.getElem?_drop] at hj
        have := seek_mem h _ b hj
        rw [heq] at this
        have j0 : j = 0 := by omega
        subst j0
        rw [Nat.add_zero] at hj
        exact q ((found_iff l e.1).2 ⟨b, hj, heq⟩)
    refine ⟨p1, ⟨hne, p2⟩, fun a ha b hb => ?_⟩
    rcases List.mem_cons.1 hb with rfl | hb
    · exact s1 a ha
    · exact p3 a ha b hb
/-- each of them comes behind the one before it -/
theorem rise_sorted (o : lin.Op) (ho : ∀ t, inOp o t = true) : ∀ (l : List Ent) (p : Option (List UInt8)), Sorted l → (∀ q, p = some q → ∀ e ∈ l, Op.bytesLess q e.1 = true) → riseF o p l = true
  | [], p, _, _ => riseF_nil o p
  | e :: l, p, h, hp => by
    obtain ⟨h1, h2⟩ := List.pairwise_cons.1 h
    rw [riseF_cons, ho, rise_sorted o ho l (some e.1) h2 (fun q hq b hb => by cases hq; exact h1 b hb)]
    cases p with
    | none => rfl
    | some p =>
      have := hp p rfl e (by simp)
      simp [lt_asym this, (lt_ne this).symm]
end so
end Go.Proofs.Ytblhpikljhholaa.S

namespace Go.Proofs.Ytblhpikljhholaa.S
open Go Go.RowKit Go.Proofs.Ytblhpikljhholaa.NICE
set_option maxRecDepth 100000
set_option linter.unusedSimpArgs false
set_option linter.unusedVariables false
namespace linScans
open shape lin kp

abbrev I1 (n : Int) : List NVal := [.int .i64 n]
def zAns : Ans := ⟨0, false, 0, none, 0, 0, none⟩
def pOp (T : Nat → List UInt8) (k : Nat) : lin.Op := ⟨2, T k, [], (k : Int)⟩
def go (T : Nat → List UInt8) : Nat → List Ent × List Done × List Ev
  | 0 => ([], [], [])
  | k + 1 => ((put (go T k).1 (T k, (k : Int))).1,
    (go T k).2.1 ++ [⟨0, ((go T k).2.2.length : Int), pOp T k, ⟨0, (put (go T k).1 (T k, (k : Int))).2.2, (put (go T k).1 (T k, (k : Int))).2.1, none, 0, 0, none⟩⟩],
    (go T k).2.2 ++ [⟨1, 0, pOp T k, zAns⟩, ⟨2, 0, pOp T k, ⟨0, (put (go T k).1 (T k, (k : Int))).2.2, (put (go T k).1 (T k, (k : Int))).2.1, none, 0, 0, none⟩⟩])
theorem go_len (T : Nat → List UInt8) : ∀ k, (go T k).1.length ≤ k ∧ (go T k).2.1.length = k ∧ (go T k).2.2.length = k * 2
  | 0 => by simp [go]
  | k + 1 => by
    obtain ⟨a, b, c⟩ := go_len T k
    have := put_len (go T k).1 (T k, (k : Int))
    refine ⟨?_, ?_, ?_⟩
    · show (put (go T k).1 (T k, (k : Int))).1.length ≤ k + 1
      omega
    · rw [go, List.length_append, b]; rfl
    · rw [go, List.length_append, c, Nat.succ_mul]; rfl

noncomputable def lbW : Code := inC (inC (atC (bodyOf Try.f4) 5))

theorem loopW (hA : NHeap) (av : NVal) (vs : List Int) (ha : Rw hA 1 I1 av vs) (F0 : Fr) (f0 : F0 0 = av) (T : Nat → List UInt8) (hT : ∀ k n, vs[k]? = some n → T k = termI n) (N : Nat) (hN : N = min vs.length 12) (Q : Out → Prop)
    (hQ : ∀ (h : NHeap) (F : Fr) (mv lv hv : NVal), Ext hA h → Keep [0, 1, 2, 3] F0 F → Ents h mv (go T N).1 → Grow h lv 10 (rows Done.c (go T N).2.1) (go T N).2.1.length → Grow h hv 10 (rows Ev.c (go T N).2.2) (go T N).2.2.length →
      ((go T N).1.length = 0 ∨ ∀ b ∈ blk mv, b ∉ blk lv ∧ b ∉ blk hv) → (∀ b ∈ blk lv, b ∉ blk hv ∧ hA.next ≤ b) → (∀ b ∈ blk hv, hA.next ≤ b) → F 9 = mv → F 10 = lv → F 11 = hv → Q (some (.exit 0, toL 161 F, h))) :
    ∀ (f k : Nat) (mv lv hv : NVal) (h : NHeap) (F : Fr), k + f = N → Ext hA h → Keep [0, 1, 2, 3] F0 F → Ents h mv (go T k).1 → Grow h lv 10 (rows Done.c (go T k).2.1) (go T k).2.1.length → Grow h hv 10 (rows Ev.c (go T k).2.2) (go T k).2.2.length →
      ((go T k).1.length = 0 ∨ ∀ b ∈ blk mv, b ∉ blk lv ∧ b ∉ blk hv) → (∀ b ∈ blk lv, b ∉ blk hv ∧ hA.next ≤ b) → (∀ b ∈ blk hv, hA.next ≤ b) → F 9 = mv → F 10 = lv → F 11 = hv → F 12 = .int .i64 k → Q (C env (.loop lbW) (toL 161 F) h) := by
  intro f
  induction f with
  | zero =>
    intro k mv lv hv h F hk hE kp sm gl gh d1 d2 d3 f9 f10 f11 f12
    have : k = N := by omega
    subst this
    have f0' := (kp 0 rfl).trans f0
    obtain ⟨ab, ac, ax, hav⟩ := ha.form
    rw [hav] at f0'
    rw [S_loop]
    conv => arg 1; arg 2; arg 2; simp only [lbW, bodyOf, Option.getD_some, atC, seqL, inC, elC, List.nil_append, List.cons_append, List.getElem?_cons_succ, List.getElem?_cons_zero, Try.f4]
    by_cases hc : k < vs.length
    · have i1 : (k : Int) < (vs.length : Int) := by omega
      have i2 : ¬ (k : Int) < 12 := by omega
      simp only [go_sem, seval, f0', f12, i1, i2]
      refine hQ h _ mv lv hv hE ?_ sm gl gh d1 d2 d3 (by simp only [go_sem, seval, f9]) (by simp only [go_sem, seval, f10]) (by simp only [go_sem, seval, f11])
      repeat (first | exact kp | refine Keep.upd ?_ rfl)
    · have i1 : ¬ (k : Int) < (vs.length : Int) := by omega
      simp only [go_sem, seval, f0', f12, i1]
      refine hQ h _ mv lv hv hE ?_ sm gl gh d1 d2 d3 (by simp only [go_sem, seval, f9]) (by simp only [go_sem, seval, f10]) (by simp only [go_sem, seval, f11])
      repeat (first | exact kp | refine Keep.upd ?_ rfl)
  | succ f ih =>
    intro k mv lv hv h F hk hE kp sm gl gh d1 d2 d3 f9 f10 f11 f12
    have f0' := (kp 0 rfl).trans f0
    obtain ⟨n, hn⟩ : ∃ n, vs[k]? = some n := ⟨vs[k]'(by omega), List.getElem?_eq_getElem (by omega)⟩
    obtain ⟨b, o, c', x', all, mm, hv', gA, row, hle⟩ := Sl.elem (f := I1) (k := 1) (fun _ => rfl) (ha.ext hE) hn
    have cell := rowcell row (show (I1 n)[0]? = some (.int .i64 n) from rfl)
    rw [hv'] at f0'
    have k0 : (0 : Int) ≤ (k : Int) := by omega
    have i1 : (k : Int) < (vs.length : Int) := by omega
    have i2 : (k : Int) < 12 := by omega
    have w1 : IntKind.i64.wrap ((k : Int) + 1) = ((k + 1 : Nat) : Int) := by rw [wrap_i64_small (by omega) (by omega)]; omega
    obtain ⟨h1, e1, x1⟩ := Term_K n h
    rw [← hT k n hn] at e1
    simp only [Nat.mul_one, Nat.add_zero] at cell
    obtain ⟨m, hm⟩ : ∃ m, (go T k).1 = m := ⟨_, rfl⟩
    obtain ⟨l, hl'⟩ : ∃ l, (go T k).2.1 = l := ⟨_, rfl⟩
    obtain ⟨es, hes⟩ : ∃ es, (go T k).2.2 = es := ⟨_, rfl⟩
    have len := go_len T k
    rw [hm, hl', hes] at len
    rw [hm] at sm d1
    rw [hl'] at gl
    rw [hes] at gh
    obtain ⟨t, ht⟩ : ∃ t, T k = t := ⟨_, rfl⟩
    rw [ht] at e1
    obtain ⟨H, hH⟩ : ∃ H, ((((h1.alloc (.cells [.str [], .int .i64 0] (.own (some (35, 2))))).set h1.next (.cells [.str t, .int .i64 (k : Int)] (.own (some (35, 2))))).alloc (.cells [.int .i64 0, .str [], .str [], .int .i64 0] (.own (some (29, 4))))).set (h1.next + 1) (.cells [.int .i64 2, .str t, .str [], .int .i64 (k : Int)] (.own (some (29, 4))))) = H := ⟨_, rfl⟩
    have xH : Ext h H := by
      rw [← hH]
      have := x1.next
      repeat (first | exact Ext.refl _ | assumption | apply Ext.alloc | refine Ext.set ?_ (by first | omega | (simp only [NHeap.next_alloc, NHeap.next_set]; omega)) _)
    have nH : H.next = h1.next + 2 := by rw [← hH]; rfl
    have gH1 : H.get h1.next = some (.cells [.str t, .int .i64 (k : Int)] (.own (some (35, 2)))) := by rw [← hH]; simp [NHeap.get_set, NHeap.get_alloc]
    have gH2 : H.get (h1.next + 1) = some (.cells [.int .i64 2, .str t, .str [], .int .i64 (k : Int)] (.own (some (29, 4)))) := by rw [← hH]; simp [NHeap.get_set, NHeap.get_alloc]
    obtain ⟨mv', h2, e2, x2, s2, fr2⟩ := Put_K H mv m (sm.ext xH) (by omega) t k
    obtain ⟨r, hr⟩ : ∃ r, put m (t, (k : Int)) = r := ⟨_, rfl⟩
    rw [hr] at e2 s2
    obtain ⟨H2, hH2⟩ : ∃ H2, (h2.alloc (.cells [.int .i64 0, .bool false, .int .i64 0, .slice none 0 0 none] (.own (some (32, 4))))).set h2.next (.cells [.int .i64 0, .bool r.2.2, .int .i64 r.2.1, .slice none 0 0 none] (.own (some (32, 4)))) = H2 := ⟨_, rfl⟩
    have xH2 : Ext h2 H2 := by rw [← hH2]; exact ((Ext.refl h2).alloc _).set (Nat.le_refl _) _
    have nH2 : H2.next = h2.next + 1 := by rw [← hH2]; rfl
    have gA1 : H2.get h2.next = some (.cells [.int .i64 0, .bool r.2.2, .int .i64 r.2.1, .slice none 0 0 none] (.own (some (32, 4)))) := by rw [← hH2]; exact NHeap.get_set_same (by simp)
    have gO := xH2.get (x2.get gH2)
    have gE := xH2.get (x2.get gH1)
    obtain ⟨hb, hc, hx, hhv⟩ := gh.sl.form
    obtain ⟨d, hd⟩ : ∃ d : Done, d = ⟨0, (es.length : Int), pOp T k, ⟨0, r.2.2, r.2.1, none, 0, 0, none⟩⟩ := ⟨_, rfl⟩
    have dc : d.c = [.int .i64 0, .int .i64 (es.length : Int), .int .i64 2, .str t, .str [], .int .i64 (k : Int), .int .i64 0, .bool r.2.2, .int .i64 r.2.1, .slice none 0 0 none] := by rw [hd, ← ht]; rfl
    obtain ⟨H3, hH3⟩ : ∃ H3, H2.alloc (.cells [.int .i64 0, .int .i64 (es.length : Int), .int .i64 2, .str t, .str [], .int .i64 (k : Int), .int .i64 0, .bool r.2.2, .int .i64 r.2.1, .slice none 0 0 none] (.own none)) = H3 := ⟨_, rfl⟩
    have xH3 : Ext H2 H3 := by rw [← hH3]; exact (Ext.refl H2).alloc _
    have nH3 : H3.next = H2.next + 1 := by rw [← hH3]; rfl
    have gD : H3.get H2.next = some (.cells d.c (.own none)) := by rw [dc, ← hH3]; simp [NHeap.get_alloc]
    have sD : Rw H3 10 Done.c (.slice (some (H2.next, 0)) 1 1 none) [d] := by
      rw [Rw, rows_cons, rows_nil, List.append_nil]
      exact Sl.whole gD rfl (Nat.le_refl _) (.inl rfl)
    have xh3 : Ext h H3 := ((xH.trans x2).trans xH2).trans xH3
    obtain ⟨lv', h4, e4, g4, u4, o4⟩ := grow_app (P := Try.prog) Done.len Done.one Try.underlying24 sz40 by40 ze40 rfl (by decide) (gl.upd (Upd.of_ext xh3) (by simp)).e sD (by simp; omega) (by simp; omega)
    obtain ⟨-, n4, v4⟩ := o4.resolve_left (by simp)
    have g4 := g4.g (by simp)
    have u4h : Upd (blk lv) h h4 := ((Upd.of_ext xh3).mono (by simp)).trans u4
    obtain ⟨H5, hH5⟩ : ∃ H5, h4.alloc (.cells [.int .i64 1, .int .i64 0, .int .i64 2, .str t, .str [], .int .i64 (k : Int), .int .i64 0, .bool false, .int .i64 0, .slice none 0 0 none, .int .i64 2, .int .i64 0, .int .i64 2, .str t, .str [], .int .i64 (k : Int), .int .i64 0, .bool r.2.2, .int .i64 r.2.1, .slice none 0 0 none] (.own none)) = H5 := ⟨_, rfl⟩
    have xH5 : Ext h4 H5 := by rw [← hH5]; exact (Ext.refl h4).alloc _
    have nH5 : H5.next = h4.next + 1 := by rw [← hH5]; rfl
    obtain ⟨ev, hev⟩ : ∃ ev : List Ev, ev = [⟨1, 0, pOp T k, zAns⟩, ⟨2, 0, pOp T k, ⟨0, r.2.2, r.2.1, none, 0, 0, none⟩⟩] := ⟨_, rfl⟩
    have evl : ev.length = 2 := by rw [hev]; rfl
    have ec : rows Ev.c ev = [.int .i64 1, .int .i64 0, .int .i64 2, .str t, .str [], .int .i64 (k : Int), .int .i64 0, .bool false, .int .i64 0, .slice none 0 0 none, .int .i64 2, .int .i64 0, .int .i64 2, .str t, .str [], .int .i64 (k : Int), .int .i64 0, .bool r.2.2, .int .i64 r.2.1, .slice none 0 0 none] := by rw [hev, ← ht]; rfl
    have gV : H5.get h4.next = some (.cells (rows Ev.c ev) (.own none)) := by rw [ec, ← hH5]; simp [NHeap.get_alloc]
    have sV : Rw H5 10 Ev.c (.slice (some (h4.next, 0)) 2 2 none) ev := by
      rw [Rw, evl]
      exact Sl.whole gV (by rw [ec]; rfl) (Nat.le_refl _) (.inl rfl)
    have hvlv : ∀ b ∈ blk hv, b ∉ blk lv := fun b q q' => (d2 b q').1 q
    have u5h : Upd (blk lv) h H5 := u4h.trans' (Upd.of_ext xH5) (by simp)
    have gh5 : Grow H5 hv 10 (rows Ev.c es) es.length := gh.upd u5h hvlv
    obtain ⟨hv2, h6, e6, g6, u6, o6⟩ := grow_app (P := Try.prog) Ev.len Ev.one Try.underlying25 sz42 by42 ze42 rfl (by decide) gh5.e sV (by omega) (by omega)
    obtain ⟨-, n6, v6⟩ := o6.resolve_left (by rw [hev]; simp)
    have g6 := g6.g (by rw [List.length_append]; omega)
    have gA2 : h4.get h2.next = some (.cells [.int .i64 0, .bool r.2.2, .int .i64 r.2.1, .slice none 0 0 none] (.own (some (32, 4)))) := u4.get (xH3.get gA1) fun q => by have := gl.lt _ q; have := xH.next; have := x2.next; omega
    have gO2 : h4.get (h1.next + 1) = some (.cells [.int .i64 2, .str t, .str [], .int .i64 (k : Int)] (.own (some (29, 4)))) := u4.get (xH3.get gO) fun q => by have := gl.lt _ q; have := x1.next; omega
    rw [hhv] at f11 e6
    rw [S_loop]
    conv => arg 1; arg 2; arg 2; simp only [lbW, bodyOf, Option.getD_some, atC, seqL, inC, elC, List.nil_append, List.cons_append, List.getElem?_cons_succ, List.getElem?_cons_zero, Try.f4]
    simp only [go_sem, seval, f0', f9, f10, f11, f12, i1, i2, k0, gA, cell, e1, Nat.mul_one, Nat.add_zero, hH, gH1, gH2, e2, hH2, gO, gE, gA1, hH3, e4, gA2, gO2, hH5, e6, w1]
    have q1 : (go T (k + 1)).1 = r.1 := by rw [go, hm, ht, hr]
    have q2 : (go T (k + 1)).2.1 = l ++ [d] := by rw [go, hm, ht, hr, hl', hes, hd]
    have q3 : (go T (k + 1)).2.2 = es ++ ev := by rw [go, hm, ht, hr, hes, hev]
    have n1 := x1.next
    have n2 := x2.next
    have nA := hE.next
    have u6h : Upd (blk lv ++ blk hv) h h6 := (u5h.mono (fun b hb => .inl (by simp [hb]))).trans (u6.mono (fun b hb => .inl (by simp [hb])))
    have n46 : h4.next = H3.next + 1 := n4
    have bl : blk lv' = [H3.next] := by rw [v4]; rfl
    have bh : blk hv2 = [H5.next] := by rw [v6]; rfl
    have mvn : r.1.length = 0 ∨ ∀ b ∈ blk mv', H.next ≤ b ∧ b < h2.next := by
      by_cases q : r.1.length = 0
      · exact .inl q
      · exact .inr fun b hb => ⟨fr2 b hb, s2.lt (by omega) (by decide) b hb⟩
    have lvlt := gl.lt
    have hvlt := gh.lt
    refine ih (k + 1) mv' lv' hv2 h6 _ (by omega) ?_ ?_ ?_ ?_ ?_ ?_ ?_ ?_ ?_ ?_ ?_ ?_
    · exact Upd.ext ((Upd.of_ext hE).trans' u6h fun b hb => .inr (by
        rw [List.mem_append] at hb
        rcases hb with hb | hb
        · exact (d2 b hb).2
        · exact d3 b hb))
    · repeat (first | exact kp | refine Keep.upd ?_ rfl)
    · rw [q1]
      have s3 : Sl H3 2 mv' r.1.length (entC r.1) := (s2.ext xH2).ext xH3
      refine ((s3.upd' u4 ?_).ext xH5).upd' u6 ?_
      · exact mvn.imp id fun q b hb hb' => by have := q b hb; have := lvlt b hb'; omega
      · exact mvn.imp id fun q b hb hb' => by have := q b hb; have := hvlt b hb'; omega
    · rw [q2]
      refine (g4.upd (Upd.of_ext xH5) (by simp)).upd u6 fun b hb hb' => ?_
      rw [bl, List.mem_singleton] at hb
      have := hvlt b hb'
      omega
    · rw [q3]; exact g6
    · rw [q1]
      refine mvn.imp id fun q b hb => ?_
      have := q b hb
      rw [bl, bh, List.mem_singleton, List.mem_singleton]
      omega
    · intro b hb
      rw [bl, List.mem_singleton] at hb
      rw [bh, List.mem_singleton]
      omega
    · intro b hb
      rw [bh, List.mem_singleton] at hb
      omega
    · simp only [go_sem, seval]
    · simp only [go_sem, seval]
    · simp only [go_sem, seval]
    · simp only [go_sem, seval]
end linScans
end Go.Proofs.Ytblhpikljhholaa.S

namespace Go.Proofs.Ytblhpikljhholaa.S
open Go Go.RowKit Go.Proofs.Ytblhpikljhholaa.NICE
set_option maxRecDepth 100000
set_option linter.unusedSimpArgs false
set_option linter.unusedVariables false
namespace linScans
open shape lin kp so

/-! a log that goes on -/
theorem replay_snoc (d : Done) (m : List Ent) : ∀ (ds : List Done) (now : List Ent) (i : Nat), replay now ds i = (m, -1) →
    (doneF m d).2.2 = false ∨ (d.ans.err = (doneF m d).2.1.1 ∧ d.ans.found = (doneF m d).2.1.2.1 ∧ d.ans.value = (doneF m d).2.1.2.2 ∧ d.ans.ln = 0) → replay now (ds ++ [d]) i = (if (doneF m d).2.2 = false then m else (doneF m d).1, -1)
  | [], now, i, h, hd => by
    rw [replay] at h
    obtain rfl : now = m := congrArg Prod.fst h
    rw [List.nil_append, replay]
    by_cases q : (doneF now d).2.2 = false
    · rw [if_pos q, if_pos q, replay]
    · rw [if_neg q, if_neg q, if_pos (hd.resolve_left q), replay]
  | x :: ds, now, i, h, hd => by
    rw [List.cons_append, replay]
    rw [replay] at h
    by_cases q : (doneF now x).2.2 = false
    · rw [if_pos q] at h ⊢
      exact replay_snoc d m ds now (i + 1) h hd
    · rw [if_neg q] at h ⊢
      by_cases q2 : x.ans.err = (doneF now x).2.1.1 ∧ x.ans.found = (doneF now x).2.1.2.1 ∧ x.ans.value = (doneF now x).2.1.2.2 ∧ x.ans.ln = 0
      · rw [if_pos q2] at h ⊢
        exact replay_snoc d m ds _ (i + 1) h hd
      · rw [if_neg q2] at h
        have := congrArg Prod.snd h
        simp at this
        try omega
theorem scans_skip (hs : List Ev) (ds : List Done) (L : Nat → List Ent) (r : List Done) : ∀ (l : List Done) (i : Nat), (∀ d ∈ l, skips hs d = true) → scansF hs ds L (l ++ r) i = scansF hs ds L r (i + l.length)
  | [], i, _ => rfl
  | d :: l, i, h => by
    rw [List.cons_append, scansF, if_pos (h d (by simp)), scans_skip hs ds L r l (i + 1) (fun x hx => h x (by simp [hx])), List.length_cons, Nat.add_right_comm, Nat.add_assoc]
theorem momA_skip (hs : List Ev) (d : Done) (r : List Done) : ∀ (l : List Done) (i : Nat), (∀ x ∈ l, (fin hs x : Int) < d.begin) → momA hs d (l ++ r) i i = momA hs d r (i + l.length) (i + l.length)
  | [], i, _ => rfl
  | x :: l, i, h => by
    rw [List.cons_append, momA, if_pos (h x (by simp)), momA_skip hs d r l (i + 1) (fun x hx => h x (by simp [hx])), List.length_cons, Nat.add_right_comm, Nat.add_assoc]
theorem momB_skip (over : Nat) (r : List Done) : ∀ (l : List Done) (i acc : Nat), i + l.length ≤ acc → momB over (l ++ r) i acc = momB over r (i + l.length) acc
  | [], i, acc, _ => rfl
  | x :: l, i, acc, h => by
    rw [List.length_cons] at h
    rw [List.cons_append, momB, Nat.max_eq_left (by omega), ite_self, momB_skip over r l (i + 1) acc (by omega), List.length_cons, Nat.add_right_comm, Nat.add_assoc]

/-! the log of puts -/
variable (T : Nat → List UInt8)
theorem go_sorted : ∀ k, Sorted (go T k).1
  | 0 => List.Pairwise.nil
  | k + 1 => put_sorted (go_sorted k) _
theorem go_mem : ∀ k, ∀ e ∈ (go T k).1, (∃ j, e.1 = T j) ∧ 0 ≤ e.2 ∧ e.2 < (k : Int)
  | 0, e, h => by simp [go] at h
  | k + 1, e, h => by
    rcases put_mem (l := (go T k).1) (e := (T k, (k : Int))) h with rfl | h
    · exact ⟨⟨k, rfl⟩, by simp, by show (k : Int) < ((k + 1 : Nat) : Int); omega⟩
    · obtain ⟨a, b, c⟩ := go_mem k e h
      exact ⟨a, b, by omega⟩
theorem go_replay : ∀ k, replay [] (go T k).2.1 0 = ((go T k).1, -1)
  | 0 => rfl
  | k + 1 => by
    have ih := go_replay k
    have := replay_snoc ⟨0, ((go T k).2.2.length : Int), pOp T k, ⟨0, (put (go T k).1 (T k, (k : Int))).2.2, (put (go T k).1 (T k, (k : Int))).2.1, none, 0, 0, none⟩⟩ _ _ _ _ ih (.inr ⟨rfl, rfl, rfl, rfl⟩)
    exact this
theorem go_at : ∀ k i, i < k → ∃ d e, (go T k).2.1[i]? = some d ∧ d.begin = ((i * 2 : Nat) : Int) ∧ d.client = 0 ∧ d.op.k = 2 ∧ (go T k).2.2[i * 2 + 1]? = some e ∧ e.kind = 2 ∧ e.client = 0
  | 0, i, h => by omega
  | k + 1, i, h => by
    obtain ⟨-, l1, l2⟩ := go_len T k
    by_cases hi : i < k
    · obtain ⟨d, e, a1, a2, a3, a4, a5, a6, a7⟩ := go_at k i hi
      refine ⟨d, e, ?_, a2, a3, a4, ?_, a6, a7⟩
      · show ((go T k).2.1 ++ _)[i]? = _
        rw [List.getElem?_append_left (by omega), a1]
      · show ((go T k).2.2 ++ _)[i * 2 + 1]? = _
        rw [List.getElem?_append_left (by omega), a5]
    · have : i = k := by omega
      subst this
      refine ⟨⟨0, ((go T i).2.2.length : Int), pOp T i, ⟨0, (put (go T i).1 (T i, (i : Int))).2.2, (put (go T i).1 (T i, (i : Int))).2.1, none, 0, 0, none⟩⟩, ⟨2, 0, pOp T i, ⟨0, (put (go T i).1 (T i, (i : Int))).2.2, (put (go T i).1 (T i, (i : Int))).2.1, none, 0, 0, none⟩⟩, ?a, ?b, ?c, ?d, ?e, ?f, ?g⟩
      case a =>
        show ((go T i).2.1 ++ _)[i]? = some _
        rw [List.getElem?_append_right (by omega), l1, Nat.sub_self]
        rfl
      case b =>
        show (((go T i).2.2.length : Nat) : Int) = _
        rw [l2]
      case c => rfl
      case d => rfl
      case e =>
        show ((go T i).2.2 ++ _)[i * 2 + 1]? = some _
        rw [List.getElem?_append_right (by omega), l2, show i * 2 + 1 - i * 2 = 1 by omega]
        rfl
      case f => rfl
      case g => rfl

/-- what the law looks at -/
def dS (N : Nat) (n : Int) (a : Ans) : Done := ⟨1, ((N * 2 : Nat) : Int), ⟨4, [], [], n⟩, a⟩
def hS (N : Nat) (n : Int) (a : Ans) : List Ev := (go T N).2.2 ++ [⟨1, 1, ⟨4, [], [], n⟩, zAns⟩, ⟨2, 1, ⟨4, [], [], n⟩, a⟩]
theorem fin_put (N : Nat) (n : Int) (a : Ans) : ∀ d ∈ (go T N).2.1, (fin (hS T N n a) d : Int) < (dS N n a).begin := by
  intro d hd
  obtain ⟨i, hi⟩ := List.mem_iff_getElem?.1 hd
  obtain ⟨-, l1, l2⟩ := go_len T N
  have hlt := (List.getElem?_eq_some_iff.1 hi).1
  obtain ⟨d', e, a1, a2, a3, a4, a5, a6, a7⟩ := go_at T N i (by omega)
  rw [hi] at a1
  cases a1
  have hl : (hS T N n a).length = N * 2 + 2 := by rw [hS, List.length_append, l2]; rfl
  have hm : (max (d.begin + 1) 0).toNat = i * 2 + 1 := by rw [a2]; omega
  have hdr : (hS T N n a).drop (i * 2 + 1) = e :: (hS T N n a).drop (i * 2 + 1 + 1) := drop_at (by rw [hS, List.getElem?_append_left (by omega), a5])
  have hnd : nd d.client ((hS T N n a).drop (i * 2 + 1)) = 0 := by rw [hdr, nd, if_pos ⟨a6, by rw [a7, a3]⟩]
  rw [fin, if_neg (by rw [hl, a2]; omega), hm, hnd]
  show _ < ((N * 2 : Nat) : Int)
  omega
theorem fin_scan (N : Nat) (n : Int) (a : Ans) : fin (hS T N n a) (dS N n a) = N * 2 + 1 ∧ (hS T N n a).length = N * 2 + 2 := by
  obtain ⟨-, l1, l2⟩ := go_len T N
  have hl : (hS T N n a).length = N * 2 + 2 := by rw [hS, List.length_append, l2]; rfl
  have hb : (dS N n a).begin = ((N * 2 : Nat) : Int) := rfl
  have hm : (max ((dS N n a).begin + 1) 0).toNat = N * 2 + 1 := by rw [hb]; omega
  have hdr : (hS T N n a).drop (N * 2 + 1) = [⟨2, 1, ⟨4, [], [], n⟩, a⟩] := by
    rw [hS, List.drop_append, List.drop_of_length_le (by omega), l2, show N * 2 + 1 - N * 2 = 1 by omega]; rfl
  refine ⟨?_, hl⟩
  rw [fin, if_neg (by rw [hl, hb]; omega), hm, hdr]
  rfl
theorem scans_is (N : Nat) (n : Int) (a : Ans) (ha : a.err = 0) (tl : List Ent) :
    scansF (hS T N n a) ((go T N).2.1 ++ [dS N n a]) (fun _ => tl) ((go T N).2.1 ++ [dS N n a]) 0 = if (ordered (dS N n a) tl && fitsL (dS N n a) tl [(go T N).1, (go T N).1]) = true then -1 else (N : Int) := by
  obtain ⟨-, l1, l2⟩ := go_len T N
  obtain ⟨f1, f2⟩ := fin_scan T N n a
  have fp := fin_put T N n a
  have hm1 : momFrom (hS T N n a) ((go T N).2.1 ++ [dS N n a]) (dS N n a) = N := by
    rw [momFrom, momA_skip _ _ _ _ _ fp, momA, if_neg (by rw [f1]; show ¬ _ < ((N * 2 : Nat) : Int); omega), momA, Nat.zero_add, l1]
  have hm2 : momTo (hS T N n a) ((go T N).2.1 ++ [dS N n a]) (dS N n a) = N + 1 := by
    rw [momTo, hm1, f1, momB_skip _ _ _ _ _ (by omega), momB, if_pos (by show ((N * 2 : Nat) : Int) < _; omega), momB, Nat.zero_add, l1, Nat.max_eq_right (by omega)]
  have hr := go_replay T N
  have hr2 := replay_snoc (dS N n a) _ _ _ _ hr (.inl rfl)
  rw [if_pos (show (doneF (go T N).1 (dS N n a)).2.2 = false from rfl)] at hr2
  have ha1 : at_ ((go T N).2.1 ++ [dS N n a]) N = (go T N).1 := by rw [at_, List.take_left' l1, hr]
  have ha2 : at_ ((go T N).2.1 ++ [dS N n a]) (N + 1) = (go T N).1 := by rw [at_, List.take_of_length_le (by simp [l1]), hr2]
  have hmom : momList ((go T N).2.1 ++ [dS N n a]) N (N + 1 + 1 - N) = [(go T N).1, (go T N).1] := by
    rw [momList, show N + 1 + 1 - N = 2 by omega]
    simp only [List.range'_succ, List.range'_zero, List.map_cons, List.map_nil, ha1, ha2]
  rw [scans_skip _ _ _ _ _ _ (fun d hd => ?_), Nat.zero_add, l1, scansF, if_neg, okScan, hm1, hm2, hmom]
  · split
    · rfl
    · rfl
  · simp only [skips, ha, f1, f2]
    simp [dS, ha]
  · obtain ⟨i, hi⟩ := List.mem_iff_getElem?.1 hd
    have hlt := (List.getElem?_eq_some_iff.1 hi).1
    obtain ⟨d', e, a1, a2, a3, a4, a5, a6, a7⟩ := go_at T N i (by omega)
    rw [hi] at a1
    cases a1
    simp [skips, a4]
end linScans
end Go.Proofs.Ytblhpikljhholaa.S

namespace Go.Proofs.Ytblhpikljhholaa.S
open Go Go.RowKit Go.Proofs.Ytblhpikljhholaa.NICE
set_option maxRecDepth 100000
set_option linter.unusedSimpArgs false
set_option linter.unusedVariables false
namespace linScans
open shape lin kp so

theorem in_all (n : Int) (t : List UInt8) : inOp ⟨4, [], [], n⟩ t = true := by
  have : Op.bytesLess t [] = false := by cases t <;> rfl
  simp [inOp, this]
theorem keep_self {M : List Ent} (h : Sorted M) : keep M M = M := List.filter_eq_self.2 fun e he => by rw [value_mem h he]
theorem stays_two {M : List Ent} (h : Sorted M) : staysL [M, M] = M := by simp [staysL, keep_self h]
theorem told_two {M : List Ent} (e : Ent) : told1L [M, M] e = ((value M e.1).2 && decide ((value M e.1).1 = e.2)) := by simp [told1L]
theorem fits_good {M : List Ent} (h : Sorted M) (N : Nat) (n : Nat) (hn : 0 < n) (a : Ans) : (ordered (dS N n a) (M.take n) && fitsL (dS N n a) (M.take n) [M, M]) = true := by
  rw [Bool.and_eq_true, ordered, fitsL, Bool.and_eq_true, Bool.and_eq_true, decide_eq_true_eq, List.all_eq_true, List.all_eq_true, stays_two h]
  refine ⟨⟨rise_sorted _ (in_all n) _ none (h.take n) (by simp), ?_⟩, fun e he => ?_, fun e he => ?_⟩
  · show _ ≤ (n : Int)
    rw [List.length_take]; omega
  · rw [told_two, value_mem h (List.mem_of_mem_take he)]; simp
  · by_cases ht : e ∈ M.take n
    · rw [lost, value_mem (h.take n) ht]; simp
    · have hd : e ∈ M.drop n := by
        rw [← List.take_append_drop n M, List.mem_append] at he
        exact he.resolve_left ht
      have hlen : n < M.length := by
        have := List.length_pos_of_mem hd
        rw [List.length_drop] at this
        omega
      have hl : (M.take n).length = n := by rw [List.length_take]; omega
      have hf : full (dS N n a) (M.take n) = true := by
        rw [full, hl]
        simp [dS, hn]
      have hlast : Op.bytesLess ((M.take n).getLastD ([], 0)).1 e.1 = true := by
        have hne : M.take n ≠ [] := by intro q; rw [q] at hl; simp at hl; omega
        rw [List.getLastD_eq_getLast?, List.getLast?_eq_some_getLast hne, Option.getD_some]
        unfold Sorted at h
        rw [← List.take_append_drop n M, List.pairwise_append] at h
        exact h.2.2 _ (List.getLast_mem hne) e hd
      rw [lost, hf, hlast]
      simp
theorem fits_gone {M : List Ent} (h : Sorted M) (N : Nat) (n i : Nat) (hi : i < (M.take n).length) (a : Ans) : (ordered (dS N n a) ((M.take n).eraseIdx i) && fitsL (dS N n a) ((M.take n).eraseIdx i) [M, M]) = false := by
  have : fitsL (dS N n a) ((M.take n).eraseIdx i) [M, M] = false := by
    rw [fitsL, stays_two h]
    refine Bool.and_eq_false_iff.2 (.inr ?_)
    rw [List.all_eq_false]
    obtain ⟨e, he⟩ : ∃ e, (M.take n)[i]? = some e := ⟨(M.take n)[i], List.getElem?_eq_getElem hi⟩
    refine ⟨e, List.mem_of_mem_take (List.mem_of_getElem? he), ?_⟩
    have hv : value ((M.take n).eraseIdx i) e.1 = (0, false) := value_not fun x hx q => by
      obtain ⟨j, hj⟩ := List.mem_iff_getElem?.1 hx
      have hs := h.take n
      have s1 := seek_mem hs i e he
      rw [List.getElem?_eraseIdx] at hj
      split at hj
      · have := seek_mem hs j x hj
        rw [q] at this
        omega
      · have := seek_mem hs (j + 1) x hj
        rw [q] at this
        omega
    have hl : ((M.take n).eraseIdx i).length < n := by
      rw [List.length_eraseIdx, if_pos hi]
      rw [List.length_take] at hi ⊢
      omega
    have hf : full (dS N n a) ((M.take n).eraseIdx i) = false := by
      rw [full]
      refine Bool.and_eq_false_iff.2 (.inr (decide_eq_false ?_))
      show ¬ _ = (n : Int)
      omega
    rw [lost, hv, hf]
    show (!(inOp ⟨4, [], [], n⟩ e.1 && _)) ≠ true
    rw [in_all]
    simp
  rw [this, Bool.and_false]
theorem fits_other {M : List Ent} (h : Sorted M) (N : Nat) (n i : Nat) (e : Ent) (hi : (M.take n)[i]? = some e) (x : Int) (hx : x ≠ e.2) (a : Ans) : (ordered (dS N n a) ((M.take n).set i (e.1, x)) && fitsL (dS N n a) ((M.take n).set i (e.1, x)) [M, M]) = false := by
  have : fitsL (dS N n a) ((M.take n).set i (e.1, x)) [M, M] = false := by
    rw [fitsL]
    refine Bool.and_eq_false_iff.2 (.inl ?_)
    rw [List.all_eq_false]
    refine ⟨(e.1, x), List.mem_set ((List.getElem?_eq_some_iff.1 hi).1) _, ?_⟩
    rw [told_two, value_mem h (List.mem_of_mem_take (List.mem_of_getElem? hi))]
    simp [Ne.symm hx]
  rw [this, Bool.and_false]
theorem fits_more {M : List Ent} (N : Nat) (n : Nat) (t : List UInt8) (ht : ∀ e ∈ M, e.1 ≠ t) (x : Int) (a : Ans) : (ordered (dS N n a) (M.take n ++ [(t, x)]) && fitsL (dS N n a) (M.take n ++ [(t, x)]) [M, M]) = false := by
  have : fitsL (dS N n a) (M.take n ++ [(t, x)]) [M, M] = false := by
    rw [fitsL]
    refine Bool.and_eq_false_iff.2 (.inl ?_)
    rw [List.all_eq_false]
    refine ⟨(t, x), by simp, ?_⟩
    rw [told_two, value_not ht]
    simp
  rw [this, Bool.and_false]
/-- no term of a number is 'zz' -/
theorem term_zz (n : Int) : termI n ≠ [122, 122] := by
  intro q
  have : (UInt8.ofNat (97 + (n % 1048576).toNat % 4)) = 122 := by
    have := congrArg (fun l => l.head?) q
    simpa [termI, term] using this
  have h2 := congrArg UInt8.toNat this
  rw [UInt8.toNat_ofNat'] at h2
  have : (122 : UInt8).toNat = 122 := rfl
  omega
end linScans
end Go.Proofs.Ytblhpikljhholaa.S

namespace Go.Proofs.Ytblhpikljhholaa.S
open Go Go.RowKit Go.Proofs.Ytblhpikljhholaa.NICE
set_option maxRecDepth 100000
set_option linter.unusedSimpArgs false
set_option linter.unusedVariables false
namespace linScans
open shape lin kp so

theorem fin_K (T : Nat → List UInt8) (N n : Nat) (hN : N ≤ 12) (hn : n ≤ 100) (tl : List Ent) (htl : tl.length ≤ 100) (tv : NVal) (h : NHeap) (st : Ents h tv tl) (lv hv : NVal) (gl : Grow h lv 10 (rows Done.c (go T N).2.1) (go T N).2.1.length) (gh : Grow h hv 10 (rows Ev.c (go T N).2.2) (go T N).2.2.length)
    (d1 : tl.length = 0 ∨ ∀ b ∈ blk tv, b ∉ blk lv ∧ b ∉ blk hv) (d2 : ∀ b ∈ blk lv, b ∉ blk hv) (pO : Nat) (q) (gO : h.get pO = some (.cells [.int .i64 4, .str [], .str [], .int .i64 (n : Int)] q)) (g : Bool) (hg : ∀ a : Ans, (ordered (dS N n a) tl && fitsL (dS N n a) tl [(go T N).1, (go T N).1]) = g)
    (F : Fr) (f10 : F 10 = lv) (f11 : F 11 = hv) (f20 : F 20 = .ptr (some (pO, 0))) (f21 : F 21 = tv) (f23 : F 23 = .bool g) :
    ∃ h', outF Try.prog [.tmp 8] (C env (tlN 12 (bodyOf Try.f4)) (toL 161 F) h) = some (.bool true, h') := by
  obtain ⟨l0, l1, l2⟩ := go_len T N
  obtain ⟨tb, tc, tx, htv⟩ := st.form
  obtain ⟨lb, lc, lx, hlv⟩ := gl.sl.form
  obtain ⟨hb, hc, hx, hhv⟩ := gh.sl.form
  obtain ⟨a, ha⟩ : ∃ a : Ans, a = ⟨0, false, 0, tb, tl.length, tc, tx⟩ := ⟨_, rfl⟩
  have dc : (dS N n a).c = [.int .i64 1, .int .i64 ((N * 2 : Nat) : Int), .int .i64 4, .str [], .str [], .int .i64 (n : Int), .int .i64 0, .bool false, .int .i64 0, .slice tb tl.length tc tx] := by rw [ha]; rfl
  obtain ⟨H1, hH1⟩ : ∃ H1, (h.alloc (.cells [.int .i64 0, .int .i64 0, .int .i64 0, .str [], .str [], .int .i64 0, .int .i64 0, .bool false, .int .i64 0, .slice none 0 0 none] (.own (some (40, 10))))).set h.next (.cells (dS N n a).c (.own (some (40, 10)))) = H1 := ⟨_, rfl⟩
  have x1 : Ext h H1 := by rw [← hH1]; exact ((Ext.refl h).alloc _).set (Nat.le_refl _) _
  have n1 : H1.next = h.next + 1 := by rw [← hH1]; rfl
  have gD1 : H1.get h.next = some (.cells (dS N n a).c (.own (some (40, 10)))) := by rw [← hH1]; exact NHeap.get_set_same (by simp)
  have gO1 := x1.get gO
  obtain ⟨ev, hev⟩ : ∃ ev : List Ev, ev = [⟨1, 1, ⟨4, [], [], n⟩, zAns⟩, ⟨2, 1, ⟨4, [], [], n⟩, a⟩] := ⟨_, rfl⟩
  have evl : ev.length = 2 := by rw [hev]; rfl
  have ec : rows Ev.c ev = [.int .i64 1, .int .i64 1, .int .i64 4, .str [], .str [], .int .i64 (n : Int), .int .i64 0, .bool false, .int .i64 0, .slice none 0 0 none, .int .i64 2, .int .i64 1, .int .i64 4, .str [], .str [], .int .i64 (n : Int), .int .i64 0, .bool false, .int .i64 0, .slice tb tl.length tc tx] := by rw [hev, ha]; rfl
  obtain ⟨H2, hH2⟩ : ∃ H2, H1.alloc (.cells (rows Ev.c ev) (.own none)) = H2 := ⟨_, rfl⟩
  have x2 : Ext H1 H2 := by rw [← hH2]; exact (Ext.refl H1).alloc _
  have n2 : H2.next = H1.next + 1 := by rw [← hH2]; rfl
  have gV : H2.get H1.next = some (.cells (rows Ev.c ev) (.own none)) := by rw [← hH2]; simp [NHeap.get_alloc]
  have sV : Rw H2 10 Ev.c (.slice (some (H1.next, 0)) 2 2 none) ev := by
    rw [Rw, evl]
    exact Sl.whole gV (by rw [ec]; rfl) (Nat.le_refl _) (.inl rfl)
  have x12 := x1.trans x2
  obtain ⟨hv2, h3, e3, g3, u3, o3⟩ := grow_app (P := Try.prog) Ev.len Ev.one Try.underlying25 sz42 by42 ze42 rfl (by decide) (gh.upd (Upd.of_ext x12) (by simp)).e sV (by omega) (by omega)
  obtain ⟨-, n3, v3⟩ := o3.resolve_left (by rw [hev]; simp)
  have u3h : Upd (blk hv) h h3 := ((Upd.of_ext x12).mono (by simp)).trans u3
  have hvlt := gh.lt
  have lvlt := gl.lt
  have gD3 : h3.get h.next = some (.cells (dS N n a).c (.own (some (40, 10)))) := u3.get (x2.get gD1) fun q => by have := hvlt _ q; omega
  obtain ⟨H4, hH4⟩ : ∃ H4, h3.alloc (.cells (dS N n a).c (.own none)) = H4 := ⟨_, rfl⟩
  have x4 : Ext h3 H4 := by rw [← hH4]; exact (Ext.refl h3).alloc _
  have n4 : H4.next = h3.next + 1 := by rw [← hH4]; rfl
  have gE : H4.get h3.next = some (.cells (dS N n a).c (.own none)) := by rw [← hH4]; simp [NHeap.get_alloc]
  have sE : Rw H4 10 Done.c (.slice (some (h3.next, 0)) 1 1 none) [dS N n a] := by
    rw [Rw, rows_cons, rows_nil, List.append_nil]
    exact Sl.whole gE rfl (Nat.le_refl _) (.inl rfl)
  have u4h : Upd (blk hv) h H4 := u3h.trans' (Upd.of_ext x4) (by simp)
  obtain ⟨lv2, h5, e5, g5, u5, o5⟩ := grow_app (P := Try.prog) Done.len Done.one Try.underlying24 sz40 by40 ze40 rfl (by decide) (gl.upd u4h d2).e sE (by simp; omega) (by simp; omega)
  obtain ⟨-, n5, v5⟩ := o5.resolve_left (by simp)
  have g3' : Rw h5 10 Ev.c hv2 ((go T N).2.2 ++ ev) := by
    refine (g3.sl.ext x4).upd u5 fun b hb hb' => ?_
    rw [v3] at hb
    simp only [blk, List.mem_singleton] at hb
    have := lvlt b hb'
    omega
  have st5 : Ents h5 tv tl := by
    refine ((st.upd' u4h ?_).upd' u5 ?_)
    · exact d1.imp id fun q b hb => (q b hb).2
    · exact d1.imp id fun q b hb => (q b hb).1
  rw [htv] at st5
  have hs : hS T N n a = (go T N).2.2 ++ ev := by rw [hS, hev]
  obtain ⟨h6, e6, x6⟩ := Scans_K h5 hv2 ((go T N).2.2 ++ ev) g3' (by rw [List.length_append]; omega) lv2 ((go T N).2.1 ++ [dS N n a]) g5.sl (by rw [List.length_append, List.length_singleton]; omega) (fun x hx => by
      rw [List.mem_append, List.mem_singleton] at hx
      rcases hx with hx | rfl
      · obtain ⟨i, hi⟩ := List.mem_iff_getElem?.1 hx
        have hlt := (List.getElem?_eq_some_iff.1 hi).1
        obtain ⟨d', e, a1, a2, _⟩ := go_at T N i (by omega)
        rw [hi] at a1
        cases a1
        rw [a2]; omega
      · show -2 ^ 40 < ((N * 2 : Nat) : Int) ∧ ((N * 2 : Nat) : Int) < 2 ^ 40
        omega) (fun _ => tl) (fun i d hd hsk => by
      have hi := (List.getElem?_eq_some_iff.1 hd).1
      rw [List.length_append, List.length_singleton] at hi
      by_cases hiN : i < N
      · rw [List.getElem?_append_left (by omega)] at hd
        obtain ⟨d', e, a1, a2, a3, a4, _⟩ := go_at T N i hiN
        rw [hd] at a1
        cases a1
        simp [skips, a4] at hsk
      · have : i = N := by omega
        subst this
        rw [List.getElem?_append_right (by omega), l1, Nat.sub_self] at hd
        simp at hd
        subst hd
        rw [dS, ha]
        exact ⟨st5, by omega⟩)
  have hsc := scans_is T N n a (by rw [ha]) tl
  rw [hg a, hs] at hsc
  obtain ⟨h7, e7, x7⟩ := runs_ok14 h6
  refine ⟨h7, ?_⟩
  rw [hhv, l2] at f11
  rw [hhv, l2] at e3
  rw [hlv, l1] at f10 e5
  rw [htv] at f21
  rw [ec] at hH2
  rw [dc] at hH1 gD1 gD3 hH4
  rw [hsc] at e6
  cases g with
  | true =>
    simp only [tlN, tlC, bodyOf, Option.getD_some, go_sem, seval, Try.f4, f10, f11, f20, f21, f23, gO, hH1, gD1, gO1, hH2, e3, gD3, hH4, e5, e6, e7]
  | false =>
    simp only [tlN, tlC, bodyOf, Option.getD_some, go_sem, seval, Try.f4, f10, f11, f20, f21, f23, gO, hH1, gD1, gO1, hH2, e3, gD3, hH4, e5, e6, e7]
end linScans
end Go.Proofs.Ytblhpikljhholaa.S

namespace Go.Proofs.Ytblhpikljhholaa.S
open Go Go.RowKit Go.Proofs.Ytblhpikljhholaa.NICE
set_option maxRecDepth 100000
set_option linter.unusedSimpArgs false
set_option linter.unusedVariables false
namespace linScans
open shape lin kp so

theorem set_one (t : List Ent) (i : Nat) (e : Ent) (he : t[i]? = some e) (x : Int) : setRange (entC t) (i * 2 + 1) [.int .i64 x] = entC (t.set i (e.1, x)) := by
  rw [← set_entC t i (e.1, x) (List.getElem?_eq_some_iff.1 he).1]
  have h0 := rowcell (k := 2) (entC_at t i e he) (show [NVal.str e.1, .int .i64 e.2][0]? = some (.str e.1) from rfl)
  rw [Nat.add_zero] at h0
  unfold setRange
  rw [List.take_add_one, h0]
  simp

theorem shape5 : tlN 5 (bodyOf Try.f4) = .seq (hdC (tlN 5 (bodyOf Try.f4))) (.seq (hdC (tlN 6 (bodyOf Try.f4))) (.seq (hdC (tlN 7 (bodyOf Try.f4))) (.seq (hdC (tlN 8 (bodyOf Try.f4))) (.seq (hdC (tlN 9 (bodyOf Try.f4))) (.seq (hdC (tlN 10 (bodyOf Try.f4))) (.seq (hdC (tlN 11 (bodyOf Try.f4))) (tlN 12 (bodyOf Try.f4)))))))) := by kernel_rfl

set_option maxHeartbeats 2000000 in
theorem mid_K (T : Nat → List UInt8) (hT : ∀ j, ∃ n, T j = termI n) (N : Nat) (hN : N ≤ 12) (most how at' : Int) (mv lv hv : NVal) (h : NHeap) (sm : Ents h mv (go T N).1) (gl : Grow h lv 10 (rows Done.c (go T N).2.1) (go T N).2.1.length) (gh : Grow h hv 10 (rows Ev.c (go T N).2.2) (go T N).2.2.length)
    (d2 : ∀ b ∈ blk lv, b ∉ blk hv) (F : Fr) (f1 : F 1 = .int .i64 most) (f2 : F 2 = .int .i64 how) (f3 : F 3 = .int .i64 at') (f9 : F 9 = mv) (f10 : F 10 = lv) (f11 : F 11 = hv) :
    ∃ h', outF Try.prog [.tmp 8] (C env (tlN 5 (bodyOf Try.f4)) (toL 161 F) h) = some (.bool true, h') := by
  obtain ⟨l0, l1, l2⟩ := go_len T N
  obtain ⟨M, hM⟩ : ∃ M, (go T N).1 = M := ⟨_, rfl⟩
  have hso := go_sorted T N
  have hme := go_mem T N
  obtain ⟨n, hn, n16⟩ : ∃ n : Nat, 1 + most % 16 = (n : Int) ∧ 0 < n ∧ n ≤ 16 := ⟨(1 + most % 16).toNat, by omega, by omega, by omega⟩
  have fin := fun tl htl tv h st => fin_K T N n hN (by omega) tl htl tv h st lv hv
  rw [hM] at sm l0 hso hme
  have e1 := within_K most 0 15 h (by decide) (by decide) (by decide)
  rw [show (0 : Int) + most % (15 - 0 + 1) = most % 16 by rw [Int.zero_add]; rfl] at e1
  have w1 : IntKind.i64.wrap (1 + most % 16) = (n : Int) := by rw [hn, wrap_i64_small (by omega) (by omega)]
  obtain ⟨mb, mc, mx, hmv⟩ := sm.form
  obtain ⟨H1, hH1⟩ : ∃ H1, (h.alloc (.cells [.int .i64 0, .str [], .str [], .int .i64 0] (.own (some (29, 4))))).set h.next (.cells [.int .i64 4, .str [], .str [], .int .i64 (n : Int)] (.own (some (29, 4)))) = H1 := ⟨_, rfl⟩
  have x1 : Ext h H1 := by rw [← hH1]; exact ((Ext.refl h).alloc _).set (Nat.le_refl _) _
  have n1 : H1.next = h.next + 1 := by rw [← hH1]; rfl
  have gO1 : H1.get h.next = some (.cells [.int .i64 4, .str [], .str [], .int .i64 (n : Int)] (.own (some (29, 4)))) := by rw [← hH1]; exact NHeap.get_set_same (by simp)
  obtain ⟨H2, hH2⟩ : ∃ H2, H1.alloc (.cells [] (.own none)) = H2 := ⟨_, rfl⟩
  have x2 : Ext H1 H2 := by rw [← hH2]; exact (Ext.refl H1).alloc _
  have n2 : H2.next = H1.next + 1 := by rw [← hH2]; rfl
  obtain ⟨J, hJ⟩ : ∃ J, min n M.length = J := ⟨_, rfl⟩
  have hmin : (if (M.length : Int) < (n : Int) then (M.length : Int) else (n : Int)) = (J : Int) := by split <;> omega
  obtain ⟨tv0, e2, s2⟩ := Sl.take (P := Try.prog) ((sm.ext x1).ext x2) Try.underlying23 sz35 .i64 J (by omega)
  rw [entC_take, show M.take J = M.take n by rw [← hJ, ← List.take_eq_take_min]] at s2
  obtain ⟨t, ht⟩ : ∃ t, M.take n = t := ⟨_, rfl⟩
  have tlen : t.length = J := by rw [← ht, List.length_take, hJ]
  rw [ht, ← tlen] at s2
  have ets : ∀ l : List Ent, rows (fun e : Ent => [NVal.str e.1, .int .i64 e.2]) l = entC l := fun l => rfl
  obtain ⟨tv, h3, e3, g3, u3, o3⟩ := grow_app (P := Try.prog) (f := fun e : Ent => [NVal.str e.1, .int .i64 e.2]) entL entO Try.underlying23 sz35 by35 ze35 rfl (by decide) (l := []) (v := .slice (some (H1.next, 0)) 0 0 none) (h := H2) (.inr (.inl ⟨_, rfl, rfl, rfl⟩)) (y := tv0) (m := t) s2 (by simp; omega) (by simp; omega)
  rw [ets, List.nil_append] at g3
  have x3 : Ext h h3 := Upd.ext ((Upd.of_ext (x1.trans x2)).trans' u3 fun b hb => .inr (by simp [blk] at hb; omega))
  have ho3 : t.length = 0 ∨ ∀ b ∈ blk tv, h.next ≤ b := by
    rcases o3 with ⟨q, _⟩ | ⟨_, _, q⟩
    · exact .inl (by rw [q]; rfl)
    · refine .inr fun b hb => ?_
      rw [q] at hb
      simp [blk] at hb
      omega
  have lvlt := gl.lt
  have hvlt := gh.lt
  have glX : ∀ {h'}, Ext h h' → Grow h' lv 10 (rows Done.c (go T N).2.1) (go T N).2.1.length := fun x => gl.upd (Upd.of_ext x) (by simp)
  have ghX : ∀ {h'}, Ext h h' → Grow h' hv 10 (rows Ev.c (go T N).2.2) (go T N).2.2.length := fun x => gh.upd (Upd.of_ext x) (by simp)
  have dX : ∀ {l : List Ent} {v : NVal}, (l.length = 0 ∨ ∀ b ∈ blk v, h.next ≤ b) → (l.length = 0 ∨ ∀ b ∈ blk v, b ∉ blk lv ∧ b ∉ blk hv) := fun q => q.imp id fun q b hb => by
    have := q b hb
    exact ⟨fun r => by have := lvlt b r; omega, fun r => by have := hvlt b r; omega⟩
  have gO3 : h3.get h.next = some (.cells [.int .i64 4, .str [], .str [], .int .i64 (n : Int)] (.own (some (29, 4)))) := u3.get (x2.get gO1) (by simp [blk]; omega)
  obtain ⟨w, hw, hw4⟩ : ∃ w : Int, how % 4 = w ∧ (w = 0 ∨ w = 1 ∨ w = 2 ∨ w = 3) := ⟨_, rfl, by omega⟩
  have e4 := within_K how 0 3 h3 (by decide) (by decide) (by decide)
  rw [show (0 : Int) + how % (3 - 0 + 1) = w by rw [Int.zero_add]; exact hw] at e4
  obtain ⟨tb, tc, tx, htv⟩ := g3.sl.form
  have e3' := e3
  rw [htv] at e3'
  have hgood : ∀ a, (ordered (dS N n a) t && fitsL (dS N n a) t [M, M]) = true := fun a => by rw [← ht]; exact fits_good hso N n (by omega) a
  rw [hM] at fin
  have good := fun F a1 a2 a3 a4 a5 => fin t (by omega) tv h3 g3.sl (glX x3) (ghX x3) (dX ho3) d2 h.next _ gO3 true hgood F a1 a2 a3 a4 a5
  rw [shape5]
  generalize tlN 12 (bodyOf Try.f4) = rest at fin good ⊢
  rw [hmv] at f9 e2
  -- one entry more
  obtain ⟨H4, hH4⟩ : ∃ H4, h3.alloc (.cells [.str [122, 122], .int .i64 0] (.own none)) = H4 := ⟨_, rfl⟩
  have x4 : Ext h3 H4 := by rw [← hH4]; exact (Ext.refl h3).alloc _
  have n4 : H4.next = h3.next + 1 := by rw [← hH4]; rfl
  have gZ : H4.get h3.next = some (.cells [.str [122, 122], .int .i64 0] (.own none)) := by rw [← hH4]; simp [NHeap.get_alloc]
  have sZ : Rw H4 2 (fun e : Ent => [NVal.str e.1, .int .i64 e.2]) (.slice (some (h3.next, 0)) 1 1 none) [([122, 122], 0)] := Sl.whole gZ rfl (Nat.le_refl _) (.inl rfl)
  obtain ⟨tvz, h5, e5, g5, u5, o5⟩ := grow_app (P := Try.prog) (f := fun e : Ent => [NVal.str e.1, .int .i64 e.2]) entL entO Try.underlying23 sz35 by35 ze35 rfl (by decide) (l := t) (g3.upd (Upd.of_ext x4) (.inr (by simp))) sZ (by simp; omega) (by simp; omega)
  obtain ⟨-, n5, v5⟩ := o5.resolve_left (by simp)
  rw [ets] at g5
  have hx3 := x3.next
  have u5h : Upd (blk tv) h3 h5 := ((Upd.of_ext x4).mono (by simp)).trans u5
  have btv : ∀ b ∈ blk tv, h.next ≤ b := by
    rcases o3 with ⟨_, q, _⟩ | ⟨_, _, q⟩
    · intro b hb; rw [q] at hb; simp [blk] at hb; omega
    · intro b hb; rw [q] at hb; simp [blk] at hb; omega
  have x5 : Ext h h5 := Upd.ext ((Upd.of_ext x3).trans' u5h fun b hb => .inr (btv b hb))
  have hbad3 : ∀ a, (ordered (dS N n a) (t ++ [([122, 122], 0)]) && fitsL (dS N n a) (t ++ [([122, 122], 0)]) [M, M]) = false := fun a => by
    rw [← ht]
    exact fits_more N n _ (fun e he q => by
      obtain ⟨⟨j, hj⟩, _⟩ := hme e he
      obtain ⟨m, hm⟩ := hT j
      rw [hj, hm] at q
      exact term_zz m q) 0 a
  have more := fun F a1 a2 a3 a4 a5 => fin (t ++ [([122, 122], 0)]) (by simp; omega) tvz h5 g5.sl (glX x5) (ghX x5) (dX (.inr fun b hb => by rw [v5] at hb; simp [blk] at hb; omega)) d2 h.next _ (u5h.get gO3 fun q => by
    rcases o3 with ⟨_, r, _⟩ | ⟨_, _, r⟩ <;> · rw [r] at q; simp [blk] at q; omega) false hbad3 F a1 a2 a3 a4 a5
  rw [htv] at e5
  by_cases hz : t.length = 0
  · have z0 : ¬ (0 : Int) < ((t.length : Nat) : Int) := by omega
    rcases hw4 with rfl | rfl | rfl | rfl
    · simp only [hdC, tlN, tlC, bodyOf, Option.getD_some, go_sem, seval, Try.f4, f1, f2, f3, f9, f10, f11, e1, w1, hH1, hH2, hmin, e2, e3', z0, e4]
      exact good _ (by simp only [go_sem, seval, f10]) (by simp only [go_sem, seval, f11]) (by simp only [go_sem, seval]) (by simp only [go_sem, seval, htv]) (by simp only [go_sem, seval])
    · simp only [hdC, tlN, tlC, bodyOf, Option.getD_some, go_sem, seval, Try.f4, f1, f2, f3, f9, f10, f11, e1, w1, hH1, hH2, hmin, e2, e3', z0, e4]
      exact good _ (by simp only [go_sem, seval, f10]) (by simp only [go_sem, seval, f11]) (by simp only [go_sem, seval]) (by simp only [go_sem, seval, htv]) (by simp only [go_sem, seval])
    · simp only [hdC, tlN, tlC, bodyOf, Option.getD_some, go_sem, seval, Try.f4, f1, f2, f3, f9, f10, f11, e1, w1, hH1, hH2, hmin, e2, e3', z0, e4]
      exact good _ (by simp only [go_sem, seval, f10]) (by simp only [go_sem, seval, f11]) (by simp only [go_sem, seval]) (by simp only [go_sem, seval, htv]) (by simp only [go_sem, seval])
    · simp only [hdC, tlN, tlC, bodyOf, Option.getD_some, go_sem, seval, Try.f4, f1, f2, f3, f9, f10, f11, e1, w1, hH1, hH2, hmin, e2, e3', z0, e4, hH4, e5]
      exact more _ (by simp only [go_sem, seval, f10]) (by simp only [go_sem, seval, f11]) (by simp only [go_sem, seval]) (by simp only [go_sem, seval]) (by simp only [go_sem, seval])
  · have z0 : (0 : Int) < ((t.length : Nat) : Int) := by omega
    have wl : IntKind.i64.wrap (((t.length : Nat) : Int) - 1) = ((t.length : Nat) : Int) - 1 := wrap_i64_small (by omega) (by omega)
    have el := within_K at' 0 (((t.length : Nat) : Int) - 1) h3 (by decide) (by omega) (by omega)
    obtain ⟨i, hi, hil⟩ : ∃ i : Nat, (0 : Int) + at' % (((t.length : Nat) : Int) - 1 - 0 + 1) = (i : Int) ∧ i < t.length := by
      have h1 := Int.emod_nonneg at' (show (((t.length : Nat) : Int) - 1 - 0 + 1) ≠ 0 by omega)
      have h2 := Int.emod_lt_of_pos at' (show 0 < (((t.length : Nat) : Int) - 1 - 0 + 1) by omega)
      exact ⟨(at' % (((t.length : Nat) : Int) - 1 - 0 + 1)).toNat, by omega, by omega⟩
    rw [hi] at el
    have w3 : IntKind.i64.wrap ((i : Int) + 1) = ((i + 1 : Nat) : Int) := by rw [wrap_i64_small (by omega) (by omega)]; omega
    rcases hw4 with rfl | rfl | rfl | rfl
    · simp only [hdC, tlN, tlC, bodyOf, Option.getD_some, go_sem, seval, Try.f4, f1, f2, f3, f9, f10, f11, e1, w1, hH1, hH2, hmin, e2, e3', z0, e4, wl, el]
      exact good _ (by simp only [go_sem, seval, f10]) (by simp only [go_sem, seval, f11]) (by simp only [go_sem, seval]) (by simp only [go_sem, seval, htv]) (by simp only [go_sem, seval])
    · -- one entry less
      obtain ⟨H6, hH6⟩ : ∃ H6, (h3.alloc .dead).set h3.next (.cells [] (.own none)) = H6 := ⟨_, rfl⟩
      have x6 : Ext h3 H6 := by rw [← hH6]; exact ((Ext.refl h3).alloc _).set (Nat.le_refl _) _
      have n6 : H6.next = h3.next + 1 := by rw [← hH6]; rfl
      obtain ⟨v6, e6, s6⟩ := Sl.take (P := Try.prog) (g3.sl.ext x6) Try.underlying23 sz35 .i64 i (by omega)
      obtain ⟨v8, e8, s8⟩ := Sl.drop (P := Try.prog) g3.sl Try.underlying23 sz35 .i64 (i + 1) (by omega)
      rw [entC_take] at s6
      rw [entC_drop] at s8
      have s6' : Rw H6 2 (fun e : Ent => [NVal.str e.1, .int .i64 e.2]) v6 (t.take i) := by rw [Rw, List.length_take, Nat.min_eq_left (Nat.le_of_lt hil)]; exact s6
      obtain ⟨tv7, h7, e7, g7, u7, o7⟩ := grow_app (P := Try.prog) (f := fun e : Ent => [NVal.str e.1, .int .i64 e.2]) entL entO Try.underlying23 sz35 by35 ze35 rfl (by decide) (l := []) (v := .slice (some (h3.next, 0)) 0 0 none) (h := H6) (.inr (.inl ⟨_, rfl, rfl, rfl⟩)) (y := v6) (m := t.take i) s6' (by simp; omega) (by simp; omega)
      rw [ets, List.nil_append] at g7
      have u37 : Upd [h3.next] h3 h7 := ((Upd.of_ext x6).mono (by simp)).trans u7
      have s8' : Rw h7 2 (fun e : Ent => [NVal.str e.1, .int .i64 e.2]) v8 (t.drop (i + 1)) := by
        rw [Rw, List.length_drop]
        refine Sl.upd' (cs := entC (t.drop (i + 1))) s8 u37 ?_
        by_cases q0 : t.length - (i + 1) = 0
        · exact .inl q0
        · refine .inr fun b hb hb' => ?_
          have := s8.lt (by omega) (by decide) b hb
          rw [List.mem_singleton] at hb'
          omega
      obtain ⟨tv9, h9, e9, g9, u9, o9⟩ := grow_app (P := Try.prog) (f := fun e : Ent => [NVal.str e.1, .int .i64 e.2]) entL entO Try.underlying23 sz35 by35 ze35 rfl (by decide) (l := t.take i) g7 (y := v8) (m := t.drop (i + 1)) s8' (by simp; omega) (by simp; omega)
      rw [ets, ← List.eraseIdx_eq_take_drop_succ] at g9
      have b7 : ∀ b ∈ blk tv7, h3.next ≤ b := by
        rcases o7 with ⟨_, q, _⟩ | ⟨_, _, q⟩
        · intro b hb; rw [q] at hb; simp [blk] at hb; omega
        · intro b hb; rw [q] at hb; simp [blk] at hb; omega
      have u37n := u37.next
      have b9 : ∀ b ∈ blk tv9, h3.next ≤ b := by
        rcases o9 with ⟨_, q, _⟩ | ⟨_, _, q⟩
        · rw [q]; exact b7
        · intro b hb; rw [q] at hb; simp [blk] at hb; omega
      have x39 : Ext h3 h9 := Upd.ext (Upd.trans' (Upd.trans' (Upd.refl [] h3) u37 (fun b hb => .inr (by rw [List.mem_singleton] at hb; omega))) u9 fun b hb => .inr (b7 b hb))
      have hbad : ∀ a, (ordered (dS N n a) (t.eraseIdx i) && fitsL (dS N n a) (t.eraseIdx i) [M, M]) = false := fun a => by
        rw [← ht] at hil ⊢
        exact fits_gone hso N n i hil a
      have less := fun F a1 a2 a3 a4 a5 => fin (t.eraseIdx i) (by have := List.length_eraseIdx_le t i; omega) tv9 h9 g9.sl (glX (x3.trans x39)) (ghX (x3.trans x39)) (dX (.inr fun b hb => by have := b9 b hb; omega)) d2 h.next _ (x39.get gO3) false hbad F a1 a2 a3 a4 a5
      rw [htv] at e6 e8
      simp only [hdC, tlN, tlC, bodyOf, Option.getD_some, go_sem, seval, Try.f4, f1, f2, f3, f9, f10, f11, e1, w1, hH1, hH2, hmin, e2, e3', z0, e4, wl, el, hH6, e6, e7, w3, e8, e9, u7.next, u9.next]
      exact less _ (by simp only [go_sem, seval, f10]) (by simp only [go_sem, seval, f11]) (by simp only [go_sem, seval]) (by simp only [go_sem, seval]) (by simp only [go_sem, seval])
    · -- a value changed
      obtain ⟨e, he⟩ : ∃ e, t[i]? = some e := ⟨t[i]'hil, List.getElem?_eq_getElem hil⟩
      obtain ⟨_, v0, v12⟩ := hme e (by rw [← ht] at he; exact List.mem_of_mem_take (List.mem_of_getElem? he))
      have w4 : IntKind.i64.wrap (e.2 + 100) = e.2 + 100 := wrap_i64_small (by omega) (by omega)
      rcases g3.g (by omega) with ⟨_, _, q⟩ | ⟨b, x, q, hv, hx, hg, hl, hpos⟩
      · omega
      rw [htv] at hv
      obtain ⟨rfl, _, rfl, rfl⟩ : tb = some (b, 0) ∧ t.length = t.length ∧ tc = t.length ∧ tx = x := by simpa using hv
      have cell := rowcell (k := 2) (entC_at t i e he) (show [NVal.str e.1, .int .i64 e.2][1]? = some (.int .i64 e.2) from rfl)
      have hil' : (i : Int) < (t.length : Int) := by omega
      have hi0 : (0 : Int) ≤ (i : Int) := by omega
      simp only [hdC, tlN, tlC, bodyOf, Option.getD_some, go_sem, seval, Try.f4, f1, f2, f3, f9, f10, f11, e1, w1, hH1, hH2, hmin, e2, e3', z0, e4, wl, el, hg, cell, hil', hi0, w4, Nat.zero_add]
      have h8 : i * 2 + 1 + 1 ≤ (entC t).length := by rw [hl]; omega
      obtain ⟨H8, hH8⟩ : ∃ H8, h3.set b (.cells (setRange (entC t) (i * 2 + 1) [.int .i64 (e.2 + 100)]) (.own q)) = H8 := ⟨_, rfl⟩
      have g8 : H8.get b = some (.cells (entC (t.set i (e.1, e.2 + 100))) (.own q)) := by rw [← hH8, set_one t i e he]; exact NHeap.get_set_same (NHeap.get_lt hg)
      have hb3 : H1.next ≤ b := by
        rcases o3 with ⟨_, r, _⟩ | ⟨_, _, r⟩
        · rw [htv] at r; simp at r; omega
        · rw [htv] at r; simp at r; omega
      have x8 : Ext h H8 := by rw [← hH8]; exact x3.set (by omega) _
      have s8 : Ents H8 tv (t.set i (e.1, e.2 + 100)) := by
        rw [htv, Ents, List.length_set]
        exact Sl.whole g8 (by rw [entC_len, List.length_set]) (Nat.le_refl _) hx
      have hbad : ∀ a, (ordered (dS N n a) (t.set i (e.1, e.2 + 100)) && fitsL (dS N n a) (t.set i (e.1, e.2 + 100)) [M, M]) = false := fun a => by
        rw [← ht] at he ⊢
        exact fits_other hso N n i e he _ (by omega) a
      have gO8 : H8.get h.next = some (.cells [.int .i64 4, .str [], .str [], .int .i64 (n : Int)] (.own (some (29, 4)))) := by
        rw [← hH8, NHeap.get_set_ne (by omega)]
        exact gO3
      have other := fun F a1 a2 a3 a4 a5 => fin (t.set i (e.1, e.2 + 100)) (by rw [List.length_set]; omega) tv H8 s8 (glX x8) (ghX x8) (dX (.inr btv)) d2 h.next _ gO8 false hbad F a1 a2 a3 a4 a5
      simp only [go_sem, seval, h8, hH8]
      exact other _ (by simp only [go_sem, seval, f10]) (by simp only [go_sem, seval, f11]) (by simp only [go_sem, seval]) (by simp only [go_sem, seval, htv]) (by simp only [go_sem, seval])
    · simp only [hdC, tlN, tlC, bodyOf, Option.getD_some, go_sem, seval, Try.f4, f1, f2, f3, f9, f10, f11, e1, w1, hH1, hH2, hmin, e2, e3', z0, e4, wl, el, hH4, e5]
      exact more _ (by simp only [go_sem, seval, f10]) (by simp only [go_sem, seval, f11]) (by simp only [go_sem, seval]) (by simp only [go_sem, seval]) (by simp only [go_sem, seval])

theorem shape4 : bodyOf Try.f4 = .seq (hdC (tlN 0 (bodyOf Try.f4))) (.seq (hdC (tlN 1 (bodyOf Try.f4))) (.seq (hdC (tlN 2 (bodyOf Try.f4))) (.seq (hdC (tlN 3 (bodyOf Try.f4))) (.seq (hdC (tlN 4 (bodyOf Try.f4))) (tlN 5 (bodyOf Try.f4)))))) := by kernel_rfl

theorem law (h : NHeap) (av : NVal) (vs : List Int) (ha : Rw h 1 I1 av vs) (most how at' : Int) : ∃ h', K env 4 [av, .int .i64 most, .int .i64 how, .int .i64 at'] h = some (.bool true, h') := by
  obtain ⟨ab, ac, ax, hav⟩ := ha.form
  obtain ⟨N, hN⟩ : ∃ N, N = min vs.length 12 := ⟨_, rfl⟩
  have mid := fun h mv lv hv sm gl gh d2 F => mid_K (fun k => termI (vs.getD k 0)) (fun j => ⟨_, rfl⟩) N (by omega) most how at' mv lv hv h sm gl gh d2 F
  rw [k4 _ _ (by simp), shape4]
  generalize tlN 5 (bodyOf Try.f4) = rest at mid ⊢
  simp only [hdC, tlN, tlC, bodyOf, Option.getD_some, go_sem, seval, Try.f4, hav]
  have key := fun F f0 => loopW h av vs ha F f0 (fun k => termI (vs.getD k 0)) (fun k n hk => by simp only [List.getD, hk, Option.getD_some]) N hN (fun r => ∃ h', outF Try.prog [.tmp 8] (thenD env (blockC 0 r) rest) = some (.bool true, h'))
  refine key _ ?_ ?_ N 0 (.slice none 0 0 none) (.slice none 0 0 none) (.slice none 0 0 none) h _ (by omega) (Ext.refl _) (Keep.refl _ _) (Sl.nil _ _) (Grow.nil _ _) (Grow.nil _ _) (.inl rfl) (by simp [blk]) (by simp [blk]) ?_ ?_ ?_ ?_
  · simp only [go_sem, seval, hav]
  · intro h' F mv lv hv hE kp sm gl gh d1 d2 d3 f9 f10 f11
    have k1 := kp 1 rfl
    have k2 := kp 2 rfl
    have k3 := kp 3 rfl
    simp only [go_sem, seval] at k1 k2 k3
    simp only [go_sem, seval]
    exact mid h' mv lv hv sm gl gh (fun b hb => (d2 b hb).1) F k1 k2 k3 f9 f10 f11
  all_goals simp only [go_sem, seval]; try rfl
end linScans
theorem ints_of : ∀ (cs : List NVal), (∀ u ∈ cs, ∃ n, u = NVal.int .i64 n) → ∃ vs : List Int, cs = rows linScans.I1 vs ∧ vs.length = cs.length
  | [], _ => ⟨[], rfl, rfl⟩
  | u :: cs, h => by
    obtain ⟨n, rfl⟩ := h u (by simp)
    obtain ⟨vs, h1, h2⟩ := ints_of cs fun u hu => h u (by simp [hu])
    exact ⟨n :: vs, by rw [rows_cons, h1]; rfl, by simp [h2]⟩
theorem law_true_LinScans (h : NHeap) (bo : Option (Nat × Nat)) (n c : Nat) (x : Option Nat) (cs : List NVal) (hx : (x = none ∨ x = some 1) ∧ n ≤ c) (hG : ∀ u ∈ cs, ∃ n, u = NVal.int .i64 n) (hcl : cs.length = n)
    (hsk : n = 0 ∨ ∃ b m, bo = some (b, 0) ∧ h.get b = some (.cells cs m)) (a b d : Int) : ∃ h', K env 4 [.slice bo n c x, .int .i64 a, .int .i64 b, .int .i64 d] h = some (.bool true, h') := by
  obtain ⟨vs, h1, h2⟩ := ints_of cs hG
  refine linScans.law h _ vs ?_ a b d
  have hn : vs.length = n := by rw [h2, hcl]
  refine ⟨by rw [← h1, hcl, hn, Nat.mul_one], bo, c, x, by rw [hn], by rw [hn]; exact hx.2, hx.1, ?_⟩
  rcases hsk with h0 | ⟨b, m, hb, hg⟩
  · exact .inl (by rw [hn, h0])
  · exact .inr ⟨b, 0, cs, m, hb, hg, by rw [List.drop_zero, hn, Nat.mul_one, ← hcl, List.take_length, h1]⟩
end Go.Proofs.Ytblhpikljhholaa.S

