/-
  Keep, Ops, LinMap, LinMap2, as one text. Proved step by step; no conditions beside what is said.
-/
import Derived.Test.YtblhpikljhholaaLinW
import Derived.Test.YtblhpikljhholaaNice43
import Derived.Test.YtblhpikljhholaaNice44
namespace Go.Proofs.Ytblhpikljhholaa.S
open Go Go.RowKit Go.Proofs.Ytblhpikljhholaa.NICE
set_option maxRecDepth 100000
set_option linter.unusedSimpArgs false
set_option linter.unusedVariables false
namespace kp
open shape lin

/-- a number's letters behind the first -/
def letters : Nat → Nat → List UInt8
  | 0, _ => []
  | f + 1, m => if m = 0 then [] else UInt8.ofNat (97 + m % 6) :: letters f (m / 6)
def term (m : Nat) : List UInt8 := UInt8.ofNat (97 + m % 4) :: letters 7 (m / 4)
theorem letters_len : ∀ f m, (letters f m).length ≤ f
  | 0, m => Nat.le_refl _
  | f + 1, m => by
    unfold letters
    split
    · simp
    · have := letters_len f (m / 6); simp; omega
/-- the term of any number -/
def termI (n : Int) : List UInt8 := term (n % 1048576).toNat

noncomputable def lbK : Code := inC (inC (atC (bodyOf Try.f15) 4))

theorem loopK (h0 : NHeap) (Q : Out → Prop) : ∀ (f m : Nat) (acc : List UInt8) (h : NHeap) (F : Fr), m < 6 ^ f → f ≤ 7 → acc.length ≤ 8 - f →
    F 3 = .int .i64 m → F 4 = .str acc → Ext h0 h →
    (∀ (F' : Fr) h', F' 4 = .str (acc ++ letters f m) → Ext h0 h' → Q (some (.exit 0, toL 33 F', h'))) →
    Q (C env (.loop lbK) (toL 33 F) h) := by
  intro f
  induction f with
  | zero =>
    intro m acc h F hm hf hl f3 f4 hE hQ
    have : m = 0 := by simpa using hm
    subst this
    rw [S_loop]
    conv => arg 1; arg 2; arg 2; simp only [lbK, bodyOf, Option.getD_some, atC, seqL, inC, elC, List.nil_append, List.cons_append, List.getElem?_cons_succ, List.getElem?_cons_zero, Try.f15]
    simp only [go_sem, seval, f3, f4]
    simp only [letters, List.append_nil] at hQ
    exact hQ _ h (by simp only [go_sem, seval, f4]) hE
  | succ f ih =>
    intro m acc h F hm hf hl f3 f4 hE hQ
    rw [S_loop]
    conv => arg 1; arg 2; arg 2; simp only [lbK, bodyOf, Option.getD_some, atC, seqL, inC, elC, List.nil_append, List.cons_append, List.getElem?_cons_succ, List.getElem?_cons_zero, Try.f15]
    by_cases h0 : m = 0
    · subst h0
      simp only [go_sem, seval, f3, f4]
      simp only [letters, if_true, List.append_nil] at hQ
      exact hQ _ h (by simp only [go_sem, seval, f4]) hE
    · have p1 : (0 : Int) < (m : Int) := by omega
      have p2 : (acc.length : Int) < 12 := by omega
      have hm6 : m / 6 < 6 ^ f := by rw [Nat.pow_succ] at hm; omega
      have r6 : (m : Int).tmod 6 = ((m % 6 : Nat) : Int) := rfl
      have q6 : (m : Int).tdiv 6 = ((m / 6 : Nat) : Int) := rfl
      have w1 : IntKind.i64.wrap (97 + ((m % 6 : Nat) : Int)) = 97 + ((m % 6 : Nat) : Int) := wrap_i64_small (by omega) (by omega)
      have w2 : IntKind.u8.wrap (97 + ((m % 6 : Nat) : Int)) = ((UInt8.ofNat (97 + m % 6)).toNat : Int) := by
        rw [IntKind.wrap_u8, UInt8.toNat_ofNat']; omega
      have hb : m < 2 ^ 30 := by have : 6 ^ (f + 1) ≤ 6 ^ 7 := Nat.pow_le_pow_right (by decide) hf; omega
      have w3 : IntKind.i64.wrap ((m / 6 : Nat) : Int) = ((m / 6 : Nat) : Int) := wrap_i64_small (by omega) (by omega)
      have ha : acc ++ letters (f + 1) m = (acc ++ [UInt8.ofNat (97 + m % 6)]) ++ letters f (m / 6) := by
        rw [letters, if_neg h0, List.append_assoc]; rfl
      have sa := fun t => str_add (P := Try.prog) t acc [UInt8.ofNat (97 + m % 6)] (by simp; omega)
      have ks : u8s [UInt8.ofNat (97 + m % 6)] = [NVal.int .u8 ((UInt8.ofNat (97 + m % 6)).toNat : Int)] := rfl
      rw [ha] at hQ
      have kb : bytesVals [NVal.int .u8 ((UInt8.ofNat (97 + m % 6)).toNat : Int)] = some [UInt8.ofNat (97 + m % 6)] := by rw [← ks]; exact u8s_bytes _
      simp only [go_sem, seval, f3, f4, p1, p2, bin_rem, bin_quo, r6, q6, w1, w2, w3, kStr, kb, sa]
      refine ih (m / 6) (acc ++ [UInt8.ofNat (97 + m % 6)]) _ _ hm6 (by omega) (by simp; omega) (by simp only [go_sem, seval]) (by simp only [go_sem, seval]) ?_ hQ
      repeat (first | exact Ext.refl _ | assumption | apply Ext.alloc | refine Ext.set ?_ (by first | omega | (simp only [NHeap.next_alloc, NHeap.next_set]; omega)) _)

theorem Term_K (n : Int) (h : NHeap) : ∃ h', K env 15 [.int .i64 n] h = some (.str (termI n), h') ∧ Ext h h' := by
  have hm : ∃ m : Nat, n % 1048576 = (m : Int) ∧ m < 1048576 := ⟨(n % 1048576).toNat, by omega, by omega⟩
  obtain ⟨m, hm, hm2⟩ := hm
  have e1 := within_K n 0 1048575 h (by decide) (by decide) (by decide)
  rw [show (0 : Int) + n % (1048575 - 0 + 1) = (m : Int) by omega] at e1
  have r4 : (m : Int).tmod 4 = ((m % 4 : Nat) : Int) := rfl
  have q4 : (m : Int).tdiv 4 = ((m / 4 : Nat) : Int) := rfl
  have w1 : IntKind.i64.wrap (97 + ((m % 4 : Nat) : Int)) = 97 + ((m % 4 : Nat) : Int) := wrap_i64_small (by omega) (by omega)
  have w2 : IntKind.u8.wrap (97 + ((m % 4 : Nat) : Int)) = ((UInt8.ofNat (97 + m % 4)).toNat : Int) := by
    rw [IntKind.wrap_u8, UInt8.toNat_ofNat']; omega
  have w3 : IntKind.i64.wrap ((m / 4 : Nat) : Int) = ((m / 4 : Nat) : Int) := wrap_i64_small (by omega) (by omega)
  have ks : u8s [UInt8.ofNat (97 + m % 4)] = [NVal.int .u8 ((UInt8.ofNat (97 + m % 4)).toNat : Int)] := rfl
  have kb : bytesVals [NVal.int .u8 ((UInt8.ofNat (97 + m % 4)).toNat : Int)] = some [UInt8.ofNat (97 + m % 4)] := by rw [← ks]; exact u8s_bytes _
  have hT : termI n = term m := by rw [termI, hm]; rfl
  rw [hT, k15 _ _ (by simp)]
  simp only [bodyOf, Option.getD_some, go_sem, seval, Try.f15, e1, bin_rem, bin_quo, r4, q4, w1, w2, w3, kStr, kb]
  have key := fun rest => loopK h (fun r => ∃ h', outF Try.prog [.tmp 2] (thenD env (blockC 0 r) rest) = some (.str (term m), h') ∧ Ext h h')
  refine key _ 7 (m / 4) [UInt8.ofNat (97 + m % 4)] _ _ (by omega) (by omega) (by simp) ?_ ?_ ?_ ?_
  · simp only [go_sem, seval]
  · simp only [go_sem, seval]
  · repeat (first | exact Ext.refl _ | assumption | apply Ext.alloc | refine Ext.set ?_ (by first | omega | (simp only [NHeap.next_alloc, NHeap.next_set]; omega)) _)
  · intro F' h' f4 hE
    refine ⟨h', ?_, hE⟩
    simp only [go_sem, seval, f4]
    rfl
end kp
end Go.Proofs.Ytblhpikljhholaa.S

namespace Go.Proofs.Ytblhpikljhholaa.S
open Go Go.RowKit Go.Proofs.Ytblhpikljhholaa.NICE
set_option maxRecDepth 100000
set_option linter.unusedSimpArgs false
set_option linter.unusedVariables false
namespace kp
open shape lin

def opF (names : Int) (o : lin.Op) (i : Nat) : lin.Op :=
  let t := termI (o.v % (names + 1))
  let k := 1 + o.k % 7
  if k = 1 ∨ k = 6 then ⟨1, t, [], 0⟩ else if k = 2 ∨ k = 7 then ⟨2, t, [], ((i + 1 : Nat) : Int)⟩ else if k = 3 then ⟨3, t, [], 0⟩ else if k = 4 then ⟨4, t.take 1, [], 1 + o.v % 16⟩ else ⟨5, [], [], 0⟩
def opsF (names : Int) : List lin.Op → Nat → List lin.Op
  | [], _ => []
  | o :: r, i => opF names o i :: opsF names r (i + 1)
theorem opsF_len (names : Int) : ∀ (l : List lin.Op) (i : Nat), (opsF names l i).length = l.length
  | [], _ => rfl
  | o :: r, i => by simp [opsF, opsF_len names r]
theorem Op.len (d : lin.Op) : d.c.length = 4 := rfl
theorem Op.one (d : lin.Op) : allOne d.c = true := rfl
theorem termI_pos (n : Int) : 1 ≤ (termI n).length := by simp [termI, term]
abbrev Ops (h : NHeap) (v : NVal) (l : List lin.Op) : Prop := Rw h 4 Op.c v l

noncomputable def lbP : Code := inC (inC (atC (bodyOf Try.f5) 3))

set_option maxHeartbeats 1000000 in
theorem loopP (hA : NHeap) (v : NVal) (ops : List lin.Op) (ho : Ops hA v ops) (hl : ops.length < 2 ^ 28) (names : Int) (n1 : 1 ≤ names) (n2 : names < 2 ^ 40) (F0 : Fr) (f1 : F0 1 = .int .i64 names) (f9 : F0 9 = v) (f10 : F0 10 = .int .i64 ops.length) (Q : Out → Prop)
    (hQ : ∀ (h : NHeap) (F : Fr) (rv : NVal), Ext hA h → Grow h rv 4 (rows Op.c (opsF names ops 0)) (opsF names ops 0).length → (∀ b ∈ blk rv, hA.next ≤ b) → F 5 = rv → Q (some (.exit 0, toL 69 F, h))) :
    ∀ (f i : Nat) (acc : List lin.Op) (rv : NVal) (h : NHeap) (F : Fr), i + f = ops.length → acc ++ opsF names (ops.drop i) i = opsF names ops 0 → acc.length = i → Ext hA h → Keep [1, 9, 10] F0 F → Grow h rv 4 (rows Op.c acc) acc.length → (∀ b ∈ blk rv, hA.next ≤ b) → F 5 = rv → F 11 = .int .i64 i → Q (C env (.loop lbP) (toL 69 F) h) := by
  intro f
  induction f with
  | zero =>
    intro i acc rv h F hi hk ha hE kp gw hb f5 f11
    have : i = ops.length := by omega
    subst this
    have f10' := (kp 10 rfl).trans f10
    have hacc : acc = opsF names ops 0 := by rw [← hk, List.drop_length, opsF, List.append_nil]
    rw [S_loop]
    conv => arg 1; arg 2; arg 2; simp only [lbP, bodyOf, Option.getD_some, atC, seqL, inC, elC, List.nil_append, List.cons_append, List.getElem?_cons_succ, List.getElem?_cons_zero, Try.f5]
    simp only [go_sem, seval, f10', f11]
    exact hQ h _ rv hE (by rw [← hacc]; exact gw) hb (by simp only [go_sem, seval, f5])
  | succ f ih =>
    intro i acc rv h F hi hk ha hE kp gw hb f5 f11
    have f1' := (kp 1 rfl).trans f1
    have f9' := (kp 9 rfl).trans f9
    have f10' := (kp 10 rfl).trans f10
    obtain ⟨o, hoi⟩ : ∃ o, ops[i]? = some o := ⟨ops[i]'(by omega), List.getElem?_eq_getElem (by omega)⟩
    obtain ⟨b, oo, c', x', all, mm, hv', gA, row, hle⟩ := Sl.elem Op.len (ho.ext hE) hoi
    rw [hv'] at f9'
    rw [drop_at hoi, opsF] at hk
    have i0 : (0 : Int) ≤ (i : Int) := by omega
    have i1 : (i : Int) < (ops.length : Int) := by omega
    have w1 : IntKind.i64.wrap ((i : Int) + 1) = ((i + 1 : Nat) : Int) := by rw [wrap_i64_small (by omega) (by omega)]; omega
    have nb : ¬ b = h.next := by have := NHeap.get_lt gA; omega
    obtain ⟨H, hH⟩ : ∃ H, (h.alloc (.cells [.int .i64 0, .str [], .str [], .int .i64 0] (.own (some (29, 4))))).set h.next (.cells o.c (.own (some (29, 4)))) = H := ⟨_, rfl⟩
    have xH : Ext h H := by rw [← hH]; exact ((Ext.refl h).alloc _).set (Nat.le_refl _) _
    have gH : H.get h.next = some (.cells o.c (.own (some (29, 4)))) := by rw [← hH]; exact NHeap.get_set_same (by simp)
    have nm : (if names < 1 then (1 : Int) else names) = names := if_neg (by omega)
    have e1 := within_K o.v 0 names H (by decide) (by omega) (by omega)
    rw [show (0 : Int) + o.v % (names - 0 + 1) = o.v % (names + 1) by rw [Int.zero_add, Int.sub_zero]] at e1
    obtain ⟨h1, e2, x1⟩ := Term_K (o.v % (names + 1)) H
    have e3 := within_K o.k 0 6 h1 (by decide) (by decide) (by decide)
    rw [show (0 : Int) + o.k % (6 - 0 + 1) = o.k % 7 by rw [Int.zero_add]; rfl] at e3
    have g1 := x1.get gH
    have nb2 : ¬ h.next = h1.next := by have := x1.next; rw [← hH] at this; simp at this; omega
    have xx := hE.trans (xH.trans x1)
    obtain ⟨t, ht⟩ : ∃ t, termI (o.v % (names + 1)) = t := ⟨_, rfl⟩
    have tpos := termI_pos (o.v % (names + 1))
    rw [ht] at e2 tpos
    have app : ∀ (o' : lin.Op) HB, Ext h1 HB → HB.next = h1.next + 1 → HB.get h1.next = some (.cells o'.c (.own none)) → ∃ v' h', nappend Try.prog 22 22 rv (.slice (some (h1.next, 0)) 1 1 none) HB = some (v', h') ∧ Grow h' v' 4 (rows Op.c (acc ++ [o'])) (acc ++ [o']).length ∧ Ext hA h' ∧ HB.next ≤ h'.next ∧ (∀ b ∈ blk v', hA.next ≤ b) := by
      intro o' HB xB nB gB
      have sB : Rw HB 4 Op.c (.slice (some (h1.next, 0)) 1 1 none) [o'] := by
        rw [Rw, rows_cons, rows_nil, List.append_nil]
        exact Sl.whole gB rfl (Nat.le_refl _) (.inl rfl)
      have xhB := (xH.trans x1).trans xB
      obtain ⟨v', h', a1, a2, a3, a4⟩ := grow_app (P := Try.prog) Op.len Op.one Try.underlying22 sz29 by29 ze29 rfl (by decide) (gw.upd (Upd.of_ext xhB) (by simp)).e sB (by simp; omega) (by simp; omega)
      obtain ⟨-, n4, v4⟩ := a4.resolve_left (by simp)
      refine ⟨v', h', a1, a2.g (by simp), ?_, a3.next, ?_⟩
      · exact Upd.ext ((Upd.of_ext (xx.trans xB)).trans' a3 fun b hb' => .inr (hb b hb'))
      · intro b hb'
        rw [v4] at hb'
        simp [blk] at hb'
        have := (xx.trans xB).next
        omega
    have done : ∀ (o' : lin.Op) v' h' (F' : Fr), opF names o i = o' → Grow h' v' 4 (rows Op.c (acc ++ [o'])) (acc ++ [o']).length → Ext hA h' → (∀ b ∈ blk v', hA.next ≤ b) → Keep [1, 9, 10] F0 F' → F' 5 = v' → F' 11 = .int .i64 ((i + 1 : Nat) : Int) → Q (C env (.loop lbP) (toL 69 F') h') := by
      intro o' v' h' F' ho' g' x' b' k' f5' f11'
      exact ih (i + 1) (acc ++ [o']) v' h' F' (by omega) (by rw [← hk, ho', List.append_assoc]; rfl) (by simp [ha]) x' k' g' b' f5' f11'
    have hm : 0 ≤ o.k % 7 ∧ o.k % 7 < 7 := by omega
    have hF : ∀ k, 1 + o.k % 7 = k → opF names o i = (if k = 1 ∨ k = 6 then ⟨1, t, [], 0⟩ else if k = 2 ∨ k = 7 then ⟨2, t, [], ((i + 1 : Nat) : Int)⟩ else if k = 3 then ⟨3, t, [], 0⟩ else if k = 4 then ⟨4, t.take 1, [], 1 + o.v % 16⟩ else ⟨5, [], [], 0⟩) := by
      intro k hk; simp only [opF, hk, ht]
    rw [S_loop]
    conv => arg 1; arg 2; arg 2; simp only [lbP, bodyOf, Option.getD_some, atC, seqL, inC, elC, List.nil_append, List.cons_append, List.getElem?_cons_succ, List.getElem?_cons_zero, Try.f5]
    have we : ∀ k : Int, 1 + o.k % 7 = k → IntKind.i64.wrap (1 + o.k % 7) = k := fun k hk => by rw [hk, wrap_i64_small (by omega) (by omega)]
    have hkk : 1 + o.k % 7 = 1 ∨ 1 + o.k % 7 = 2 ∨ 1 + o.k % 7 = 3 ∨ 1 + o.k % 7 = 4 ∨ 1 + o.k % 7 = 5 ∨ 1 + o.k % 7 = 6 ∨ 1 + o.k % 7 = 7 := by omega
    rcases hkk with hq | hq | hq | hq | hq | hq | hq
    · have wk := we _ hq
      have ho' := hF _ hq
      obtain ⟨HB, hHB⟩ : ∃ HB, h1.alloc (.cells (⟨1, t, [], 0⟩ : lin.Op).c (.own none)) = HB := ⟨_, rfl⟩
      have xB : Ext h1 HB := by rw [← hHB]; exact (Ext.refl h1).alloc _
      have nB : HB.next = h1.next + 1 := by rw [← hHB]; rfl
      obtain ⟨v', h', a1, a2, a3, a4, a5⟩ := app ⟨1, t, [], 0⟩ HB xB nB (by rw [← hHB]; exact by simp [NHeap.get_alloc])
      simp only [go_sem, seval, f1', f5, f9', f10', f11, i0, i1, gA, row, hle, nb, hH, gH, nm, e1, e2, g1, e3, wk, w1, hHB, a1]
      refine done _ v' h' _ (by rw [ho']; rfl) a2 a3 a5 ?_ (by simp only [go_sem, seval]) (by simp only [go_sem, seval])
      repeat (first | exact kp | refine Keep.upd ?_ rfl)
    · have wk := we _ hq
      have ho' := hF _ hq
      obtain ⟨HB, hHB⟩ : ∃ HB, h1.alloc (.cells (⟨2, t, [], ((i + 1 : Nat) : Int)⟩ : lin.Op).c (.own none)) = HB := ⟨_, rfl⟩
      have xB : Ext h1 HB := by rw [← hHB]; exact (Ext.refl h1).alloc _
      have nB : HB.next = h1.next + 1 := by rw [← hHB]; rfl
      obtain ⟨v', h', a1, a2, a3, a4, a5⟩ := app ⟨2, t, [], ((i + 1 : Nat) : Int)⟩ HB xB nB (by rw [← hHB]; exact by simp [NHeap.get_alloc])
      simp only [go_sem, seval, f1', f5, f9', f10', f11, i0, i1, gA, row, hle, nb, hH, gH, nm, e1, e2, g1, e3, wk, w1, hHB, a1]
      refine done _ v' h' _ (by rw [ho']; rfl) a2 a3 a5 ?_ (by simp only [go_sem, seval]) (by simp only [go_sem, seval])
      repeat (first | exact kp | refine Keep.upd ?_ rfl)
    · have wk := we _ hq
      have ho' := hF _ hq
      obtain ⟨HB, hHB⟩ : ∃ HB, h1.alloc (.cells (⟨3, t, [], 0⟩ : lin.Op).c (.own none)) = HB := ⟨_, rfl⟩
      have xB : Ext h1 HB := by rw [← hHB]; exact (Ext.refl h1).alloc _
      have nB : HB.next = h1.next + 1 := by rw [← hHB]; rfl
      obtain ⟨v', h', a1, a2, a3, a4, a5⟩ := app ⟨3, t, [], 0⟩ HB xB nB (by rw [← hHB]; exact by simp [NHeap.get_alloc])
      simp only [go_sem, seval, f1', f5, f9', f10', f11, i0, i1, gA, row, hle, nb, hH, gH, nm, e1, e2, g1, e3, wk, w1, hHB, a1]
      refine done _ v' h' _ (by rw [ho']; rfl) a2 a3 a5 ?_ (by simp only [go_sem, seval]) (by simp only [go_sem, seval])
      repeat (first | exact kp | refine Keep.upd ?_ rfl)
    · have wk := we _ hq
      have ho' := hF _ hq
      obtain ⟨HB, hHB⟩ : ∃ HB, (h1.alloc .dead).set h1.next (.cells (⟨4, t.take 1, [], 1 + o.v % 16⟩ : lin.Op).c (.own none)) = HB := ⟨_, rfl⟩
      have xB : Ext h1 HB := by rw [← hHB]; exact ((Ext.refl h1).alloc _).set (Nat.le_refl _) _
      have nB : HB.next = h1.next + 1 := by rw [← hHB]; rfl
      obtain ⟨v', h', a1, a2, a3, a4, a5⟩ := app ⟨4, t.take 1, [], 1 + o.v % 16⟩ HB xB nB (by rw [← hHB]; exact NHeap.get_set_same (by simp))
      have ev := within_K o.v 0 15 (h1.alloc .dead) (by decide) (by decide) (by decide)
      rw [show (0 : Int) + o.v % (15 - 0 + 1) = o.v % 16 by rw [Int.zero_add]; rfl] at ev
      have wv : IntKind.i64.wrap (1 + o.v % 16) = 1 + o.v % 16 := wrap_i64_small (by omega) (by omega)
      have ts : (1 : Int) ≤ (t.length : Int) := by omega
      simp only [go_sem, seval, f1', f5, f9', f10', f11, i0, i1, gA, row, hle, nb, hH, gH, nm, e1, e2, g1, e3, wk, w1, ev, wv, ts, a4, nb2, hHB, a1, nslice, nbound]
      refine done _ v' h' _ (by rw [ho']; rfl) a2 a3 a5 ?_ (by simp only [go_sem, seval]) (by simp only [go_sem, seval])
      repeat (first | exact kp | refine Keep.upd ?_ rfl)
    · have wk := we _ hq
      have ho' := hF _ hq
      obtain ⟨HB, hHB⟩ : ∃ HB, h1.alloc (.cells (⟨5, [], [], 0⟩ : lin.Op).c (.own none)) = HB := ⟨_, rfl⟩
      have xB : Ext h1 HB := by rw [← hHB]; exact (Ext.refl h1).alloc _
      have nB : HB.next = h1.next + 1 := by rw [← hHB]; rfl
      obtain ⟨v', h', a1, a2, a3, a4, a5⟩ := app ⟨5, [], [], 0⟩ HB xB nB (by rw [← hHB]; exact by simp [NHeap.get_alloc])
      simp only [go_sem, seval, f1', f5, f9', f10', f11, i0, i1, gA, row, hle, nb, hH, gH, nm, e1, e2, g1, e3, wk, w1, hHB, a1]
      refine done _ v' h' _ (by rw [ho']; rfl) a2 a3 a5 ?_ (by simp only [go_sem, seval]) (by simp only [go_sem, seval])
      repeat (first | exact kp | refine Keep.upd ?_ rfl)
    · have wk := we _ hq
      have ho' := hF _ hq
      obtain ⟨HB, hHB⟩ : ∃ HB, h1.alloc (.cells (⟨1, t, [], 0⟩ : lin.Op).c (.own none)) = HB := ⟨_, rfl⟩
      have xB : Ext h1 HB := by rw [← hHB]; exact (Ext.refl h1).alloc _
      have nB : HB.next = h1.next + 1 := by rw [← hHB]; rfl
      obtain ⟨v', h', a1, a2, a3, a4, a5⟩ := app ⟨1, t, [], 0⟩ HB xB nB (by rw [← hHB]; exact by simp [NHeap.get_alloc])
      simp only [go_sem, seval, f1', f5, f9', f10', f11, i0, i1, gA, row, hle, nb, hH, gH, nm, e1, e2, g1, e3, wk, w1, hHB, a1]
      refine done _ v' h' _ (by rw [ho']; rfl) a2 a3 a5 ?_ (by simp only [go_sem, seval]) (by simp only [go_sem, seval])
      repeat (first | exact kp | refine Keep.upd ?_ rfl)
    · have wk := we _ hq
      have ho' := hF _ hq
      obtain ⟨HB, hHB⟩ : ∃ HB, h1.alloc (.cells (⟨2, t, [], ((i + 1 : Nat) : Int)⟩ : lin.Op).c (.own none)) = HB := ⟨_, rfl⟩
      have xB : Ext h1 HB := by rw [← hHB]; exact (Ext.refl h1).alloc _
      have nB : HB.next = h1.next + 1 := by rw [← hHB]; rfl
      obtain ⟨v', h', a1, a2, a3, a4, a5⟩ := app ⟨2, t, [], ((i + 1 : Nat) : Int)⟩ HB xB nB (by rw [← hHB]; exact by simp [NHeap.get_alloc])
      simp only [go_sem, seval, f1', f5, f9', f10', f11, i0, i1, gA, row, hle, nb, hH, gH, nm, e1, e2, g1, e3, wk, w1, hHB, a1]
      refine done _ v' h' _ (by rw [ho']; rfl) a2 a3 a5 ?_ (by simp only [go_sem, seval]) (by simp only [go_sem, seval])
      repeat (first | exact kp | refine Keep.upd ?_ rfl)

theorem Ops_K (h : NHeap) (v : NVal) (ops : List lin.Op) (ho : Ops h v ops) (hl : ops.length < 2 ^ 28) (names : Int) (n1 : 1 ≤ names) (n2 : names < 2 ^ 40) :
    ∃ v' h', K env 5 [v, .int .i64 names] h = some (v', h') ∧ Ext h h' ∧ Ops h' v' (opsF names ops 0) := by
  obtain ⟨bo, c, xq, hv⟩ := ho.form
  rw [k5 _ _ (by simp)]
  simp only [bodyOf, Option.getD_some, go_sem, seval, Try.f5, hv]
  have key := fun rest F f1 f9 f10 => loopP h v ops ho hl names n1 n2 F f1 f9 f10 (fun r => ∃ v' h', outF Try.prog [.tmp 4] (thenD env (blockC 0 r) rest) = some (v', h') ∧ Ext h h' ∧ Ops h' v' (opsF names ops 0))
  refine key _ _ ?_ ?_ ?_ ?_ ops.length 0 [] (.slice none 0 0 none) h _ (by omega) (by simp) (by simp) (Ext.refl _) (Keep.refl _ _) (Grow.nil _ _) (by simp [blk]) ?_ ?_
  · simp only [go_sem, seval]
  · simp only [go_sem, seval, hv]
  · simp only [go_sem, seval]
  · intro h' F rv hE gw hb f5
    refine ⟨rv, h', ?_, hE, gw.sl⟩
    simp only [go_sem, seval, f5]
  · simp only [go_sem, seval]
  · simp only [go_sem, seval]

/-! two rows of the same entries -/
theorem neq_ent (a b : Ent) : NICE.neq Try.prog 6 35 (.agg [.str a.1, .int .i64 a.2]) (.agg [.str b.1, .int .i64 b.2]) = some (a.1 == b.1 && a.2 == b.2) := by
  have e : NICE.neq Try.prog 6 35 (.agg [.str a.1, .int .i64 a.2]) (.agg [.str b.1, .int .i64 b.2]) = (match a.1 == b.1 with | false => some false | true => match a.2 == b.2 with | false => some false | true => some true) := by kernel_rfl
  rw [e]
  cases a.1 == b.1 <;> cases a.2 == b.2 <;> rfl
theorem bin_ent (a : Ent) : nbin Try.prog .neq 35 (.agg [.str a.1, .int .i64 a.2]) (.agg [.str a.1, .int .i64 a.2]) = some (.bool false) := by
  have e : nbin Try.prog .neq 35 (.agg [.str a.1, .int .i64 a.2]) (.agg [.str a.1, .int .i64 a.2]) = (match NICE.neq Try.prog 6 35 (.agg [.str a.1, .int .i64 a.2]) (.agg [.str a.1, .int .i64 a.2]) with | some b => some (.bool !b) | none => nsame Try.prog 35 (.agg [.str a.1, .int .i64 a.2]) (.agg [.str a.1, .int .i64 a.2]) false) := rfl
  rw [e, neq_ent]
  simp

noncomputable def lbQ : Code := inC (inC (atC (bodyOf Try.f11) 4))

theorem loopQ (h : NHeap) (v1 v2 : NVal) (l : List Ent) (s1 : Ents h v1 l) (s2 : Ents h v2 l) (hl : l.length < 2 ^ 40) (Q : Out → Prop)
    (hQ : ∀ (F : Fr), Q (some (.exit 0, toL 26 F, h))) :
    ∀ (f i : Nat) (F : Fr), i + f = l.length → F 0 = v1 → F 1 = v2 → F 5 = .int .i64 i → Q (C env (.loop lbQ) (toL 26 F) h) := by
  intro f
  induction f with
  | zero =>
    intro i F hi f0 f1 f5
    have : i = l.length := by omega
    subst this
    obtain ⟨bo, c, xq, hv⟩ := s1.form
    rw [hv] at f0
    rw [S_loop]
    conv => arg 1; arg 2; arg 2; simp only [lbQ, bodyOf, Option.getD_some, atC, seqL, inC, elC, List.nil_append, List.cons_append, List.getElem?_cons_succ, List.getElem?_cons_zero, Try.f11]
    simp only [go_sem, seval, f0, f5]
    exact hQ _
  | succ f ih =>
    intro i F hi f0 f1 f5
    obtain ⟨e, he⟩ : ∃ e, l[i]? = some e := ⟨l[i]'(by omega), List.getElem?_eq_getElem (by omega)⟩
    obtain ⟨b, o, c, x, all, m, hv1, gA, row, hle⟩ := Sl.elem (f := fun e : Ent => [NVal.str e.1, .int .i64 e.2]) entL s1 he
    obtain ⟨b', o', c', x', all', m', hv2, gA', row', hle'⟩ := Sl.elem (f := fun e : Ent => [NVal.str e.1, .int .i64 e.2]) entL s2 he
    have i0 : (0 : Int) ≤ (i : Int) := by omega
    have i1 : (i : Int) < (l.length : Int) := by omega
    have w1 : IntKind.i64.wrap ((i : Int) + 1) = ((i + 1 : Nat) : Int) := by rw [wrap_i64_small (by omega) (by omega)]; omega
    have be := bin_ent e
    have f0' := f0
    have f1' := f1
    rw [hv1] at f0
    rw [hv2] at f1
    rw [S_loop]
    conv => arg 1; arg 2; arg 2; simp only [lbQ, bodyOf, Option.getD_some, atC, seqL, inC, elC, List.nil_append, List.cons_append, List.getElem?_cons_succ, List.getElem?_cons_zero, Try.f11]
    simp only [go_sem, seval, f0, f1, f5, i0, i1, gA, gA', row, row', hle, hle', be, w1]
    exact ih (i + 1) _ (by omega) (by simp only [go_sem, seval, f0']) (by simp only [go_sem, seval, f1']) (by simp only [go_sem, seval])

theorem Same_K (h : NHeap) (v1 v2 : NVal) (l : List Ent) (s1 : Ents h v1 l) (s2 : Ents h v2 l) (hl : l.length < 2 ^ 40) : K env 11 [v1, v2] h = some (.bool true, h) := by
  obtain ⟨bo, c, xq, hv⟩ := s1.form
  obtain ⟨bo', c', xq', hv'⟩ := s2.form
  rw [k11 _ _ (by simp)]
  simp only [bodyOf, Option.getD_some, go_sem, seval, Try.f11, hv, hv']
  have key := fun rest => loopQ h v1 v2 l s1 s2 hl (fun r => outF Try.prog [.tmp 4] (thenD env (blockC 0 r) rest) = some (.bool true, h))
  refine key _ ?_ l.length 0 _ (by omega) ?_ ?_ ?_
  · intro F
    simp only [go_sem, seval]
  · simp only [go_sem, seval, hv]
  · simp only [go_sem, seval, hv']
  · simp only [go_sem, seval]
end kp
end Go.Proofs.Ytblhpikljhholaa.S

namespace Go.Proofs.Ytblhpikljhholaa.S
open Go Go.RowKit Go.Proofs.Ytblhpikljhholaa.NICE
set_option maxRecDepth 100000
set_option linter.unusedSimpArgs false
set_option linter.unusedVariables false
namespace linMap
open shape lin kp

def zAns : Ans := ⟨0, false, 0, none, 0, 0, none⟩
def ansF (m : List Ent) (o : lin.Op) : Ans := ⟨0, (value m o.t).2, (value m o.t).1, none, 0, 0, none⟩
def nextM (m : List Ent) (o : lin.Op) : List Ent := if o.k = 2 then (put m (o.t, o.v)).1 else if o.k = 3 then (drop m o.t).1 else m
def doneAt (m : List Ent) (n : Nat) (o : lin.Op) (i : Nat) : Done := ⟨((i % 3 : Nat) : Int), (n : Int), o, ansF m o⟩
def evsAt (m : List Ent) (o : lin.Op) (i : Nat) : List Ev := [⟨1, ((i % 3 : Nat) : Int), o, zAns⟩, ⟨2, ((i % 3 : Nat) : Int), o, ansF m o⟩]
abbrev St := List Ent × List Done × List Ev
def stepM (s : St) (o : lin.Op) (i : Nat) : St := if o.k = 4 ∨ o.k = 5 then s else (nextM s.1 o, s.2.1 ++ [doneAt s.1 s.2.2.length o i], s.2.2 ++ evsAt s.1 o i)
def goM : List lin.Op → Nat → St → St
  | [], _, s => s
  | o :: r, i, s => goM r (i + 1) (stepM s o i)
theorem nextM_len (m : List Ent) (o : lin.Op) : (nextM m o).length ≤ m.length + 1 := by
  unfold nextM
  split
  · exact put_len _ _
  · split
    · have := drop_len m o.t; omega
    · omega
theorem stepM_len (s : St) (o : lin.Op) (i : Nat) : (stepM s o i).1.length ≤ s.1.length + 1 ∧ (stepM s o i).2.1.length ≤ s.2.1.length + 1 ∧ (stepM s o i).2.2.length ≤ s.2.2.length + 2 := by
  unfold stepM
  split
  · omega
  · have := nextM_len s.1 o
    simp [evsAt]; omega

noncomputable def lbM : Code := inC (inC (atC (bodyOf Try.f3) 5))

set_option maxHeartbeats 4000000 in
theorem loopM (hA : NHeap) (v : NVal) (ops : List lin.Op) (ho : Ops hA v ops) (hl : ops.length < 2 ^ 20) (hk : ∀ o ∈ ops, 1 ≤ o.k ∧ o.k ≤ 5) (F0 : Fr) (f21 : F0 21 = v) (f22 : F0 22 = .int .i64 ops.length) (R : St) (Q : Out → Prop)
    (hQ : ∀ (h : NHeap) (F : Fr) (mv lv hv : NVal), Ext hA h → Ents h mv R.1 → Grow h lv 10 (rows Done.c R.2.1) R.2.1.length → Grow h hv 10 (rows Ev.c R.2.2) R.2.2.length → F 5 = mv → F 6 = lv → F 7 = hv → Q (some (.exit 0, toL 135 F, h))) :
    ∀ (f i : Nat) (m : List Ent) (l : List Done) (es : List Ev) (mv lv hv : NVal) (h : NHeap) (F : Fr), i + f = ops.length → goM (ops.drop i) i (m, l, es) = R → m.length ≤ i → l.length ≤ i → es.length ≤ i * 2 → Ext hA h → Keep [21, 22] F0 F →
      Ents h mv m → Grow h lv 10 (rows Done.c l) l.length → Grow h hv 10 (rows Ev.c es) es.length → (m.length = 0 ∨ ∀ b ∈ blk mv, b ∉ blk lv ∧ b ∉ blk hv) → (∀ b ∈ blk lv, b ∉ blk hv ∧ hA.next ≤ b) → (∀ b ∈ blk hv, hA.next ≤ b) →
      F 5 = mv → F 6 = lv → F 7 = hv → F 23 = .int .i64 i → Q (C env (.loop lbM) (toL 135 F) h) := by
  intro f
  induction f with
  | zero =>
    intro i m l es mv lv hv h F hi hr l0 l1 l2 hE kp sm gl gh d1 d2 d3 f5 f6 f7 f23
    have : i = ops.length := by omega
    subst this
    have f22' := (kp 22 rfl).trans f22
    rw [List.drop_length, goM] at hr
    subst hr
    rw [S_loop]
    conv => arg 1; arg 2; arg 2; simp only [lbM, bodyOf, Option.getD_some, atC, seqL, inC, elC, List.nil_append, List.cons_append, List.getElem?_cons_succ, List.getElem?_cons_zero, Try.f3]
    simp only [go_sem, seval, f22', f23]
    exact hQ h _ mv lv hv hE sm gl gh (by simp only [go_sem, seval, f5]) (by simp only [go_sem, seval, f6]) (by simp only [go_sem, seval, f7])
  | succ f ih =>
    intro i m l es mv lv hv h F hi hr l0 l1 l2 hE kp sm gl gh d1 d2 d3 f5 f6 f7 f23
    have f21' := (kp 21 rfl).trans f21
    have f22' := (kp 22 rfl).trans f22
    obtain ⟨o, hoi⟩ : ∃ o, ops[i]? = some o := ⟨ops[i]'(by omega), List.getElem?_eq_getElem (by omega)⟩
    obtain ⟨ok1, ok5⟩ := hk o (List.mem_of_getElem? hoi)
    obtain ⟨b, oo, c', x', all, mm, hv', gA, row, hle⟩ := Sl.elem Op.len (ho.ext hE) hoi
    rw [hv'] at f21'
    rw [drop_at hoi, goM] at hr
    have i0 : (0 : Int) ≤ (i : Int) := by omega
    have i1 : (i : Int) < (ops.length : Int) := by omega
    have w1 : IntKind.i64.wrap ((i : Int) + 1) = ((i + 1 : Nat) : Int) := by rw [wrap_i64_small (by omega) (by omega)]; omega
    have nb : ¬ b = h.next := by have := NHeap.get_lt gA; omega
    obtain ⟨H, hH⟩ : ∃ H, (h.alloc (.cells [.int .i64 0, .str [], .str [], .int .i64 0] (.own (some (29, 4))))).set h.next (.cells o.c (.own (some (29, 4)))) = H := ⟨_, rfl⟩
    have xH : Ext h H := by rw [← hH]; exact ((Ext.refl h).alloc _).set (Nat.le_refl _) _
    have nH : H.next = h.next + 1 := by rw [← hH]; rfl
    have gH : H.get h.next = some (.cells o.c (.own (some (29, 4)))) := by rw [← hH]; exact NHeap.get_set_same (by simp)
    have hkeep : ∀ {F'}, Keep [21, 22] F0 F' → Keep [21, 22] F0 F' := fun q => q
    by_cases c45 : o.k = 4 ∨ o.k = 5
    case pos =>
      have hs : stepM (m, l, es) o i = (m, l, es) := by rw [stepM, if_pos c45]
      rw [hs] at hr
      have go : ∀ F', Keep [21, 22] F0 F' → F' 5 = mv → F' 6 = lv → F' 7 = hv → F' 23 = .int .i64 ((i + 1 : Nat) : Int) → Q (C env (.loop lbM) (toL 135 F') H) := fun F' q1 q2 q3 q4 q5 =>
        ih (i + 1) m l es mv lv hv H F' (by omega) hr (by omega) (by omega) (by omega) (hE.trans xH) q1 (sm.ext xH) (gl.upd (Upd.of_ext xH) (by simp)) (gh.upd (Upd.of_ext xH) (by simp)) d1 d2 d3 q2 q3 q4 q5
      rw [S_loop]
      conv => arg 1; arg 2; arg 2; simp only [lbM, bodyOf, Option.getD_some, atC, seqL, inC, elC, List.nil_append, List.cons_append, List.getElem?_cons_succ, List.getElem?_cons_zero, Try.f3]
      rcases c45 with c | c
      · simp only [go_sem, seval, f21', f22', f23, i0, i1, gA, row, hle, nb, hH, gH, c, w1]
        refine go _ ?_ (by simp only [go_sem, seval, f5]) (by simp only [go_sem, seval, f6]) (by simp only [go_sem, seval, f7]) (by simp only [go_sem, seval])
        repeat (first | exact kp | refine Keep.upd ?_ rfl)
      · simp only [go_sem, seval, f21', f22', f23, i0, i1, gA, row, hle, nb, hH, gH, c, w1]
        refine go _ ?_ (by simp only [go_sem, seval, f5]) (by simp only [go_sem, seval, f6]) (by simp only [go_sem, seval, f7]) (by simp only [go_sem, seval])
        repeat (first | exact kp | refine Keep.upd ?_ rfl)
    case neg =>
    have n4 : ¬ o.k = 4 := fun q => c45 (.inl q)
    have n5 : ¬ o.k = 5 := fun q => c45 (.inr q)
    obtain ⟨H1, hH1⟩ : ∃ H1, H.alloc (.cells [.int .i64 0, .bool false, .int .i64 0, .slice none 0 0 none] (.own (some (32, 4)))) = H1 := ⟨_, rfl⟩
    have xH1 : Ext H H1 := by rw [← hH1]; exact (Ext.refl H).alloc _
    have nH1 : H1.next = H.next + 1 := by rw [← hH1]; rfl
    have gH1 : H1.get H.next = some (.cells [.int .i64 0, .bool false, .int .i64 0, .slice none 0 0 none] (.own (some (32, 4)))) := by rw [← hH1]; simp [NHeap.get_alloc]
    obtain ⟨h2, e2, x2⟩ := Seek_K H1 mv m ((sm.ext xH).ext xH1) (by omega) o.t
    have x02 := (xH.trans xH1).trans x2
    have gO2 := x2.get (xH1.get gH)
    have gA2 := x2.get gH1
    have gOH1 := xH1.get gH
    have nx2 := x2.next
    have lvlt := gl.lt
    have hvlt := gh.lt
    obtain ⟨hb, hc, hx, hhv⟩ := gh.sl.form
    have wmod : (i : Int).tmod 3 = ((i % 3 : Nat) : Int) := rfl
    -- what stands behind the change of the map is alike for all
    have tail : ∀ (h4 : NHeap) (mv' : NVal), Ext h h4 → H.next < h4.next → h4.get h.next = some (.cells o.c (.own (some (29, 4)))) → h4.get H.next = some (.cells (ansF m o).c (.own (some (32, 4)))) → Ents h4 mv' (nextM m o) → ((mv' = mv ∧ nextM m o = m) ∨ ∀ b ∈ blk mv', h.next ≤ b) →
        ∃ lv' h5 hv' h7 H4 H6, h4.alloc (.cells (doneAt m es.length o i).c (.own none)) = H4 ∧ nappend Try.prog 24 24 lv (.slice (some (h4.next, 0)) 1 1 none) H4 = some (lv', h5) ∧ h5.get h.next = some (.cells o.c (.own (some (29, 4)))) ∧ h5.get H.next = some (.cells (ansF m o).c (.own (some (32, 4)))) ∧
          h5.alloc (.cells (rows Ev.c (evsAt m o i)) (.own none)) = H6 ∧ nappend Try.prog 25 25 hv (.slice (some (h5.next, 0)) 2 2 none) H6 = some (hv', h7) ∧
          ∀ F', Keep [21, 22] F0 F' → F' 5 = mv' → F' 6 = lv' → F' 7 = hv' → F' 23 = .int .i64 ((i + 1 : Nat) : Int) → Q (C env (.loop lbM) (toL 135 F') h7) := by
      intro h4 mv' x4 n4' gO gAns sm' dm
      have x4n := x4.next
      obtain ⟨d, hd⟩ : ∃ d, doneAt m es.length o i = d := ⟨_, rfl⟩
      obtain ⟨ev, hev⟩ : ∃ ev, evsAt m o i = ev := ⟨_, rfl⟩
      have evl : ev.length = 2 := by rw [← hev]; rfl
      obtain ⟨H4, hH4⟩ : ∃ H4, h4.alloc (.cells d.c (.own none)) = H4 := ⟨_, rfl⟩
      have xH4 : Ext h4 H4 := by rw [← hH4]; exact (Ext.refl h4).alloc _
      have nH4 : H4.next = h4.next + 1 := by rw [← hH4]; rfl
      have gD : H4.get h4.next = some (.cells d.c (.own none)) := by rw [← hH4]; simp [NHeap.get_alloc]
      have sD : Rw H4 10 Done.c (.slice (some (h4.next, 0)) 1 1 none) [d] := by
        rw [Rw, rows_cons, rows_nil, List.append_nil]
        exact Sl.whole gD rfl (Nat.le_refl _) (.inl rfl)
      obtain ⟨lv', h5, e5, g5, u5, o5⟩ := grow_app (P := Try.prog) Done.len Done.one Try.underlying24 sz40 by40 ze40 rfl (by decide) (gl.upd (Upd.of_ext (x4.trans xH4)) (by simp)).e sD (by simp; omega) (by simp; omega)
      obtain ⟨-, n5', v5⟩ := o5.resolve_left (by simp)
      have g5 := g5.g (by simp)
      have u5h : Upd (blk lv) h4 h5 := ((Upd.of_ext xH4).mono (by simp)).trans u5
      obtain ⟨H6, hH6⟩ : ∃ H6, h5.alloc (.cells (rows Ev.c ev) (.own none)) = H6 := ⟨_, rfl⟩
      have xH6 : Ext h5 H6 := by rw [← hH6]; exact (Ext.refl h5).alloc _
      have nH6 : H6.next = h5.next + 1 := by rw [← hH6]; rfl
      have gV : H6.get h5.next = some (.cells (rows Ev.c ev) (.own none)) := by rw [← hH6]; simp [NHeap.get_alloc]
      have sV : Rw H6 10 Ev.c (.slice (some (h5.next, 0)) 2 2 none) ev := by
        rw [Rw, evl]
        exact Sl.whole gV (by rw [rows_len Ev.len, evl]) (Nat.le_refl _) (.inl rfl)
      have hvlv : ∀ b ∈ blk hv, b ∉ blk lv := fun b q q' => (d2 b q').1 q
      have u6h : Upd (blk lv) h4 H6 := u5h.trans' (Upd.of_ext xH6) (by simp)
      have u6hh : Upd (blk lv) h H6 := ((Upd.of_ext x4).mono (by simp)).trans u6h
      obtain ⟨hv2, h7, e7, g7, u7, o7⟩ := grow_app (P := Try.prog) Ev.len Ev.one Try.underlying25 sz42 by42 ze42 rfl (by decide) (gh.upd u6hh hvlv).e sV (by omega) (by omega)
      obtain ⟨-, n7, v7⟩ := o7.resolve_left (by rw [← hev]; simp [evsAt])
      have g7 := g7.g (by rw [List.length_append]; omega)
      have bl : blk lv' = [H4.next] := by rw [v5]; rfl
      have bh : blk hv2 = [H6.next] := by rw [v7]; rfl
      refine ⟨lv', h5, hv2, h7, H4, H6, by rw [hd]; exact hH4, e5, u5h.get gO fun q => by have := lvlt _ q; omega, u5h.get gAns fun q => by have := lvlt _ q; omega, by rw [hev]; exact hH6, e7, ?_⟩
      intro F' q1 q2 q3 q4 q5
      have hs : stepM (m, l, es) o i = (nextM m o, l ++ [d], es ++ ev) := by rw [stepM, if_neg c45, hd, hev]
      rw [hs] at hr
      have nl := nextM_len m o
      have u7h : Upd (blk lv ++ blk hv) h h7 := (u6hh.mono (fun b hb => .inl (by simp [hb]))).trans (u7.mono (fun b hb => .inl (by simp [hb])))
      have hAn := hE.next
      have n57 := u5h.next
      have dmm : (nextM m o).length = 0 ∨ ∀ b ∈ blk mv', b ∉ blk lv ∧ b ∉ blk hv ∧ b < h4.next := by
        by_cases z : (nextM m o).length = 0
        · exact .inl z
        · refine .inr fun b hb => ?_
          have hlt := sm'.lt (by omega) (by decide) b hb
          rcases dm with ⟨q, hm⟩ | q
          · rw [q] at hb
            have := d1.resolve_left (by rw [← hm]; exact z) b hb
            exact ⟨this.1, this.2, hlt⟩
          · have := q b hb
            exact ⟨fun r => by have := lvlt b r; omega, fun r => by have := hvlt b r; omega, hlt⟩
      refine ih (i + 1) (nextM m o) (l ++ [d]) (es ++ ev) mv' lv' hv2 h7 F' (by omega) hr (by omega) (by simp; omega) (by simp; omega) ?_ q1 ?_ ?_ g7 ?_ ?_ ?_ q2 q3 q4 q5
      · exact Upd.ext ((Upd.of_ext hE).trans' u7h fun b hb => .inr (by
          rw [List.mem_append] at hb
          rcases hb with hb | hb
          · exact (d2 b hb).2
          · exact d3 b hb))
      · refine (sm'.upd' u6h ?_).upd' u7 ?_
        · exact dmm.imp id fun q b hb => (q b hb).1
        · exact dmm.imp id fun q b hb => (q b hb).2.1
      · refine (g5.upd (Upd.of_ext xH6) (by simp)).upd u7 fun b hb hb' => ?_
        rw [bl, List.mem_singleton] at hb
        have := hvlt b hb'
        omega
      · refine dmm.imp id fun q b hb => ?_
        have := (q b hb).2.2
        rw [bl, bh, List.mem_singleton, List.mem_singleton]
        omega
      · intro b hb
        rw [bl, List.mem_singleton] at hb
        rw [bh, List.mem_singleton]
        omega
      · intro b hb
        rw [bh, List.mem_singleton] at hb
        omega
    obtain ⟨j, hj⟩ : ∃ j, seek m o.t = j := ⟨_, rfl⟩
    have hsk := seek_le m o.t
    rw [hj] at e2 hsk
    have j0 : (0 : Int) ≤ (j : Int) := by omega
    have sm2 := sm.ext x02
    rw [hhv] at f7
    rw [S_loop]
    conv => arg 1; arg 2; arg 2; simp only [lbM, bodyOf, Option.getD_some, atC, seqL, inC, elC, List.nil_append, List.cons_append, List.getElem?_cons_succ, List.getElem?_cons_zero, Try.f3]
    by_cases hlt : j < m.length
    · obtain ⟨e, he⟩ : ∃ e, m[j]? = some e := ⟨m[j]'(by omega), List.getElem?_eq_getElem (by omega)⟩
      obtain ⟨mb, mo, mc, mx, mall, mq, hmv, mg, mrow, mle⟩ := Sl.elem (f := fun e : Ent => [.str e.1, .int .i64 e.2]) (fun _ => rfl) sm2 he
      have q1 := rowcell (j := 0) mrow rfl
      have q2 := rowcell (j := 1) mrow rfl
      simp only [Nat.add_zero] at q1
      have j1 : (j : Int) < (m.length : Int) := by omega
      by_cases het : e.1 = o.t
      · have hval : value m o.t = (e.2, true) := by
          unfold value
          rw [if_pos ((found_iff m o.t).2 ⟨e, by rw [hj]; exact he, het⟩), hj, List.getD_eq_getElem?_getD, he]; rfl
        have het' : (e.1 == o.t) = true := by simpa using het
        obtain ⟨h3, hH3⟩ : ∃ h3, (h2.set H.next (.cells [.int .i64 0, .bool true, .int .i64 0, .slice none 0 0 none] (.own (some (32, 4))))).set H.next (.cells [.int .i64 0, .bool true, .int .i64 e.2, .slice none 0 0 none] (.own (some (32, 4)))) = h3 := ⟨_, rfl⟩
        have hHn : H.next < h2.next := by omega
        have x03 : Ext h h3 := by rw [← hH3]; exact (x02.set (by omega) _).set (by omega) _
        have n3 : H.next < h3.next := by rw [← hH3]; exact hHn
        have gA3 : h3.get H.next = some (.cells (ansF m o).c (.own (some (32, 4)))) := by rw [← hH3, ansF, hval]; exact NHeap.get_set_same hHn
        have gO3 : h3.get h.next = some (.cells o.c (.own (some (29, 4)))) := by rw [← hH3, NHeap.get_set_ne (by omega), NHeap.get_set_ne (by omega)]; exact gO2
        have gA2' : (h2.set H.next (.cells [.int .i64 0, .bool true, .int .i64 0, .slice none 0 0 none] (.own (some (32, 4))))).get H.next = some (.cells [.int .i64 0, .bool true, .int .i64 0, .slice none 0 0 none] (.own (some (32, 4)))) := NHeap.get_set_same hHn
        have n23 : h2.next ≤ h3.next := by rw [← hH3]; exact Nat.le_refl _
        have sm3 := sm.ext x03
        have nbm : ¬ mb = H.next := by have := sm.lt (by omega) (by decide) mb (by rw [hmv]; simp [blk]); omega
        have f5m := f5
        rw [hmv] at f5m e2
        by_cases ck2 : o.k = 2
        · have cd2 : decide (o.k = 2) = true := decide_eq_true ck2
          obtain ⟨mv', h4, e4, x4, s4, fr4⟩ := Put_K h3 mv m sm3 (by omega) o.t o.v
          have hN : nextM m o = (put m (o.t, o.v)).1 := by rw [nextM, if_pos ck2]
          have n4n := x4.next
          have n3n := x03.next
          have gO4 := x4.get gO3
          have gA4 := x4.get gA3
          obtain ⟨lv', h5, hv', h7, H4, H6, hH4, e5, gO5, gA5, hH6, e7, go⟩ := tail h4 mv' (x03.trans x4) (by omega) gO4 gA4 (by rw [hN]; exact s4) (.inr fun b hb => by have := fr4 b hb; omega)
          simp only [ansF, hval] at gA5 gA3 gA4
          simp only [doneAt, ansF, hval] at hH4
          simp only [evsAt, rows_cons, rows_nil, List.append_nil, ansF, zAns, List.cons_append, List.nil_append, hval] at hH6
          rw [hhv] at e7
          rw [hmv] at e4
          simp only [go_sem, seval, f21', f22', f23, f5m, f6, f7, i0, i1, gA, row, hle, nb, hH, gH, n4, n5, hH1, gOH1, e2, j0, j1, mg, q1, q2, het', gA2, gA2', hH3, gO2, nbm, n23, cd2, gO3, gA3, wmod, bin_rem, e4, gO4, gA4, hH4, e5, gO5, gA5, hH6, e7, w1]
          refine go _ ?_ (by simp only [go_sem, seval]) (by simp only [go_sem, seval]) (by simp only [go_sem, seval]) (by simp only [go_sem, seval])
          repeat (first | exact kp | refine Keep.upd ?_ rfl)
        by_cases ck3 : o.k = 3
        · have cd3 : decide (o.k = 3) = true := decide_eq_true ck3
          obtain ⟨mv', h4, e4, x4, s4, fr4⟩ := Drop_K h3 mv m sm3 (by omega) o.t
          have hN : nextM m o = (drop m o.t).1 := by rw [nextM, if_neg ck2, if_pos ck3]
          have n4n := x4.next
          have n3n := x03.next
          have gO4 := x4.get gO3
          have gA4 := x4.get gA3
          obtain ⟨lv', h5, hv', h7, H4, H6, hH4, e5, gO5, gA5, hH6, e7, go⟩ := tail h4 mv' (x03.trans x4) (by omega) gO4 gA4 (by rw [hN]; exact s4) (.inr fun b hb => by have := fr4 b hb; omega)
          simp only [ansF, hval] at gA5 gA3 gA4
          simp only [doneAt, ansF, hval] at hH4
          simp only [evsAt, rows_cons, rows_nil, List.append_nil, ansF, zAns, List.cons_append, List.nil_append, hval] at hH6
          rw [hhv] at e7
          rw [hmv] at e4
          simp only [go_sem, seval, f21', f22', f23, f5m, f6, f7, i0, i1, gA, row, hle, nb, hH, gH, n4, n5, hH1, gOH1, e2, j0, j1, mg, q1, q2, het', gA2, gA2', hH3, gO2, nbm, n23, ck2, cd3, gO3, gA3, wmod, bin_rem, e4, gO4, gA4, hH4, e5, gO5, gA5, hH6, e7, w1]
          refine go _ ?_ (by simp only [go_sem, seval]) (by simp only [go_sem, seval]) (by simp only [go_sem, seval]) (by simp only [go_sem, seval])
          repeat (first | exact kp | refine Keep.upd ?_ rfl)
        · have hN : nextM m o = m := by rw [nextM, if_neg ck2, if_neg ck3]
          obtain ⟨lv', h5, hv', h7, H4, H6, hH4, e5, gO5, gA5, hH6, e7, go⟩ := tail h3 mv x03 n3 gO3 gA3 (by rw [hN]; exact sm3) (.inl ⟨rfl, hN⟩)
          simp only [ansF, hval] at gA5 gA3
          simp only [doneAt, ansF, hval] at hH4
          simp only [evsAt, rows_cons, rows_nil, List.append_nil, ansF, zAns, List.cons_append, List.nil_append, hval] at hH6
          rw [hhv] at e7
          simp only [go_sem, seval, f21', f22', f23, f5m, f6, f7, i0, i1, gA, row, hle, nb, hH, gH, n4, n5, hH1, gOH1, e2, j0, j1, mg, q1, q2, het', gA2, gA2', hH3, gO2, nbm, n23, ck2, ck3, gO3, gA3, wmod, bin_rem, hH4, e5, gO5, gA5, hH6, e7, w1]
          refine go _ ?_ (by simp only [go_sem, seval, f5]) (by simp only [go_sem, seval]) (by simp only [go_sem, seval]) (by simp only [go_sem, seval])
          repeat (first | exact kp | refine Keep.upd ?_ rfl)
      · have hval : value m o.t = (0, false) := by
          unfold value
          rw [if_neg (fun q => by
            obtain ⟨e', h1, h2⟩ := (found_iff m o.t).1 q
            rw [hj, he] at h1
            cases h1
            exact het h2)]
        have het' : (e.1 == o.t) = false := by simpa using het
        have n3 : H.next < h2.next := by omega
        have gA3 : h2.get H.next = some (.cells (ansF m o).c (.own (some (32, 4)))) := by rw [ansF, hval]; exact gA2
        have gO3 := gO2
        have x03 := x02
        have sm3 := sm2
        have f5m := f5
        rw [hmv] at f5m e2
        by_cases ck2 : o.k = 2
        · have cd2 : decide (o.k = 2) = true := decide_eq_true ck2
          obtain ⟨mv', h4, e4, x4, s4, fr4⟩ := Put_K h2 mv m sm3 (by omega) o.t o.v
          have hN : nextM m o = (put m (o.t, o.v)).1 := by rw [nextM, if_pos ck2]
          have n4n := x4.next
          have n3n := x03.next
          have gO4 := x4.get gO3
          have gA4 := x4.get gA3
          obtain ⟨lv', h5, hv', h7, H4, H6, hH4, e5, gO5, gA5, hH6, e7, go⟩ := tail h4 mv' (x03.trans x4) (by omega) gO4 gA4 (by rw [hN]; exact s4) (.inr fun b hb => by have := fr4 b hb; omega)
          simp only [ansF, hval] at gA5 gA3 gA4
          simp only [doneAt, ansF, hval] at hH4
          simp only [evsAt, rows_cons, rows_nil, List.append_nil, ansF, zAns, List.cons_append, List.nil_append, hval] at hH6
          rw [hhv] at e7
          rw [hmv] at e4
          simp only [go_sem, seval, f21', f22', f23, f5m, f6, f7, i0, i1, gA, row, hle, nb, hH, gH, n4, n5, hH1, gOH1, e2, j0, j1, mg, q1, q2, het', gA2, gO2, cd2, gO3, gA3, wmod, bin_rem, e4, gO4, gA4, hH4, e5, gO5, gA5, hH6, e7, w1]
          refine go _ ?_ (by simp only [go_sem, seval]) (by simp only [go_sem, seval]) (by simp only [go_sem, seval]) (by simp only [go_sem, seval])
          repeat (first | exact kp | refine Keep.upd ?_ rfl)
        by_cases ck3 : o.k = 3
        · have cd3 : decide (o.k = 3) = true := decide_eq_true ck3
          obtain ⟨mv', h4, e4, x4, s4, fr4⟩ := Drop_K h2 mv m sm3 (by omega) o.t
          have hN : nextM m o = (drop m o.t).1 := by rw [nextM, if_neg ck2, if_pos ck3]
          have n4n := x4.next
          have n3n := x03.next
          have gO4 := x4.get gO3
          have gA4 := x4.get gA3
          obtain ⟨lv', h5, hv', h7, H4, H6, hH4, e5, gO5, gA5, hH6, e7, go⟩ := tail h4 mv' (x03.trans x4) (by omega) gO4 gA4 (by rw [hN]; exact s4) (.inr fun b hb => by have := fr4 b hb; omega)
          simp only [ansF, hval] at gA5 gA3 gA4
          simp only [doneAt, ansF, hval] at hH4
          simp only [evsAt, rows_cons, rows_nil, List.append_nil, ansF, zAns, List.cons_append, List.nil_append, hval] at hH6
          rw [hhv] at e7
          rw [hmv] at e4
          simp only [go_sem, seval, f21', f22', f23, f5m, f6, f7, i0, i1, gA, row, hle, nb, hH, gH, n4, n5, hH1, gOH1, e2, j0, j1, mg, q1, q2, het', gA2, gO2, ck2, cd3, gO3, gA3, wmod, bin_rem, e4, gO4, gA4, hH4, e5, gO5, gA5, hH6, e7, w1]
          refine go _ ?_ (by simp only [go_sem, seval]) (by simp only [go_sem, seval]) (by simp only [go_sem, seval]) (by simp only [go_sem, seval])
          repeat (first | exact kp | refine Keep.upd ?_ rfl)
        · have hN : nextM m o = m := by rw [nextM, if_neg ck2, if_neg ck3]
          obtain ⟨lv', h5, hv', h7, H4, H6, hH4, e5, gO5, gA5, hH6, e7, go⟩ := tail h2 mv x03 n3 gO3 gA3 (by rw [hN]; exact sm3) (.inl ⟨rfl, hN⟩)
          simp only [ansF, hval] at gA5 gA3
          simp only [doneAt, ansF, hval] at hH4
          simp only [evsAt, rows_cons, rows_nil, List.append_nil, ansF, zAns, List.cons_append, List.nil_append, hval] at hH6
          rw [hhv] at e7
          simp only [go_sem, seval, f21', f22', f23, f5m, f6, f7, i0, i1, gA, row, hle, nb, hH, gH, n4, n5, hH1, gOH1, e2, j0, j1, mg, q1, q2, het', gA2, gO2, ck2, ck3, gO3, gA3, wmod, bin_rem, hH4, e5, gO5, gA5, hH6, e7, w1]
          refine go _ ?_ (by simp only [go_sem, seval, f5]) (by simp only [go_sem, seval]) (by simp only [go_sem, seval]) (by simp only [go_sem, seval])
          repeat (first | exact kp | refine Keep.upd ?_ rfl)
    · have hjl : j = m.length := by omega
      have j1 : ¬ (j : Int) < (m.length : Int) := by omega
      obtain ⟨mb, mc, mx, hmv⟩ := sm.form
      have hval : value m o.t = (0, false) := by
        unfold value
        rw [if_neg (fun q => by
          obtain ⟨e', h1, h2⟩ := (found_iff m o.t).1 q
          rw [hj, hjl] at h1
          simp at h1)]
      have n3 : H.next < h2.next := by omega
      have gA3 : h2.get H.next = some (.cells (ansF m o).c (.own (some (32, 4)))) := by rw [ansF, hval]; exact gA2
      have gO3 := gO2
      have x03 := x02
      have sm3 := sm2
      have f5m := f5
      rw [hmv] at f5m e2
      by_cases ck2 : o.k = 2
      · have cd2 : decide (o.k = 2) = true := decide_eq_true ck2
        obtain ⟨mv', h4, e4, x4, s4, fr4⟩ := Put_K h2 mv m sm3 (by omega) o.t o.v
        have hN : nextM m o = (put m (o.t, o.v)).1 := by rw [nextM, if_pos ck2]
        have n4n := x4.next
        have n3n := x03.next
        have gO4 := x4.get gO3
        have gA4 := x4.get gA3
        obtain ⟨lv', h5, hv', h7, H4, H6, hH4, e5, gO5, gA5, hH6, e7, go⟩ := tail h4 mv' (x03.trans x4) (by omega) gO4 gA4 (by rw [hN]; exact s4) (.inr fun b hb => by have := fr4 b hb; omega)
        simp only [ansF, hval] at gA5 gA3 gA4
        simp only [doneAt, ansF, hval] at hH4
        simp only [evsAt, rows_cons, rows_nil, List.append_nil, ansF, zAns, List.cons_append, List.nil_append, hval] at hH6
        rw [hhv] at e7
        rw [hmv] at e4
        simp only [go_sem, seval, f21', f22', f23, f5m, f6, f7, i0, i1, gA, row, hle, nb, hH, gH, n4, n5, hH1, gOH1, e2, j0, j1, gA2, gO2, cd2, gO3, gA3, wmod, bin_rem, e4, gO4, gA4, hH4, e5, gO5, gA5, hH6, e7, w1]
        refine go _ ?_ (by simp only [go_sem, seval]) (by simp only [go_sem, seval]) (by simp only [go_sem, seval]) (by simp only [go_sem, seval])
        repeat (first | exact kp | refine Keep.upd ?_ rfl)
      by_cases ck3 : o.k = 3
      · have cd3 : decide (o.k = 3) = true := decide_eq_true ck3
        obtain ⟨mv', h4, e4, x4, s4, fr4⟩ := Drop_K h2 mv m sm3 (by omega) o.t
        have hN : nextM m o = (drop m o.t).1 := by rw [nextM, if_neg ck2, if_pos ck3]
        have n4n := x4.next
        have n3n := x03.next
        have gO4 := x4.get gO3
        have gA4 := x4.get gA3
        obtain ⟨lv', h5, hv', h7, H4, H6, hH4, e5, gO5, gA5, hH6, e7, go⟩ := tail h4 mv' (x03.trans x4) (by omega) gO4 gA4 (by rw [hN]; exact s4) (.inr fun b hb => by have := fr4 b hb; omega)
        simp only [ansF, hval] at gA5 gA3 gA4
        simp only [doneAt, ansF, hval] at hH4
        simp only [evsAt, rows_cons, rows_nil, List.append_nil, ansF, zAns, List.cons_append, List.nil_append, hval] at hH6
        rw [hhv] at e7
        rw [hmv] at e4
        simp only [go_sem, seval, f21', f22', f23, f5m, f6, f7, i0, i1, gA, row, hle, nb, hH, gH, n4, n5, hH1, gOH1, e2, j0, j1, gA2, gO2, ck2, cd3, gO3, gA3, wmod, bin_rem, e4, gO4, gA4, hH4, e5, gO5, gA5, hH6, e7, w1]
        refine go _ ?_ (by simp only [go_sem, seval]) (by simp only [go_sem, seval]) (by simp only [go_sem, seval]) (by simp only [go_sem, seval])
        repeat (first | exact kp | refine Keep.upd ?_ rfl)
      · have hN : nextM m o = m := by rw [nextM, if_neg ck2, if_neg ck3]
        obtain ⟨lv', h5, hv', h7, H4, H6, hH4, e5, gO5, gA5, hH6, e7, go⟩ := tail h2 mv x03 n3 gO3 gA3 (by rw [hN]; exact sm3) (.inl ⟨rfl, hN⟩)
        simp only [ansF, hval] at gA5 gA3
        simp only [doneAt, ansF, hval] at hH4
        simp only [evsAt, rows_cons, rows_nil, List.append_nil, ansF, zAns, List.cons_append, List.nil_append, hval] at hH6
        rw [hhv] at e7
        simp only [go_sem, seval, f21', f22', f23, f5m, f6, f7, i0, i1, gA, row, hle, nb, hH, gH, n4, n5, hH1, gOH1, e2, j0, j1, gA2, gO2, ck2, ck3, gO3, gA3, wmod, bin_rem, hH4, e5, gO5, gA5, hH6, e7, w1]
        refine go _ ?_ (by simp only [go_sem, seval, f5]) (by simp only [go_sem, seval]) (by simp only [go_sem, seval]) (by simp only [go_sem, seval])
        repeat (first | exact kp | refine Keep.upd ?_ rfl)
end linMap
end Go.Proofs.Ytblhpikljhholaa.S

namespace Go.Proofs.Ytblhpikljhholaa.S
open Go Go.RowKit Go.Proofs.Ytblhpikljhholaa.NICE
set_option maxRecDepth 100000
set_option linter.unusedSimpArgs false
set_option linter.unusedVariables false
namespace linMap
open shape lin kp

theorem replay_snoc (d : Done) (m : List Ent) : ∀ (ds : List Done) (now : List Ent) (i : Nat), replay now ds i = (m, -1) →
    (doneF m d).2.2 = false ∨ (d.ans.err = (doneF m d).2.1.1 ∧ d.ans.found = (doneF m d).2.1.2.1 ∧ d.ans.value = (doneF m d).2.1.2.2 ∧ d.ans.ln = 0) → replay now (ds ++ [d]) i = (if (doneF m d).2.2 = false then m else (doneF m d).1, -1)
  | [], now, i, h, hd => by
    rw [replay] at h
    obtain rfl : now = m := congrArg Prod.fst h
    rw [List.nil_append, replay]
    by_cases q : (doneF now d).2.2 = false
    · rw [if_pos q, if_pos q, replay]
    · rw [if_neg q, if_neg q, if_pos (hd.resolve_left q), replay]
  | x :: ds, now, i, h, hd => by
    rw [List.cons_append, replay]
    rw [replay] at h
    by_cases q : (doneF now x).2.2 = false
    · rw [if_pos q] at h ⊢
      exact replay_snoc d m ds now (i + 1) h hd
    · rw [if_neg q] at h ⊢
      by_cases q2 : x.ans.err = (doneF now x).2.1.1 ∧ x.ans.found = (doneF now x).2.1.2.1 ∧ x.ans.value = (doneF now x).2.1.2.2 ∧ x.ans.ln = 0
      · rw [if_pos q2] at h ⊢
        exact replay_snoc d m ds _ (i + 1) h hd
      · rw [if_neg q2] at h
        have := congrArg Prod.snd h
        simp at this
        try omega

theorem put_value (m : List Ent) (t : List UInt8) (x : Int) : (put m (t, x)).2 = value m t := by
  unfold put value
  split <;> rfl
theorem drop_value (m : List Ent) (t : List UInt8) : (drop m t).2 = value m t := by
  unfold drop value
  split <;> rfl
theorem res_is (m : List Ent) (o : lin.Op) (h1 : 1 ≤ o.k) (h2 : o.k ≤ 3) : (res m o).1 = nextM m o ∧ (res m o).2 = value m o.t := by
  unfold res nextM
  by_cases k1 : o.k = 1
  · rw [if_pos k1, if_neg (by omega), if_neg (by omega)]
    exact ⟨rfl, rfl⟩
  · rw [if_neg k1]
    by_cases k2 : o.k = 2
    · rw [if_pos k2, if_pos k2]
      exact ⟨rfl, put_value _ _ _⟩
    · rw [if_neg k2, if_neg k2, if_pos (by omega)]
      exact ⟨rfl, drop_value _ _⟩
theorem done_is (m : List Ent) (n : Nat) (o : lin.Op) (i : Nat) (h1 : 1 ≤ o.k) (h2 : o.k ≤ 3) : doneF m (doneAt m n o i) = (nextM m o, (0, (value m o.t).2, (value m o.t).1), true) := by
  obtain ⟨r1, r2⟩ := res_is m o h1 h2
  have hc : counts (doneAt m n o i).op = true := by
    show (o.k == 1 || (o.k == 2 || o.k == 3)) = true
    have : o.k = 1 ∨ o.k = 2 ∨ o.k = 3 := by omega
    rcases this with q | q | q <;> rw [q] <;> rfl
  unfold doneF
  rw [if_pos hc, if_neg (by show ¬ ((0 : Int) = 2 ∧ _); simp)]
  show ((res m o).1, (0, (res m o).2.2, (res m o).2.1), true) = _
  rw [r1, r2]

/-- what holds of the log at all times -/
def Good (s : St) : Prop := replay [] s.2.1 0 = (s.1, -1) ∧ s.2.2.length = s.2.1.length * 2 ∧ ∀ (j : Nat) (d : Done), s.2.1[j]? = some d → d.begin = ((j * 2 : Nat) : Int) ∧ d.op.k ≠ 4 ∧ (∃ a, s.2.2[j * 2]? = some ⟨1, d.client, d.op, a⟩) ∧ ∃ a, s.2.2[j * 2 + 1]? = some ⟨2, d.client, d.op, a⟩
theorem Good.nil : Good ([], [], []) := ⟨rfl, rfl, by simp⟩
theorem Good.step {s : St} (g : Good s) (o : lin.Op) (i : Nat) (h1 : 1 ≤ o.k) (h5 : o.k ≤ 5) : Good (stepM s o i) := by
  unfold stepM
  by_cases c : o.k = 4 ∨ o.k = 5
  · rw [if_pos c]; exact g
  · rw [if_neg c]
    obtain ⟨g1, g2, g3⟩ := g
    have hd := done_is s.1 s.2.2.length o i h1 (by omega)
    refine ⟨?_, ?_, ?_⟩
    · have := replay_snoc (doneAt s.1 s.2.2.length o i) s.1 s.2.1 [] 0 g1 (.inr (by rw [hd]; exact ⟨rfl, rfl, rfl, rfl⟩))
      rw [hd] at this
      exact this
    · show (s.2.2 ++ evsAt s.1 o i).length = (s.2.1 ++ [_]).length * 2
      rw [List.length_append, List.length_append, g2, List.length_singleton]
      show _ + 2 = _
      omega
    · intro j d hj
      have hj' : (s.2.1 ++ [doneAt s.1 s.2.2.length o i])[j]? = some d := hj
      by_cases hlt : j < s.2.1.length
      · rw [List.getElem?_append_left hlt] at hj'
        obtain ⟨a1, a2, ⟨a, a3⟩, ⟨a', a4⟩⟩ := g3 j d hj'
        refine ⟨a1, a2, ⟨a, ?_⟩, ⟨a', ?_⟩⟩
        · show (s.2.2 ++ _)[j * 2]? = _
          rw [List.getElem?_append_left (by omega), a3]
        · show (s.2.2 ++ _)[j * 2 + 1]? = _
          rw [List.getElem?_append_left (by omega), a4]
      · have hjl := (List.getElem?_eq_some_iff.1 hj').1
        rw [List.length_append, List.length_singleton] at hjl
        have hjn : j = s.2.1.length := by omega
        rw [List.getElem?_append_right (by omega), hjn, Nat.sub_self] at hj'
        simp only [List.getElem?_cons_zero, Option.some.injEq] at hj'
        subst hj'
        refine ⟨by show ((s.2.2.length : Nat) : Int) = _; rw [g2, hjn], fun q => c (.inl q), ⟨zAns, ?_⟩, ⟨ansF s.1 o, ?_⟩⟩
        · show (s.2.2 ++ _)[j * 2]? = _
          rw [List.getElem?_append_right (by omega), g2, hjn, Nat.sub_self]; rfl
        · show (s.2.2 ++ _)[j * 2 + 1]? = _
          rw [List.getElem?_append_right (by omega), g2, hjn, show s.2.1.length * 2 + 1 - s.2.1.length * 2 = 1 by omega]; rfl
theorem Good.go : ∀ (ops : List lin.Op) (i : Nat) (s : St), Good s → (∀ o ∈ ops, 1 ≤ o.k ∧ o.k ≤ 5) → Good (goM ops i s)
  | [], i, s, g, _ => g
  | o :: r, i, s, g, h => Good.go r (i + 1) _ (g.step o i (h o (by simp)).1 (h o (by simp)).2) fun x hx => h x (by simp [hx])
theorem go_len : ∀ (ops : List lin.Op) (i : Nat) (s : St), (goM ops i s).1.length ≤ s.1.length + ops.length ∧ (goM ops i s).2.1.length ≤ s.2.1.length + ops.length
  | [], i, s => by simp [goM]
  | o :: r, i, s => by
    have h1 := go_len r (i + 1) (stepM s o i)
    have h2 := stepM_len s o i
    rw [goM, List.length_cons]
    omega
theorem opEq_refl (o : lin.Op) : opEq o o = true := by simp [opEq]
theorem ord_all (hs : List Ev) (ds : List Done) : ∀ (l : List Done) (i : Nat), (∀ (j : Nat) d, l[j]? = some d → okAt hs ds (i + j) d = true) → ordF hs ds l i = true
  | [], i, _ => rfl
  | d :: l, i, h => by
    rw [ordF, ord_all hs ds l (i + 1) (fun j x hx => by have := h (j + 1) x (by simpa using hx); rwa [show i + 1 + j = i + (j + 1) by omega]), Bool.and_true]
    exact h 0 d rfl
theorem Good.fin {s : St} (g : Good s) {j : Nat} {d : Done} (hj : s.2.1[j]? = some d) : fin s.2.2 d = j * 2 + 1 := by
  obtain ⟨g1, g2, g3⟩ := g
  obtain ⟨a1, a2, ⟨a, a3⟩, ⟨a', a4⟩⟩ := g3 j d hj
  have hlt := (List.getElem?_eq_some_iff.1 hj).1
  have hm : (max (d.begin + 1) 0).toNat = j * 2 + 1 := by rw [a1]; omega
  rw [lin.fin, if_neg (by rw [a1]; omega), hm, drop_at a4, nd, if_pos ⟨rfl, rfl⟩]
theorem Good.order {s : St} (g : Good s) : ordF s.2.2 s.2.1 s.2.1 0 = true := by
  refine ord_all _ _ _ _ fun j d hj => ?_
  have gf := g.fin hj
  obtain ⟨g1, g2, g3⟩ := g
  obtain ⟨a1, a2, ⟨a, a3⟩, ⟨a', a4⟩⟩ := g3 j d hj
  rw [Nat.zero_add, okAt, gf]
  refine Bool.and_eq_true_iff.2 ⟨?_, ?_⟩
  · have hb : d.begin.toNat = j * 2 := by rw [a1]; omega
    rw [began, hb, a3]
    refine Bool.and_eq_true_iff.2 ⟨decide_eq_true (by rw [a1]; omega), ?_⟩
    simp [opEq_refl]
  · rw [List.all_eq_true]
    intro x hx
    obtain ⟨k, hk⟩ := List.mem_iff_getElem?.1 hx
    rw [List.getElem?_take] at hk
    split at hk
    · rename_i hlt
      obtain ⟨b1, _⟩ := g3 k x hk
      have h1 : (x.begin == d.begin) = false := beq_false_of_ne (by rw [a1, b1]; omega)
      have h2 : decide (((j * 2 + 1 : Nat) : Int) < x.begin) = false := decide_eq_false (by rw [b1]; omega)
      rw [okPair, h1, h2]; rfl
    · cases hk
theorem scans_none (hs : List Ev) (ds : List Done) (L : Nat → List Ent) : ∀ (l : List Done) (i : Nat), (∀ d ∈ l, d.op.k ≠ 4) → scansF hs ds L l i = -1
  | [], i, _ => rfl
  | d :: l, i, h => by
    have hs' : skips hs d = true := by
      have := h d (by simp)
      simp [skips, this]
    rw [scansF, if_pos hs']
    exact scans_none hs ds L l (i + 1) fun x hx => h x (by simp [hx])
theorem Good.k {s : St} (g : Good s) : ∀ d ∈ s.2.1, d.op.k ≠ 4 ∧ -2 ^ 40 < d.begin ∧ (s.2.1.length < 2 ^ 20 → d.begin < 2 ^ 40) := by
  intro d hd
  obtain ⟨j, hj⟩ := List.mem_iff_getElem?.1 hd
  have hlt := (List.getElem?_eq_some_iff.1 hj).1
  obtain ⟨a1, a2, _⟩ := g.2.2 j d hj
  exact ⟨a2, by rw [a1]; omega, fun q => by rw [a1]; omega⟩
theorem opF_k (names : Int) (o : lin.Op) (i : Nat) : 1 ≤ (opF names o i).k ∧ (opF names o i).k ≤ 5 := by
  unfold opF
  simp only
  split
  · exact ⟨by show (1 : Int) ≤ 1; decide, by show (1 : Int) ≤ 5; decide⟩
  · split
    · exact ⟨by show (1 : Int) ≤ 2; decide, by show (2 : Int) ≤ 5; decide⟩
    · split
      · exact ⟨by show (1 : Int) ≤ 3; decide, by show (3 : Int) ≤ 5; decide⟩
      · split
        · exact ⟨by show (1 : Int) ≤ 4; decide, by show (4 : Int) ≤ 5; decide⟩
        · exact ⟨by show (1 : Int) ≤ 5; decide, by show (5 : Int) ≤ 5; decide⟩
theorem opsF_k (names : Int) : ∀ (l : List lin.Op) (i : Nat), ∀ o ∈ opsF names l i, 1 ≤ o.k ∧ o.k ≤ 5
  | [], i, o, h => by simp [opsF] at h
  | x :: l, i, o, h => by
    rw [opsF, List.mem_cons] at h
    rcases h with rfl | h
    · exact opF_k names x i
    · exact opsF_k names l (i + 1) o h

theorem law (h : NHeap) (v : NVal) (ops : List lin.Op) (ho : Ops h v ops) (names : Int) : ∃ h', K env 3 [v, .int .i64 names] h = some (.bool true, h') := by
  obtain ⟨vb, vc, vx, hv⟩ := ho.form
  obtain ⟨J, hJ⟩ : ∃ J, min 40 ops.length = J := ⟨_, rfl⟩
  have hmin : (if (40 : Int) < (ops.length : Int) then (40 : Int) else (ops.length : Int)) = (J : Int) := by split <;> omega
  have hmin2 : (if (ops.length : Int) < (40 : Int) then (ops.length : Int) else (40 : Int)) = (J : Int) := by split <;> omega
  obtain ⟨v1, e1, s1⟩ := Sl.take (P := Try.prog) ho Try.underlying22 sz29 .i64 J (by omega)
  have hJl : (ops.take J).length = J := by rw [List.length_take]; omega
  have s1' : Ops h v1 (ops.take J) := by
    rw [Ops, Rw, hJl]
    rw [rows_take Op.len] at s1
    exact s1
  have e2 := within_K names 1 20 h (by decide) (by decide) (by decide)
  obtain ⟨n, hn, n1, n20⟩ : ∃ n : Int, 1 + names % (20 - 1 + 1) = n ∧ 1 ≤ n ∧ n ≤ 20 := ⟨_, rfl, by omega, by omega⟩
  rw [hn] at e2
  obtain ⟨v2, h2, e3, x2, s2⟩ := Ops_K h v1 (ops.take J) s1' (by omega) n n1 (by omega)
  obtain ⟨os, hos⟩ : ∃ os, opsF n (ops.take J) 0 = os := ⟨_, rfl⟩
  have osl : os.length = J := by rw [← hos, opsF_len, hJl]
  have osk : ∀ o ∈ os, 1 ≤ o.k ∧ o.k ≤ 5 := by rw [← hos]; exact opsF_k n _ 0
  rw [hos] at s2
  obtain ⟨ob, oc, ox, hv2⟩ := s2.form
  have good := Good.go os 0 _ Good.nil osk
  have lens := go_len os 0 ([], [], [])
  obtain ⟨R, hR⟩ : ∃ R, goM os 0 ([], [], []) = R := ⟨_, rfl⟩
  rw [hR] at good lens
  simp only [List.length_nil, Nat.zero_add, osl] at lens
  rw [hv] at e1
  have e3' := e3
  rw [hv2, osl] at e3'
  rw [hv, k3 _ _ (by simp)]
  simp only [bodyOf, Option.getD_some, go_sem, seval, Try.f3, hmin, hmin2, e1, e2, e3', x2.next]
  have key := fun rest F f21 f22 => loopM h2 v2 os s2 (by omega) osk F f21 f22 R (fun r => ∃ h', outF Try.prog [.tmp 4] (thenD env (blockC 0 r) rest) = some (.bool true, h'))
  refine key _ _ ?_ ?_ ?_ os.length 0 [] [] [] (.slice none 0 0 none) (.slice none 0 0 none) (.slice none 0 0 none) h2 _ (by omega) hR (by simp) (by simp) (by simp) (Ext.refl _) (Keep.refl _ _) (Sl.nil _ _) (Grow.nil _ _) (Grow.nil _ _) (.inl rfl) (by simp [blk]) (by simp [blk]) ?_ ?_ ?_ ?_
  · simp only [go_sem, seval, hv2, osl]
  · simp only [go_sem, seval, osl]
  · intro h' F mv lv hv hE sm gl gh f5 f6 f7
    obtain ⟨g1, g2, g3⟩ := id good
    obtain ⟨nv, h3, e5, x5, s5, _⟩ := Replay_K h' lv R.2.1 gl.sl (by omega)
    rw [g1] at e5 s5
    have e6 := Same_K h3 nv mv R.1 s5 (sm.ext x5) (by omega)
    obtain ⟨h4, e7, x7⟩ := Order_K h3 hv R.2.2 (gh.sl.ext x5) (by omega) lv R.2.1 (gl.sl.ext x5) (by omega)
    rw [good.order] at e7
    obtain ⟨h5, e8, x8⟩ := Scans_K h4 hv R.2.2 ((gh.sl.ext x5).ext x7) (by omega) lv R.2.1 ((gl.sl.ext x5).ext x7) (by omega) (fun x hx => ⟨(good.k x hx).2.1, (good.k x hx).2.2 (by omega)⟩) (fun _ => []) (fun i d hd hsk => by
      have := (good.k d (List.mem_of_getElem? hd)).1
      simp [skips, this] at hsk)
    rw [scans_none _ _ _ _ _ (fun d hd => (good.k d hd).1)] at e8
    obtain ⟨h6, e9, x9⟩ := runs_ok14 h5
    refine ⟨h6, ?_⟩
    simp only [go_sem, seval, f5, f6, f7, e5, e6, e7, e8, e9]
  all_goals simp only [go_sem, seval]
end linMap
theorem ops_of : ∀ (us : List (List NVal)), (∀ u ∈ us, All2 FK.ok [.int .i64, .str, .str, .int .i64] u) → ∃ ops : List lin.Op, rows id us = rows lin.Op.c ops ∧ ops.length = us.length
  | [], _ => ⟨[], rfl, rfl⟩
  | u :: us, h => by
    obtain ⟨ops, h1, h2⟩ := ops_of us fun x hx => h x (by simp [hx])
    have hu := h u (by simp)
    rcases hu with _ | ⟨⟨k, rfl, _⟩, hu⟩
    rcases hu with _ | ⟨⟨t, rfl, _⟩, hu⟩
    rcases hu with _ | ⟨⟨to, rfl, _⟩, hu⟩
    rcases hu with _ | ⟨⟨v, rfl, _⟩, hu⟩
    cases hu
    exact ⟨⟨k, t, to, v⟩ :: ops, by rw [rows_cons, rows_cons, h1]; rfl, by simp [h2]⟩
theorem law_true_LinMap (h : NHeap) (bo : Option (Nat × Nat)) (n c : Nat) (x : Option Nat) (cs : List NVal) (hx : (x = none ∨ x = some 4) ∧ n ≤ c) (hU : ∃ us : List (List NVal), us.length = n ∧ cs = rows id us ∧ ∀ u ∈ us, All2 FK.ok [.int .i64, .str, .str, .int .i64] u)
    (hsk : n = 0 ∨ ∃ b m, bo = some (b, 0) ∧ h.get b = some (.cells cs m)) (a : Int) : ∃ h', K env 3 [.slice bo n c x, .int .i64 a] h = some (.bool true, h') := by
  obtain ⟨us, u1, u2, u3⟩ := hU
  obtain ⟨ops, h1, h2⟩ := ops_of us u3
  have hn : ops.length = n := by rw [h2, u1]
  have hcl : cs.length = n * 4 := by rw [u2, h1, rows_len kp.Op.len, hn]
  refine linMap.law h _ ops ?_ a
  refine ⟨by rw [← h1, ← u2, hcl, hn], bo, c, x, by rw [hn], by rw [hn]; exact hx.2, hx.1, ?_⟩
  rcases hsk with h0 | ⟨b, m, hb, hg⟩
  · exact .inl (by rw [hn, h0])
  · exact .inr ⟨b, 0, cs, m, hb, hg, by rw [List.drop_zero, hn, ← hcl, List.take_length, u2, h1]⟩
end Go.Proofs.Ytblhpikljhholaa.S

