/-
  What the script's Decode makes of bytes: the code walked step by step. No conditions.
-/
import Derived.Test.YtfgoajnoahhghaaGreatDoorScriptTerms
import Derived.Test.YtfgoajnoahhghaaGreatDoorMade
namespace Go.Proofs.YtfgoajnoahhghaaGreatDoor.S
open Go Go.RowKit Go.Proofs.YtfgoajnoahhghaaGreatDoor.NICE
set_option maxRecDepth 100000
set_option linter.unusedSimpArgs false
set_option linter.unusedVariables false
namespace script

structure OpM where
  k : Int
  t : List UInt8
  to : List UInt8
  v : Int
abbrev OpM.c (o : OpM) : List NVal := [.int .i64 o.k, .str o.t, .str o.to, .int .i64 o.v]
def opsC (l : List OpM) : List NVal := l.flatMap OpM.c
theorem opsC_len : ∀ l, (opsC l).length = l.length * 4
  | [] => rfl
  | o :: l => by
    have := opsC_len l
    simp only [opsC, List.flatMap_cons, List.length_append, List.length_cons, List.length_nil] at this ⊢
    omega
theorem opsC_append (l m : List OpM) : opsC (l ++ m) = opsC l ++ opsC m := by simp [opsC]
theorem opsC_one : ∀ l, allOne (opsC l) = true
  | [] => rfl
  | o :: l => by
    have := opsC_one l
    simp only [opsC, List.flatMap_cons, OpM.c] at this ⊢
    simp only [List.cons_append, List.nil_append, allOne, NVal.one, this, Bool.and_self]
theorem opsC_at : ∀ (l : List OpM) (i : Nat) (o : OpM), l[i]? = some o → ((opsC l).drop (i * 4)).take 4 = o.c
  | [], i, o, h => by simp at h
  | x :: l, 0, o, h => by
    simp at h; subst h
    simp [opsC, OpM.c]
  | x :: l, i + 1, o, h => by
    have := opsC_at l i o (by simpa using h)
    rw [← this]
    simp only [opsC, List.flatMap_cons]
    rw [List.drop_append, List.drop_of_length_le (by simp; omega), Nat.succ_mul]
    simp

/-- what an operation of a script is -/
def sop (k m at_ : Nat) : OpM := match k % 5 with
  | 1 => ⟨2, termB m, [], at_⟩
  | 3 => ⟨4, termB m, [], 1 + ((k / 5 % 16 : Nat) : Int)⟩
  | 4 => ⟨5, [], [], 0⟩
  | r => ⟨1 + (r : Int), termB m, [], 0⟩

theorem op_K (k m at_ : Nat) (hk : k < 256) (hm : m < 256) (ha : at_ < 1000) (h : NHeap) : ∃ h', K env 35 [.int .i64 k, .int .i64 m, .int .i64 at_] h = some (.agg (sop k m at_).c, h') ∧ Ext h h' := by
  have r1 : ∀ t, nbin Tryz.prog .rem t (.int .i64 (k : Int)) (.int .i64 5) = some (.int .i64 ((k % 5 : Nat) : Int)) := fun t => rem_nat t k 5 (by decide)
  have q1 : ∀ t, nbin Tryz.prog .quo t (.int .i64 (k : Int)) (.int .i64 5) = some (.int .i64 ((k / 5 : Nat) : Int)) := fun t => quo_nat t k 5 (by decide) (by omega)
  have r2 : ∀ t, nbin Tryz.prog .rem t (.int .i64 ((k / 5 : Nat) : Int)) (.int .i64 16) = some (.int .i64 ((k / 5 % 16 : Nat) : Int)) := fun t => rem_nat t (k / 5) 16 (by decide)
  have w1 : IntKind.i64.wrap (1 + ((k % 5 : Nat) : Int)) = 1 + ((k % 5 : Nat) : Int) := wrap_i64_small (by omega) (by omega)
  have w2 : IntKind.i64.wrap (1 + ((k / 5 % 16 : Nat) : Int)) = 1 + ((k / 5 % 16 : Nat) : Int) := wrap_i64_small (by omega) (by omega)
  have hm' : ((m : Int) % 256).toNat = m := by omega
  rw [k35 _ _ (by simp)]
  simp only [bodyOf, Option.getD_some, go_sem, seval, Tryz.f35, r1, w1]
  generalize hH : NHeap.alloc h _ = H
  obtain ⟨q, g⟩ : ∃ q, H.get h.next = some (.cells [.int .i64 0, .str [], .str [], .int .i64 0] (.own q)) := ⟨_, by rw [← hH]; simp only [go_sem, seval]; exact rfl⟩
  have xH : Ext h H := by rw [← hH]; exact (Ext.refl h).alloc _
  clear hH
  obtain ⟨h1, e1, x1⟩ := Term_K (m : Int) H
  rw [hm'] at e1
  have g1 := x1.get g
  have l1 := NHeap.get_lt g1
  have n1 : ¬ h.next = h1.next := by omega
  have l2 : h.next < h1.next + 1 := by omega
  have xx : Ext h h1 := xH.trans x1
  have : k % 5 = 0 ∨ k % 5 = 1 ∨ k % 5 = 2 ∨ k % 5 = 3 ∨ k % 5 = 4 := by omega
  rcases this with hc | hc | hc | hc | hc
  all_goals
    refine ⟨_, (by simp only [go_sem, seval, hc, e1, q1, r2, w2, g1, n1, l1, l2, sop, OpM.c]; exact rfl), ?_⟩
    repeat (first | exact xx | apply Ext.alloc | refine Ext.set ?_ (by omega) _)

/-- operations that a script says are right, whatever the clients -/
def GoodOp (o : OpM) : Prop := ∀ n : Int, 1 ≤ n → n ≤ 8 → made.CC o.k o.t o.to o.v n
theorem right_term (m : Nat) (hm : m < 256) : made.rightT (termB m) = true ∧ (termB m).length ≤ 5 := by
  have h : ∀ m : Fin 256, (made.rightT (termB m.1) && decide ((termB m.1).length ≤ 5)) = true := by decide +kernel
  have := h ⟨m, hm⟩
  simpa using this
theorem sop_good (k m at_ : Nat) (hk : k < 256) (hm : m < 256) (ha : at_ < 1000) : GoodOp (sop k m at_) := by
  intro n h1 h2
  obtain ⟨r1, r2⟩ := right_term m hm
  have : k % 5 = 0 ∨ k % 5 = 1 ∨ k % 5 = 2 ∨ k % 5 = 3 ∨ k % 5 = 4 := by omega
  unfold made.CC
  rcases this with hc | hc | hc | hc | hc
  · left; simp [sop, hc, made.C1, r1]
  · right; right; left; simp [sop, hc, made.C2, r1]; omega
  · right; right; right; left; simp [sop, hc, made.C3, r1]
  · right; left; simp [sop, hc, made.C4]; omega
  · right; right; right; right; simp [sop, hc, made.C5]; omega

/-- the clients' lists so far -/
def Lists (lo : Nat) (h : NHeap) (B n : Nat) (L : Nat → List OpM) : Prop :=
  ∃ (vs : List NVal) (q : _), vs.length = n ∧ h.get B = some (.cells vs (.own q)) ∧ (∀ (i : Nat) v, vs[i]? = some v → Grow h v 4 (opsC (L i)) (L i).length ∧ B ∉ blk v ∧ ∀ b ∈ blk v, lo ≤ b) ∧
    ∀ (i j : Nat) u v, vs[i]? = some u → vs[j]? = some v → i ≠ j → ∀ b ∈ blk u, b ∉ blk v
def total (L : Nat → List OpM) : Nat → Nat
  | 0 => 0
  | n + 1 => total L n + (L n).length
def addOp (L : Nat → List OpM) (c : Nat) (o : OpM) : Nat → List OpM := fun i => if i = c then L i ++ [o] else L i
theorem total_add (L : Nat → List OpM) (c : Nat) (o : OpM) : ∀ n, total (addOp L c o) n = total L n + (if c < n then 1 else 0)
  | 0 => by simp [total]
  | n + 1 => by
    rw [total, total, total_add L c o n]
    unfold addOp
    by_cases h : n = c
    · subst h; simp; omega
    · have : (c < n + 1) ↔ c < n := by omega
      simp only [h, if_false, this]; omega

theorem Lists.add {lo : Nat} {h h' : NHeap} (hlo : lo ≤ h.next) {B n : Nat} {L : Nat → List OpM} (l : Lists lo h B n L) {c : Nat} (hc : c < n) {o : OpM} {u : NVal} {nb : Nat} {q : _} {vs : List NVal} {q0 : _} (hv : h.get B = some (.cells vs (.own q0))) (hu : vs[c]? = some u)
    (hn : h'.next = nb + 1) (hnb : h.next ≤ nb) (hg : h'.get nb = some (.cells (opsC (L c) ++ o.c) (.own q))) (hU : Upd (blk u) h h') :
    Lists lo (h'.set B (.cells (vs.set c (.slice (some (nb, 0)) ((L c).length + 1) ((L c).length + 1) (some 4))) (.own q0))) B n (addOp L c o) := by
  obtain ⟨vs', q', hl, hB, hall, hdis⟩ := l
  rw [hv] at hB
  cases hB
  obtain ⟨gu, bu, _⟩ := hall c u hu
  have hBl := NHeap.get_lt hv
  have hB' : h'.get B = some (.cells vs (.own q0)) := hU.get hv bu
  have old : ∀ (i : Nat) v, vs[i]? = some v → ∀ b ∈ blk v, b < h.next := fun i v hi => (hall i v hi).1.lt
  refine ⟨_, q0, by simpa using hl, NHeap.get_set_same (NHeap.get_lt hB'), ?_, ?_⟩
  · intro i v hi
    rw [List.getElem?_set] at hi
    by_cases hci : c = i
    · subst hci
      rw [if_pos rfl, if_pos (by omega)] at hi
      cases hi
      have e : addOp L c o c = L c ++ [o] := by simp [addOp]
      rw [e, opsC_append]
      refine ⟨.inr ⟨nb, some 4, q, by simp, .inr rfl, ?_, ?_, by simp⟩, by simp [blk]; omega, by simp [blk]; omega⟩
      · rw [NHeap.get_set_ne (by omega), hg]; simp [opsC]
      · rw [List.length_append, opsC_len, opsC_len]; simp; omega
    · rw [if_neg hci] at hi
      obtain ⟨g, nB, nl⟩ := hall i v hi
      have e : addOp L c o i = L i := by simp [addOp, Ne.symm hci]
      rw [e]
      refine ⟨(g.upd hU fun b hb hb' => hdis i c v u hi hu (Ne.symm hci) b hb hb').upd (fp := [B]) ((Upd.refl _ _).set (.inl (by simp)) _) (fun b hb hb' => ?_), nB, nl⟩
      simp at hb'; subst hb'; exact nB hb
  · intro i j u1 v1 hi hj hij b hb hb'
    rw [List.getElem?_set] at hi hj
    by_cases h1 : c = i
    · subst h1
      rw [if_pos rfl, if_pos (by omega)] at hi
      rw [if_neg hij] at hj
      cases hi
      simp [blk] at hb
      subst hb
      have := old j v1 hj b hb'
      omega
    · rw [if_neg h1] at hi
      by_cases h2 : c = j
      · subst h2
        rw [if_pos rfl, if_pos (by omega)] at hj
        cases hj
        simp [blk] at hb'
        subst hb'
        have := old i u1 hi b hb
        omega
      · rw [if_neg h2] at hj
        exact hdis i j u1 v1 hi hj hij b hb hb'

theorem setRange_single (cs : List NVal) (o : Nat) (v : NVal) (h : o < cs.length) : setRange cs o [v] = cs.set o v := by
  apply List.ext_getElem?
  intro i
  rw [setRange_get? _ _ _ _ (by simp; omega), List.getElem?_set]
  by_cases h1 : i < o
  · rw [if_pos h1, if_neg (by omega)]
  · rw [if_neg h1]
    by_cases h2 : o = i
    · subst h2; simp [h]
    · rw [if_neg (by simp; omega), if_neg h2]

noncomputable def lbD : Code := inC (inC (atC (bodyOf Tryz.f15) 6))

theorem loopA (hA : NHeap) (bs : List UInt8) (hlen : bs.length ≤ 900) (bb bo c : Nat) (x) (all : List NVal) (mo) (n B : Nat) (hn : 1 ≤ n ∧ n ≤ 8) (gb : hA.get bb = some (.cells all mo)) (hall : Bts all bo bs) (hB : hA.next ≤ B) (Q : Out → Prop)
    (hQ : ∀ (a : Nat) (L : Nat → List OpM) (h : NHeap) (F : Fr), 1 ≤ a → a ≤ bs.length → a = 1 + 3 * total L n → Lists hA.next h B n L → (∀ i, i < n → ∀ o ∈ L i, GoodOp o) → (total L n = 0 ∨ (4 ≤ bs.length ∧ bs[1]? ≠ some 255)) → Ext hA h →
      F 0 = .slice (some (bb, bo)) bs.length c x → F 4 = .int .i64 n → F 5 = .slice (some (B, 0)) n n none → F 6 = .int .i64 a → Q (some (.exit 0, toL 90 F, h))) :
    ∀ (f a : Nat) (L : Nat → List OpM) (h : NHeap) (F : Fr), bs.length - a ≤ f → 1 ≤ a → a ≤ bs.length → a = 1 + 3 * total L n → Lists hA.next h B n L → (∀ i, i < n → ∀ o ∈ L i, GoodOp o) → (total L n = 0 ∨ (4 ≤ bs.length ∧ bs[1]? ≠ some 255)) → Ext hA h →
      F 0 = .slice (some (bb, bo)) bs.length c x → F 4 = .int .i64 n → F 5 = .slice (some (B, 0)) n n none → F 6 = .int .i64 a → Q (C env (.loop lbD) (toL 90 F) h) := by
  intro f
  induction f with
  | zero =>
    intro a L h F hf a1 a2 a3 hL hg hz hE f0 f4 f5 f6
    have w0 : IntKind.i64.wrap ((bs.length : Int) - (a : Int)) = (bs.length : Int) - (a : Int) := wrap_i64_small (by omega) (by omega)
    have p0 : ¬ (3 : Int) ≤ (bs.length : Int) - (a : Int) := by omega
    rw [S_loop]
    conv => arg 1; arg 2; arg 2; simp only [lbD, bodyOf, Option.getD_some, atC, seqL, inC, elC, List.nil_append, List.cons_append, List.getElem?_cons_succ, List.getElem?_cons_zero, Tryz.f15]
    simp only [go_sem, seval, f0, f4, f5, f6, w0, p0]
    exact hQ a L h _ a1 a2 a3 hL hg hz hE (by simp only [go_sem, seval, f0]) (by simp only [go_sem, seval, f4]) (by simp only [go_sem, seval, f5]) (by simp only [go_sem, seval, f6])
  | succ f ih =>
    intro a L h F hf a1 a2 a3 hL hg hz hE f0 f4 f5 f6
    have w0 : IntKind.i64.wrap ((bs.length : Int) - (a : Int)) = (bs.length : Int) - (a : Int) := wrap_i64_small (by omega) (by omega)
    rw [S_loop]
    conv => arg 1; arg 2; arg 2; simp only [lbD, bodyOf, Option.getD_some, atC, seqL, inC, elC, List.nil_append, List.cons_append, List.getElem?_cons_succ, List.getElem?_cons_zero, Tryz.f15]
    by_cases p0 : (3 : Int) ≤ (bs.length : Int) - (a : Int)
    case neg =>
      simp only [go_sem, seval, f0, f4, f5, f6, w0, p0]
      exact hQ a L h _ a1 a2 a3 hL hg hz hE (by simp only [go_sem, seval, f0]) (by simp only [go_sem, seval, f4]) (by simp only [go_sem, seval, f5]) (by simp only [go_sem, seval, f6])
    have getb : ∀ i, i < bs.length → ∃ v, bs[i]? = some v ∧ all[bo + i]? = some (.int .u8 (v.toNat : Int)) := fun i hi => ⟨bs[i], List.getElem?_eq_getElem hi, hall i _ (List.getElem?_eq_getElem hi)⟩
    obtain ⟨v0, hv0, g0⟩ := getb a (by omega)
    obtain ⟨v1, hv1, g1⟩ := getb (a + 1) (by omega)
    obtain ⟨v2, hv2, g2⟩ := getb (a + 2) (by omega)
    have gh := hE.get gb
    have i0 : (0 : Int) ≤ (a : Int) := by omega
    have i1 : (a : Int) < (bs.length : Int) := by omega
    by_cases p1 : ((v0.toNat : Nat) : Int) = 255
    · simp only [go_sem, seval, f0, f4, f5, f6, w0, p0, i0, i1, gh, g0, p1]
      exact hQ a L h _ a1 a2 a3 hL hg hz hE (by simp only [go_sem, seval, f0]) (by simp only [go_sem, seval, f4]) (by simp only [go_sem, seval, f5]) (by simp only [go_sem, seval, f6])
    have b0 : v0.toNat < 256 := v0.toNat_lt
    have b1 : v1.toNat < 256 := v1.toNat_lt
    have b2 : v2.toNat < 256 := v2.toNat_lt
    have wa : IntKind.i64.wrap ((v0.toNat : Nat) : Int) = ((v0.toNat : Nat) : Int) := wrap_i64_small (by omega) (by omega)
    have wb : IntKind.i64.wrap ((v1.toNat : Nat) : Int) = ((v1.toNat : Nat) : Int) := wrap_i64_small (by omega) (by omega)
    have wc : IntKind.i64.wrap ((v2.toNat : Nat) : Int) = ((v2.toNat : Nat) : Int) := wrap_i64_small (by omega) (by omega)
    have w1 : IntKind.i64.wrap ((a : Int) + 1) = ((a + 1 : Nat) : Int) := by rw [wrap_i64_small (by omega) (by omega)]; omega
    have w2 : IntKind.i64.wrap ((a : Int) + 2) = ((a + 2 : Nat) : Int) := by rw [wrap_i64_small (by omega) (by omega)]; omega
    have w3 : IntKind.i64.wrap ((a : Int) + 3) = ((a + 3 : Nat) : Int) := by rw [wrap_i64_small (by omega) (by omega)]; omega
    have i2 : (0 : Int) ≤ ((a + 1 : Nat) : Int) := by omega
    have i3 : ((a + 1 : Nat) : Int) < (bs.length : Int) := by omega
    have i4 : (0 : Int) ≤ ((a + 2 : Nat) : Int) := by omega
    have i5 : ((a + 2 : Nat) : Int) < (bs.length : Int) := by omega
    have rm : ∀ t, nbin Tryz.prog .rem t (.int .i64 ((v0.toNat : Nat) : Int)) (.int .i64 (n : Int)) = some (.int .i64 ((v0.toNat % n : Nat) : Int)) := fun t => rem_nat t _ n (by omega)
    generalize hci : v0.toNat % n = ci at *
    have cn : ci < n := by rw [← hci]; exact Nat.mod_lt _ (by omega)
    have j0 : (0 : Int) ≤ (ci : Int) := by omega
    have j1 : (ci : Int) < (n : Int) := by omega
    obtain ⟨vs, q0, hvl, hvB, hgr, hdis⟩ := id hL
    obtain ⟨u, hu⟩ : ∃ u, vs[ci]? = some u := ⟨vs[ci]'(by omega), List.getElem?_eq_getElem (by omega)⟩
    obtain ⟨gu, nB, nlo⟩ := hgr ci u hu
    have hveq := gu.veq
    have Bl := NHeap.get_lt hvB
    have bl := NHeap.get_lt gh
    have nB0 : ¬ B = h.next := by omega
    have nb0 : ¬ bb = h.next := by omega
    obtain ⟨h1, e1, x1⟩ := op_K v1.toNat v2.toNat a b1 b2 (by omega) (h.alloc .dead)
    have x1' : Ext h h1 := ((Ext.refl h).alloc _).trans x1
    have gB1 := x1'.get hvB
    have gb1 := x1'.get gh
    have l1 : h.next < h1.next := by have := x1.next; simp at this; omega
    have l1' : h.next + 1 ≤ h1.next := l1
    obtain ⟨H, hHd⟩ : ∃ H, h1.set h.next (.cells (sop v1.toNat v2.toNat a).c (.own none)) = H := ⟨_, rfl⟩
    have UH : Upd [] h H := by rw [← hHd]; exact (Upd.of_ext x1').set (.inr (Nat.le_refl _)) _
    have hHn : H.next = h1.next := by rw [← hHd]; rfl
    have gHn : H.get h.next = some (.cells (sop v1.toNat v2.toNat a).c (.own none)) := by rw [← hHd]; exact NHeap.get_set_same l1
    have gH : Grow H u 4 (opsC (L ci)) (L ci).length := gu.upd UH (by simp)
    have tl : (L ci).length ≤ 400 := by
      have : ∀ m, ci < m → (L ci).length ≤ total L m := fun m => by
        induction m with
        | zero => intro h; omega
        | succ m ih =>
          intro h
          rw [total]
          by_cases hq : ci = m
          · subst hq; omega
          · have := ih (by omega); omega
      have := this n cn
      omega
    obtain ⟨h2, q2, e2, n2, g22, U2⟩ := append_one (P := Tryz.prog) Tryz.underlying43 sz45 by45 ze45 rfl (by decide) gH (nb := h.next) (o := 0) (c := 1) (y := none) (all := (sop v1.toNat v2.toNat a).c) (m := .own none) (new := (sop v1.toNat v2.toNat a).c) gHn rfl rfl rfl (opsC_one _) (by omega) (by omega)
    have HB : H.get B = some (.cells vs (.own q0)) := UH.get hvB (by simp)
    have gB2 := U2.get HB nB
    have gb2 := U2.get (UH.get gh (by simp)) (fun q => by have := nlo _ q; have := NHeap.get_lt gb; omega)
    have l2 : h1.next + 1 ≤ h2.next := by omega
    have l3 : h1.next ≤ h2.next := by omega
    have hn2 : H.next ≤ h2.next := by omega
    have ss := setRange_single vs ci (.slice (some (H.next, 0)) ((L ci).length + 1) ((L ci).length + 1) (some 4)) (by omega)
    have cv : ci + 1 ≤ n := by omega
    simp only [OpM.c] at e1 hHd
    rw [hHn] at e2 ss
    simp only [go_sem, seval, f0, f4, f5, f6, w0, p0, i0, i1, gh, g0, p1, wa, wb, wc, w1, w2, w3, i2, i3, i4, i5, g1, g2, rm, hci, j0, j1, hvB, hu, e1, gB1, gb1, l1, e2, gB2, hn2, ss, cv, hvl, Bl, bl, nB0, nb0, hveq, l1', hHd, hHn, gb2, l2, l3]
    have hlo : hA.next ≤ h.next := hE.next
    have hadd := hL.add hlo cn hvB hu (o := sop v1.toNat v2.toNat a) (nb := h1.next) (h' := h2) (q := q2) (by omega) (by omega) (by rw [← hHn]; exact g22) ((UH.mono (fq := blk u) (by simp)).trans U2)
    exact ih (a + 3) (addOp L ci (sop v1.toNat v2.toNat a)) _ _ (by omega) (by omega) (by omega) (by rw [total_add, if_pos cn]; omega) hadd
      (fun i hi o ho => by
        unfold addOp at ho
        split at ho
        · rw [List.mem_append, List.mem_singleton] at ho
          rcases ho with ho | rfl
          · exact hg i hi o ho
          · exact sop_good _ _ _ b1 b2 (by omega)
        · exact hg i hi o ho)
      (.inr ⟨by omega, fun q => by
        rcases hz with hz | hz
        · have : a = 1 := by omega
          subst this
          rw [hv0] at q
          cases q
          exact p1 rfl
        · exact hz.2 q⟩)
      (((((Upd.of_ext hE).trans UH).trans' U2 (fun b hb => .inr (nlo b hb))).set (.inr hB) _).ext)
      (by simp only [go_sem, seval, f0]) (by simp only [go_sem, seval, f4]) (by simp only [go_sem, seval, f5]) (by simp only [go_sem, seval])

noncomputable def lbP : Code := inC (inC (atC (bodyOf Tryz.f15) 9))
def pk (n : Nat) (v : UInt8) : Int := ((v.toNat % (n + 1) : Nat) : Int)

theorem loopB (hB : NHeap) (rest : List UInt8) (hlen : rest.length ≤ 900) (bb o c : Nat) (x) (all : List NVal) (mo) (n : Nat) (hn : n ≤ 8) (w5 : NVal) (gb : hB.get bb = some (.cells all mo)) (hall : Bts all o rest) (Q : Out → Prop)
    (hQ : ∀ (h : NHeap) (F : Fr), Ext hB h → Grow h (F 8) 1 (i64s (rest.map (pk n))) rest.length → F 5 = w5 → Q (some (.exit 2, toL 90 F, h))) :
    ∀ (f i : Nat) (h : NHeap) (F : Fr), i + f = rest.length → Ext hB h → Grow h (F 8) 1 (i64s ((rest.take i).map (pk n))) i → (∀ b ∈ blk (F 8), hB.next ≤ b) →
      F 4 = .int .i64 n → F 5 = w5 → F 73 = .slice (some (bb, o)) rest.length c x → F 74 = .int .i64 rest.length → F 75 = .int .i64 i → Q (C env (.loop lbP) (toL 90 F) h) := by
  intro f
  induction f with
  | zero =>
    intro i h F hi hE hg hlo f4 f5 f73 f74 f75
    have : i = rest.length := by omega
    subst this
    rw [S_loop]
    conv => arg 1; arg 2; arg 2; simp only [lbP, bodyOf, Option.getD_some, atC, seqL, inC, elC, List.nil_append, List.cons_append, List.getElem?_cons_succ, List.getElem?_cons_zero, Tryz.f15]
    simp only [go_sem, seval, f4, f5, f73, f74, f75]
    rw [List.take_length] at hg
    exact hQ h _ hE (by simp only [go_sem, seval]; exact hg) (by simp only [go_sem, seval, f5])
  | succ f ih =>
    intro i h F hi hE hg hlo f4 f5 f73 f74 f75
    have i0 : (0 : Int) ≤ (i : Int) := by omega
    have i1 : (i : Int) < (rest.length : Int) := by omega
    obtain ⟨v, hv⟩ : ∃ v, rest[i]? = some v := ⟨rest[i]'(by omega), List.getElem?_eq_getElem (by omega)⟩
    have g0 := hall i v hv
    have gh := hE.get gb
    have b0 : v.toNat < 256 := v.toNat_lt
    have w1 : IntKind.i64.wrap ((v.toNat : Nat) : Int) = ((v.toNat : Nat) : Int) := wrap_i64_small (by omega) (by omega)
    have w2 : IntKind.i64.wrap ((n : Int) + 1) = ((n + 1 : Nat) : Int) := by rw [wrap_i64_small (by omega) (by omega)]; omega
    have w3 : IntKind.i64.wrap ((i : Int) + 1) = ((i + 1 : Nat) : Int) := by rw [wrap_i64_small (by omega) (by omega)]; omega
    have rm : ∀ t, nbin Tryz.prog .rem t (.int .i64 ((v.toNat : Nat) : Int)) (.int .i64 ((n + 1 : Nat) : Int)) = some (.int .i64 ((v.toNat % (n + 1) : Nat) : Int)) := fun t => rem_nat t _ (n + 1) (by omega)
    obtain ⟨H, hHd⟩ : ∃ H, h.alloc (.cells [.int .i64 ((v.toNat % (n + 1) : Nat) : Int)] (.own none)) = H := ⟨_, rfl⟩
    have UH : Upd [] h H := by rw [← hHd]; exact (Upd.refl _ _).alloc _
    have gHn : H.get h.next = some (.cells [.int .i64 ((v.toNat % (n + 1) : Nat) : Int)] (.own none)) := by rw [← hHd]; simp only [go_sem, seval]
    have hHn : H.next = h.next + 1 := by rw [← hHd]; rfl
    obtain ⟨h2, q2, e2, n2, g22, U2⟩ := append_one (P := Tryz.prog) Tryz.underlying40 sz3 by3 ze3 rfl (by decide) (hg.upd UH (by simp)) (nb := h.next) (o := 0) (c := 1) (y := none) (m := .own none) (new := [.int .i64 ((v.toNat % (n + 1) : Nat) : Int)]) gHn rfl rfl rfl (i64s_one _) (by omega) (by omega)
    rw [S_loop]
    conv => arg 1; arg 2; arg 2; simp only [lbP, bodyOf, Option.getD_some, atC, seqL, inC, elC, List.nil_append, List.cons_append, List.getElem?_cons_succ, List.getElem?_cons_zero, Tryz.f15]
    simp only [go_sem, seval, f4, f5, f73, f74, f75, i0, i1, gh, g0, w1, w2, w3, rm, hHd, e2]
    have ht : (rest.take (i + 1)).map (pk n) = (rest.take i).map (pk n) ++ [pk n v] := by rw [List.take_add_one, hv]; simp
    refine ih (i + 1) _ _ (by omega) (((Upd.of_ext hE).trans UH).trans' U2 (fun b hb => .inr (hlo b hb))).ext ?_ ?_ (by simp only [go_sem, seval, f4]) (by simp only [go_sem, seval, f5]) (by simp only [go_sem, seval, f73]) (by simp only [go_sem, seval, f74]) (by simp only [go_sem, seval])
    · simp only [go_sem, seval]
      exact .inr ⟨H.next, some 1, q2, rfl, .inr rfl, by rw [g22, ht, i64s_append]; rfl, by rw [i64s_len]; simp; omega, by omega⟩
    · simp only [go_sem, seval, blk, List.mem_singleton]
      rintro b rfl
      have := hE.next
      omega

/-- what Decode makes of bytes -/
def DPost (h : NHeap) (bs : List UInt8) (r : Option (NVal × NHeap)) : Prop :=
  ∃ B n L pv ps h', r = some (.tuple [.slice (some (B, 0)) n n none, pv], h') ∧ Ext h h' ∧ 1 ≤ n ∧ n ≤ 8 ∧ Lists h.next h' B n L ∧ (∀ i, i < n → ∀ o ∈ L i, GoodOp o) ∧
      3 * total L n + ps.length ≤ bs.length ∧ (∀ p ∈ ps, 0 ≤ p ∧ p ≤ (n : Int)) ∧ Grow h' pv 1 (i64s ps) ps.length ∧
      (∀ v0 l, bs = v0 :: 255 :: l → n = v0.toNat % 8 + 1 ∧ total L n = 0 ∧ ps = l.map (pk n))

theorem Decode_K (bs : List UInt8) (hlen : bs.length ≤ 900) (ba : Option (Nat × Nat)) (c : Nat) (x : Option Nat) (h : NHeap) (hx : x = none ∨ x = some 1) (hc : x = none → bs.length ≤ c)
    (hb : bs = [] ∨ ∃ bb bo all mo, ba = some (bb, bo) ∧ h.get bb = some (.cells all mo) ∧ Bts all bo bs) :
    DPost h bs (K env 15 [.slice ba bs.length c x] h) := by
  by_cases hne : bs = []
  · subst hne
    refine ⟨h.next, 1, fun _ => [], .slice none 0 0 none, [], _, (by
      rw [k15 _ _ (by simp)]
      simp only [bodyOf, Option.getD_some, go_sem, seval, Tryz.f15]
      exact rfl), (Ext.refl h).alloc _, by decide, by decide, ⟨_, _, rfl, by simp only [go_sem, seval]; exact rfl, ?_, ?_⟩, by simp, by simp [total], by simp, .inl ⟨rfl, rfl, rfl⟩, by simp⟩
    · intro i v hi
      match i, hi with
      | 0, hi => simp at hi; subst hi; exact ⟨Grow.nil _ _, by simp [blk], by simp [blk]⟩
    · intro i j u v hi hj hij b hb
      match i, hi with
      | 0, hi => simp at hi; subst hi; simp [blk] at hb
  obtain ⟨bb, bo, all, mo, rfl, gb, hall⟩ := hb.resolve_left hne
  have hpos : 1 ≤ bs.length := List.length_pos_iff.2 hne
  obtain ⟨v0, hv0⟩ : ∃ v, bs[0]? = some v := ⟨bs[0]'(by omega), List.getElem?_eq_getElem (by omega)⟩
  have g0 := hall 0 v0 hv0
  simp only [Nat.add_zero] at g0
  have b0 : v0.toNat < 256 := v0.toNat_lt
  have p0 : ¬ ((bs.length : Nat) : Int) = 0 := by omega
  have i1 : (0 : Int) < (bs.length : Int) := by omega
  have w0 : IntKind.i64.wrap ((v0.toNat : Nat) : Int) = ((v0.toNat : Nat) : Int) := wrap_i64_small (by omega) (by omega)
  have rm : ∀ t, nbin Tryz.prog .rem t (.int .i64 ((v0.toNat : Nat) : Int)) (.int .i64 8) = some (.int .i64 ((v0.toNat % 8 : Nat) : Int)) := fun t => rem_nat t _ 8 (by decide)
  have w1 : IntKind.i64.wrap (((v0.toNat % 8 : Nat) : Int) + 1) = ((v0.toNat % 8 + 1 : Nat) : Int) := by rw [wrap_i64_small (by omega) (by omega)]; omega
  obtain ⟨n, hn⟩ : ∃ n, v0.toNat % 8 + 1 = n := ⟨_, rfl⟩
  rw [hn] at w1
  have n1 : 1 ≤ n ∧ n ≤ 8 := by omega
  have c1 : (0 : Int) ≤ (n : Int) := by omega
  have c2 : (n : Int) * 24 ≤ 1099511627776 := by omega
  have c3 : (n : Int) ≤ 1099511627776 := by omega
  have rep : ∀ k, repeatCells [NVal.slice none 0 0 none] k = List.replicate k (.slice none 0 0 none) := fun k => by
    induction k with
    | zero => rfl
    | succ k ih => rw [repeatCells, ih, List.replicate_succ]; rfl
  rw [k15 _ _ (by simp)]
  simp only [bodyOf, Option.getD_some, go_sem, seval, Tryz.f15, p0, gb, g0, i1, w0, rm, w1, c1, c2, c3, rep]
  have key := fun rest => loopA h bs hlen bb bo c x all mo n h.next n1 gb hall (Nat.le_refl _) (fun r => DPost h bs (outF Tryz.prog [.tmp 2, .tmp 3] (thenD env (blockC 0 r) rest)))
  refine key _ ?_ bs.length 1 (fun _ => []) _ _ (by omega) (Nat.le_refl _) hpos (by
      have : ∀ m, total (fun _ => []) m = 0 := fun m => by
        induction m with
        | zero => rfl
        | succ m ih => rw [total, ih]; rfl
      rw [this]) ⟨_, _, List.length_replicate, by simp only [go_sem, seval]; exact rfl, ?_, ?_⟩ (by simp) (.inl (by
      have : ∀ m, total (fun _ => []) m = 0 := fun m => by
        induction m with
        | zero => rfl
        | succ m ih => rw [total, ih]; rfl
      exact this n)) ((Ext.refl h).alloc _) ?_ ?_ ?_ ?_
  · intro a L h2 F a1 a2 a3 hL hg hz hE f0 f4 f5 f6
    obtain ⟨k, hk⟩ : ∃ k, min (a + 1) bs.length = k := ⟨_, rfl⟩
    have w2 : IntKind.i64.wrap ((a : Int) + 1) = ((a + 1 : Nat) : Int) := by rw [wrap_i64_small (by omega) (by omega)]; omega
    have mk : (if (bs.length : Int) < ((a + 1 : Nat) : Int) then (bs.length : Int) else ((a + 1 : Nat) : Int)) = (k : Int) := by split <;> omega
    have gb2 := hE.get gb
    obtain ⟨o', c', x', e3, ho, hx', hc'⟩ := slice_from (P := Tryz.prog) Tryz.underlying39 sz5 bb bo bs.length c x hx hc k (by omega)
    have hdl : (bs.drop k).length = bs.length - k := by simp
    simp only [go_sem, seval, f0, f4, f5, f6, w2, mk, e3]
    have key2 := fun rest => loopB h2 (bs.drop k) (by simp; omega) bb o' c' x' all mo n n1.2 (.slice (some (h.next, 0)) n n none) gb2 (fun i v hv => by
      rw [List.getElem?_drop] at hv
      have : k < bs.length := by
        have := (List.getElem?_eq_some_iff.1 hv).1
        omega
      have := hall (k + i) v hv
      rw [ho (by omega), ← this]
      congr 1; omega) (fun r => DPost h bs (outF Tryz.prog [.tmp 2, .tmp 3] (thenD env (blockC 2 r) rest)))
    refine key2 _ ?_ (bs.drop k).length 0 _ _ (by omega) (Ext.refl _) ?_ ?_ ?_ ?_ ?_ ?_ ?_
    · intro h3 F3 hE3 hg3 f35
      simp only [go_sem, seval, f35]
      refine ⟨h.next, n, L, F3 8, (bs.drop k).map (pk n), h3, rfl, hE.trans hE3, n1.1, n1.2, ?_, hg, by simp; omega, ?_, by simpa using hg3, ?_⟩
      · obtain ⟨vs, q, l1, l2, l3, l4⟩ := hL
        exact ⟨vs, q, l1, hE3.get l2, fun i v hi => ⟨((l3 i v hi).1.upd (Upd.of_ext hE3) (by simp)), (l3 i v hi).2⟩, l4⟩
      · intro p hp
        obtain ⟨v, _, rfl⟩ := List.mem_map.1 hp
        have := Nat.mod_lt v.toNat (show 0 < n + 1 by omega)
        unfold pk
        omega
      · rintro w0 l rfl
        have h1 : w0 = v0 := by simpa using hv0
        subst h1
        have h2 : total L n = 0 := by
          rcases hz with hz | ⟨_, hz⟩
          · exact hz
          · exact absurd rfl hz
        refine ⟨hn.symm, h2, ?_⟩
        have : k = 2 := by simp at hk; omega
        subst this
        rfl
    · simp only [go_sem, seval]
      exact Grow.nil _ _
    · simp only [go_sem, seval, blk]
      simp
    · simp only [go_sem, seval, f4]
    · simp only [go_sem, seval, f5]
    · simp only [go_sem, seval, hdl]
    · simp only [go_sem, seval, hdl]
    · simp only [go_sem, seval]
  · intro i v hi
    rw [List.getElem?_replicate] at hi
    split at hi
    · cases hi
      exact ⟨Grow.nil _ _, by simp [blk], by simp [blk]⟩
    · cases hi
  · intro i j u v hi hj hij b hb
    rw [List.getElem?_replicate] at hi
    split at hi
    · cases hi; simp [blk] at hb
    · cases hi
  · simp only [go_sem, seval]
  · simp only [go_sem, seval]
  · simp only [go_sem, seval]
  · simp only [go_sem, seval]
end script
end Go.Proofs.YtfgoajnoahhghaaGreatDoor.S
