/-
  ScriptAll: the law, walked step by step over what Decode makes of bytes. No conditions beside what is said.
-/
import Derived.Test.YtfgoajnoahhghaaGreatDoorScriptDecode
namespace Go.Proofs.YtfgoajnoahhghaaGreatDoor.S
open Go Go.RowKit Go.Proofs.YtfgoajnoahhghaaGreatDoor.NICE
set_option maxRecDepth 100000
set_option linter.unusedSimpArgs false
set_option linter.unusedVariables false
namespace scriptAll
open script

theorem right_true (k : Int) (t to : List UInt8) (v cl : Int) (hc : made.CC k t to v cl) (h : NHeap) : ∃ h', K env 16 [.agg [.int .i64 k, .str t, .str to, .int .i64 v], .int .i64 cl] h = some (.bool true, h') ∧ Ext h h' := by
  rw [k16 _ _ (by simp)]
  simp only [bodyOf, Option.getD_some, go_sem, seval, Tryz.f16]
  generalize hH : NHeap.alloc h _ = H
  have xH : Ext h H := by rw [← hH]; exact (Ext.refl h).alloc _
  obtain ⟨pv, e, h1, e1, x1, hpl, hpo, hc'⟩ := made.made_K k t to v cl H
  simp only [made.op] at e1
  rcases hc' with ⟨rfl, _⟩ | ⟨_, q⟩
  · refine ⟨_, (by simp only [go_sem, seval, e1, hpl, hpo]; exact rfl), ?_⟩
    have xx := xH.trans x1
    repeat (first | exact xx | apply Ext.alloc | refine Ext.set ?_ (by have := xx.next; simp; omega) _)
  · exact absurd hc q

noncomputable def lbO : Code := inC (inC (tlC (hdC (tlN 5 (bodyOf Tryz.f4)))))
noncomputable def lbJ : Code := inC (inC (tlN 2 (inC (hdC (tlN 2 lbO)))))
noncomputable def lbP : Code := inC (inC (tlC (hdC (tlN 6 (bodyOf Tryz.f4)))))

theorem Lists.ext {lo h h' B n L} (l : Lists lo h B n L) (e : Ext h h') : Lists lo h' B n L := by
  obtain ⟨vs, q, l1, l2, l3, l4⟩ := l
  exact ⟨vs, q, l1, e.get l2, fun i v hi => ⟨((l3 i v hi).1.upd (Upd.of_ext e) (by simp)), (l3 i v hi).2⟩, l4⟩

/-- these temporaries stand as they did -/
def Keep (l : List Nat) (F F' : Fr) : Prop := ∀ k, l.contains k = true → F' k = F k
theorem Keep.refl (l : List Nat) (F : Fr) : Keep l F F := fun _ _ => rfl
theorem Keep.upd {l : List Nat} {F F' : Fr} (h : Keep l F F') {d : Nat} {v : NVal} (hd : l.contains d = false) : Keep l F (upd F' d v) := fun k hk => by
  rw [upd_at]
  have : (k == d) = false := beq_false_of_ne fun q => by subst q; rw [hk] at hd; cases hd
  rw [this, cond_false]
  exact h k hk
theorem Keep.sub {l m : List Nat} {F F' : Fr} (h : Keep m F F') (hs : l.all (fun k => m.contains k) = true) : Keep l F F' := fun k hk => h k (by
  rw [List.all_eq_true] at hs
  exact hs k (by simpa using hk))
theorem Keep.trans {l : List Nat} {F F' F'' : Fr} (h : Keep l F F') (g : Keep l F' F'') : Keep l F F'' := fun k hk => (g k hk).trans (h k hk)

theorem loopJ (hA : NHeap) (u : NVal) (l : List OpM) (gu : Grow hA u 4 (opsC l) l.length) (hl : l.length ≤ 400) (hg : ∀ o ∈ l, GoodOp o) (bo : Option (Nat × Nat)) (n c : Nat) (x) (hn : 1 ≤ n ∧ n ≤ 8) (m0 : Nat) (hm0 : m0 ≤ 1000) (F0 : Fr) (f7 : F0 7 = .slice bo n c x) (f42 : F0 42 = u) (f43 : F0 43 = .int .i64 l.length) (Q : Out → Prop)
    (hQ : ∀ (h : NHeap) (F : Fr), Ext hA h → Keep [0, 1, 2, 7, 8, 36, 37, 38, 42, 43] F0 F → F 9 = .int .i64 ((m0 + l.length : Nat) : Int) → Q (some (.exit 2, toL 103 F, h))) :
    ∀ (f j : Nat) (h : NHeap) (F : Fr), j + f = l.length → Ext hA h → Keep [0, 1, 2, 7, 8, 36, 37, 38, 42, 43] F0 F → F 9 = .int .i64 ((m0 + j : Nat) : Int) → F 44 = .int .i64 j → Q (C env (.loop lbJ) (toL 103 F) h) := by
  intro f
  induction f with
  | zero =>
    intro j h F hj hE hk f9 f44
    have : j = l.length := by omega
    subst this
    have f43' := (hk 43 rfl).trans f43
    rw [S_loop]
    conv => arg 1; arg 2; arg 2; simp only [lbJ, lbO, tlN, tlC, hdC, inC, bodyOf, Option.getD_some, Tryz.f4]
    simp only [go_sem, seval, f43', f44, f9]
    refine hQ h _ hE ?_ (by simp only [go_sem, seval, f9])
    repeat (first | exact hk | refine Keep.upd ?_ rfl)
  | succ f ih =>
    intro j h F hj hE hk f9 f44
    have f43' := (hk 43 rfl).trans f43
    have f42' := (hk 42 rfl).trans f42
    have f7' := (hk 7 rfl).trans f7
    obtain ⟨o, ho⟩ : ∃ o, l[j]? = some o := ⟨l[j]'(by omega), List.getElem?_eq_getElem (by omega)⟩
    rcases id gu with ⟨_, _, hz⟩ | ⟨b, y, q, rfl, hy, hgb, hlen, hpos⟩
    · omega
    have gb := hE.get hgb
    have hrow := opsC_at l j o ho
    have i0 : (0 : Int) ≤ (j : Int) := by omega
    have i1 : (j : Int) < (l.length : Int) := by omega
    have i2 : j * 4 + 4 ≤ (opsC l).length := by rw [opsC_len]; omega
    have w1 : IntKind.i64.wrap ((j : Int) + 1) = ((j + 1 : Nat) : Int) := by rw [wrap_i64_small (by omega) (by omega)]; omega
    have w2 : IntKind.i64.wrap (((m0 + j : Nat) : Int) + 1) = ((m0 + (j + 1) : Nat) : Int) := by rw [wrap_i64_small (by omega) (by omega)]; omega
    have nb : ¬ b = h.next := by have := NHeap.get_lt gb; omega
    obtain ⟨H, hHd⟩ : ∃ H, (h.alloc (.cells [.int .i64 0, .str [], .str [], .int .i64 0] (.own (some (45, 4))))).set h.next (.cells o.c (.own (some (45, 4)))) = H := ⟨_, rfl⟩
    have xH : Ext h H := by rw [← hHd]; exact ((Ext.refl h).alloc _).set (Nat.le_refl _) _
    have gH : H.get h.next = some (.cells o.c (.own (some (45, 4)))) := by rw [← hHd]; exact NHeap.get_set_same (by simp)
    obtain ⟨h2, e2, x2⟩ := right_true o.k o.t o.to o.v n (hg o (List.mem_of_getElem? ho) n (by omega) (by omega)) H
    simp only [OpM.c] at hHd gH hrow
    rw [S_loop]
    conv => arg 1; arg 2; arg 2; simp only [lbJ, lbO, tlN, tlC, hdC, inC, bodyOf, Option.getD_some, Tryz.f4]
    simp only [go_sem, seval, f43', f42', f7', f44, f9, i0, i1, i2, gb, hrow, nb, hHd, gH, e2, w1, w2]
    refine ih (j + 1) _ _ (by omega) ((hE.trans xH).trans x2) ?_ (by simp only [go_sem, seval]) (by simp only [go_sem, seval])
    repeat (first | exact hk | refine Keep.upd ?_ rfl)

theorem loopO (hA : NHeap) (lo B n : Nat) (L : Nat → List OpM) (hL : Lists lo hA B n L) (hn : 1 ≤ n ∧ n ≤ 8) (ht : total L n ≤ 400) (hg : ∀ i, i < n → ∀ o ∈ L i, GoodOp o) (F0 : Fr) (f7 : F0 7 = .slice (some (B, 0)) n n none) (f36 : F0 36 = .slice (some (B, 0)) n n none) (f37 : F0 37 = .int .i64 n) (Q : Out → Prop)
    (hQ : ∀ (h : NHeap) (F : Fr), Ext hA h → Keep [0, 1, 2, 7, 8, 36, 37] F0 F → F 9 = .int .i64 ((total L n : Nat) : Int) → Q (some (.exit 0, toL 103 F, h))) :
    ∀ (f i : Nat) (h : NHeap) (F : Fr), i + f = n → Ext hA h → Keep [0, 1, 2, 7, 8, 36, 37] F0 F → F 9 = .int .i64 ((total L i : Nat) : Int) → F 38 = .int .i64 i → Q (C env (.loop lbO) (toL 103 F) h) := by
  have mono : ∀ m i, i ≤ m → total L i ≤ total L m := fun m => by
    induction m with
    | zero => intro i h; have : i = 0 := by omega
              subst this; exact Nat.le_refl _
    | succ m ih =>
      intro i h
      rw [total]
      by_cases hq : i = m + 1
      · subst hq; exact Nat.le_refl _
      · have := ih i (by omega); omega
  intro f
  induction f with
  | zero =>
    intro i h F hi hE hk f9 f38
    have : i = n := by omega
    subst this
    have f37' := (hk 37 rfl).trans f37
    rw [S_loop]
    conv => arg 1; arg 2; arg 2; simp only [lbO, tlN, tlC, hdC, inC, bodyOf, Option.getD_some, Tryz.f4]
    simp only [go_sem, seval, f37', f38, f9]
    refine hQ h _ hE ?_ (by simp only [go_sem, seval, f9])
    repeat (first | exact hk | refine Keep.upd ?_ rfl)
  | succ f ih =>
    intro i h F hi hE hk f9 f38
    have f37' := (hk 37 rfl).trans f37
    have f36' := (hk 36 rfl).trans f36
    have f7' := (hk 7 rfl).trans f7
    obtain ⟨vs, q, hvl, hvB, hgr, hdis⟩ := Lists.ext hL hE
    obtain ⟨u, hu⟩ : ∃ u, vs[i]? = some u := ⟨vs[i]'(by omega), List.getElem?_eq_getElem (by omega)⟩
    have gu := (hgr i u hu).1
    have hLi : total L i + (L i).length ≤ 400 := by have := mono n (i + 1) (by omega); rw [total] at this; omega
    have hu' : ∃ bo c x, u = .slice bo (L i).length c x := by
      rcases gu with ⟨rfl, _, h⟩ | ⟨b, x, q, rfl, _⟩
      · rw [h]; exact ⟨_, _, _, rfl⟩
      · exact ⟨_, _, _, rfl⟩
    obtain ⟨bo, c, x, rfl⟩ := hu'
    have i0 : (0 : Int) ≤ (i : Int) := by omega
    have i1 : (i : Int) < (n : Int) := by omega
    have w1 : IntKind.i64.wrap ((i : Int) + 1) = ((i + 1 : Nat) : Int) := by rw [wrap_i64_small (by omega) (by omega)]; omega
    rw [S_loop]
    conv => arg 1; arg 2; arg 2; simp only [lbO, tlN, tlC, hdC, inC, bodyOf, Option.getD_some, Tryz.f4]
    simp only [go_sem, seval, f37', f36', f7', f38, f9, i0, i1, hvB, hu]
    have key := fun F1 f7 f42 f43 r1 r2 => loopJ h _ (L i) gu (by omega) (hg i (by omega)) (some (B, 0)) n n none hn (total L i) (by omega) F1 f7 f42 f43 (fun r => Q (thenD env (thenD env (blockC 1 (blockC 2 r)) r1) r2))
    refine key _ ?_ ?_ ?_ _ _ ?_ (L i).length 0 h _ (by omega) (Ext.refl _) (Keep.refl _ _) ?_ ?_
    · simp only [go_sem, seval, f7']
    · simp only [go_sem, seval]
    · simp only [go_sem, seval]
    · intro h2 F2 hE2 hk2 f92
      have f38' := hk2 38 rfl
      simp only [go_sem, seval, f38] at f38'
      simp only [go_sem, seval, f38', w1]
      refine ih (i + 1) h2 _ (by omega) (hE.trans hE2) ?_ (by simp only [go_sem, seval, f92, total]) (by simp only [go_sem, seval])
      repeat (first | exact Keep.trans (by repeat (first | exact hk | refine Keep.upd ?_ rfl)) (hk2.sub rfl) | refine Keep.upd ?_ rfl)
    · simp only [go_sem, seval, f9]
    · simp only [go_sem, seval]

theorem loopP (h : NHeap) (pv : NVal) (ps : List Int) (hl : ps.length ≤ 1000) (gp : Grow h pv 1 (i64s ps) ps.length) (n : Nat) (hn : n ≤ 8) (hps : ∀ p ∈ ps, 0 ≤ p ∧ p ≤ (n : Int)) (F0 : Fr) (B : Option (Nat × Nat)) (c : Nat) (x) (f7 : F0 7 = .slice B n c x) (f57 : F0 57 = pv) (f58 : F0 58 = .int .i64 ps.length) (Q : Out → Prop)
    (hQ : ∀ (F : Fr), Keep [0, 1, 2, 7, 8, 9, 57, 58] F0 F → Q (some (.exit 4, toL 103 F, h))) :
    ∀ (f j : Nat) (F : Fr), j + f = ps.length → Keep [0, 1, 2, 7, 8, 9, 57, 58] F0 F → F 59 = .int .i64 j → Q (C env (.loop lbP) (toL 103 F) h) := by
  intro f
  induction f with
  | zero =>
    intro j F hj hk f59
    have : j = ps.length := by omega
    subst this
    have f58' := (hk 58 rfl).trans f58
    rw [S_loop]
    conv => arg 1; arg 2; arg 2; simp only [lbP, tlN, tlC, hdC, inC, bodyOf, Option.getD_some, Tryz.f4]
    simp only [go_sem, seval, f58', f59]
    refine hQ _ ?_
    repeat (first | exact hk | refine Keep.upd ?_ rfl)
  | succ f ih =>
    intro j F hj hk f59
    have f58' := (hk 58 rfl).trans f58
    have f57' := (hk 57 rfl).trans f57
    have f7' := (hk 7 rfl).trans f7
    obtain ⟨p, hp⟩ : ∃ p, ps[j]? = some p := ⟨ps[j]'(by omega), List.getElem?_eq_getElem (by omega)⟩
    obtain ⟨p0, p1⟩ := hps p (List.mem_of_getElem? hp)
    have q0 : ¬ p < 0 := by omega
    have q1 : ¬ (n : Int) < p := by omega
    rcases id gp with ⟨_, _, hz⟩ | ⟨b, y, q, rfl, hy, hgb, hlen, hpos⟩
    · omega
    have gc : (i64s ps)[j]? = some (.int .i64 p) := by rw [i64s_get, hp]; rfl
    have i0 : (0 : Int) ≤ (j : Int) := by omega
    have i1 : (j : Int) < (ps.length : Int) := by omega
    have w1 : IntKind.i64.wrap ((j : Int) + 1) = ((j + 1 : Nat) : Int) := by rw [wrap_i64_small (by omega) (by omega)]; omega
    rw [S_loop]
    conv => arg 1; arg 2; arg 2; simp only [lbP, tlN, tlC, hdC, inC, bodyOf, Option.getD_some, Tryz.f4]
    simp only [go_sem, seval, f58', f57', f7', f59, i0, i1, hgb, gc, q0, q1, w1]
    refine ih (j + 1) _ (by omega) ?_ (by simp only [go_sem, seval])
    repeat (first | exact hk | refine Keep.upd ?_ rfl)

theorem termB_inj (i k : Nat) (hi : i < 256) (hk : k < 256) : (termB i == termB k) = decide ((i : Int) = (k : Int)) := by
  have v : ∀ m, m < 256 → scriptTerms.val (termB m) = m := fun m hm => by
    have := scriptTerms.okAll ⟨m, hm⟩
    simp only [scriptTerms.okT, Bool.and_eq_true, decide_eq_true_eq] at this
    exact this.2.2.2.1
  by_cases h : i = k
  · subst h; simp
  · have h1 : termB i ≠ termB k := fun q => h (by rw [← v i hi, ← v k hk, q])
    have h2 : ¬ (i : Int) = (k : Int) := by omega
    rw [decide_eq_false h2]
    simpa using h1

theorem shape : bodyOf Tryz.f4 = .seq (hdC (bodyOf Tryz.f4)) (.seq (hdC (tlC (bodyOf Tryz.f4))) (tlN 2 (bodyOf Tryz.f4))) := by kernel_rfl

theorem right_term_K (m : Nat) (hm : m < 256) (h : NHeap) : K env 18 [.str (termB m)] h = some (.bool true, h) := by
  rw [made.right_K, (right_term m hm).1]

theorem phase3 (l : Nat) (ba : Option (Nat × Nat)) (c : Nat) (x : Option Nat) (m k : Int) (many np : Nat) (hle : 3 * many + np ≤ l) (hl : l ≤ 400) (bo : Option (Nat × Nat)) (c2 : Nat) (x2) (h : NHeap) (F : Fr) (f0 : F 0 = .slice ba l c x) (f1 : F 1 = .int .i64 m) (f2 : F 2 = .int .i64 k) (f8 : F 8 = .slice bo np c2 x2) (f9 : F 9 = .int .i64 many) :
    ∃ h', outF Tryz.prog [.tmp 6] (C env (tlN 7 (bodyOf Tryz.f4)) (toL 103 F) h) = some (.bool true, h') := by
  obtain ⟨i, hi, i6⟩ : ∃ i : Nat, m % 256 = (i : Int) ∧ i < 256 := ⟨(m % 256).toNat, by omega, by omega⟩
  obtain ⟨j, hj, j6⟩ : ∃ j : Nat, k % 256 = (j : Int) ∧ j < 256 := ⟨(k % 256).toNat, by omega, by omega⟩
  have wi := fun n h => within_K n 0 255 h (by decide) (by decide) (by decide)
  simp only [Int.zero_add, show (255 : Int) - 0 + 1 = 256 by decide] at wi
  have w1 := wi m
  have w2 := wi k
  rw [hi] at w1
  rw [hj] at w2
  have hi' : ((i : Int) % 256).toNat = i := by omega
  have hj' : ((j : Int) % 256).toNat = j := by omega
  obtain ⟨h1, e1, x1⟩ := Term_K (i : Int) h
  obtain ⟨h2, e2, x2⟩ := Term_K (i : Int) h1
  obtain ⟨h3, e3, x3⟩ := Term_K (j : Int) h2
  rw [hi'] at e1 e2
  rw [hj'] at e3
  have er := right_term_K i i6
  obtain ⟨h4, e4, x4⟩ := runs_ok20 h3
  have a1 : IntKind.i64.wrap (3 * (many : Int)) = 3 * (many : Int) := wrap_i64_small (by omega) (by omega)
  have a2 : IntKind.i64.wrap (3 * (many : Int) + (np : Int)) = 3 * (many : Int) + (np : Int) := wrap_i64_small (by omega) (by omega)
  have a3 : 3 * (many : Int) + (np : Int) ≤ (l : Int) := by omega
  have ti := termB_inj i j i6 j6
  refine ⟨h4, ?_⟩
  simp only [tlN, tlC, bodyOf, Option.getD_some, go_sem, seval, Tryz.f4, f0, f1, f2, f8, f9, w1, w2, a1, a2, a3, e1, e2, e3, er, e4, ti]

theorem phase2 (h : NHeap) (l : List UInt8) (hl : l.length ≤ 400) (ba : Option (Nat × Nat)) (c : Nat) (x : Option Nat) (hx : x = none ∨ x = some 1) (hc : x = none → l.length ≤ c) (m k : Int)
    (hb : l = [] ∨ ∃ bb bo all mo, ba = some (bb, bo) ∧ h.get bb = some (.cells all mo) ∧ Bts all bo l) (F : Fr) (f0 : F 0 = .slice ba l.length c x) (f1 : F 1 = .int .i64 m) (f2 : F 2 = .int .i64 k) :
    ∃ h', outF Tryz.prog [.tmp 6] (C env (tlN 2 (bodyOf Tryz.f4)) (toL 103 F) h) = some (.bool true, h') := by
  obtain ⟨B, n, L, pv, ps, h3, eD, xD, n1, n8, hL, hgo, hlen, hps, hg, _⟩ := Decode_K l (by omega) ba c x h hx hc hb
  have a1 : ¬ (n : Int) < 1 := by omega
  have a2 : ¬ (8 : Int) < (n : Int) := by omega
  have hpv : ∃ bo2 c2 x2, pv = .slice bo2 ps.length c2 x2 := by
    rcases hg with ⟨rfl, _, h⟩ | ⟨b, x, q, rfl, _⟩
    · rw [h]; exact ⟨_, _, _, rfl⟩
    · exact ⟨_, _, _, rfl⟩
  obtain ⟨bo2, c3, x3, rfl⟩ := hpv
  simp only [tlN, tlC, bodyOf, Option.getD_some, go_sem, seval, Tryz.f4, f0, eD, a1, a2]
  have key := fun F1 f7 f36 f37 rest => loopO h3 _ B n L hL ⟨n1, n8⟩ (by omega) hgo F1 f7 f36 f37 (fun r => ∃ h', outF Tryz.prog [.tmp 6] (thenD env (blockC 0 r) rest) = some (.bool true, h'))
  refine key _ ?_ ?_ ?_ _ ?_ n 0 h3 _ (by omega) (Ext.refl _) (Keep.refl _ _) ?_ ?_
  · simp only [go_sem, seval]
  · simp only [go_sem, seval]
  · simp only [go_sem, seval]
  · intro h4 F4 hE4 hk4 f9
    have g0 := hk4 0 rfl
    have g1 := hk4 1 rfl
    have g2 := hk4 2 rfl
    have g7 := hk4 7 rfl
    have g8 := hk4 8 rfl
    simp only [go_sem, seval, f0, f1, f2] at g0 g1 g2 g7 g8
    simp only [go_sem, seval, g8]
    have hg4 := hg.upd (Upd.of_ext hE4) (by simp)
    have key2 := fun F1 f7 f57 f58 rest => loopP h4 _ ps (by omega) hg4 n n8 hps F1 (some (B, 0)) n none f7 f57 f58 (fun r => ∃ h', outF Tryz.prog [.tmp 6] (thenD env (blockC 4 r) rest) = some (.bool true, h'))
    refine key2 _ ?_ ?_ ?_ _ ?_ ps.length 0 _ (by omega) (Keep.refl _ _) ?_
    · simp only [go_sem, seval, g7]
    · simp only [go_sem, seval]
    · simp only [go_sem, seval]
    · intro F5 hk5
      have r0 := hk5 0 rfl
      have r1 := hk5 1 rfl
      have r2 := hk5 2 rfl
      have r8 := hk5 8 rfl
      have r9 := hk5 9 rfl
      simp only [go_sem, seval, g0, g1, g2, g8, f9] at r0 r1 r2 r8 r9
      rw [blockC_exit, thenD_normal]
      exact phase3 l.length ba c x m k (total L n) ps.length hlen hl bo2 c3 x3 h4 F5 r0 r1 r2 r8 r9
    · simp only [go_sem, seval]
  · simp only [go_sem, seval]; rfl
  · simp only [go_sem, seval]

theorem law (h : NHeap) (l : List UInt8) (ba : Option (Nat × Nat)) (c : Nat) (x : Option Nat) (hx : (x = none ∨ x = some 1) ∧ l.length ≤ c) (m k : Int)
    (hb : l = [] ∨ ∃ bb bo all mo, ba = some (bb, bo) ∧ h.get bb = some (.cells all mo) ∧ Bts all bo l) :
    ∃ h', K env 4 [.slice ba l.length c x, .int .i64 m, .int .i64 k] h = some (.bool true, h') := by
  rw [k4 _ _ (by simp), shape]
  generalize hrest : tlN 2 (bodyOf Tryz.f4) = rest
  by_cases p : (400 : Int) < (l.length : Int)
  · have hne : l ≠ [] := by rintro rfl; simp at p
    obtain ⟨bb, bo, all, mo, rfl, gb, hbt⟩ := hb.resolve_left hne
    obtain ⟨o', c', x', e1, ho, hx', hc'⟩ := slice_to (P := Tryz.prog) Tryz.underlying39 sz5 bb bo l.length c x hx.1 (fun _ => hx.2) 400 (by omega) (by omega) (by decide)
    subst ho
    have ht : (l.take 400).length = 400 := by simp; omega
    simp only [Int.cast_ofNat_Int] at e1
    simp only [bodyOf, Option.getD_some, go_sem, seval, hdC, tlC, Tryz.f4, p, e1]
    subst hrest
    refine phase2 h (l.take 400) (by omega) (some (bb, o')) c' x' hx' (fun q => by rw [ht]; exact hc' q) m k (.inr ⟨bb, o', all, mo, rfl, gb, hbt.take 400⟩) _ ?_ ?_ ?_
    · simp only [go_sem, seval, ht]
    · simp only [go_sem, seval]
    · simp only [go_sem, seval]
  · simp only [bodyOf, Option.getD_some, go_sem, seval, hdC, tlC, Tryz.f4, p]
    subst hrest
    refine phase2 h l (by omega) ba c x hx.1 (fun _ => hx.2) m k hb _ ?_ ?_ ?_
    · simp only [go_sem, seval]
    · simp only [go_sem, seval]
    · simp only [go_sem, seval]
end scriptAll
theorem law_true_ScriptAll (h : NHeap) (ba : Option (Nat × Nat)) (nl c : Nat) (x : Option Nat) (cs : List NVal) (hx : (x = none ∨ x = some 1) ∧ nl ≤ c) (hG : ∀ u ∈ cs, ∃ n, u = NVal.int .u8 n ∧ (Lit.int .u8 n).wf = true) (hl : cs.length = nl)
    (hb : nl = 0 ∨ ∃ b mo, ba = some (b, 0) ∧ h.get b = some (.cells cs mo)) (m k : Int) : ∃ h', K env 4 [.slice ba nl c x, .int .i64 m, .int .i64 k] h = some (.bool true, h') := by
  obtain ⟨l, rfl⟩ := bytes_of cs hG
  rw [u8s_len] at hl
  subst hl
  exact scriptAll.law h l ba c x hx m k (by
    rcases hb with hb | ⟨b, mo, rfl, g⟩
    · exact .inl (List.length_eq_zero_iff.1 hb)
    · exact .inr ⟨b, 0, _, mo, rfl, g, Bts.self l⟩)
end Go.Proofs.YtfgoajnoahhghaaGreatDoor.S
