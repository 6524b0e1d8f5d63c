/-
  ScriptPicks: the law, walked step by step over what Decode makes of bytes. No conditions beside what is said.
-/
import Derived.Test.YtfgoajnoahhghaaGreatDoorScriptDecode
namespace Go.Proofs.YtfgoajnoahhghaaGreatDoor.S
open Go Go.RowKit Go.Proofs.YtfgoajnoahhghaaGreatDoor.NICE
set_option maxRecDepth 100000
set_option linter.unusedSimpArgs false
set_option linter.unusedVariables false
namespace scriptPicks
open script

noncomputable def lbO : Code := inC (inC (atC (bodyOf Tryz.f5) 8))
noncomputable def lbI : Code := inC (inC (atC (bodyOf Tryz.f5) 10))

/-- no client has an operation -/
theorem loopO (h : NHeap) (lo B n : Nat) (L : Nat → List OpM) (hn : n ≤ 8) (hL : Lists lo h B n L) (hz : total L n = 0) (w1 w6 w7 : NVal) (Q : Out → Prop) (hQ : ∀ F : Fr, F 1 = w1 → F 6 = w6 → F 7 = w7 → Q (some (.exit 0, toL 79 F, h))) :
    ∀ (f i : Nat) (F : Fr), i + f = n → F 1 = w1 → F 6 = w6 → F 7 = w7 → F 44 = .slice (some (B, 0)) n n none → F 45 = .int .i64 n → F 46 = .int .i64 i → Q (C env (.loop lbO) (toL 79 F) h) := by
  intro f
  induction f with
  | zero =>
    intro i F hi f1 f6 f7 f44 f45 f46
    have : i = n := by omega
    subst this
    rw [S_loop]
    conv => arg 1; arg 2; arg 2; simp only [lbO, bodyOf, Option.getD_some, atC, seqL, inC, elC, List.nil_append, List.cons_append, List.getElem?_cons_succ, List.getElem?_cons_zero, Tryz.f5]
    simp only [go_sem, seval, f44, f45, f46]
    exact hQ _ (by simp only [go_sem, seval, f1]) (by simp only [go_sem, seval, f6]) (by simp only [go_sem, seval, f7])
  | succ f ih =>
    intro i F hi f1 f6 f7 f44 f45 f46
    obtain ⟨vs, q, hvl, hvB, hgr, hdis⟩ := hL
    obtain ⟨u, hu⟩ : ∃ u, vs[i]? = some u := ⟨vs[i]'(by omega), List.getElem?_eq_getElem (by omega)⟩
    have hLi : L i = [] := by
      have : ∀ m, i < m → total L m = 0 → L i = [] := fun m => by
        induction m with
        | zero => intro h; omega
        | succ m ih =>
          intro h1 h2
          rw [total] at h2
          by_cases hq : i = m
          · subst hq; exact List.length_eq_zero_iff.1 (by omega)
          · exact ih (by omega) (by omega)
      exact this n (by omega) hz
    have gu := (hgr i u hu).1
    rw [hLi] at gu
    have hun : u = .slice none 0 0 none := by
      rcases gu with ⟨h, _⟩ | ⟨b, x, q, _, _, _, _, h⟩
      · exact h
      · simp at h
    subst hun
    have i0 : (0 : Int) ≤ (i : Int) := by omega
    have i1 : (i : Int) < (n : Int) := by omega
    have wi : IntKind.i64.wrap ((i : Int) + 1) = ((i + 1 : Nat) : Int) := by rw [wrap_i64_small (by omega) (by omega)]; omega
    rw [S_loop]
    conv => arg 1; arg 2; arg 2; simp only [lbO, bodyOf, Option.getD_some, atC, seqL, inC, elC, List.nil_append, List.cons_append, List.getElem?_cons_succ, List.getElem?_cons_zero, Tryz.f5]
    simp only [go_sem, seval, f44, f45, f46, i0, i1, hvB, hu, wi]
    exact ih (i + 1) _ (by omega) (by simp only [go_sem, seval, f1]) (by simp only [go_sem, seval, f6]) (by simp only [go_sem, seval, f7]) (by simp only [go_sem, seval, f44]) (by simp only [go_sem, seval, f45]) (by simp only [go_sem, seval])

theorem loopI (h : NHeap) (l : List UInt8) (hl : l.length ≤ 200) (n : Nat) (hn : n ≤ 8) (bi oi ci : Nat) (xi) (alli : List NVal) (mi) (gi : h.get bi = some (.cells alli mi)) (hbi : Bts alli oi l) (pv : NVal) (hg : Grow h pv 1 (i64s (l.map (pk n))) l.length) (Q : Out → Prop)
    (hQ : ∀ F : Fr, Q (some (.exit 2, toL 79 F, h))) :
    ∀ (f i : Nat) (F : Fr), i + f = l.length → F 1 = .slice (some (bi, oi)) l.length ci xi → F 6 = pv → F 7 = .int .i64 n → F 60 = .int .i64 l.length → F 61 = .int .i64 i → Q (C env (.loop lbI) (toL 79 F) h) := by
  intro f
  induction f with
  | zero =>
    intro i F hi f1 f6 f7 f60 f61
    have : i = l.length := by omega
    subst this
    rw [S_loop]
    conv => arg 1; arg 2; arg 2; simp only [lbI, bodyOf, Option.getD_some, atC, seqL, inC, elC, List.nil_append, List.cons_append, List.getElem?_cons_succ, List.getElem?_cons_zero, Tryz.f5]
    simp only [go_sem, seval, f60, f61]
    exact hQ _
  | succ f ih =>
    intro i F hi f1 f6 f7 f60 f61
    have i0 : (0 : Int) ≤ (i : Int) := by omega
    have i1 : (i : Int) < (l.length : Int) := by omega
    obtain ⟨v, hv⟩ : ∃ v, l[i]? = some v := ⟨l[i]'(by omega), List.getElem?_eq_getElem (by omega)⟩
    have g0 := hbi i v hv
    have b0 : v.toNat < 256 := v.toNat_lt
    have w1 : IntKind.i64.wrap ((v.toNat : Nat) : Int) = ((v.toNat : Nat) : Int) := wrap_i64_small (by omega) (by omega)
    have w2 : IntKind.i64.wrap ((n : Int) + 1) = ((n + 1 : Nat) : Int) := by rw [wrap_i64_small (by omega) (by omega)]; omega
    have w3 : IntKind.i64.wrap ((i : Int) + 1) = ((i + 1 : Nat) : Int) := by rw [wrap_i64_small (by omega) (by omega)]; omega
    have rm : ∀ t, nbin Tryz.prog .rem t (.int .i64 ((v.toNat : Nat) : Int)) (.int .i64 ((n + 1 : Nat) : Int)) = some (.int .i64 ((v.toNat % (n + 1) : Nat) : Int)) := fun t => rem_nat t _ (n + 1) (by omega)
    rcases id hg with ⟨_, _, hz⟩ | ⟨b, x, q, rfl, hx, hgb, hlen, hpos⟩
    · omega
    have gc : (i64s (l.map (pk n)))[i]? = some (.int .i64 ((v.toNat % (n + 1) : Nat) : Int)) := by
      rw [i64s_get, List.getElem?_map, hv]; rfl
    rw [S_loop]
    conv => arg 1; arg 2; arg 2; simp only [lbI, bodyOf, Option.getD_some, atC, seqL, inC, elC, List.nil_append, List.cons_append, List.getElem?_cons_succ, List.getElem?_cons_zero, Tryz.f5]
    simp only [go_sem, seval, f1, f6, f7, f60, f61, i0, i1, gi, g0, w1, w2, w3, rm, hgb, gc]
    exact ih (i + 1) _ (by omega) (by simp only [go_sem, seval, f1]) (by simp only [go_sem, seval, f6]) (by simp only [go_sem, seval, f7]) (by simp only [go_sem, seval, f60]) (by simp only [go_sem, seval])


theorem phase2 (v0 : UInt8) (h : NHeap) (l : List UInt8) (hl : l.length ≤ 200) (ba : Option (Nat × Nat)) (c : Nat) (x : Option Nat)
    (hb : l = [] ∨ ∃ bb bo all mo, ba = some (bb, bo) ∧ h.get bb = some (.cells all mo) ∧ Bts all bo l) (F : Fr) (f0 : F 0 = .int .u8 v0.toNat) (f1 : F 1 = .slice ba l.length c x) :
    ∃ h', outF Tryz.prog [.tmp 4] (C env (tlC (tlC (bodyOf Tryz.f5))) (toL 79 F) h) = some (.bool true, h') := by
  have b0 : v0.toNat < 256 := v0.toNat_lt
  have w0 : IntKind.i64.wrap ((v0.toNat : Nat) : Int) = ((v0.toNat : Nat) : Int) := wrap_i64_small (by omega) (by omega)
  have rm : ∀ t, nbin Tryz.prog .rem t (.int .i64 ((v0.toNat : Nat) : Int)) (.int .i64 8) = some (.int .i64 ((v0.toNat % 8 : Nat) : Int)) := fun t => rem_nat t _ 8 (by decide)
  have w1 : IntKind.i64.wrap (1 + ((v0.toNat % 8 : Nat) : Int)) = ((v0.toNat % 8 + 1 : Nat) : Int) := by rw [wrap_i64_small (by omega) (by omega)]; omega
  -- what is appended
  obtain ⟨H, hHd⟩ : ∃ H, h.alloc (.cells [.int .u8 ((v0.toNat : Nat) : Int), .int .u8 255] (.own none)) = H := ⟨_, rfl⟩
  have xH : Ext h H := by rw [← hHd]; exact (Ext.refl h).alloc _
  have gH : H.get h.next = some (.cells [.int .u8 ((v0.toNat : Nat) : Int), .int .u8 255] (.own none)) := by rw [← hHd]; simp only [go_sem, seval]
  obtain ⟨bb2, c2, x2, H2, q2, e2, X2, g2, hx2, hc2⟩ : ∃ bb2 c2 x2 H2 q2, nappend Tryz.prog 39 39 (.slice (some (h.next, 0)) 2 2 none) (.slice ba l.length c x) H = some (.slice (some (bb2, 0)) (v0 :: 255 :: l).length c2 x2, H2) ∧ Ext H H2 ∧
      H2.get bb2 = some (.cells (u8s (v0 :: 255 :: l)) q2) ∧ (x2 = none ∨ x2 = some 1) ∧ (x2 = none → (v0 :: 255 :: l).length ≤ c2) := by
    by_cases hne : l = []
    · subst hne
      exact ⟨h.next, 2, none, H, _, by cases ba <;> simp only [go_sem, seval, nappend, appended, nlenOf, srcCells], Ext.refl _, gH, .inl rfl, fun _ => by simp⟩
    · obtain ⟨bb, bo, all, mo, rfl, gb, hbt⟩ := hb.resolve_left hne
      have gb := xH.get gb
      obtain ⟨sg, sl⟩ := hbt.seg hne
      have z0 : ¬ l.length = 0 := by simpa using hne
      have z1 : ¬ 2 + l.length ≤ 2 := by omega
      have z3 : l.length + 1 + 1 = 2 + l.length := by omega
      have z2 : 2 + l.length ≤ 1099511627776 := by omega
      exact ⟨H.next, 2 + l.length, some 1, _, _, by
        simp only [go_sem, seval, nappend, appended, nlenOf, srcCells, z0, z1, z2, gb, gH, sg, sl, u8s_len, u8s_one, z3]
        rfl, (Ext.refl _).alloc _, by
        simp only [go_sem, seval]; rfl, .inr rfl, fun q => by cases q⟩
  obtain ⟨B, n, L, pv, ps, h3, eD, xD, n1, n8, hL, _, hlen, hps, hg, hsp⟩ := Decode_K (v0 :: 255 :: l) (by simp; omega) (some (bb2, 0)) c2 x2 H2 hx2 hc2 (.inr ⟨bb2, 0, _, q2, rfl, g2, Bts.self _⟩)
  obtain ⟨hn, hz, hpsl⟩ := hsp v0 l rfl
  rw [← hn] at w1
  have hpl : ps.length = l.length := by rw [hpsl]; simp
  rw [hpsl] at hg
  obtain ⟨h4, e4, x4⟩ := runs_ok20 h3
  have p1 : (1 : Int) ≤ (l.length : Int) ∨ ¬ (1 : Int) ≤ (l.length : Int) := by omega
  have hpv : ∃ bo2 c2 x2, pv = .slice bo2 l.length c2 x2 := by
    rcases hg with ⟨rfl, _, h⟩ | ⟨b, x, q, rfl, _⟩
    · simp at h; rw [h]; exact ⟨_, _, _, rfl⟩
    · exact ⟨_, _, _, by simp; exact ⟨rfl, rfl, rfl⟩⟩
  obtain ⟨bo2, c3, x3, rfl⟩ := hpv
  simp only [List.length_cons] at eD
  have keyO := fun rest => loopO h3 H2.next B n L n8 hL hz (.slice ba l.length c x) (.slice bo2 l.length c3 x3) (.int .i64 n) (fun r => ∃ h', outF Tryz.prog [.tmp 4] (thenD env (blockC 0 r) rest) = some (.bool true, h'))
  have main : ∀ rest (F' : Fr), F' 1 = .slice ba l.length c x → F' 6 = .slice bo2 l.length c3 x3 → F' 7 = .int .i64 n → (rest = tlN 6 (bodyOf Tryz.f5)) → ∃ h', outF Tryz.prog [.tmp 4] (C env rest (toL 79 F') h3) = some (.bool true, h') := by
    rintro rest F' f1 f6 f7 rfl
    by_cases hne : l = []
    · subst hne
      refine ⟨h4, ?_⟩
      simp only [tlN, tlC, bodyOf, Option.getD_some, go_sem, seval, Tryz.f5, f1, f6, f7]
      rw [S_loop]
      simp only [go_sem, seval, e4]
    · obtain ⟨bb, bo, all, mo, rfl, gb, hbt⟩ := hb.resolve_left hne
      have gb3 := xD.get (X2.get (xH.get gb))
      have keyI := fun rest => loopI h3 l hl n n8 bb bo c x all mo gb3 hbt _ (by simpa using hg) (fun r => ∃ h', outF Tryz.prog [.tmp 4] (thenD env (blockC 2 r) rest) = some (.bool true, h'))
      simp only [tlN, tlC, bodyOf, Option.getD_some, go_sem, seval, Tryz.f5, f1, f6, f7]
      refine keyI _ ?_ l.length 0 _ (by omega) ?_ ?_ ?_ ?_ ?_
      · intro F2
        exact ⟨h4, by simp only [go_sem, seval, e4]⟩
      · simp only [go_sem, seval, f1]
      · simp only [go_sem, seval, f6]
      · simp only [go_sem, seval, f7]
      · simp only [go_sem, seval]
      · simp only [go_sem, seval]
  rcases p1 with p1 | p1
  all_goals
    simp only [tlC, bodyOf, Option.getD_some, go_sem, seval, Tryz.f5, f0, f1, hHd, e2, eD, w0, rm, w1, p1]
    refine keyO _ ?_ n 0 _ (by omega) ?_ ?_ ?_ ?_ ?_ ?_
    · intro F' f1 f6 f7
      rw [blockC_exit, thenD_normal]
      exact main _ F' f1 f6 f7 rfl
    · simp only [go_sem, seval, f1]
    · simp only [go_sem, seval]
    · simp only [go_sem, seval]
    · simp only [go_sem, seval]
    · simp only [go_sem, seval]
    · simp only [go_sem, seval]

theorem shape : bodyOf Tryz.f5 = .seq (hdC (bodyOf Tryz.f5)) (.seq (hdC (tlC (bodyOf Tryz.f5))) (tlC (tlC (bodyOf Tryz.f5)))) := by kernel_rfl

theorem law (v0 : UInt8) (h : NHeap) (l : List UInt8) (ba : Option (Nat × Nat)) (c : Nat) (x : Option Nat) (hx : (x = none ∨ x = some 1) ∧ l.length ≤ c)
    (hb : l = [] ∨ ∃ bb bo all mo, ba = some (bb, bo) ∧ h.get bb = some (.cells all mo) ∧ Bts all bo l) :
    ∃ h', K env 5 [.int .u8 v0.toNat, .slice ba l.length c x] h = some (.bool true, h') := by
  rw [k5 _ _ (by simp), shape]
  generalize hrest : tlC (tlC (bodyOf Tryz.f5)) = rest
  by_cases p : (200 : Int) < (l.length : Int)
  · have hne : l ≠ [] := by rintro rfl; simp at p
    obtain ⟨bb, bo, all, mo, rfl, gb, hbt⟩ := hb.resolve_left hne
    obtain ⟨o', c', x', e1, ho, hx', hc'⟩ := slice_to (P := Tryz.prog) Tryz.underlying39 sz5 bb bo l.length c x hx.1 (fun _ => hx.2) 200 (by omega) (by omega) (by decide)
    subst ho
    have ht : (l.take 200).length = 200 := by simp; omega
    simp only [Int.cast_ofNat_Int] at e1
    simp only [bodyOf, Option.getD_some, go_sem, seval, hdC, tlC, Tryz.f5, p, e1]
    subst hrest
    refine phase2 v0 h (l.take 200) (by omega) (some (bb, o')) c' x' (.inr ⟨bb, o', all, mo, rfl, gb, hbt.take 200⟩) _ ?_ ?_
    · simp only [go_sem, seval]
    · simp only [go_sem, seval, ht]
  · simp only [bodyOf, Option.getD_some, go_sem, seval, hdC, tlC, Tryz.f5, p]
    subst hrest
    refine phase2 v0 h l (by omega) ba c x hb _ ?_ ?_
    · simp only [go_sem, seval]
    · simp only [go_sem, seval]
end scriptPicks
theorem law_true_ScriptPicks (h : NHeap) (n : Int) (hn : (Lit.int .u8 n).wf = true) (ba : Option (Nat × Nat)) (nl c : Nat) (x : Option Nat) (cs : List NVal) (hx : (x = none ∨ x = some 1) ∧ nl ≤ c) (hG : ∀ u ∈ cs, ∃ n, u = NVal.int .u8 n ∧ (Lit.int .u8 n).wf = true) (hl : cs.length = nl)
    (hb : nl = 0 ∨ ∃ b mo, ba = some (b, 0) ∧ h.get b = some (.cells cs mo)) : ∃ h', K env 5 [.int .u8 n, .slice ba nl c x] h = some (.bool true, h') := by
  obtain ⟨l, rfl⟩ := bytes_of cs hG
  have hw := wf_u8 hn
  rw [u8s_len] at hl
  subst hl
  have := scriptPicks.law (UInt8.ofNat n.toNat) h l ba c x hx (by
    rcases hb with hb | ⟨b, mo, rfl, g⟩
    · exact .inl (List.length_eq_zero_iff.1 hb)
    · exact .inr ⟨b, 0, _, mo, rfl, g, Bts.self l⟩)
  rwa [show ((UInt8.ofNat n.toNat).toNat : Int) = n by rw [UInt8.toNat_ofNat']; omega] at this
end Go.Proofs.YtfgoajnoahhghaaGreatDoor.S
