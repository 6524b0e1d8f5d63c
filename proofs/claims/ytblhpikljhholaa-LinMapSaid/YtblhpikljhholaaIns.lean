/-
  slices.Insert known by contract: whether there is room or not, it comes to one heap. No conditions beside what is said.
-/
import Derived.Test.YtblhpikljhholaaTy
namespace Go.Proofs.Ytblhpikljhholaa.S
open Go Go.RowKit Go.Proofs.Ytblhpikljhholaa.NICE
set_option maxRecDepth 100000
set_option linter.unusedSimpArgs false
set_option linter.unusedVariables false

theorem ov_ok25 : CallOk Try.prog (ovKnown 25) := ovKnown_ok Try.func25 (by kernel_rfl) (by kernel_rfl) (by kernel_rfl) (tS := 23) (tR := 4) Try.underlying23 sz35 (by kernel_rfl)
noncomputable def envO : Env Try.prog drStatic := tab.env tab_ok (orKnown (ovKnown 25) noneKnown) (orKnown_ok ov_ok25 noneKnown_ok)
theorem env_ok_at17 : FnOk Try.prog 17 (bodyOf Try.f17) 95 [.tmp 6] ∧ codeStat drStatic (bodyOf Try.f17) = true := envO.ok _ _ _ _ (by kernel_rfl)
namespace ins17
theorem kO (l : List NVal) (h : NHeap) (hl : l.length ≤ 95) : K envO 17 l h = outF Try.prog [.tmp 6] (C envO (bodyOf Try.f17) (toL 95 (argF l)) h) := K_bodyF rfl (by kernel_rfl) hl

theorem ov {h : NHeap} {va o b o' l c x n c' x' T q v vcs vq cs} (hv : h.get va = some (.cells (v :: vcs) (.own vq))) (hb : h.get b = some (.cells cs (.own (some (T, q))))) (hne : ¬ va = b) :
    K envO 25 [.slice (some (va, o)) l c x, .slice (some (b, o')) (n + 1) c' x'] h = some (.bool false, h) := K_known (by simp [envO, Tb.env, orKnown, ovKnown, idxKnown, hv, hb, hne])

variable {h : NHeap} {b vb vo vc n i : Nat} {vx : Option Nat} {cs vcs new : List NVal} {vq : Option (TypeId × Nat)}

/-- there is no room -/
theorem grow (hb : h.get b = some (.cells cs (.own (some (35, 0))))) (hl : cs.length = n * 2) (hv : h.get vb = some (.cells vcs (.own vq))) (hnew : (vcs.drop vo).take 2 = new) (hnl : new.length = 2) (hne : b ≠ vb) (hi : i < n) (hn : n < 2 ^ 30) (ho : allOne cs = true) (hon : allOne new = true) (rc : Nat) (h1 : n ≤ rc) (h2 : rc < n + 1) :
    ∃ h1, K envO 17 [.slice (some (b, 0)) n rc none, .int .i64 i, .slice (some (vb, vo)) 1 vc vx] h = some (.slice (some (h.next, 0)) (n + 1) (n + 1) (some 2), h1) ∧ h1.next = h.next + 1 ∧
      ∀ b', h1.get b' = if b' = h.next then some (.cells (cs.take (i * 2) ++ new ++ cs.drop (i * 2)) (.own (some (35, 0)))) else h.get b' := by
  have hrc : n = rc := by omega
  subst hrc
  have bl := NHeap.get_lt hb
  have vl := NHeap.get_lt hv
  have voc : vo + 2 ≤ vcs.length := by
    have := congrArg List.length hnew
    simp only [List.length_take, List.length_drop, hnl] at this
    omega
  have a1 : ¬ (i : Int) = (n : Int) := by omega
  have w1 : IntKind.i64.wrap ((n : Int) + 1) = ((n + 1 : Nat) : Int) := by rw [wrap_i64_small (by omega) (by omega)]; omega
  have a2 : (n : Int) < ((n + 1 : Nat) : Int) := by omega
  have w2 : IntKind.i64.wrap (((n + 1 : Nat) : Int) - (i : Int)) = ((n + 1 - i : Nat) : Int) := by rw [wrap_i64_small (by omega) (by omega)]; omega
  have w3 : IntKind.i64.wrap ((i : Int) + 1) = ((i + 1 : Nat) : Int) := by rw [wrap_i64_small (by omega) (by omega)]; omega
  have s1 := nslice_from (P := Try.prog) Try.underlying23 sz35 .i64 b 0 n n i (by omega) (Nat.le_refl _) hi
  have s2 := nslice_to (P := Try.prog) Try.underlying23 sz35 .i64 b 0 n n i (by omega) (by omega)
  have s3 := nslice_fromX (P := Try.prog) Try.underlying23 sz35 .i64 h.next 0 (n + 1) (n + 1) i (by omega)
  have s4 := nslice_fromX (P := Try.prog) Try.underlying23 sz35 .i64 h.next 0 (n + 1) (n + 1) (i + 1) (by omega)
  simp only [Nat.zero_add] at s1 s2 s3 s4
  obtain ⟨z, zc, hz, hzc, zl, zo⟩ : ∃ z zc, zeroOf Try.prog 35 = some z ∧ z.cells = zc ∧ zc.length = 2 ∧ allOne zc = true := ⟨_, _, ze35, rfl, rfl, rfl⟩
  obtain ⟨Z, hZ⟩ : ∃ Z, repeatCells zc (n - i) = Z := ⟨_, rfl⟩
  have hZ1 : repeatCells zc (n + 1 - i) = zc ++ Z := by rw [show n + 1 - i = (n - i) + 1 by omega, ← hZ]; rfl
  have hZl : Z.length = (n - i) * 2 := by rw [← hZ, repeat_length, zl]
  have app : nappend Try.prog 23 3 (.slice (some (b, 0)) i n none) (.int .i64 ((n + 1 - i : Nat) : Int)) h = some (.slice (some (h.next, 0)) (n + 1) (n + 1) (some 2), h.alloc (.cells (cs.take (i * 2) ++ (zc ++ Z)) (.own (some (35, 0))))) := by
    have hz2 : allOne (zc ++ Z) = true := by rw [← hZ1]; exact allOne_repeat zo _
    unfold nappend appended
    rw [Try.underlying23]
    simp only [sz35, by35, hz, hzc, zl, zo, Try.underlying3]
    rw [if_pos (by decide), if_pos ⟨by omega, by omega, trivial⟩]
    simp only [Int.toNat_natCast, hZ1]
    have e1 : i + (n + 1 - i) = n + 1 := by omega
    rw [if_pos ⟨by rw [List.length_append, zl, hZl]; omega, hz2, by omega, by omega⟩, if_neg (by omega), if_neg (by omega), srcCells_row hb (Nat.le_refl _) (by omega)]
    simp only [List.drop_zero, allOne_take ho, if_true, e1]
  obtain ⟨H1, hH1⟩ : ∃ H, h.alloc (.cells (cs.take (i * 2) ++ (zc ++ Z)) (.own (some (35, 0)))) = H := ⟨_, rfl⟩
  have g1 : H1.get h.next = some (.cells (cs.take (i * 2) ++ (zc ++ Z)) (.own (some (35, 0)))) := by rw [← hH1, NHeap.get_alloc, if_pos rfl]
  have o1 : ∀ b', b' ≠ h.next → H1.get b' = h.get b' := fun b' q => by rw [← hH1, NHeap.get_alloc, if_neg q]
  have tl : (cs.take (i * 2)).length = i * 2 := by simp; omega
  have c1 := ncopy_row (P := Try.prog) Try.underlying23 sz35 (dc := n + 1 - i) (dx := some 2) (sc := vc) (sx := vx) g1 (by rw [o1 vb (by omega)]; exact hv) (dl := n + 1 - i) (sl := 1) (o := i * 2) (so := vo) (k := 1) (by omega) (by decide) (cs := new) (by simpa using hnew) (by omega) hon (by simp only [List.length_append, tl, zl, hZl]; omega)
  have sr1 : setRange (cs.take (i * 2) ++ (zc ++ Z)) (i * 2) new = cs.take (i * 2) ++ new ++ Z := by
    have := setRange_mid (cs.take (i * 2)) zc Z new (by rw [hnl, zl])
    rw [tl, List.append_assoc] at this
    exact this
  rw [sr1] at c1
  obtain ⟨H2, hH2⟩ : ∃ H, H1.set h.next (.cells (cs.take (i * 2) ++ new ++ Z) (.own (some (35, 0)))) = H := ⟨_, rfl⟩
  have n1 : H1.next = h.next + 1 := by rw [← hH1]; rfl
  have g2 : H2.get h.next = some (.cells (cs.take (i * 2) ++ new ++ Z) (.own (some (35, 0)))) := by rw [← hH2, NHeap.get_set_same (by omega)]
  have o2 : ∀ b', b' ≠ h.next → H2.get b' = h.get b' := fun b' q => by rw [← hH2, NHeap.get_set_ne q, o1 b' q]
  have c2 := ncopy_row (P := Try.prog) Try.underlying23 sz35 (dc := n + 1 - (i + 1)) (dx := some 2) (sc := n - i) (sx := none) g2 (by rw [o2 b (by omega)]; exact hb) (dl := n + 1 - (i + 1)) (sl := n - i) (o := (i + 1) * 2) (so := i * 2) (k := n - i) (by omega) (by omega) (cs := cs.drop (i * 2)) (List.take_of_length_le (by simp; omega)) (by omega) (allOne_drop ho _) (by simp only [List.length_append, tl, hnl, hZl]; omega)
  have sr2 : setRange (cs.take (i * 2) ++ new ++ Z) ((i + 1) * 2) (cs.drop (i * 2)) = cs.take (i * 2) ++ new ++ cs.drop (i * 2) := by
    have := setRange_mid (cs.take (i * 2) ++ new) Z [] (cs.drop (i * 2)) (by rw [hZl]; simp; omega)
    rw [List.length_append, tl, hnl, List.append_nil, List.append_nil, show i * 2 + 2 = (i + 1) * 2 by omega] at this
    exact this
  rw [sr2, show n + 1 - (i + 1) = n - i by omega] at c2
  have n2 : H2.next = h.next + 1 := by rw [← hH2]; exact n1
  rw [kO _ _ (by simp)]
  refine ⟨H2.set h.next (.cells (cs.take (i * 2) ++ new ++ cs.drop (i * 2)) (.own (some (35, 0)))), ?_, ?_, ?_⟩
  · simp only [bodyOf, Option.getD_some, go_sem, seval, Try.f17, s1, s2, s3, s4, a1, w1, a2, w2, w3, app, hH1, c1, hH2, c2, n1, n2, Nat.le_refl]
  · exact n2
  · intro b'
    by_cases q : b' = h.next
    · rw [if_pos q, q, NHeap.get_set_same (by omega)]
    · rw [if_neg q, NHeap.get_set_ne q, o2 b' q]

/-- there is room -/
theorem room (hb : h.get b = some (.cells cs (.own (some (35, 0))))) (hl : cs.length = n * 2) (hv : h.get vb = some (.cells vcs (.own vq))) (hnew : (vcs.drop vo).take 2 = new) (hnl : new.length = 2) (hne : b ≠ vb) (hi : i < n) (hn : n < 2 ^ 30) (ho : allOne cs = true) (hon : allOne new = true) (rc : Nat) (h1 : n + 1 ≤ rc) :
    ∃ h1, K envO 17 [.slice (some (b, 0)) n rc none, .int .i64 i, .slice (some (vb, vo)) 1 vc vx] (h.set b (.cells (cs ++ List.replicate ((n + 1 - n) * 2) .junk) (.own (some (35, 0))))) = some (.slice (some (b, 0)) (n + 1) rc none, h1) ∧ h1.next = h.next ∧
      ∀ b', h1.get b' = if b' = b then some (.cells (cs.take (i * 2) ++ new ++ cs.drop (i * 2)) (.own (some (35, 0)))) else h.get b' := by
  have bl := NHeap.get_lt hb
  have vl := NHeap.get_lt hv
  have voc : vo + 2 ≤ vcs.length := by
    have := congrArg List.length hnew
    simp only [List.length_take, List.length_drop, hnl] at this
    omega
  obtain ⟨v0, vr, hvc⟩ : ∃ v0 vr, vcs = v0 :: vr := by
    cases vcs with
    | nil => simp at voc
    | cons a l => exact ⟨a, l, rfl⟩
  obtain ⟨J, hJ⟩ : ∃ J, List.replicate ((n + 1 - n) * 2) NVal.junk = J := ⟨_, rfl⟩
  have hJl : J.length = 2 := by rw [← hJ, List.length_replicate]; omega
  rw [hJ]
  obtain ⟨H1, hH1⟩ : ∃ H, h.set b (.cells (cs ++ J) (.own (some (35, 0)))) = H := ⟨_, rfl⟩
  have g1 : H1.get b = some (.cells (cs ++ J) (.own (some (35, 0)))) := by rw [← hH1, NHeap.get_set_same bl]
  have o1 : ∀ b', b' ≠ b → H1.get b' = h.get b' := fun b' q => by rw [← hH1, NHeap.get_set_ne q]
  have n1 : H1.next = h.next := by rw [← hH1]; rfl
  rw [hH1]
  have gv1 : H1.get vb = some (.cells (v0 :: vr) (.own vq)) := by rw [o1 vb (Ne.symm hne), hv, hvc]
  have a1 : ¬ (i : Int) = (n : Int) := by omega
  have w1 : IntKind.i64.wrap ((n : Int) + 1) = ((n + 1 : Nat) : Int) := by rw [wrap_i64_small (by omega) (by omega)]; omega
  have a2 : ¬ (rc : Int) < ((n + 1 : Nat) : Int) := by omega
  have w3 : IntKind.i64.wrap ((i : Int) + 1) = ((i + 1 : Nat) : Int) := by rw [wrap_i64_small (by omega) (by omega)]; omega
  have s1 := nslice_from (P := Try.prog) Try.underlying23 sz35 .i64 b 0 n rc i (by omega) (by omega) (by omega)
  have s2 := nslice_to (P := Try.prog) Try.underlying23 sz35 .i64 b 0 n rc (n + 1) (by omega) (by omega)
  have s3 := nslice_from (P := Try.prog) Try.underlying23 sz35 .i64 b 0 (n + 1) rc i (by omega) (by omega) (by omega)
  have s4 := nslice_from (P := Try.prog) Try.underlying23 sz35 .i64 b 0 (n + 1) rc (i + 1) (by omega) (by omega) (by omega)
  simp only [Nat.zero_add] at s1 s2 s3 s4
  obtain ⟨m, hm⟩ : ∃ m, n - i = m + 1 := ⟨n - i - 1, by omega⟩
  have e1 : n + 1 - (i + 1) = m + 1 := by omega
  have e2 : n + 1 - i = m + 2 := by omega
  rw [e1] at s4
  rw [e2] at s3
  have hov := ov (o := vo) (l := 1) (c := vc) (x := vx) (o' := (i + 1) * 2) (n := m) (c' := rc - (i + 1)) (x' := none) gv1 g1 (Ne.symm hne)
  have tl : (cs.take (i * 2)).length = i * 2 := by simp; omega
  -- the first copy
  have c1 := ncopy_row (P := Try.prog) Try.underlying23 sz35 (dc := rc - (i + 1)) (dx := none) (sc := rc - i) (sx := none) g1 g1 (dl := m + 1) (sl := m + 2) (o := (i + 1) * 2) (so := i * 2) (k := m + 1) (by omega) (by omega) (cs := cs.drop (i * 2)) (by
    rw [List.drop_append, show i * 2 - cs.length = 0 by omega, List.drop_zero, List.take_append_of_le_length (by simp; omega), List.take_of_length_le (by simp; omega)]) (by simp only [List.length_append, hJl]; omega) (allOne_drop ho _) (by simp only [List.length_append, hJl]; omega)
  obtain ⟨M, hM⟩ : ∃ M, ((cs ++ J).drop (i * 2)).take 2 = M := ⟨_, rfl⟩
  have hMl : M.length = 2 := by rw [← hM]; simp; omega
  have sr1 : setRange (cs ++ J) ((i + 1) * 2) (cs.drop (i * 2)) = cs.take (i * 2) ++ M ++ cs.drop (i * 2) := by
    have e : cs ++ J = (cs.take (i * 2) ++ M) ++ (cs ++ J).drop ((i + 1) * 2) ++ [] := by
      rw [← hM, List.append_nil]
      conv => lhs; rw [← List.take_append_drop (i * 2) (cs ++ J), ← List.take_append_drop 2 ((cs ++ J).drop (i * 2))]
      rw [List.take_append_of_le_length (by omega), List.drop_drop, ← List.append_assoc, show i * 2 + 2 = (i + 1) * 2 by omega]
    have := setRange_mid (cs.take (i * 2) ++ M) ((cs ++ J).drop ((i + 1) * 2)) [] (cs.drop (i * 2)) (by simp; omega)
    rw [← e, List.length_append, tl, hMl, List.append_nil, show i * 2 + 2 = (i + 1) * 2 by omega] at this
    exact this
  rw [sr1] at c1
  obtain ⟨H2, hH2⟩ : ∃ H, H1.set b (.cells (cs.take (i * 2) ++ M ++ cs.drop (i * 2)) (.own (some (35, 0)))) = H := ⟨_, rfl⟩
  have g2 : H2.get b = some (.cells (cs.take (i * 2) ++ M ++ cs.drop (i * 2)) (.own (some (35, 0)))) := by rw [← hH2, NHeap.get_set_same (by omega)]
  have o2 : ∀ b', b' ≠ b → H2.get b' = h.get b' := fun b' q => by rw [← hH2, NHeap.get_set_ne q, o1 b' q]
  have n2 : H2.next = h.next := by rw [← hH2]; exact n1
  have c2 := ncopy_row (P := Try.prog) Try.underlying23 sz35 (dc := rc - i) (dx := none) (sc := vc) (sx := vx) g2 (by rw [o2 vb (Ne.symm hne)]; exact hv) (dl := m + 2) (sl := 1) (o := i * 2) (so := vo) (k := 1) (by omega) (by decide) (cs := new) (by simpa using hnew) (by omega) hon (by simp only [List.length_append, tl, hMl]; omega)
  have sr2 : setRange (cs.take (i * 2) ++ M ++ cs.drop (i * 2)) (i * 2) new = cs.take (i * 2) ++ new ++ cs.drop (i * 2) := by
    have := setRange_mid (cs.take (i * 2)) M (cs.drop (i * 2)) new (by rw [hnl, hMl])
    rw [tl] at this
    exact this
  rw [sr2] at c2
  rw [kO _ _ (by simp)]
  refine ⟨H2.set b (.cells (cs.take (i * 2) ++ new ++ cs.drop (i * 2)) (.own (some (35, 0)))), ?_, ?_, ?_⟩
  · simp only [bodyOf, Option.getD_some, go_sem, seval, Try.f17, s1, s2, s3, s4, a1, w1, a2, w3, hov, c1, hH2, c2, n1, n2, Nat.le_refl]
  · exact n2
  · intro b'
    by_cases q : b' = b
    · rw [if_pos q, q, NHeap.get_set_same (by omega)]
    · rw [if_neg q, NHeap.get_set_ne q, o2 b' q]

end ins17

/-- one element more, at a place ahead of the end, of a row that append made -/
noncomputable def insKnown17 : CallF := fun f l h => if f = 17 then (match l with
  | [.slice (some (b, 0)) n c (some z), .int .i64 (.ofNat i), .slice (some (vb, vo)) 1 vc vx] => (match h.get b, h.get vb with
    | some (.cells cs (.own (some (T, 0)))), some (.cells vcs (.own _)) =>
      if b ≠ vb ∧ z = 2 ∧ T = 35 ∧ cs.length = n * 2 ∧ i < n ∧ n < 2 ^ 30 ∧ ((vcs.drop vo).take 2).length = 2 ∧ allOne cs = true ∧ allOne ((vcs.drop vo).take 2) = true then
        some (.slice (some (h.next, 0)) (n + 1) (n + 1) (some 2), (h.set b .dead).alloc (.cells (cs.take (i * 2) ++ (vcs.drop vo).take 2 ++ cs.drop (i * 2)) (.own (some (35, 0)))))
      else none
    | _, _ => none)
  | _ => none) else none

theorem insKnown17_ok : CallOk Try.prog insKnown17 := by
  intro f l h v h' q
  unfold insKnown17 at q
  split at q
  · rename_i hf
    subst hf
    split at q
    · rename_i b n c z i vb vo vc vx
      split at q
      · rename_i cs T vcs vq gb gv
        split at q
        · rename_i hc
          obtain ⟨hne, rfl, rfl, hl, hi, hn, hnl, ho, hon⟩ := hc
          cases q
          refine .inl ⟨((env_ok_at17).1).enters, ?_⟩
          refine ins_sim gb hl (by omega) (by omega) ?_ ?_ ?_
          · simp only [List.length_append, hnl, List.length_take, List.length_drop]; omega
          · intro rc r1 r2
            obtain ⟨h1, e1, e2, e3⟩ := ins17.grow (vc := vc) (vx := vx) gb hl gv rfl hnl hne hi hn ho hon rc r1 r2
            exact ⟨h1, K_sim (Checked.mixed Try.checked) rfl e1, e2, e3⟩
          · intro rc r1
            obtain ⟨h1, e1, e2, e3⟩ := ins17.room (vc := vc) (vx := vx) gb hl gv rfl hnl hne hi hn ho hon rc r1
            exact ⟨h1, K_sim (Checked.mixed Try.checked) rfl e1, e2, e3⟩
        · cases q
      · cases q
    · cases q
  · cases q

noncomputable def insAll : CallF := (orKnown insKnown17 (orKnown (ovKnown 25) noneKnown))
theorem insAll_ok : CallOk Try.prog insAll := (orKnown_ok insKnown17_ok (orKnown_ok ov_ok25 noneKnown_ok))
end Go.Proofs.Ytblhpikljhholaa.S
