/- A region whose order is drawn: the step that changes memory, the beginning, the end, the whole. -/
import Derived.Test.YtblhpikljhholaaNice19
set_option linter.unusedVariables false
set_option linter.unusedSimpArgs false
set_option linter.unusedSectionVars false
namespace Go.Proofs.Ytblhpikljhholaa.NICE
open Go Go.RowKit

variable {P : Program} {ops : Array Oper} {ts0 : List NVal} {h0 : NHeap} {d : Dr}

/-- the rows kept for later are taken in -/
theorem adopt_at (K : DrOk P ops ts0 h0 d) {w0 ws w : World} {ι0 ι : Inj} {listed : Array Bool} {k : Nat} {a : Act} (R : RI P ops ts0 h0 d w0 ws ι0 listed k a ι w) (hws : w0.heap.size ≤ ws.heap.size) {k' : Nat} (hk : k < k')
    (hdone : ∀ (i : Nat) id cs, (i, id, cs) ∈ d.L k' → Done listed i) :
    Inv w0 ι (adoptAll (d.H k) (d.L k')) w ∧ (∀ rb, Owned ι (adoptAll (d.H k) (d.L k')) rb → Owned ι (d.H k) rb ∨ ∃ x ∈ d.L k', ∃ m, ι x.2.1 = some (rb, 0, m)) ∧ Step ι0 h0 ws ι (adoptAll (d.H k) (d.L k')) w := by
  have pend : ∀ x ∈ d.L k', Pend ι ws w (d.H k) x.2.1 x.2.2 := by
    rintro ⟨i, id, cs⟩ hx
    obtain ⟨hc, hi, _⟩ := K.Lok k' i id cs hx
    exact R.pd i id cs hi hc (hdone i id cs hx) fun k2 hk2 hx2 => by have := K.Lun k' k2 _ hx hx2; omega
  have hpw : (d.L k').Pairwise (fun x y => ∀ rb s m s' m', ι x.2.1 = some (rb, s, m) → ι y.2.1 ≠ some (rb, s', m')) := by
    have nd := K.Lnd k'
    rw [List.nodup_iff_pairwise_ne] at nd
    refine nd.imp_of_mem ?_
    rintro ⟨i, id, cs⟩ ⟨j, id', cs'⟩ hx hy hne
    obtain ⟨hc, hi, _⟩ := K.Lok k' i id cs hx
    obtain ⟨hc', hj, _⟩ := K.Lok k' j id' cs' hy
    exact R.pdd i id cs j id' cs' hi hj hc hc' (hdone i id cs hx) (hdone j id' cs' hy) fun q => by
      subst q; rw [hc] at hc'; cases hc'; exact hne rfl
  obtain ⟨I, o⟩ := Inv.adoptAll hws R.inv pend hpw
  refine ⟨I, o, ?_⟩
  have S := R.step
  refine ⟨S.ext, S.new, S.size, S.frame, fun rb q => ?_, by rw [adoptAll_next]; exact S.next⟩
  rcases o rb q with q | ⟨x, hx, m, q⟩
  · exact S.own rb q
  · obtain ⟨rb', m', c, e, q1, q2, _⟩ := (pend x hx).ex
    rw [q] at q1; cases q1; exact .inr q2

section steps
variable (K : DrOk P ops ts0 h0 d) {w0 ws w : World} {ι0 ι : Inj} {listed : Array Bool} {k : Nat} {a : Act} (R : RI P ops ts0 h0 d w0 ws ι0 listed k a ι w) {i : Nat} {o : Oper} (ho : ops[i]? = some o) (hun : ¬ Done listed i)
  (hdir : ∀ e ∈ o.after, Region.binds .any e = true → Done listed e.on)
include K R ho hun hdir

theorem eff_next {k' : Nat} (hc : d.cls i = .eff k') : k' = k + 1 := by
  have hi : i < ops.size := (Array.getElem?_eq_some_iff.1 ho).1
  have hk' : ¬ k' ≤ k := fun q => hun ((R.ek i k' hi hc).2 q)
  obtain ⟨h1, h2, _⟩ := K.effs i o k' ho hc
  rcases Nat.lt_or_ge (k + 1) k' with q | q
  · obtain ⟨j, hj, hcj⟩ := K.all (k + 1) (by omega) (by omega)
    have hb := K.chain j i (k + 1) k' hj hi hcj hc q
    have := mask_done K R.clo i i o (Nat.le_refl _) ho hdir j hb
    have := (R.ek j (k + 1) hj hcj).1 this
    omega
  · omega

/-- memory is changed -/
theorem step_eff (hws : w0.heap.size ≤ ws.heap.size) (hc : d.cls i = .eff (k + 1)) {ι' : Inj} {w' : World} {rv : Value} (hv : VR ι' (d.val i) rv) (I' : Inv w0 ι' (d.H (k + 1)) w') (S' : Step ι (adoptAll (d.H k) (d.L (k + 1))) w ι' (d.H (k + 1)) w') :
    RI P ops ts0 h0 d w0 ws ι0 (listed.setIfInBounds i true) (k + 1) (a.put o.dst rv) ι' w' := by
  have hi : i < ops.size := (Array.getElem?_eq_some_iff.1 ho).1
  have hil : i < listed.size := by rw [R.sz]; exact hi
  obtain ⟨h1, h2, _, hnx⟩ := K.effs i o (k + 1) ho hc
  have hdone : ∀ (j : Nat) id cs, (j, id, cs) ∈ d.L (k + 1) → Done listed j := fun j id cs hx =>
    mask_done K R.clo i i o (Nat.le_refl _) ho hdir j ((K.Lok (k + 1) j id cs hx).2.2 h2 i hi hc)
  obtain ⟨I1, o1, S1⟩ := adopt_at K R hws (Nat.lt_succ_self k) hdone
  obtain ⟨t1, t2⟩ := tv_put K R ho hun S'.ext hv
  have other : ∀ {j : Nat}, Done (listed.setIfInBounds i true) j → j ≠ i → Done listed j := fun q n => ((done_set hil).1 q).resolve_left n
  have notflt : ∀ {j id cs}, d.cls j = .flt id cs → j ≠ i := by
    intro j id cs q e; subst e; rw [hc] at q; cases q
  have nx : (d.H 0).next ≤ (adoptAll (d.H k) (d.L (k + 1))).next := by rw [adoptAll_next]; exact R.nx
  have same : ∀ {j id cs x}, j < ops.size → d.cls j = .flt id cs → ι' id = some x → ι id = some x := by
    intro j id cs x hj hcj q
    rcases S'.new id x q with q' | q'
    · exact q'
    · have := (K.flts j ops[j] id cs (by simp [hj]) hcj).2.1; omega
  refine ⟨by simp [R.sz], clo_set K R ho hun hdir, t1, t2, by rw [put_defers]; exact R.df, h2, ?_, I', S1.trans S', by
    have := hnx; simp only [Nat.add_sub_cancel] at this; omega, ?_, ?_, ?_, ?_⟩
  · intro j k2 hj hcj
    rw [done_set hil]
    by_cases hji : j = i
    · subst hji; rw [hc] at hcj; cases hcj; simp
    · have e := R.ek j k2 hj hcj
      constructor
      · rintro (q | q)
        · exact absurd q hji
        · have := e.1 q; omega
      · intro q
        rcases Nat.lt_or_ge k k2 with q' | q'
        · have : k2 = k + 1 := by omega
          subst this
          exact absurd (K.uniq j i (k + 1) hj hi hcj hc) hji
        · exact .inr (e.2 q')
  · intro j id cs hj hcj hn
    have hnone := R.un j id cs hj hcj fun q => hn ((done_set hil).2 (.inr q))
    cases e : ι' id with
    | none => rfl
    | some x => have := same hj hcj e; rw [hnone] at this; cases this
  · intro j id cs hj hcj hdj hL
    have hdl := other hdj (notflt hcj)
    obtain ⟨rb, m, c, e, q1, q2, q3, q4, q5, q6, q7⟩ := (R.pd j id cs hj hcj hdl fun k2 hk2 => hL k2 (by omega)).ex
    have hlt : rb < w.heap.size := (Array.getElem?_eq_some_iff.1 q3).1
    -- it isn't among those that were taken in
    have notown : ¬ Owned ι (adoptAll (d.H k) (d.L (k + 1))) rb := by
      intro q
      rcases o1 rb q with q | ⟨⟨j', id', cs'⟩, hx, m', q⟩
      · exact q7 q
      · obtain ⟨hc', hj', _⟩ := K.Lok (k + 1) j' id' cs' hx
        by_cases hjj : j' = j
        · subst hjj; rw [hcj] at hc'; cases hc'; exact hL (k + 1) (Nat.le_refl _) hx
        · exact R.pdd j' id' cs' j id cs hj' hj hc' hcj (hdone j' id' cs' hx) hdl hjj rb 0 m' 0 m q q1
    refine ⟨rb, m, c, e, S'.ext _ _ q1, q2, by rw [S'.frame rb hlt notown]; exact q3, q4, q5, fun z v hz => ?_, fun q => ?_⟩
    · obtain ⟨r, hr, hv'⟩ := q6 z v hz; exact ⟨r, hr, hv'.mono S'.ext⟩
    · rcases S'.own rb q with q | q
      · exact notown q
      · omega
  · intro j id cs hj hcj hdj rb s m e
    have := R.fl j id cs hj hcj (other hdj (notflt hcj)) rb s m (same hj hcj e)
    exact Nat.lt_of_lt_of_le this S'.size
  · intro j id cs j' id' cs' hj hj' hc1 hc2 hd1 hd2 hne rb s m s' m' e1 e2
    exact R.pdd j id cs j' id' cs' hj hj' hc1 hc2 (other hd1 (notflt hc1)) (other hd2 (notflt hc2)) hne rb s m s' m' (same hj hc1 e1) (same hj' hc2 e2)
end steps

/-- every order comes to the same end -/
theorem any_sound (K : DrOk P ops ts0 h0 d) {w0 ws : World} {ι0 : Inj} (hws : w0.heap.size ≤ ws.heap.size) {Q : Exit → Act → World → Prop}
    (hQ : ∀ ι' w' a', VRs ι' (d.tsAt ops.size) a'.tmps.toList → a'.defers = [] → Inv w0 ι' (adoptAll (d.H d.m) (d.L (d.m + 1))) w' → Step ι0 h0 ws ι' (adoptAll (d.H d.m) (d.L (d.m + 1))) w' → Q .normal a' w') :
    ∀ (fuel : Nat) (listed : Array Bool) (k : Nat) (a : Act) (ι : Inj) (w : World), listed.toList.count false ≤ fuel → RI P ops ts0 h0 d w0 ws ι0 listed k a ι w → wpAny P .any ops Q fuel listed a w := by
  -- where nothing is ready all is done
  have allDone : ∀ {listed : Array Bool} {k a ι w}, RI P ops ts0 h0 d w0 ws ι0 listed k a ι w → Region.ready .any ops listed = [] → ∀ n i, i ≤ n → i < ops.size → Done listed i := by
    intro listed k a ι w R hr n
    induction n with
    | zero =>
      intro i hi hio
      apply Classical.byContradiction
      intro hnd
      have : i ∈ Region.ready .any ops listed := by
        rw [mem_ready]
        refine ⟨?_, ops[i], by simp [hio], fun e he hb => ?_⟩
        · have hil : i < listed.size := by rw [R.sz]; exact hio
          unfold Done at hnd; simp [Array.getD_eq_getD_getElem?, hil] at hnd ⊢; exact hnd
        · have := K.edges i _ (by simp [hio]) e he hb; omega
      rw [hr] at this; cases this
    | succ n ih =>
      intro i hi hio
      apply Classical.byContradiction
      intro hnd
      have : i ∈ Region.ready .any ops listed := by
        rw [mem_ready]
        refine ⟨?_, ops[i], by simp [hio], fun e he hb => ?_⟩
        · have hil : i < listed.size := by rw [R.sz]; exact hio
          unfold Done at hnd; simp [Array.getD_eq_getD_getElem?, hil] at hnd ⊢; exact hnd
        · have := K.edges i _ (by simp [hio]) e he hb
          exact ih e.on (by omega) (by omega)
      rw [hr] at this; cases this
  have fin : ∀ {listed : Array Bool} {k a ι w}, RI P ops ts0 h0 d w0 ws ι0 listed k a ι w → Region.ready .any ops listed = [] → Q .normal a w := by
    intro listed k a ι w R hr
    have hall : ∀ i, i < ops.size → Done listed i := fun i hi => allDone R hr i i (Nat.le_refl _) hi
    have hkm : k = d.m := by
      rcases Nat.lt_or_ge k d.m with q | q
      · obtain ⟨i, hi, hc⟩ := K.all (k + 1) (by omega) (by omega)
        have := (R.ek i (k + 1) hi hc).1 (hall i hi)
        omega
      · have := R.km; omega
    subst hkm
    obtain ⟨I, _, S⟩ := adopt_at K R hws (Nat.lt_succ_self _) (fun i id cs hx => hall i (K.Lok _ i id cs hx).2.1)
    refine hQ ι w a ?_ R.df I S
    obtain ⟨hl, sp⟩ := tsAt_spec K ops.size (Nat.le_refl _)
    refine .of_get (by rw [hl]; simpa using R.len.symm) fun t u r hu hr' => ?_
    have ht : t < ts0.length := by rw [← hl]; exact (List.getElem?_eq_some_iff.1 hu).1
    obtain ⟨u1, h1, h2⟩ := sp t ht
    rw [hu] at h1; cases h1
    obtain ⟨u', r', h3, h4, h5⟩ := R.tv t ht
    rw [Array.getElem?_toList, h3] at hr'; cases hr'
    have e : u = u' := by
      rcases h2 with ⟨j, oj, a1, a2, a3, a4, a5⟩ | ⟨b1, b2⟩
      · rcases h5 with ⟨j1, o1, c1, c2, c3, c4, c5⟩ | ⟨c1, c2⟩
        · have hj1 : j1 < ops.size := (Array.getElem?_eq_some_iff.1 c2).1
          have : j1 = j := by
            rcases Nat.lt_trichotomy j1 j with q | q | q
            · exact absurd a3 (c4 j oj q (hall j a1) a2)
            · exact q
            · exact absurd c3 (a4 j1 o1 q hj1 c2)
          subst this; rw [a5, c5]
        · exact absurd a3 (c1 j oj (hall j a1) a2)
      · rcases h5 with ⟨j1, o1, c1, c2, c3, c4, c5⟩ | ⟨c1, c2⟩
        · exact absurd c3 (b1 j1 o1 (Array.getElem?_eq_some_iff.1 c2).1 c2)
        · rw [b2] at c2; cases c2; rfl
    rw [e]; exact h4
  intro fuel
  induction fuel with
  | zero =>
    intro listed k a ι w hcnt R
    have hr : Region.ready .any ops listed = [] := by
      apply List.eq_nil_iff_forall_not_mem.2
      intro i hi
      obtain ⟨h1, o, ho, _⟩ := mem_ready.1 hi
      have hil : i < listed.size := by rw [R.sz]; exact (Array.getElem?_eq_some_iff.1 ho).1
      have : false ∈ listed.toList := by
        refine List.mem_iff_getElem?.2 ⟨i, ?_⟩
        rw [Array.getElem?_toList]
        simp [Array.getD_eq_getD_getElem?, hil] at h1; simp [hil, h1]
      have := List.count_pos_iff.2 this
      omega
    exact ⟨hr, fin R hr⟩
  | succ fuel ih =>
    intro listed k a ι w hcnt R
    refine ⟨fun hr => fin R hr, fun i hi => ?_⟩
    obtain ⟨h1, o, ho, hdir⟩ := mem_ready.1 hi
    have hio : i < ops.size := (Array.getElem?_eq_some_iff.1 ho).1
    have hil : i < listed.size := by rw [R.sz]; exact hio
    have hlf : listed[i] = false := by simpa [Array.getD_eq_getD_getElem?, hil] using h1
    have hun : ¬ Done listed i := by unfold Done; simp [Array.getD_eq_getD_getElem?, hil, hlf]
    have hcnt' : (listed.setIfInBounds i true).toList.count false ≤ fuel := by
      rw [Array.toList_setIfInBounds]
      have hset := List.count_set (a := true) (b := false) (l := listed.toList) (i := i) (by simpa using hil)
      have e1 : (listed.toList[i]'(by simpa using hil) == false) = true := by simp [hlf]
      rw [hset, if_pos e1, if_neg (by simp)]
      omega
    unfold wpOp
    simp only [ho]
    cases hc : d.cls i with
    | skip =>
      obtain ⟨s1, s2⟩ := K.skip i o ho hc
      rw [if_neg (by rw [want_at K R ho hun hdir s1]; simp)]
      refine ih _ k _ ι w hcnt' (step_quiet K R ho hun hdir (fun id cs q => by rw [hc] at q; cases q) (fun k' q => by rw [hc] at q; cases q) (by rw [s2]; exact .undef))
    | val =>
      have hw := want_at K R ho hun hdir (K.run i o ho (by rw [hc]; simp))
      rw [if_pos hw]
      left
      have hsim := K.vals i o ho hc k R.km (fun j k' hcj hj hb => (R.ek j k' hj hcj).1 (mask_done K R.clo i i o (Nat.le_refl _) ho hdir j hb))
        (fun j k' hcj hj hb => by
          apply Classical.byContradiction
          intro q
          have hdj := (R.ek j k' hj hcj).2 (by omega)
          have hoj : ops[j]? = some ops[j] := by simp [hj]
          exact hun (mask_done K R.clo j j _ (Nat.le_refl _) hoj (R.clo j _ hdj hoj) i hb))
      obtain ⟨rv, r1, r2⟩ := hsim w0 ι w a.eval R.inv (rel_at K R ho hun hdir)
      unfold Oper.wp
      rw [r2]
      exact ih _ k _ ι w hcnt' (step_quiet K R ho hun hdir (fun id cs q => by rw [hc] at q; cases q) (fun k' q => by rw [hc] at q; cases q) r1)
    | eff k' =>
      have hw := want_at K R ho hun hdir (K.run i o ho (by rw [hc]; simp))
      rw [if_pos hw]
      left
      have hk' := eff_next K R ho hun hdir hc
      subst hk'
      obtain ⟨e1, e2, e3, _⟩ := K.effs i o (k + 1) ho hc
      have hdone : ∀ (j : Nat) id cs, (j, id, cs) ∈ d.L (k + 1) → Done listed j := fun j id cs hx =>
        mask_done K R.clo i i o (Nat.le_refl _) ho hdir j ((K.Lok (k + 1) j id cs hx).2.2 e2 i hio hc)
      obtain ⟨I1, _, _⟩ := adopt_at K R hws (Nat.lt_succ_self k) hdone
      simp only [Nat.add_sub_cancel] at e3
      exact e3 w0 ι w a _ Q I1 (rel_at K R ho hun hdir) fun ι' w' rv hv I' S' => ih _ (k + 1) _ ι' w' hcnt' (step_eff K R ho hun hdir hws hc hv I' S')
    | flt id cs =>
      have hw := want_at K R ho hun hdir (K.run i o ho (by rw [hc]; simp))
      rw [if_pos hw]
      left
      obtain ⟨f1, f2, mk, f3, f4⟩ := K.flts i o id cs ho hc
      obtain ⟨c, e, rv, r1, r2, r3⟩ := new_raw (rel_at K R ho hun hdir) f3
      unfold Oper.wp
      rw [r1 w]
      exact ih _ k _ _ _ hcnt' (step_float K R ho hun hdir hws hc r2 (by rw [f4]; exact r3 _ _ _ (by simp)))

/-- block numbers kept for rows that come -/
def reserve : Nat → NHeap → NHeap
  | 0, h => h
  | n + 1, h => reserve n (h.alloc .dead)

theorem Inv.reserve1 {w0 w : World} {ι : Inj} {h : NHeap} (I : Inv w0 ι h w) : Inv w0 ι (h.alloc .dead) w ∧ Step ι h w ι (h.alloc .dead) w := by
  have get : ∀ {b ob}, (h.alloc .dead).get b = some ob → ob = .dead ∨ h.get b = some ob := by
    intro b ob q
    rw [NHeap.get_alloc] at q
    split at q
    · cases q; exact .inl rfl
    · exact .inr q
  refine ⟨⟨I.below, fun b x q => by have := I.fresh b x q; simp; omega, ?_, ?_, ?_, ?_, ?_⟩, ⟨ι.le_refl, fun _ _ q => .inl q, Nat.le_refl _, fun _ _ _ => rfl, ?_, by simp⟩⟩
  · intro b l t q
    rcases get q with q' | q'
    · cases q'
    · exact I.cells b l q'
  · intro b l T k q
    rcases get q with q' | q'
    · cases q'
    · exact I.typed b l T k q'
  · intro b l q
    rcases get q with q' | q'
    · cases q'
    · exact I.ro b l q'
  · intro b l q
    rcases get q with q' | q'
    · cases q'
    · exact I.maps b l q'
  · intro b b' o1 o2 rb s s' m m' g1 w1 g2 w2 i1 i2
    rcases get g1 with q1 | q1
    · subst q1; simp [NObj.owned] at w1
    · rcases get g2 with q2 | q2
      · subst q2; simp [NObj.owned] at w2
      · exact I.inj b b' o1 o2 rb s s' m m' q1 w1 q2 w2 i1 i2
  · rintro rb ⟨b, ob, s, m, g, ho, hi⟩
    rcases get g with q | q
    · subst q; simp [NObj.owned] at ho
    · exact .inl ⟨b, ob, s, m, q, ho, hi⟩

theorem Inv.reserve {w0 w : World} {ι : Inj} : ∀ (n : Nat) {h : NHeap}, Inv w0 ι h w → Inv w0 ι (NICE.reserve n h) w ∧ Step ι h w ι (NICE.reserve n h) w
  | 0, h, I => ⟨I, Step.refl _ _ _⟩
  | n + 1, h, I => by
    obtain ⟨I1, S1⟩ := I.reserve1
    obtain ⟨I2, S2⟩ := Inv.reserve n I1
    exact ⟨I2, S1.trans S2⟩

theorem reserve_next : ∀ (n : Nat) (h : NHeap), (reserve n h).next = h.next + n
  | 0, h => rfl
  | n + 1, h => by simp [reserve, reserve_next n]; omega

theorem drawn_sound (hm : P.follows .mixedOrders = true) (K : DrOk P ops ts0 h0 d) {nf : Nat} (hH : d.H 0 = reserve nf h0) (id : Nat) :
    SimC P (.region id ops true) ts0 h0 .normal (d.tsAt ops.size) (adoptAll (d.H d.m) (d.L (d.m + 1))) := by
  intro w0 ι w a Q I ht hd hQ
  refine wp_region_any hm ?_
  rw [World.drew_eq]
  have Id := I.drew
  obtain ⟨I1, S1⟩ := Id.reserve nf
  have hdef : ∀ i, ¬ Done (Array.replicate ops.size false) i := by
    intro i q
    unfold Done at q
    by_cases hi : i < ops.size
    · simp [Array.getD_eq_getD_getElem?, hi] at q
    · simp [Array.getD_eq_getD_getElem?, hi] at q
  refine any_sound K (ws := w.drew) (ι0 := ι) I.below.size (fun ι' w' a' t' d' I' S' => hQ ι' w' a' t' d' I' ((Step.drew w ι h0).trans S')) ops.size _ 0 a ι w.drew (by simp) ?_
  have hlen : a.tmps.size = ts0.length := by have := ht.length; simp at this; omega
  refine ⟨by simp, fun j o q => absurd q (hdef j), hlen, fun t htl => ?_, hd, Nat.zero_le _, fun i k' hi hc => ?_, by rw [hH]; exact I1, by rw [hH]; exact S1, Nat.le_refl _, fun i id cs hi hc _ => ?_, fun i id cs _ _ q => absurd q (hdef i), fun i id cs _ _ q => absurd q (hdef i), fun i id cs j id' cs' _ _ _ _ q => absurd q (hdef i)⟩
  · obtain ⟨r, hr, hv⟩ := ht.get (i := t) (a := ts0[t]) (by simp [htl])
    exact ⟨ts0[t], r, by simpa using hr, hv, .inr ⟨fun j o q => absurd q (hdef j), by simp [htl]⟩⟩
  · constructor
    · intro q; exact absurd q (hdef i)
    · intro q
      have := (K.effs i ops[i] k' (by simp [hi]) hc).1
      omega
  · obtain ⟨f1, _⟩ := K.flts i ops[i] id cs (by simp [hi]) hc
    cases e : ι id with
    | none => rfl
    | some x => have := I.fresh _ _ e; omega
end Go.Proofs.Ytblhpikljhholaa.NICE
