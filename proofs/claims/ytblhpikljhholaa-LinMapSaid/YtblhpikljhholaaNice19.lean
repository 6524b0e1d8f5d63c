/- A region whose order is drawn: the steps, and the whole. -/
import Derived.Test.YtblhpikljhholaaNice18
set_option linter.unusedVariables false
set_option linter.unusedSimpArgs false
set_option linter.unusedSectionVars false
namespace Go.Proofs.Ytblhpikljhholaa.NICE
open Go Go.RowKit

variable {P : Program} {ops : Array Oper} {ts0 : List NVal} {h0 : NHeap} {d : Dr}

theorem rel_at (K : DrOk P ops ts0 h0 d) {w0 ws w : World} {ι0 ι : Inj} {listed : Array Bool} {k : Nat} {a : Act} (R : RI P ops ts0 h0 d w0 ws ι0 listed k a ι w) {i : Nat} {o : Oper} (ho : ops[i]? = some o) (hun : ¬ Done listed i)
    (hdir : ∀ e ∈ o.after, Region.binds .any e = true → Done listed e.on) : RelOn ι (ev (d.tsAt i)) a.eval o.op.operands := by
  have hi : i < ops.size := (Array.getElem?_eq_some_iff.1 ho).1
  obtain ⟨hl, _⟩ := tsAt_spec K i (by omega)
  intro x hx u hu
  cases x with
  | tmp t =>
    simp only [ev] at hu; cases hu
    simp only [Act.eval]
    rcases Nat.lt_or_ge t ts0.length with ht | ht
    · obtain ⟨u, r, h1, h2, h3⟩ := read_at K R ho hun hdir ht (by
        unfold looks
        exact List.mem_append_left _ (List.mem_filterMap.2 ⟨.tmp t, by simpa using hx, rfl⟩))
      simp [List.getD, Array.getD_eq_getD_getElem?, h1, h2]; exact h3
    · have e1 : (d.tsAt i)[t]? = none := by rw [List.getElem?_eq_none_iff]; omega
      have e2 : a.tmps[t]? = none := by rw [Array.getElem?_eq_none_iff, R.len]; omega
      simp [List.getD, Array.getD_eq_getD_getElem?, e1, e2]; exact .undef
  | const v => exact ofVal_sound 4 hu
  | global g => cases hu
  | func f => cases hu; exact .func' (by simpa using All2.nil) (by simpa using All2.nil)

theorem want_at (K : DrOk P ops ts0 h0 d) {w0 ws w : World} {ι0 ι : Inj} {listed : Array Bool} {k : Nat} {a : Act} (R : RI P ops ts0 h0 d w0 ws ι0 listed k a ι w) {i : Nat} {o : Oper} (ho : ops[i]? = some o) (hun : ¬ Done listed i)
    (hdir : ∀ e ∈ o.after, Region.binds .any e = true → Done listed e.on) {b : Bool} (hw : nwanted ops o (d.tsAt i) = some b) : Region.wanted o (yielded ops a.tmps) = b := by
  have hi : i < ops.size := (Array.getElem?_eq_some_iff.1 ho).1
  obtain ⟨hl, _⟩ := tsAt_spec K i (by omega)
  refine wanted_sound hw fun j want t hg ht _ => ⟨ι, fun u hu => ?_, fun hn => ?_⟩
  · have htl : t < ts0.length := by rw [← hl]; exact (List.getElem?_eq_some_iff.1 hu).1
    obtain ⟨u', r, h1, h2, h3⟩ := read_at K R ho hun hdir htl (by
      unfold looks; refine List.mem_append_right _ ?_; rw [hg]; simp [ht])
    rw [hu] at h1; cases h1; exact ⟨r, h2, h3⟩
  · rw [List.getElem?_eq_none_iff] at hn
    rw [Array.getElem?_eq_none_iff, R.len]; omega

section steps
variable (K : DrOk P ops ts0 h0 d) {w0 ws w : World} {ι0 ι : Inj} {listed : Array Bool} {k : Nat} {a : Act} (R : RI P ops ts0 h0 d w0 ws ι0 listed k a ι w) {i : Nat} {o : Oper} (ho : ops[i]? = some o) (hun : ¬ Done listed i)
  (hdir : ∀ e ∈ o.after, Region.binds .any e = true → Done listed e.on)
include K R ho hun hdir

theorem clo_set : ∀ (j : Nat) o, Done (listed.setIfInBounds i true) j → ops[j]? = some o → ∀ e ∈ o.after, Region.binds .any e = true → Done (listed.setIfInBounds i true) e.on := by
  have hi : i < ops.size := (Array.getElem?_eq_some_iff.1 ho).1
  have hil : i < listed.size := by rw [R.sz]; exact hi
  intro j oj hj hoj e he hb
  rcases (done_set hil).1 hj with q | q
  · subst q; rw [ho] at hoj; cases hoj; exact (done_set hil).2 (.inr (hdir e he hb))
  · exact (done_set hil).2 (.inr (R.clo j oj q hoj e he hb))

/-- nothing happens to memory -/
theorem step_quiet (hnf : ∀ id cs, d.cls i ≠ .flt id cs) (hne : ∀ k', d.cls i ≠ .eff k') {rv : Value} (hv : VR ι (d.val i) rv) : RI P ops ts0 h0 d w0 ws ι0 (listed.setIfInBounds i true) k (a.put o.dst rv) ι w := by
  have hi : i < ops.size := (Array.getElem?_eq_some_iff.1 ho).1
  have hil : i < listed.size := by rw [R.sz]; exact hi
  obtain ⟨t1, t2⟩ := tv_put K R ho hun ι.le_refl hv
  have other : ∀ {j : Nat}, Done (listed.setIfInBounds i true) j → j ≠ i → Done listed j := fun q n => ((done_set hil).1 q).resolve_left n
  refine ⟨by simp [R.sz], clo_set K R ho hun hdir, t1, t2, by rw [put_defers]; exact R.df, R.km, ?_, R.inv, R.step, R.nx, ?_, ?_, ?_, ?_⟩
  · intro j k' hj hc
    rw [done_set hil, ← R.ek j k' hj hc]
    constructor
    · rintro (q | q)
      · subst q; exact absurd hc (hne k')
      · exact q
    · exact .inr
  · intro j id cs hj hc hn
    exact R.un j id cs hj hc fun q => hn ((done_set hil).2 (.inr q))
  · intro j id cs hj hc hd' hL
    exact R.pd j id cs hj hc (other hd' fun q => by subst q; exact hnf id cs hc) hL
  · intro j id cs hj hc hd' rb s m hι
    exact R.fl j id cs hj hc (other hd' fun q => by subst q; exact hnf id cs hc) rb s m hι
  · intro j id cs j' id' cs' hj hj' hc hc' hd1 hd2 hne'
    exact R.pdd j id cs j' id' cs' hj hj' hc hc' (other hd1 fun q => by subst q; exact hnf id cs hc) (other hd2 fun q => by subst q; exact hnf id' cs' hc') hne'

/-- a row of cells is made -/
theorem step_float (hws : w0.heap.size ≤ ws.heap.size) {id : Nat} {cs : List NVal} (hc : d.cls i = .flt id cs) {c : Array Value} {e : TypeId} (hcs : VRs ι cs c.toList) {rv : Value} (hv : VR (ι.upd id (w.heap.size, 0, c.size)) (d.val i) rv) :
    RI P ops ts0 h0 d w0 ws ι0 (listed.setIfInBounds i true) k (a.put o.dst rv) (ι.upd id (w.heap.size, 0, c.size)) (w.alloc (.cells c e)) := by
  have hi : i < ops.size := (Array.getElem?_eq_some_iff.1 ho).1
  have hil : i < listed.size := by rw [R.sz]; exact hi
  have hnone := R.un i id cs hi hc hun
  have hle : ι.le (ι.upd id (w.heap.size, 0, c.size)) := Inj.le_upd _ hnone
  obtain ⟨f1, f2, _⟩ := K.flts i o id cs ho hc
  obtain ⟨t1, t2⟩ := tv_put K R ho hun hle hv
  have p := Pushed.alloc w (.cells c e)
  have I := R.inv
  have hB : w0.heap.size ≤ w.heap.size := I.below.size
  have hclen : cs.length ≤ c.size := by have := hcs.length; simp at this; omega
  -- no block of ours has that number yet
  have dead : ∀ ob, (d.H k).get id = some ob → ob.owned = true → False := by
    intro ob hg how
    cases ob with
    | cells l mine =>
      cases mine with | ro => cases how | own t =>
      obtain ⟨rb, s, m, _, _, _, q, _⟩ := I.cells id l hg
      rw [hnone] at q; cases q
    | map es =>
      obtain ⟨rb, s, m, _, _, q, _⟩ := I.maps id es hg
      rw [hnone] at q; cases q
    | dead => simp [NObj.owned] at how
  have own : ∀ rb, Owned (ι.upd id (w.heap.size, 0, c.size)) (d.H k) rb → Owned ι (d.H k) rb := by
    rintro rb ⟨b, ob, s, m, g, how, hι⟩
    by_cases hb : b = id
    · subst hb; exact (dead ob g how).elim
    · rw [Inj.upd_ne _ _ hb] at hι; exact ⟨b, ob, s, m, g, how, hι⟩
  have hInv : Inv w0 (ι.upd id (w.heap.size, 0, c.size)) (d.H k) (w.alloc (.cells c e)) := by
    refine ⟨I.below.trans (p.below hB), ?_, ?_, ?_, ?_, ?_, ?_⟩
    · intro b x q
      by_cases hb : b = id
      · subst hb; have := R.nx; omega
      · rw [Inj.upd_ne _ _ hb] at q; exact I.fresh b x q
    · intro b l t g
      obtain ⟨rb, s, m, c1, e1, fz, h1, h2, h3, h4, h5, h6, h7⟩ := I.cells b l g
      exact ⟨rb, s, m, c1, e1, fz, hle _ _ h1, h2, by rw [p.old ((Array.getElem?_eq_some_iff.1 h3).1)]; exact h3, h4, h5, h6, fun j v hj => by obtain ⟨r, hr, hv'⟩ := h7 j v hj; exact ⟨r, hr, hv'.mono hle⟩⟩
    · intro b l T k1 g
      obtain ⟨rb, c1, h1, h2, h3⟩ := I.typed b l T k1 g
      exact ⟨rb, c1, hle _ _ h1, by rw [p.old ((Array.getElem?_eq_some_iff.1 h2).1)]; exact h2, h3⟩
    · intro b l g
      obtain ⟨rb, s, m, h1, h2⟩ := I.ro b l g
      exact ⟨rb, s, m, hle _ _ h1, fun j v hj => by obtain ⟨r, hr, hv'⟩ := h2 j v hj; exact ⟨r, hr, hv'.mono hle⟩⟩
    · intro b es g
      obtain ⟨rb, s, m, ents, ck, h1, h2, h3, h4⟩ := I.maps b es g
      exact ⟨rb, s, m, ents, ck, hle _ _ h1, h2, by rw [p.old ((Array.getElem?_eq_some_iff.1 h3).1)]; exact h3, h4.imp fun _ _ ⟨q1, q2⟩ => ⟨q1.mono hle, q2.mono hle⟩⟩
    · intro b b' o1 o2 rb s s' m m' g1 w1 g2 w2 i1 i2
      by_cases hb : b = id
      · subst hb; exact (dead o1 g1 w1).elim
      · by_cases hb' : b' = id
        · subst hb'; exact (dead o2 g2 w2).elim
        · rw [Inj.upd_ne _ _ hb] at i1; rw [Inj.upd_ne _ _ hb'] at i2
          exact I.inj b b' o1 o2 rb s s' m m' g1 w1 g2 w2 i1 i2
  have other : ∀ {j : Nat}, Done (listed.setIfInBounds i true) j → j ≠ i → Done listed j := fun q n => ((done_set hil).1 q).resolve_left n
  have S := R.step
  have idof : ∀ {j id' cs'}, j < ops.size → d.cls j = .flt id' cs' → id' = id → j = i := by
    intro j id' cs' hj hcj q
    subst q; exact K.fid j i id' cs' cs hj hi hcj hc
  refine ⟨by simp [R.sz], clo_set K R ho hun hdir, t1, t2, by rw [put_defers]; exact R.df, R.km, ?_, hInv, ?_, R.nx, ?_, ?_, ?_, ?_⟩
  · intro j k' hj hcj
    rw [done_set hil, ← R.ek j k' hj hcj]
    constructor
    · rintro (q | q)
      · subst q; rw [hc] at hcj; cases hcj
      · exact q
    · exact .inr
  · refine ⟨S.ext.trans hle, ?_, by rw [p.size]; have := S.size; omega, ?_, ?_, S.next⟩
    · intro b x q
      by_cases hb : b = id
      · subst hb; exact .inr f1
      · rw [Inj.upd_ne _ _ hb] at q; exact S.new b x q
    · intro rb hlt hno
      rw [p.old (by have := S.size; omega)]
      exact S.frame rb hlt hno
    · intro rb q; exact S.own rb (own rb q)
  · intro j id' cs' hj hcj hn
    have hne : id' ≠ id := by
      intro q
      exact hn ((done_set hil).2 (.inl (idof hj hcj q)))
    rw [Inj.upd_ne _ _ hne]
    exact R.un j id' cs' hj hcj fun q => hn ((done_set hil).2 (.inr q))
  · intro j id' cs' hj hcj hdj hL
    by_cases hji : j = i
    · subst hji
      rw [hc] at hcj; cases hcj
      refine ⟨w.heap.size, c.size, c, e, by simp, S.size, p.new, Nat.le_refl _, hclen, fun q v hq => ?_, fun q => ?_⟩
      · obtain ⟨r, hr, hv'⟩ := hcs.get hq; exact ⟨r, by simpa using hr, hv'.mono hle⟩
      · have := (I.lt_of_owned (own _ q)).1; omega
    · obtain ⟨rb, m, c1, e1, q1, q2, q3, q4, q5, q6, q7⟩ := (R.pd j id' cs' hj hcj (other hdj hji) hL).ex
      refine ⟨rb, m, c1, e1, hle _ _ q1, q2, by rw [p.old ((Array.getElem?_eq_some_iff.1 q3).1)]; exact q3, q4, q5, fun z v hz => ?_, fun q => q7 (own _ q)⟩
      obtain ⟨r, hr, hv'⟩ := q6 z v hz; exact ⟨r, hr, hv'.mono hle⟩
  · intro j id' cs' hj hcj hdj rb s m hι'
    rw [p.size]
    by_cases hji : j = i
    · subst hji
      rw [hc] at hcj; cases hcj
      rw [Inj.upd_same] at hι'; cases hι'; omega
    · have hne : id' ≠ id := fun q => hji (idof hj hcj q)
      rw [Inj.upd_ne _ _ hne] at hι'
      have := R.fl j id' cs' hj hcj (other hdj hji) rb s m hι'
      omega
  · intro j id1 cs1 j' id2 cs2 hj hj' hc1 hc2 hd1 hd2 hne rb s m s' m' e1 e2
    -- rows that were made before lie below the new one
    have low : ∀ {x : Nat} {idx : Nat} {csx : List NVal} {rb s m : Nat}, x < ops.size → d.cls x = .flt idx csx → Done listed x → ι idx = some (rb, s, m) → rb < w.heap.size :=
      fun hx hcx hdx e => R.fl _ _ _ hx hcx hdx _ _ _ e
    by_cases q1 : j = i
    · subst q1
      rw [hc] at hc1; cases hc1
      rw [Inj.upd_same] at e1; cases e1
      have hne2 : id2 ≠ id := fun q => hne (idof hj' hc2 q).symm
      rw [Inj.upd_ne _ _ hne2] at e2
      have := low hj' hc2 (other hd2 fun q => hne q.symm) e2
      omega
    · have hne1 : id1 ≠ id := fun q => q1 (idof hj hc1 q)
      rw [Inj.upd_ne _ _ hne1] at e1
      by_cases q2 : j' = i
      · subst q2
        rw [hc] at hc2; cases hc2
        rw [Inj.upd_same] at e2; cases e2
        have := low hj hc1 (other hd1 q1) e1
        omega
      · have hne2 : id2 ≠ id := fun q => q2 (idof hj' hc2 q)
        rw [Inj.upd_ne _ _ hne2] at e2
        exact R.pdd j id1 cs1 j' id2 cs2 hj hj' hc1 hc2 (other hd1 q1) (other hd2 q2) hne rb s m s' m' e1 e2
end steps
end Go.Proofs.Ytblhpikljhholaa.NICE
