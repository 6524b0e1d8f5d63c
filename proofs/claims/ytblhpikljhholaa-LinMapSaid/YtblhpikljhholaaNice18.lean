/- A region whose order is drawn: every order comes to the same. -/
import Derived.Test.YtblhpikljhholaaNice17
set_option linter.unusedVariables false
set_option linter.unusedSimpArgs false
namespace Go.Proofs.Ytblhpikljhholaa.NICE
open Go Go.RowKit

variable {P : Program}

theorem Inv.drew {w0 w : World} {ι : Inj} {h : NHeap} (I : Inv w0 ι h w) : Inv w0 ι h w.drew := ⟨I.below.drew, I.fresh, I.cells, I.typed, I.ro, I.maps, I.inj⟩
theorem Step.drew (w : World) (ι : Inj) (h : NHeap) : Step ι h w ι h w.drew := ⟨ι.le_refl, fun _ _ e => .inl e, Nat.le_refl _, fun _ _ _ => rfl, fun _ e => .inl e, Nat.le_refl _⟩

/-- a row of cells that is there, and that no block number of ours stands for yet -/
structure Pend (ι : Inj) (ws w : World) (h : NHeap) (id : Nat) (cs : List NVal) : Prop where
  ex : ∃ rb m c e, ι id = some (rb, 0, m) ∧ ws.heap.size ≤ rb ∧ w.heap[rb]? = some (.cells c e (0, 0)) ∧ m ≤ c.size ∧ cs.length ≤ m ∧ (∀ (i : Nat) v, cs[i]? = some v → ∃ r, c[i]? = some r ∧ VR ι v r) ∧ ¬ Owned ι h rb

theorem Inv.adopt {w0 w ws : World} {ι : Inj} {h : NHeap} (I : Inv w0 ι h w) (hws : w0.heap.size ≤ ws.heap.size) {id : Nat} {cs : List NVal} (p : Pend ι ws w h id cs) :
    Inv w0 ι (h.set id (.cells cs (.own none))) w ∧ (∀ rb, Owned ι (h.set id (.cells cs (.own none))) rb → Owned ι h rb ∨ ∃ m, ι id = some (rb, 0, m)) := by
  obtain ⟨rb, m, c, e, h1, h2, h3, h4, h5, h6, h7⟩ := p.ex
  have hid : id < h.next := I.fresh _ _ h1
  have get : ∀ {b' ob'}, (h.set id (.cells cs (.own none))).get b' = some ob' → (b' = id ∧ ob' = .cells cs (.own none)) ∨ (b' ≠ id ∧ h.get b' = some ob') := by
    intro b' ob' q
    rw [NHeap.get_set] at q
    split at q
    · rename_i hh; cases q; exact .inl ⟨hh.1, rfl⟩
    · rename_i hh; exact .inr ⟨fun q' => hh ⟨q', hid⟩, q⟩
  refine ⟨⟨I.below, fun b x q => by simpa using I.fresh b x q, ?_, ?_, ?_, ?_, ?_⟩, ?_⟩
  · intro b ds t q
    rcases get q with ⟨rfl, q'⟩ | ⟨hne, q'⟩
    · cases q'; exact ⟨rb, 0, m, c, e, (0, 0), h1, by omega, h3, by omega, h5, by simp, fun i v hi => by simpa using h6 i v hi⟩
    · exact I.cells b ds q'
  · intro b ds T k q
    rcases get q with ⟨rfl, q'⟩ | ⟨hne, q'⟩
    · cases q'
    · exact I.typed b ds T k q'
  · intro b ds q
    rcases get q with ⟨rfl, q'⟩ | ⟨hne, q'⟩
    · cases q'
    · exact I.ro b ds q'
  · intro b es q
    rcases get q with ⟨rfl, q'⟩ | ⟨hne, q'⟩
    · cases q'
    · exact I.maps b es q'
  · intro b1 b2 o1 o2 r s1 s2 m1 m2 g1 w1 g2 w2 i1 i2
    rcases get g1 with ⟨rfl, p1⟩ | ⟨n1, p1⟩ <;> rcases get g2 with ⟨rfl, p2⟩ | ⟨n2, p2⟩
    · rfl
    · rw [h1] at i1; cases i1; exact absurd ⟨b2, o2, s2, m2, p2, w2, i2⟩ h7
    · rw [h1] at i2; cases i2; exact absurd ⟨b1, o1, s1, m1, p1, w1, i1⟩ h7
    · exact I.inj b1 b2 o1 o2 r s1 s2 m1 m2 p1 w1 p2 w2 i1 i2
  · rintro r ⟨b, ob, s, m', g, ho, hi⟩
    rcases get g with ⟨rfl, p⟩ | ⟨n, p⟩
    · rw [h1] at hi; cases hi; exact .inr ⟨m, h1⟩
    · exact .inl ⟨b, ob, s, m', p, ho, hi⟩

theorem adoptAll_next (l : List Float3) : ∀ h : NHeap, (adoptAll h l).next = h.next := by
  induction l with
  | nil => intro h; rfl
  | cons x l ih => intro h; simp only [adoptAll, List.foldl_cons] at ih ⊢; rw [ih]; rfl

theorem Inv.adoptAll {w0 w ws : World} {ι : Inj} (hws : w0.heap.size ≤ ws.heap.size) : ∀ {l : List Float3} {h : NHeap}, Inv w0 ι h w → (∀ x ∈ l, Pend ι ws w h x.2.1 x.2.2) →
    l.Pairwise (fun x y => ∀ rb s m s' m', ι x.2.1 = some (rb, s, m) → ι y.2.1 ≠ some (rb, s', m')) →
    Inv w0 ι (NICE.adoptAll h l) w ∧ (∀ rb, Owned ι (NICE.adoptAll h l) rb → Owned ι h rb ∨ ∃ x ∈ l, ∃ m, ι x.2.1 = some (rb, 0, m))
  | [], h, I, hp, hd => ⟨I, fun rb q => .inl q⟩
  | x :: l, h, I, hp, hd => by
    obtain ⟨I1, o1⟩ := I.adopt hws (hp x (by simp))
    rw [List.pairwise_cons] at hd
    have hp' : ∀ y ∈ l, Pend ι ws w (h.set x.2.1 (.cells x.2.2 (.own none))) y.2.1 y.2.2 := by
      intro y hy
      obtain ⟨rb, m, c, e, h1, h2, h3, h4, h5, h6, h7⟩ := (hp y (by simp [hy])).ex
      refine ⟨rb, m, c, e, h1, h2, h3, h4, h5, h6, fun q => ?_⟩
      rcases o1 rb q with q | ⟨m', q⟩
      · exact h7 q
      · exact hd.1 y hy rb 0 m' 0 m q h1
    obtain ⟨I2, o2⟩ := Inv.adoptAll hws I1 hp' hd.2
    refine ⟨I2, fun rb q => ?_⟩
    rcases o2 rb q with q | ⟨y, hy, m, q⟩
    · rcases o1 rb q with q | ⟨m, q⟩
      · exact .inl q
      · exact .inr ⟨x, by simp, m, q⟩
    · exact .inr ⟨y, by simp [hy], m, q⟩

section
variable {ops : Array Oper} {ts0 : List NVal} {h0 : NHeap} {d : Dr}

abbrev Done (listed : Array Bool) (i : Nat) : Prop := listed.getD i false = true

theorem tsAt_spec (K : DrOk P ops ts0 h0 d) : ∀ i, i ≤ ops.size → (d.tsAt i).length = ts0.length ∧ ∀ (t : Nat), t < ts0.length → ∃ u, (d.tsAt i)[t]? = some u ∧
    ((∃ j o, j < i ∧ ops[j]? = some o ∧ o.dst = some t ∧ (∀ j' o', j < j' → j' < i → ops[j']? = some o' → o'.dst ≠ some t) ∧ u = d.val j) ∨
      ((∀ j o, j < i → ops[j]? = some o → o.dst ≠ some t) ∧ ts0[t]? = some u))
  | 0, _ => ⟨by rw [K.start], fun t ht => ⟨ts0[t], by rw [K.start]; simp [ht], .inr ⟨fun j o hj => by omega, by simp [ht]⟩⟩⟩
  | i + 1, hi => by
    obtain ⟨l1, s1⟩ := tsAt_spec K i (by omega)
    obtain ⟨o, ho⟩ : ∃ o, ops[i]? = some o := ⟨ops[i], by simp [show i < ops.size by omega]⟩
    rw [K.next i o ho]
    cases hd : o.dst with
    | none =>
      refine ⟨l1, fun t ht => ?_⟩
      obtain ⟨u, h1, h2⟩ := s1 t ht
      refine ⟨u, h1, ?_⟩
      rcases h2 with ⟨j, oj, a1, a2, a3, a4, a5⟩ | ⟨b1, b2⟩
      · refine .inl ⟨j, oj, by omega, a2, a3, fun j' o' q1 q2 q3 => ?_, a5⟩
        rcases Nat.lt_or_ge j' i with q | q
        · exact a4 j' o' q1 q q3
        · have : j' = i := by omega
          subst this; rw [ho] at q3; cases q3; rw [hd]; simp
      · refine .inr ⟨fun j oj q1 q2 => ?_, b2⟩
        rcases Nat.lt_or_ge j i with q | q
        · exact b1 j oj q q2
        · have : j = i := by omega
          subst this; rw [ho] at q2; cases q2; rw [hd]; simp
    | some t' =>
      simp only [nput]
      refine ⟨by simp [l1], fun t ht => ?_⟩
      by_cases htt : t' = t
      · subst htt
        refine ⟨d.val i, by rw [List.getElem?_set, if_pos rfl, if_pos (by omega)], .inl ⟨i, o, by omega, ho, hd, fun j' o' q1 q2 => by omega, rfl⟩⟩
      · obtain ⟨u, h1, h2⟩ := s1 t ht
        refine ⟨u, by rw [List.getElem?_set, if_neg htt]; exact h1, ?_⟩
        rcases h2 with ⟨j, oj, a1, a2, a3, a4, a5⟩ | ⟨b1, b2⟩
        · refine .inl ⟨j, oj, by omega, a2, a3, fun j' o' q1 q2 q3 => ?_, a5⟩
          rcases Nat.lt_or_ge j' i with q | q
          · exact a4 j' o' q1 q q3
          · have : j' = i := by omega
            subst this; rw [ho] at q3; cases q3; rw [hd]; intro e; cases e; exact htt rfl
        · refine .inr ⟨fun j oj q1 q2 => ?_, b2⟩
          rcases Nat.lt_or_ge j i with q | q
          · exact b1 j oj q q2
          · have : j = i := by omega
            subst this; rw [ho] at q2; cases q2; rw [hd]; intro e; cases e; exact htt rfl

/-- where what stands directly ahead is done, all that stands ahead is -/
theorem mask_done (K : DrOk P ops ts0 h0 d) {listed : Array Bool} (clo : ∀ (j : Nat) o, Done listed j → ops[j]? = some o → ∀ e ∈ o.after, Region.binds .any e = true → Done listed e.on) :
    ∀ (n : Nat) (i : Nat) o, i ≤ n → ops[i]? = some o → (∀ e ∈ o.after, Region.binds .any e = true → Done listed e.on) → ∀ j, (d.M i).testBit j = true → Done listed j
  | n, i, o, hin, ho, hdir, j, hj => by
    obtain ⟨e, he, hb, q⟩ := K.masks i j o ho hj
    rcases q with q | q
    · subst q; exact hdir e he hb
    · have hlt := K.edges i o ho e he hb
      have hi : i < ops.size := (Array.getElem?_eq_some_iff.1 ho).1
      have hoe : ops[e.on]? = some ops[e.on] := by simp [show e.on < ops.size by omega]
      cases n with
      | zero => omega
      | succ n => exact mask_done K clo n e.on _ (by omega) hoe (fun e' he' hb' => clo e.on _ (hdir e he hb) hoe e' he' hb') j q

/-- what the temporaries hold when these have been done -/
def TV (ops : Array Oper) (ts0 : List NVal) (d : Dr) (listed : Array Bool) (t : Nat) (u : NVal) : Prop :=
  (∃ j o, Done listed j ∧ ops[j]? = some o ∧ o.dst = some t ∧ (∀ j' o', j < j' → Done listed j' → ops[j']? = some o' → o'.dst ≠ some t) ∧ u = d.val j) ∨
  ((∀ j o, Done listed j → ops[j]? = some o → o.dst ≠ some t) ∧ ts0[t]? = some u)

structure RI (P : Program) (ops : Array Oper) (ts0 : List NVal) (h0 : NHeap) (d : Dr) (w0 ws : World) (ι0 : Inj) (listed : Array Bool) (k : Nat) (a : Act) (ι : Inj) (w : World) : Prop where
  sz : listed.size = ops.size
  clo : ∀ (j : Nat) o, Done listed j → ops[j]? = some o → ∀ e ∈ o.after, Region.binds .any e = true → Done listed e.on
  len : a.tmps.size = ts0.length
  tv : ∀ (t : Nat), t < ts0.length → ∃ u r, a.tmps[t]? = some r ∧ VR ι u r ∧ TV ops ts0 d listed t u
  df : a.defers = []
  km : k ≤ d.m
  ek : ∀ (i k' : Nat), i < ops.size → d.cls i = .eff k' → (Done listed i ↔ k' ≤ k)
  inv : Inv w0 ι (d.H k) w
  step : Step ι0 h0 ws ι (d.H k) w
  nx : (d.H 0).next ≤ (d.H k).next
  un : ∀ (i : Nat) id cs, i < ops.size → d.cls i = .flt id cs → ¬ Done listed i → ι id = none
  pd : ∀ (i : Nat) id cs, i < ops.size → d.cls i = .flt id cs → Done listed i → (∀ k', k' ≤ k → (i, id, cs) ∉ d.L k') → Pend ι ws w (d.H k) id cs
  fl : ∀ (i : Nat) id cs, i < ops.size → d.cls i = .flt id cs → Done listed i → ∀ rb s m, ι id = some (rb, s, m) → rb < w.heap.size
  pdd : ∀ (i : Nat) id cs (j : Nat) id' cs', i < ops.size → j < ops.size → d.cls i = .flt id cs → d.cls j = .flt id' cs' → Done listed i → Done listed j → i ≠ j →
    ∀ rb s m s' m', ι id = some (rb, s, m) → ι id' ≠ some (rb, s', m')

theorem done_set {listed : Array Bool} {i j : Nat} (hi : i < listed.size) : Done (listed.setIfInBounds i true) j ↔ j = i ∨ Done listed j := by
  unfold Done
  by_cases h : i = j
  · subst h; simp [hi]
  · rw [getD_set_ne false h]; constructor
    · exact .inr
    · rintro (q | q)
      · exact absurd q.symm h
      · exact q

theorem read_at (K : DrOk P ops ts0 h0 d) {w0 ws w : World} {ι0 ι : Inj} {listed : Array Bool} {k : Nat} {a : Act} (R : RI P ops ts0 h0 d w0 ws ι0 listed k a ι w) {i : Nat} {o : Oper} (ho : ops[i]? = some o) (hun : ¬ Done listed i)
    (hdir : ∀ e ∈ o.after, Region.binds .any e = true → Done listed e.on) {t : Nat} (ht : t < ts0.length) (hl : t ∈ looks ops o) : ∃ u r, (d.tsAt i)[t]? = some u ∧ a.tmps[t]? = some r ∧ VR ι u r := by
  have hi : i < ops.size := (Array.getElem?_eq_some_iff.1 ho).1
  obtain ⟨_, sp⟩ := tsAt_spec K i (by omega)
  obtain ⟨u, hu, hs⟩ := sp t ht
  obtain ⟨u', r, hr, hv, htv⟩ := R.tv t ht
  refine ⟨u, r, hu, hr, ?_⟩
  have md := mask_done K R.clo
  -- a later writer is not done
  have later : ∀ j' o', i < j' → Done listed j' → ops[j']? = some o' → o'.dst ≠ some t := by
    intro j' o' q1 q2 q3 q4
    have hb := K.temps i j' o o' q1 ho q3 t (.inr ⟨q4, hl⟩)
    exact hun (md j' j' o' (Nat.le_refl _) q3 (R.clo j' o' q2 q3) i hb)
  have e : u = u' := by
    rcases hs with ⟨j, oj, a1, a2, a3, a4, a5⟩ | ⟨b1, b2⟩
    · have hjd : Done listed j := md i i o (Nat.le_refl _) ho hdir j (K.temps j i oj o a1 a2 ho t (.inl ⟨a3, .inl hl⟩))
      rcases htv with ⟨j1, o1, c1, c2, c3, c4, c5⟩ | ⟨c1, c2⟩
      · have : j1 = j := by
          rcases Nat.lt_trichotomy j1 j with q | q | q
          · exact absurd a3 (c4 j oj q hjd a2)
          · exact q
          · rcases Nat.lt_trichotomy j1 i with q' | q' | q'
            · exact absurd c3 (a4 j1 o1 q q' c2)
            · subst q'; exact absurd c1 hun
            · exact absurd c3 (later j1 o1 q' c1 c2)
        subst this; rw [a5, c5]
      · exact absurd a3 (c1 j oj hjd a2)
    · rcases htv with ⟨j1, o1, c1, c2, c3, c4, c5⟩ | ⟨c1, c2⟩
      · rcases Nat.lt_trichotomy j1 i with q | q | q
        · exact absurd c3 (b1 j1 o1 q c2)
        · subst q; exact absurd c1 hun
        · exact absurd c3 (later j1 o1 q c1 c2)
      · rw [b2] at c2; cases c2; rfl
  rw [e]; exact hv

theorem tv_put (K : DrOk P ops ts0 h0 d) {w0 ws w : World} {ι0 ι : Inj} {listed : Array Bool} {k : Nat} {a : Act} (R : RI P ops ts0 h0 d w0 ws ι0 listed k a ι w) {i : Nat} {o : Oper} (ho : ops[i]? = some o) (hun : ¬ Done listed i)
    {ι' : Inj} (hι : ι.le ι') {rv : Value} (hv : VR ι' (d.val i) rv) : (a.put o.dst rv).tmps.size = ts0.length ∧ ∀ (t : Nat), t < ts0.length → ∃ u r, (a.put o.dst rv).tmps[t]? = some r ∧ VR ι' u r ∧ TV ops ts0 d (listed.setIfInBounds i true) t u := by
  have hi : i < ops.size := (Array.getElem?_eq_some_iff.1 ho).1
  have hil : i < listed.size := by rw [R.sz]; exact hi
  have md := mask_done K R.clo
  have keep : ∀ t, o.dst ≠ some t → ∀ u, TV ops ts0 d listed t u → TV ops ts0 d (listed.setIfInBounds i true) t u := by
    intro t hne u htv
    rcases htv with ⟨j, oj, c1, c2, c3, c4, c5⟩ | ⟨c1, c2⟩
    · refine .inl ⟨j, oj, (done_set hil).2 (.inr c1), c2, c3, fun j' o' q1 q2 q3 => ?_, c5⟩
      rcases (done_set hil).1 q2 with q | q
      · subst q; rw [ho] at q3; cases q3; exact hne
      · exact c4 j' o' q1 q q3
    · refine .inr ⟨fun j oj q1 q2 => ?_, c2⟩
      rcases (done_set hil).1 q1 with q | q
      · subst q; rw [ho] at q2; cases q2; exact hne
      · exact c1 j oj q q2
  cases hd : o.dst with
  | none =>
    refine ⟨R.len, fun t ht => ?_⟩
    obtain ⟨u, r, h1, h2, h3⟩ := R.tv t ht
    exact ⟨u, r, h1, h2.mono hι, keep t (by rw [hd]; simp) u h3⟩
  | some t' =>
    simp only [Act.put]
    refine ⟨by simpa using R.len, fun t ht => ?_⟩
    by_cases htt : t' = t
    · subst htt
      refine ⟨d.val i, rv, by rw [Array.getElem?_setIfInBounds]; simp [R.len, ht], hv, .inl ⟨i, o, (done_set hil).2 (.inl rfl), ho, hd, fun j' o' q1 q2 q3 q4 => ?_, rfl⟩⟩
      rcases (done_set hil).1 q2 with q | q
      · omega
      · have hb := K.temps i j' o o' q1 ho q3 t' (.inl ⟨hd, .inr q4⟩)
        exact hun (md j' j' o' (Nat.le_refl _) q3 (R.clo j' o' q q3) i hb)
    · obtain ⟨u, r, h1, h2, h3⟩ := R.tv t ht
      exact ⟨u, r, by rw [Array.getElem?_setIfInBounds, if_neg htt]; exact h1, h2.mono hι, keep t (by rw [hd]; intro e; cases e; exact htt rfl) u h3⟩
end
end Go.Proofs.Ytblhpikljhholaa.NICE
