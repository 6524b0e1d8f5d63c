/- Memory that is made or written. -/
import Derived.Test.YtblhpikljhholaaNice8
set_option linter.unusedVariables false
set_option linter.unusedSimpArgs false
namespace Go.Proofs.Ytblhpikljhholaa.NICE
open Go Go.RowKit

variable {P : Program} {w0 w : World} {ι : Inj} {h : NHeap}

def Inj.upd (ι : Inj) (b : Nat) (x : Nat × Nat × Nat) : Inj := fun k => if k = b then some x else ι k

@[simp] theorem Inj.upd_same (ι : Inj) (b x) : ι.upd b x b = some x := by simp [Inj.upd]
theorem Inj.upd_ne (ι : Inj) {b k : Nat} (x) (hk : k ≠ b) : ι.upd b x k = ι k := by simp [Inj.upd, hk]
theorem Inj.le_upd {ι : Inj} {b : Nat} (x) (hb : ι b = none) : ι.le (ι.upd b x) := fun k y e => by
  by_cases hk : k = b
  · subst hk; rw [hb] at e; cases e
  · rw [Inj.upd_ne _ _ hk]; exact e

theorem Inv.next_none (I : Inv w0 ι h w) : ι h.next = none := by
  cases e : ι h.next with
  | none => rfl
  | some x => exact absurd (I.fresh _ _ e) (Nat.lt_irrefl _)

/-- w' is w with one block more -/
structure Pushed (w : World) (o : Obj) (w' : World) : Prop where
  heap : w'.heap = w.heap.push o
  os : w'.os = w.os
  tape : w'.tape = w.tape
  output : w'.output = w.output

theorem Pushed.alloc (w : World) (o : Obj) : Pushed w o (w.alloc o) := ⟨rfl, rfl, rfl, rfl⟩
theorem Pushed.drewAlloc (w : World) (o : Obj) : Pushed w o (w.drew.alloc o) := ⟨rfl, rfl, rfl, rfl⟩

theorem Pushed.size {o : Obj} {w' : World} (p : Pushed w o w') : w'.heap.size = w.heap.size + 1 := by rw [p.heap]; simp
theorem Pushed.new {o : Obj} {w' : World} (p : Pushed w o w') : w'.heap[w.heap.size]? = some o := by rw [p.heap]; simp
theorem Pushed.old {o : Obj} {w' : World} (p : Pushed w o w') {k : Nat} (hk : k < w.heap.size) : w'.heap[k]? = w.heap[k]? := by
  rw [p.heap, Array.getElem?_push, if_neg (by omega)]
theorem Pushed.below {o : Obj} {w' : World} (p : Pushed w o w') {B : Nat} (hB : B ≤ w.heap.size) : Below B w w' :=
  ⟨p.os, p.tape, p.output, by rw [p.size]; omega, fun k hk => p.old (by omega)⟩

theorem Inv.lt_of_owned (I : Inv w0 ι h w) {rb : Nat} (ho : Owned ι h rb) : rb < w.heap.size ∧ w0.heap.size ≤ rb := by
  obtain ⟨b, o, s, m, hb, hw, hι⟩ := ho
  cases o with
  | cells cs mine =>
    cases mine with | ro => cases hw | own t =>
    obtain ⟨rb', s', m', c, e, fz, h1, h2, h3, _⟩ := I.cells b cs hb
    rw [hι] at h1; cases h1
    exact ⟨(Array.getElem?_eq_some_iff.1 h3).1, h2⟩
  | map es =>
    obtain ⟨rb', s', m', ents, clock, h1, h2, h3, _⟩ := I.maps b es hb
    rw [hι] at h1; cases h1
    exact ⟨(Array.getElem?_eq_some_iff.1 h3).1, h2⟩
  | dead => simp [NObj.owned] at hw

/-- a new block -/
theorem Inv.push (I : Inv w0 ι h w) {o : NObj} {ob : Obj} {w' : World} (p : Pushed w ob w') (m : Nat)
    (hc : ∀ cs t, o = .cells cs (.own t) → ∃ c e fz, ob = .cells c e fz ∧ m ≤ c.size ∧ cs.length ≤ m ∧ (∀ i, i < c.size → ¬ (fz.1 ≤ i ∧ i < fz.2)) ∧ (∀ (i : Nat) v, cs[i]? = some v → ∃ r, c[i]? = some r ∧ VR ι v r))
    (hr : ∀ cs, o ≠ .cells cs .ro) (hm : ∀ es, o = .map es → es = [] ∧ ∃ k, ob = .map #[] k) (ht : ∀ cs T k, o = .cells cs (.own (some (T, k))) → ∃ c, ob = .cells c T (0, 0) ∧ m = c.size ∧ (k = 0 ∨ c.size = k) ∧ (k = 0 → AllOneV c)) :
    Inv w0 (ι.upd h.next (w.heap.size, 0, m)) (h.alloc o) w' ∧ Step ι h w (ι.upd h.next (w.heap.size, 0, m)) (h.alloc o) w' := by
  have hle : ι.le (ι.upd h.next (w.heap.size, 0, m)) := Inj.le_upd _ I.next_none
  have hB : w0.heap.size ≤ w.heap.size := I.below.size
  have get : ∀ {b ob'}, (h.alloc o).get b = some ob' → (b = h.next ∧ ob' = o) ∨ (b < h.next ∧ b ≠ h.next ∧ h.get b = some ob') := by
    intro b ob' e
    rw [NHeap.get_alloc] at e
    split at e
    · rename_i hb; cases e; exact .inl ⟨hb, rfl⟩
    · rename_i hb; exact .inr ⟨NHeap.get_lt e, hb, e⟩
  refine ⟨⟨I.below.trans (p.below hB), ?_, ?_, ?_, ?_, ?_, ?_⟩, ⟨hle, ?_, by rw [p.size]; omega, fun rb hlt _ => p.old hlt, ?_, by simp⟩⟩
  · intro b x e
    by_cases hb : b = h.next
    · subst hb; simp
    · rw [Inj.upd_ne _ _ hb] at e; have := I.fresh b x e; simp; omega
  · intro b cs t e
    rcases get e with ⟨rfl, rfl⟩ | ⟨hlt, hne, e⟩
    · obtain ⟨c, el, fz, rfl, h1, h2, h3, h4⟩ := hc cs t rfl
      exact ⟨w.heap.size, 0, m, c, el, fz, by simp, hB, p.new, by omega, h2, h3, fun i v hi => by
        obtain ⟨r, hr, hv⟩ := h4 i v hi
        exact ⟨r, by simpa using hr, hv.mono hle⟩⟩
    · obtain ⟨rb, s, m', c, el, fz, h1, h2, h3, h4, h5, h6, h7⟩ := I.cells b cs e
      exact ⟨rb, s, m', c, el, fz, by rw [Inj.upd_ne _ _ hne]; exact h1, h2, by rw [p.old ((Array.getElem?_eq_some_iff.1 h3).1)]; exact h3, h4, h5, h6, fun i v hi => by
        obtain ⟨r, hr, hv⟩ := h7 i v hi; exact ⟨r, hr, hv.mono hle⟩⟩
  · intro b cs T k e
    rcases get e with ⟨rfl, rfl⟩ | ⟨hlt, hne, e⟩
    · obtain ⟨c, rfl, hm', hk⟩ := ht cs T k rfl
      exact ⟨w.heap.size, c, by rw [Inj.upd_same, hm'], p.new, hk⟩
    · obtain ⟨rb, c, h1, h2, h3⟩ := I.typed b cs T k e
      exact ⟨rb, c, by rw [Inj.upd_ne _ _ hne]; exact h1, by rw [p.old ((Array.getElem?_eq_some_iff.1 h2).1)]; exact h2, h3⟩
  · intro b cs e
    rcases get e with ⟨rfl, rfl⟩ | ⟨hlt, hne, e⟩
    · exact absurd rfl (hr cs)
    · obtain ⟨rb, s, m', h1, h2⟩ := I.ro b cs e
      exact ⟨rb, s, m', by rw [Inj.upd_ne _ _ hne]; exact h1, fun i v hi => by obtain ⟨r, hr, hv⟩ := h2 i v hi; exact ⟨r, hr, hv.mono hle⟩⟩
  · intro b es e
    rcases get e with ⟨rfl, rfl⟩ | ⟨hlt, hne, e⟩
    · obtain ⟨rfl, k, rfl⟩ := hm es rfl
      exact ⟨w.heap.size, 0, m, #[], k, by simp, hB, p.new, .nil⟩
    · obtain ⟨rb, s, m', ents, k, h1, h2, h3, h4⟩ := I.maps b es e
      exact ⟨rb, s, m', ents, k, by rw [Inj.upd_ne _ _ hne]; exact h1, h2, by rw [p.old ((Array.getElem?_eq_some_iff.1 h3).1)]; exact h3, h4.imp fun _ _ ⟨a, b⟩ => ⟨a.mono hle, b.mono hle⟩⟩
  · intro b b' o1 o2 rb s s' m1 m2 e1 w1 e2 w2 i1 i2
    rcases get e1 with ⟨rfl, rfl⟩ | ⟨hlt, hne, f1⟩ <;> rcases get e2 with ⟨rfl, rfl⟩ | ⟨hlt', hne', f2⟩
    · rfl
    · rw [Inj.upd_same] at i1; cases i1
      rw [Inj.upd_ne _ _ hne'] at i2
      have := (I.lt_of_owned ⟨b', o2, s', m2, f2, w2, i2⟩).1; omega
    · rw [Inj.upd_same] at i2; cases i2
      rw [Inj.upd_ne _ _ hne] at i1
      have := (I.lt_of_owned ⟨b, o1, s, m1, f1, w1, i1⟩).1; omega
    · rw [Inj.upd_ne _ _ hne] at i1; rw [Inj.upd_ne _ _ hne'] at i2
      exact I.inj b b' o1 o2 rb s s' m1 m2 f1 w1 f2 w2 i1 i2
  · intro b x e
    by_cases hb : b = h.next
    · exact .inr (by omega)
    · rw [Inj.upd_ne _ _ hb] at e; exact .inl e
  · rintro rb ⟨b, ob', s, m', e1, e2, e3⟩
    rcases get e1 with ⟨rfl, rfl⟩ | ⟨hlt, hne, e1⟩
    · rw [Inj.upd_same] at e3; cases e3; exact .inr (Nat.le_refl _)
    · rw [Inj.upd_ne _ _ hne] at e3; exact .inl ⟨b, ob', s, m', e1, e2, e3⟩

/-- the cells of a block of one's own are written -/
theorem Inv.setRow (I : Inv w0 ι h w) {b : Nat} {cs cs' : List NVal} {t : Option (TypeId × Nat)} (hb : h.get b = some (.cells cs (.own t))) {rb s m : Nat} (hι : ι b = some (rb, s, m)) {c c' : Array Value} {e : TypeId} {fz : Nat × Nat}
    (hw : w.heap[rb]? = some (.cells c e fz)) (hs : c'.size = c.size) (ho : ∀ (i : Nat) r, c'[i]? = some r → c[i]? = some r ∨ r.oneCell' = true) (hl : cs'.length ≤ m) (hc : ∀ (i : Nat) v, cs'[i]? = some v → ∃ r, c'[s + i]? = some r ∧ VR ι v r) :
    Inv w0 ι (h.set b (.cells cs' (.own t))) (w.setRow rb c') ∧ Step ι h w ι (h.set b (.cells cs' (.own t))) (w.setRow rb c') := by
  have hlt := NHeap.get_lt hb
  obtain ⟨rb1, s1, m1, c1, e1, fz1, q1, q2, q3, q4, q5, q6, q7⟩ := I.cells b cs hb
  rw [hι] at q1; cases q1
  rw [hw] at q3; cases q3
  have hnew := setRow_heap w rb c c' e fz hw
  have hother := fun k hk => setRow_other w rb k c' hk
  have get : ∀ {b' ob'}, (h.set b (.cells cs' (.own t))).get b' = some ob' → (b' = b ∧ ob' = .cells cs' (.own t)) ∨ (b' ≠ b ∧ h.get b' = some ob') := by
    intro b' ob' e
    rw [NHeap.get_set] at e
    split at e
    · rename_i hh; cases e; exact .inl ⟨hh.1, rfl⟩
    · rename_i hh; exact .inr ⟨fun q => hh ⟨q, hlt⟩, e⟩
  have ne_of : ∀ {b' ob' rb' s' m'}, b' ≠ b → h.get b' = some ob' → ob'.owned = true → ι b' = some (rb', s', m') → rb' ≠ rb := by
    intro b' ob' rb' s' m' hne hg how hi q
    subst q
    exact hne (I.inj b' b ob' _ rb' s' s m' m hg how hb rfl hi hι)
  refine ⟨⟨I.below.trans ⟨rfl, rfl, rfl, by simp, fun k hk => hother k (by omega)⟩, fun b' x q => by simpa using I.fresh b' x q, ?_, ?_, ?_, ?_, ?_⟩, ⟨ι.le_refl, fun _ _ q => .inl q, by simp, ?_, ?_, by simp⟩⟩
  · intro b' ds t' q
    rcases get q with ⟨rfl, q'⟩ | ⟨hne, q'⟩
    · cases q'; exact ⟨rb, s, m, c', e, fz, hι, q2, hnew, by omega, hl, fun i hi => q6 i (by omega), hc⟩
    · obtain ⟨rb', s', m', c2, e2, fz2, h1, h2, h3, h4⟩ := I.cells b' ds q'
      exact ⟨rb', s', m', c2, e2, fz2, h1, h2, by rw [hother rb' (ne_of hne q' rfl h1)]; exact h3, h4⟩
  · intro b' ds T k q
    rcases get q with ⟨rfl, q'⟩ | ⟨hne, q'⟩
    · cases q'
      obtain ⟨rb2, c2, h1, h2, h3⟩ := I.typed b' cs T k hb
      rw [hι] at h1; cases h1
      rw [hw] at h2; cases h2
      exact ⟨_, c', by rw [hs]; exact hι, hnew, by rw [hs]; exact h3.1, fun hk i r hr => (ho i r hr).elim (h3.2 hk i r) id⟩
    · obtain ⟨rb', c2, h1, h2, h3⟩ := I.typed b' ds T k q'
      exact ⟨rb', c2, h1, by rw [hother rb' (ne_of hne q' rfl h1)]; exact h2, h3⟩
  · intro b' ds q
    rcases get q with ⟨rfl, q'⟩ | ⟨hne, q'⟩
    · cases q'
    · exact I.ro b' ds q'
  · intro b' es q
    rcases get q with ⟨rfl, q'⟩ | ⟨hne, q'⟩
    · cases q'
    · obtain ⟨rb', s', m', ents, k, h1, h2, h3, h4⟩ := I.maps b' es q'
      exact ⟨rb', s', m', ents, k, h1, h2, by rw [hother rb' (ne_of hne q' rfl h1)]; exact h3, h4⟩
  · intro b1 b2 o1 o2 rb' s1 s2 m1 m2 g1 w1 g2 w2 i1 i2
    have : ∀ {b' ob'}, (h.set b (.cells cs' (.own t))).get b' = some ob' → ob'.owned = true → ∃ ob'', h.get b' = some ob'' ∧ ob''.owned = true := by
      intro b' ob' q qo
      rcases get q with ⟨rfl, q'⟩ | ⟨hne, q'⟩
      · exact ⟨_, hb, rfl⟩
      · exact ⟨_, q', qo⟩
    obtain ⟨p1, g1, w1⟩ := this g1 w1
    obtain ⟨p2, g2, w2⟩ := this g2 w2
    exact I.inj b1 b2 p1 p2 rb' s1 s2 m1 m2 g1 w1 g2 w2 i1 i2
  · intro k hk hno
    exact hother k (fun q => hno (by subst q; exact ⟨b, _, s, m, hb, rfl, hι⟩))
  · rintro k ⟨b', ob', s', m', g, ho, hi⟩
    rcases get g with ⟨rfl, g⟩ | ⟨hne, g⟩
    · exact .inl ⟨b', _, s', m', hb, rfl, hi⟩
    · exact .inl ⟨b', ob', s', m', g, ho, hi⟩
end Go.Proofs.Ytblhpikljhholaa.NICE
