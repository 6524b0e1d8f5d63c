/- Appending whole slices to rows that grow. -/
import Derived.Test.YtblhpikljhholaaNice42
set_option linter.unusedVariables false
set_option linter.unusedSimpArgs false
namespace Go.Proofs.Ytblhpikljhholaa.NICE
open Go Go.RowKit

variable {P : Program}

/-- a row that may grow, or an empty one -/
def GrowE (h : NHeap) (v : NVal) (sz : Nat) (cs : List NVal) (n : Nat) : Prop :=
  (v = .slice none 0 0 none ∧ cs = [] ∧ n = 0) ∨ (∃ a, v = .slice (some a) 0 0 none ∧ cs = [] ∧ n = 0) ∨
  ∃ b x q, v = .slice (some (b, 0)) n n x ∧ (x = none ∨ x = some sz) ∧ h.get b = some (.cells cs (.own q)) ∧ cs.length = n * sz ∧ 0 < n
theorem Grow.e {h : NHeap} {v : NVal} {sz : Nat} {cs : List NVal} {n : Nat} (g : Grow h v sz cs n) : GrowE h v sz cs n := g.imp id .inr
theorem GrowE.upd {fp : List Nat} {h h' : NHeap} {v sz cs n} (g : GrowE h v sz cs n) (u : Upd fp h h') (hd : n = 0 ∨ ∀ b ∈ blk v, b ∉ fp) : GrowE h' v sz cs n := by
  rcases g with g | g | ⟨b, x, q, rfl, hx, hg, hl, hn⟩
  · exact .inl g
  · exact .inr (.inl g)
  · refine .inr (.inr ⟨b, x, q, rfl, hx, u.get hg ?_, hl, hn⟩)
    rcases hd with hd | hd
    · omega
    · exact hd b (by simp [blk])
theorem GrowE.sl {h : NHeap} {v : NVal} {sz : Nat} {cs : List NVal} {n : Nat} (g : GrowE h v sz cs n) : Sl h sz v n cs := by
  rcases g with ⟨rfl, rfl, rfl⟩ | ⟨a, rfl, rfl, rfl⟩ | ⟨b, x, q, rfl, hx, hg, hl, hpos⟩
  · exact Sl.nil _ _
  · exact ⟨by simp, _, _, _, rfl, Nat.le_refl _, .inl rfl, .inl rfl⟩
  · exact Sl.whole hg hl (Nat.le_refl _) hx
theorem GrowE.lt {h : NHeap} {v sz cs n} (g : GrowE h v sz cs n) (hn : 0 < n) : ∀ b ∈ blk v, b < h.next := by
  rcases g with ⟨rfl, _⟩ | ⟨a, rfl, rfl, rfl⟩ | ⟨b, x, q, rfl, hx, hg, hl, hn⟩
  · simp [blk]
  · omega
  · intro c hc
    simp [blk] at hc
    subst hc
    exact NHeap.get_lt hg

theorem GrowE.g {h : NHeap} {v : NVal} {sz : Nat} {cs : List NVal} {n : Nat} (g : GrowE h v sz cs n) (hn : 0 < n) : Grow h v sz cs n := by
  rcases g with g | ⟨a, _, _, q⟩ | g
  · exact .inl g
  · omega
  · exact .inr g
/-- some more, at the end of a row that grows -/
theorem grow_app {α : Type} {f : α → List NVal} {k : Nat} (hf : ∀ a, (f a).length = k) (h1 : ∀ a, allOne (f a) = true) {st e by_ : Nat} {z : NVal} (hu : P.underlying st = some (.slice e)) (hs : szOf P e = some k) (hb : bytesOf P e = some by_) (hz : zeroOf P e = some z) (hzl : z.cells.length = k) (h0 : 0 < k)
    {h : NHeap} {v : NVal} {l : List α} (g : GrowE h v k (rows f l) l.length) {y : NVal} {m : List α} (s : Rw h k f y m) (h2 : l.length + m.length ≤ 1099511627776) (h3 : (l.length + m.length) * by_ ≤ 1099511627776) (hzo : allOne z.cells = true := by rfl) :
    ∃ v' h', nappend P st st v y h = some (v', h') ∧ GrowE h' v' k (rows f (l ++ m)) (l ++ m).length ∧ Upd (blk v) h h' ∧ ((m = [] ∧ v' = v ∧ h' = h) ∨ (m ≠ [] ∧ h'.next = h.next + 1 ∧ v' = .slice (some (h.next, 0)) (l.length + m.length) (l.length + m.length) (some k))) := by
  have ho := rows_one h1 m
  have hlen := rows_len hf m
  cases m with
  | nil =>
    have hv : nappend P st st v y h = some (v, h) := by
      rcases g with ⟨rfl, _⟩ | ⟨a, rfl, _⟩ | ⟨b, x, q, rfl, hx, hg, hl, hpos⟩
      · exact nappend_none_nil hu hs hb hz hzl h0 s hzo
      · exact nappend_none hu hs hb hz hzl h0 s a 0 0 none (by omega) (by omega) hzo
      · exact nappend_none hu hs hb hz hzl h0 s (b, 0) _ _ x (by simpa using h2) (by simpa using h3) hzo
    exact ⟨v, h, hv, by simpa using g, Upd.refl _ _, .inl ⟨rfl, rfl, rfl⟩⟩
  | cons a0 m0 =>
    obtain ⟨m, hm⟩ : ∃ m, m = a0 :: m0 := ⟨_, rfl⟩
    rw [← hm] at s h2 h3 ho hlen ⊢
    have hmne : m ≠ [] := by rw [hm]; simp
    have hpm : 0 < m.length := by rw [hm]; simp
    have key : ∃ h' q, nappend P st st v y h = some (.slice (some (h.next, 0)) (l.length + m.length) (l.length + m.length) (some k), h') ∧ h'.next = h.next + 1 ∧ h'.get h.next = some (.cells (rows f l ++ rows f m) (.own q)) ∧ Upd (blk v) h h' := by
      rcases g with ⟨rfl, hc, hn⟩ | ⟨a, rfl, hc, hn⟩ | ⟨b, x, q, rfl, hx, hg, hl, hpos⟩
      · rw [hn, hc, Nat.zero_add]
        exact ⟨_, some (e, 0), nappend_new hu hs hb hz hzl h0 s ho (by omega) (by rw [hn, Nat.zero_add] at h3; exact h3) hpm none (.inl rfl) hzo, rfl, by simp [NHeap.get_alloc], (Upd.refl _ _).alloc _⟩
      · rw [hn, hc, Nat.zero_add]
        exact ⟨_, some (e, 0), nappend_new hu hs hb hz hzl h0 s ho (by omega) (by rw [hn, Nat.zero_add] at h3; exact h3) hpm (some a) (.inr ⟨_, _, rfl⟩) hzo, rfl, by simp [NHeap.get_alloc], (Upd.refl _ _).alloc _⟩
      · obtain ⟨s1, s2⟩ := s.src h0
        have happ : appended P e k st y h = some (m.length, rows f m) := by
          unfold appended
          rw [hu]
          simp only [s1, s2]
        have hall := rows_one h1 l
        have hnb : b < h.next := NHeap.get_lt hg
        have htake : ((rows f l).drop 0).take (l.length * k) = rows f l := by rw [List.drop_zero, ← hl, List.take_length]
        rcases hx with rfl | rfl
        · refine ⟨h.alloc (.cells (rows f l ++ rows f m) (.own (some (e, 0)))), some (e, 0), ?_, rfl, by simp [NHeap.get_alloc], (Upd.refl _ _).alloc _⟩
          unfold nappend
          rw [hu]
          simp only [hs, hb, hz, happ, hzl, h0, hzo, hlen, ho, true_and, if_true]
          rw [if_pos ⟨h2, h3⟩, if_neg (by omega), if_neg (by omega)]
          have hsrc : srcCells k l.length h (.slice (some (b, 0)) l.length l.length none) = some (rows f l) := by
            rw [srcCells_row hg (Nat.le_refl _) (by rw [Nat.zero_add, hl]; exact Nat.le_refl _), htake]
          rw [hsrc]
          simp only [hall, if_true]
        · refine ⟨(h.set b .dead).alloc (.cells (rows f l ++ rows f m) (.own (regrown 0 e q))), regrown 0 e q, ?_, rfl, by simp [NHeap.get_alloc], ((Upd.refl _ _).set (.inl (by simp [blk])) _).alloc _⟩
          unfold nappend
          rw [hu]
          simp only [hs, hb, hz, happ, hzl, h0, hzo, hlen, ho, true_and, if_true]
          rw [if_pos ⟨h2, h3⟩, if_neg (by omega), if_neg (by omega)]
          simp only [hg]
          rw [if_pos (by omega), if_pos (by omega), htake]
    obtain ⟨h', q, e1, e2, e3, e4⟩ := key
    refine ⟨_, h', e1, .inr (.inr ⟨h.next, some k, q, by rw [List.length_append], .inr rfl, ?_, ?_, ?_⟩), e4, .inr ⟨hmne, e2, rfl⟩⟩
    · rw [e3, rows_append]
    · rw [rows_len hf]
    · rw [List.length_append]; omega
end Go.Proofs.Ytblhpikljhholaa.NICE
