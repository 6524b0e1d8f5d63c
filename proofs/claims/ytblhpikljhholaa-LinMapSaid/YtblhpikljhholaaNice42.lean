/- Rows that are read: slices of elements of so many cells. -/
import Derived.Test.YtblhpikljhholaaNice41
set_option linter.unusedVariables false
set_option linter.unusedSimpArgs false
namespace Go.Proofs.Ytblhpikljhholaa.NICE
open Go Go.RowKit

variable {P : Program} {E : Env P drStatic}

theorem do_clear (F : CallF) (ρ : Rho) (h : NHeap) (x : Operand) (t : TypeId) : doK P F ρ (.call ⟨.builtin .clear, #[x], #[t]⟩) h = (match ρ x with | some x => nclear P t x h | none => none) := rfl
attribute [go_sem] do_clear nundef

theorem orKnown_left {F G : CallF} {f l h r} (e : F f l h = some r) : orKnown F G f l h = some r := by unfold orKnown; rw [e]
theorem orKnown_right {F G : CallF} {f l h r} (e : F f l h = none) (e' : G f l h = some r) : orKnown F G f l h = some r := by unfold orKnown; rw [e]; exact e'

theorem orKnown_none {F G : CallF} {f l h} (e : F f l h = none) (e' : G f l h = none) : orKnown F G f l h = none := by unfold orKnown; rw [e]; exact e'

/-- a slice of n elements of sz cells each -/
def Sl (h : NHeap) (sz : Nat) (v : NVal) (n : Nat) (cs : List NVal) : Prop :=
  cs.length = n * sz ∧ ∃ bo c x, v = .slice bo n c x ∧ n ≤ c ∧ (x = none ∨ x = some sz) ∧ (n = 0 ∨ ∃ b o all m, bo = some (b, o) ∧ h.get b = some (.cells all m) ∧ (all.drop o).take (n * sz) = cs)
theorem Sl.ext {h h' : NHeap} {sz v n cs} (s : Sl h sz v n cs) (e : Ext h h') : Sl h' sz v n cs := by
  obtain ⟨h0, bo, c, x, h1, h2, h3, h4⟩ := s
  exact ⟨h0, bo, c, x, h1, h2, h3, h4.imp id fun ⟨b, o, all, m, a1, a2, a3⟩ => ⟨b, o, all, m, a1, e.get a2, a3⟩⟩
theorem Sl.upd {fp : List Nat} {h h' : NHeap} {sz v n cs} (s : Sl h sz v n cs) (u : Upd fp h h') (hd : ∀ b ∈ blk v, b ∉ fp) : Sl h' sz v n cs := by
  obtain ⟨h0, bo, c, x, h1, h2, h3, h4⟩ := s
  exact ⟨h0, bo, c, x, h1, h2, h3, h4.imp id fun ⟨b, o, all, m, a1, a2, a3⟩ => ⟨b, o, all, m, a1, u.get a2 (hd b (by rw [h1, a1]; simp [blk])), a3⟩⟩
theorem Sl.nil (h : NHeap) (sz : Nat) : Sl h sz (.slice none 0 0 none) 0 [] := ⟨by simp, none, 0, none, rfl, Nat.le_refl _, .inl rfl, .inl rfl⟩
theorem Sl.row {h : NHeap} {b o sz n c : Nat} {x all m} (hg : h.get b = some (.cells all m)) (hl : o + n * sz ≤ all.length) (hc : n ≤ c) (hx : x = none ∨ x = some sz) : Sl h sz (.slice (some (b, o)) n c x) n ((all.drop o).take (n * sz)) :=
  ⟨by simp; omega, _, _, _, rfl, hc, hx, .inr ⟨b, o, all, m, rfl, hg, rfl⟩⟩
theorem Sl.whole {h : NHeap} {b sz n c : Nat} {x all m} (hg : h.get b = some (.cells all m)) (hl : all.length = n * sz) (hc : n ≤ c) (hx : x = none ∨ x = some sz) : Sl h sz (.slice (some (b, 0)) n c x) n all :=
  ⟨hl, _, _, _, rfl, hc, hx, .inr ⟨b, 0, all, m, rfl, hg, by rw [List.drop_zero, ← hl, List.take_length]⟩⟩
/-- what its elements are in -/
theorem Sl.at {h : NHeap} {sz v n cs} (s : Sl h sz v n cs) (hn : 0 < n) (hz : 0 < sz := by decide) : ∃ b o c x all m, v = .slice (some (b, o)) n c x ∧ n ≤ c ∧ (x = none ∨ x = some sz) ∧ h.get b = some (.cells all m) ∧ (all.drop o).take (n * sz) = cs ∧ o + n * sz ≤ all.length := by
  obtain ⟨h0, bo, c, x, h1, h2, h3, h4⟩ := s
  rcases h4 with h4 | ⟨b, o, all, m, a1, a2, a3⟩
  · omega
  · subst a1
    refine ⟨b, o, c, x, all, m, h1, h2, h3, a2, a3, ?_⟩
    have := congrArg List.length a3
    simp only [List.length_take, List.length_drop] at this
    have : 0 < n * sz := Nat.mul_pos hn hz
    omega
theorem Sl.form {h : NHeap} {sz v n cs} (s : Sl h sz v n cs) : ∃ bo c x, v = .slice bo n c x := by
  obtain ⟨h0, bo, c, x, h1, _⟩ := s
  exact ⟨bo, c, x, h1⟩
theorem Sl.len {h : NHeap} {sz v n cs} (s : Sl h sz v n cs) : cs.length = n * sz := s.1
/-- one element's cells -/
theorem seg_at {all cs : List NVal} {o n sz i : Nat} (h : (all.drop o).take (n * sz) = cs) (hi : i < n) : (all.drop (o + i * sz)).take sz = (cs.drop (i * sz)).take sz := by
  have hm : i * sz + sz ≤ n * sz := by rw [← Nat.succ_mul]; exact Nat.mul_le_mul_right _ hi
  subst h
  rw [List.drop_take, List.take_take, List.drop_drop]
  congr 1
  omega
theorem cell_at {all cs : List NVal} {o k i : Nat} (h : (all.drop o).take k = cs) (hi : i < k) : all[o + i]? = cs[i]? := by
  subst h
  rw [List.getElem?_take_of_lt hi, List.getElem?_drop]
theorem Sl.veq {h : NHeap} {sz v n cs} (s : Sl h sz v n cs) : NICE.veq 50 v v = true := by
  obtain ⟨bo, c, x, rfl⟩ := s.form
  rw [veq_slice]; simp
/-- the first ones -/
theorem Sl.take {h : NHeap} {sz n : Nat} {v cs} (s : Sl h sz v n cs) {t e : TypeId} (hu : P.underlying t = some (.slice e)) (hs : szOf P e = some sz) (k : IntKind) (i : Nat) (hi : i ≤ n) (hz : 0 < sz := by decide) :
    ∃ v', nslice P t v none (some (.int k (i : Int))) = some v' ∧ Sl h sz v' i (cs.take (i * sz)) := by
  obtain ⟨h0, bo, c, x, rfl, h2, h3, h4⟩ := s
  have hm : i * sz ≤ n * sz := Nat.mul_le_mul_right _ hi
  have hl : (cs.take (i * sz)).length = i * sz := by simp; omega
  have a5 : ∀ b o all m, bo = some (b, o) ∧ h.get b = some (.cells all m) ∧ (all.drop o).take (n * sz) = cs → bo = some (b, o) ∧ h.get b = some (.cells all m) ∧ (all.drop o).take (i * sz) = cs.take (i * sz) := by
    rintro b o all m ⟨q1, q2, q3⟩
    exact ⟨q1, q2, by rw [← q3, List.take_take, Nat.min_eq_left hm]⟩
  have h4' : i = 0 ∨ ∃ b o all m, bo = some (b, o) ∧ h.get b = some (.cells all m) ∧ (all.drop o).take (i * sz) = cs.take (i * sz) := by
    rcases h4 with h4 | ⟨b, o, all, m, q⟩
    · exact .inl (by omega)
    · exact .inr ⟨b, o, all, m, a5 b o all m q⟩
  cases bo with
  | none =>
    have : i = 0 := by
      rcases h4' with q | ⟨b, o, all, m, q, _⟩
      · exact q
      · cases q
    subst this
    refine ⟨.slice none 0 0 none, ?_, hl, none, 0, none, rfl, Nat.le_refl _, .inl rfl, .inl rfl⟩
    simp only [nslice, nbound, hu, hs, Int.toNat_natCast]
    rw [if_pos (by omega)]
  | some a =>
    obtain ⟨b, o⟩ := a
    rcases h3 with rfl | rfl
    · refine ⟨.slice (some (b, o)) i c none, ?_, hl, _, _, _, rfl, by omega, .inl rfl, h4'⟩
      simp only [nslice, nbound, hu, hs, Int.toNat_natCast]
      rw [if_pos (by omega)]
      simp only [Nat.zero_mul, Nat.add_zero, ite_self, Nat.sub_zero]
    · by_cases hq : 0 < max c n
      · refine ⟨.slice (some (b, o)) i c (some sz), ?_, hl, _, _, _, rfl, by omega, .inr rfl, h4'⟩
        simp only [nslice, nbound, hu, hs, Int.toNat_natCast]
        rw [if_pos (by omega)]
        simp only [if_true, hq, Nat.zero_mul, Nat.add_zero, Nat.sub_zero]
      · have : i = 0 := by omega
        subst this
        refine ⟨.slice (some (b, o)) 0 0 (some sz), ?_, hl, _, _, _, rfl, by omega, .inr rfl, .inl rfl⟩
        simp only [nslice, nbound, hu, hs, Int.toNat_natCast]
        rw [if_pos (by omega)]
        simp only [if_true, hq, if_false, Nat.zero_mul, Nat.add_zero, Nat.sub_zero]
/-- those from one on -/
theorem Sl.drop {h : NHeap} {sz n : Nat} {v cs} (s : Sl h sz v n cs) {t e : TypeId} (hu : P.underlying t = some (.slice e)) (hs : szOf P e = some sz) (k : IntKind) (i : Nat) (hi : i ≤ n) (hz : 0 < sz := by decide) :
    ∃ v', nslice P t v (some (.int k (i : Int))) none = some v' ∧ Sl h sz v' (n - i) (cs.drop (i * sz)) := by
  obtain ⟨h0, bo, c, x, rfl, h2, h3, h4⟩ := s
  have hl : (cs.drop (i * sz)).length = (n - i) * sz := by simp; rw [h0, Nat.sub_mul]
  have h4' : n - i = 0 ∨ ∃ b o all m, bo = some (b, o) ∧ h.get b = some (.cells all m) ∧ (all.drop (o + i * sz)).take ((n - i) * sz) = cs.drop (i * sz) := by
    rcases h4 with h4 | ⟨b, o, all, m, q1, q2, q3⟩
    · exact .inl (by omega)
    · refine .inr ⟨b, o, all, m, q1, q2, ?_⟩
      rw [← q3, List.drop_take, List.drop_drop, Nat.sub_mul]
  cases bo with
  | none =>
    have : n - i = 0 := by
      rcases h4' with q | ⟨b, o, all, m, q, _⟩
      · exact q
      · cases q
    refine ⟨.slice none 0 0 none, ?_, hl, none, 0, none, by rw [this], by omega, .inl rfl, .inl this⟩
    simp only [nslice, nbound, hu, hs, Int.toNat_natCast]
    rw [if_pos (by omega)]
  | some a =>
    obtain ⟨b, o⟩ := a
    have go : ∀ o', (0 < n - i → o' = o + i * sz) → (n - i = 0 ∨ ∃ b2 o2 all m, some (b, o') = some (b2, o2) ∧ h.get b2 = some (.cells all m) ∧ (all.drop o2).take ((n - i) * sz) = cs.drop (i * sz)) := by
      intro o' ho
      rcases h4' with q | ⟨b2, o2, all, m, q, q2, q3⟩
      · exact .inl q
      · by_cases h0 : n - i = 0
        · exact .inl h0
        · cases q
          exact .inr ⟨b, o + i * sz, all, m, by rw [ho (by omega)], q2, q3⟩
    rcases h3 with rfl | rfl
    · refine ⟨.slice (some (b, if c = i then o else o + i * sz)) (n - i) (c - i) none, ?_, hl, _, _, _, rfl, by omega, .inl rfl, go _ ?_⟩
      · simp only [nslice, nbound, hu, hs, Int.toNat_natCast]
        rw [if_pos (by omega)]
      · intro h0
        rw [if_neg (by omega)]
    · by_cases hq : i < max c n
      · refine ⟨.slice (some (b, o + i * sz)) (n - i) (c - i) (some sz), ?_, hl, _, _, _, rfl, by omega, .inr rfl, go _ fun _ => rfl⟩
        simp only [nslice, nbound, hu, hs, Int.toNat_natCast]
        rw [if_pos (by omega)]
        simp only [if_true, hq]
      · have h0' : n - i = 0 := by omega
        refine ⟨.slice (some (b, o + i * sz)) 0 0 (some sz), ?_, hl, _, _, _, by rw [h0'], by omega, .inr rfl, .inl h0'⟩
        simp only [nslice, nbound, hu, hs, Int.toNat_natCast]
        rw [if_pos (by omega)]
        simp only [if_true, hq, if_false]
/-- what a slice holds, for 'append' and 'copy' -/
theorem Sl.src {h : NHeap} {sz n : Nat} {v cs} (s : Sl h sz v n cs) (hz : 0 < sz := by decide) : nlenOf v = some n ∧ srcCells sz n h v = some cs := by
  obtain ⟨h0, bo, c, x, rfl, h2, h3, h4⟩ := s
  refine ⟨rfl, ?_⟩
  cases bo with
  | none =>
    rcases h4 with rfl | ⟨b, o, all, m, q, _⟩
    · have : cs = [] := List.eq_nil_of_length_eq_zero (by omega)
      subst this
      simp [srcCells]
    · cases q
  | some a =>
    obtain ⟨b, o⟩ := a
    rcases h4 with rfl | ⟨b, o, all, m, q, hg, h3⟩
    · have : cs = [] := List.eq_nil_of_length_eq_zero (by omega)
      subst this
      simp [srcCells]
    · cases q
      by_cases h00 : n = 0
      · subst h00
        have : cs = [] := List.eq_nil_of_length_eq_zero (by omega)
        subst this
        simp [srcCells]
      · rw [srcCells_row hg (Nat.le_refl _), h3]
        have := congrArg List.length h3
        simp only [List.length_take, List.length_drop] at this
        have : 0 < n * sz := Nat.mul_pos (by omega) hz
        omega
/-- append to an empty slice: a new row -/
theorem nappend_new {st e sz by_ : Nat} {z : NVal} (hu : P.underlying st = some (.slice e)) (hs : szOf P e = some sz) (hb : bytesOf P e = some by_) (hz : zeroOf P e = some z) (hzl : z.cells.length = sz) (h0 : 0 < sz)
    {h : NHeap} {v : NVal} {cs : List NVal} {n : Nat} (s : Sl h sz v n cs) (ho : allOne cs = true) (h1 : n ≤ 1099511627776) (h2 : n * by_ ≤ 1099511627776) (hn : 0 < n) (bo : Option (Nat × Nat)) (hbo : bo = none ∨ ∃ b o, bo = some (b, o)) (hzo : allOne z.cells = true := by rfl) :
    nappend P st st (.slice bo 0 0 none) v h = some (.slice (some (h.next, 0)) n n (some sz), h.alloc (.cells cs (.own (some (e, 0))))) := by
  obtain ⟨s1, s2⟩ := s.src h0
  have hl := s.len
  have happ : appended P e sz st v h = some (n, cs) := by
    unfold appended
    rw [hu]
    simp only [s1, s2]
  unfold nappend
  rw [hu]
  simp only [hs, hb, hz, happ, hzl, h0, hzo, hl, ho, true_and, if_true, Nat.zero_add]
  rw [if_pos ⟨h1, h2⟩]
  rcases hbo with rfl | ⟨b, o, rfl⟩
  · simp only
    rw [if_neg (by omega)]
  · simp only
    rw [if_neg (by omega), if_neg (by omega)]
    simp [srcCells, allOne]
/-- append of nothing -/
theorem nappend_none {st e sz by_ : Nat} {z : NVal} (hu : P.underlying st = some (.slice e)) (hs : szOf P e = some sz) (hb : bytesOf P e = some by_) (hz : zeroOf P e = some z) (hzl : z.cells.length = sz) (h0 : 0 < sz)
    {h : NHeap} {v : NVal} {cs : List NVal} (s : Sl h sz v 0 cs) (a : Nat × Nat) (l c : Nat) (x : Option Nat) (h1 : l ≤ 1099511627776) (h2 : l * by_ ≤ 1099511627776) (hzo : allOne z.cells = true := by rfl) :
    nappend P st st (.slice (some a) l c x) v h = some (.slice (some a) l c x, h) := by
  obtain ⟨s1, s2⟩ := s.src h0
  have hl : cs = [] := List.eq_nil_of_length_eq_zero (by rw [s.len]; omega)
  subst hl
  have happ : appended P e sz st v h = some (0, []) := by
    unfold appended
    rw [hu]
    simp only [s1, s2]
  unfold nappend
  rw [hu]
  simp only [hs, hb, hz, happ, hzl, h0, hzo, true_and, if_true, Nat.add_zero, List.length_nil, Nat.zero_mul, allOne]
  rw [if_pos ⟨h1, h2⟩]
theorem nappend_none_nil {st e sz by_ : Nat} {z : NVal} (hu : P.underlying st = some (.slice e)) (hs : szOf P e = some sz) (hb : bytesOf P e = some by_) (hz : zeroOf P e = some z) (hzl : z.cells.length = sz) (h0 : 0 < sz)
    {h : NHeap} {v : NVal} {cs : List NVal} (s : Sl h sz v 0 cs) (hzo : allOne z.cells = true := by rfl) :
    nappend P st st (.slice none 0 0 none) v h = some (.slice none 0 0 none, h) := by
  obtain ⟨s1, s2⟩ := s.src h0
  have hl : cs = [] := List.eq_nil_of_length_eq_zero (by rw [s.len]; omega)
  subst hl
  have happ : appended P e sz st v h = some (0, []) := by
    unfold appended
    rw [hu]
    simp only [s1, s2]
  unfold nappend
  rw [hu]
  simp only [hs, hb, hz, happ, hzl, h0, hzo, true_and, if_true, Nat.add_zero, List.length_nil, Nat.zero_mul, allOne]
  rw [if_pos ⟨by omega, by omega⟩]

/-! ### Rows of things of so many cells each -/
def rows {α : Type} (f : α → List NVal) (l : List α) : List NVal := l.flatMap f
section
variable {α : Type} {f : α → List NVal} {k : Nat}
theorem rows_nil : rows f [] = [] := rfl
theorem rows_cons (a : α) (l : List α) : rows f (a :: l) = f a ++ rows f l := by simp [rows]
theorem rows_append (l m : List α) : rows f (l ++ m) = rows f l ++ rows f m := by simp [rows]
theorem rows_len (hf : ∀ a, (f a).length = k) : ∀ l : List α, (rows f l).length = l.length * k
  | [] => by simp [rows]
  | a :: l => by rw [rows_cons, List.length_append, hf, rows_len hf l, List.length_cons, Nat.succ_mul]; omega
theorem rows_drop (hf : ∀ a, (f a).length = k) : ∀ (l : List α) (i : Nat), (rows f l).drop (i * k) = rows f (l.drop i)
  | [], i => by simp [rows]
  | a :: l, 0 => by simp
  | a :: l, i + 1 => by
    rw [rows_cons, List.drop_append, List.drop_of_length_le (by rw [hf, Nat.succ_mul]; omega), hf, Nat.succ_mul, show i * k + k - k = i * k by omega, List.nil_append, List.drop_succ_cons]
    exact rows_drop hf l i
theorem rows_take (hf : ∀ a, (f a).length = k) : ∀ (l : List α) (i : Nat), (rows f l).take (i * k) = rows f (l.take i)
  | [], i => by simp [rows]
  | a :: l, 0 => by simp [rows]
  | a :: l, i + 1 => by
    rw [rows_cons, List.take_append, List.take_of_length_le (by rw [hf, Nat.succ_mul]; omega), hf, Nat.succ_mul, show i * k + k - k = i * k by omega, List.take_succ_cons, rows_cons]
    rw [rows_take hf l i]
theorem rows_at (hf : ∀ a, (f a).length = k) (l : List α) (i : Nat) (a : α) (h : l[i]? = some a) : ((rows f l).drop (i * k)).take k = f a := by
  rw [rows_drop hf]
  have hi := (List.getElem?_eq_some_iff.1 h).1
  rw [List.drop_eq_getElem_cons hi, rows_cons, List.take_left' (hf _)]
  rw [List.getElem?_eq_getElem hi] at h
  cases h; rfl
theorem rows_one (hf : ∀ a, allOne (f a) = true) : ∀ l : List α, allOne (rows f l) = true
  | [] => rfl
  | a :: l => by rw [rows_cons, allOne_append, hf, rows_one hf l]; rfl
theorem rows_set (hf : ∀ a, (f a).length = k) (l : List α) (i : Nat) (a : α) (hi : i < l.length) : setRange (rows f l) (i * k) (f a) = rows f (l.set i a) := by
  unfold setRange
  rw [hf, show i * k + k = (i + 1) * k by rw [Nat.succ_mul], rows_take hf, rows_drop hf, List.set_eq_take_append_cons_drop, if_pos hi, rows_append, rows_cons, List.append_assoc]
end
/-- a slice of things -/
abbrev Rw {α : Type} (h : NHeap) (k : Nat) (f : α → List NVal) (v : NVal) (l : List α) : Prop := Sl h k v l.length (rows f l)
theorem rowcell {all r : List NVal} {p k j : Nat} {v : NVal} (h : (all.drop p).take k = r) (hj : r[j]? = some v) : all[p + j]? = some v := by
  subst h
  rw [List.getElem?_take] at hj
  split at hj
  · rwa [List.getElem?_drop] at hj
  · cases hj
/-- the i-th one -/
theorem Sl.elem {α : Type} {f : α → List NVal} {k : Nat} (hf : ∀ a, (f a).length = k) {h : NHeap} {v : NVal} {l : List α} (s : Rw h k f v l) {i : Nat} {a : α} (hi : l[i]? = some a) (hk : 0 < k := by decide) :
    ∃ b o c x all m, v = .slice (some (b, o)) l.length c x ∧ h.get b = some (.cells all m) ∧ (all.drop (o + i * k)).take k = f a ∧ o + i * k + k ≤ all.length := by
  have hlt := (List.getElem?_eq_some_iff.1 hi).1
  obtain ⟨b, o, c, x, all, m, hv, hc, hx, g, hcs, hle⟩ := s.at (by omega) hk
  refine ⟨b, o, c, x, all, m, hv, g, (seg_at hcs hlt).trans (rows_at hf l i a hi), ?_⟩
  have : i * k + k ≤ l.length * k := by rw [← Nat.succ_mul]; exact Nat.mul_le_mul_right _ hlt
  omega
/-- one more, at the end of a slice that grows -/
theorem grow_one {α : Type} {f : α → List NVal} {k : Nat} (hf : ∀ a, (f a).length = k) (h1 : ∀ a, allOne (f a) = true) {st e by_ : Nat} {z : NVal} (hu : P.underlying st = some (.slice e)) (hs : szOf P e = some k) (hb : bytesOf P e = some by_) (hz : zeroOf P e = some z) (hzl : z.cells.length = k) (h0 : 0 < k)
    {h : NHeap} {v : NVal} {l : List α} (g : Grow h v k (rows f l) l.length) {nb : Nat} {a : α} {m : Own} (hn : h.get nb = some (.cells (f a) m)) (h2 : l.length + 1 ≤ 1099511627776) (h3 : (l.length + 1) * by_ ≤ 1099511627776) (hzo : allOne z.cells = true := by rfl) :
    ∃ h', nappend P st st v (.slice (some (nb, 0)) 1 1 none) h = some (.slice (some (h.next, 0)) (l.length + 1) (l.length + 1) (some k), h') ∧ h'.next = h.next + 1 ∧ Grow h' (.slice (some (h.next, 0)) (l.length + 1) (l.length + 1) (some k)) k (rows f (l ++ [a])) (l.length + 1) ∧ Upd (blk v) h h' := by
  obtain ⟨h', q, e1, e2, e3, e4⟩ := append_one hu hs hb hz hzl h0 g (nb := nb) (o := 0) (c := 1) (y := none) hn (by rw [List.drop_zero, List.take_of_length_le (by rw [hf]; exact Nat.le_refl _)]) (hf a) (h1 a) (rows_one h1 l) h2 h3 hzo
  refine ⟨h', e1, e2, .inr ⟨h.next, some k, q, rfl, .inr rfl, ?_, ?_, by omega⟩, e4⟩
  · rw [e3, rows_append, rows_cons, rows_nil, List.append_nil]
  · rw [rows_len hf, List.length_append, List.length_singleton]
theorem Grow.sl {h : NHeap} {v : NVal} {sz : Nat} {cs : List NVal} {n : Nat} (g : Grow h v sz cs n) : Sl h sz v n cs := by
  rcases g with ⟨rfl, rfl, rfl⟩ | ⟨b, x, q, rfl, hx, hg, hl, hpos⟩
  · exact Sl.nil _ _
  · exact Sl.whole hg hl (Nat.le_refl _) hx

/-- these temporaries stand as they did -/
def Keep (l : List Nat) (F F' : Fr) : Prop := ∀ k, l.contains k = true → F' k = F k
theorem Keep.refl (l : List Nat) (F : Fr) : Keep l F F := fun _ _ => rfl
theorem Keep.upd {l : List Nat} {F F' : Fr} (h : Keep l F F') {d : Nat} {v : NVal} (hd : l.contains d = false) : Keep l F (upd F' d v) := fun k hk => by
  rw [upd_at]
  have : (k == d) = false := beq_false_of_ne fun q => by subst q; rw [hk] at hd; cases hd
  rw [this, cond_false]
  exact h k hk
theorem Keep.sub {l m : List Nat} {F F' : Fr} (h : Keep m F F') (hs : l.all (fun k => m.contains k) = true) : Keep l F F' := fun k hk => h k (by
  rw [List.all_eq_true] at hs
  exact hs k (by simpa using hk))
theorem Keep.trans {l : List Nat} {F F' F'' : Fr} (h : Keep l F F') (g : Keep l F' F'') : Keep l F F'' := fun k hk => (g k hk).trans (h k hk)
theorem Sl.lt {h : NHeap} {sz : Nat} {v : NVal} {n : Nat} {cs : List NVal} (s : Sl h sz v n cs) (hn : 0 < n) (hz : 0 < sz := by decide) : ∀ b ∈ blk v, b < h.next := by
  obtain ⟨b, o, c, x, all, m, rfl, _, _, g, _⟩ := s.at hn hz
  intro b' hb
  simp [blk] at hb
  subst hb
  exact NHeap.get_lt g
theorem Sl.upd' {fp : List Nat} {h h' : NHeap} {sz v n cs} (s : Sl h sz v n cs) (u : Upd fp h h') (hd : n = 0 ∨ ∀ b ∈ blk v, b ∉ fp) : Sl h' sz v n cs := by
  rcases hd with rfl | hd
  · obtain ⟨h0, bo, c, x, h1, h2, h3, _⟩ := s
    exact ⟨h0, bo, c, x, h1, h2, h3, .inl rfl⟩
  · exact s.upd u hd
end Go.Proofs.Ytblhpikljhholaa.NICE
