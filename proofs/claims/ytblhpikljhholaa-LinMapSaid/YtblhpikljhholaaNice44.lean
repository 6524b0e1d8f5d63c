/- Arguments that are slices of flat things: structs of numbers, bools and strings. -/
import Derived.Test.YtblhpikljhholaaNice43
set_option linter.unusedVariables false
set_option linter.unusedSimpArgs false
namespace Go.Proofs.Ytblhpikljhholaa.NICE
open Go Go.RowKit

variable {P : Program}

theorem slice_flatX {H : Type} {enc : TypeId × Value → H} {W : World} {t e : TypeId} {v : Value} {d : DataW H} {p : List MemPlace} (ht : P.underlying t = some (.slice e)) {dd : Nat} {ks : List FK} (hk : flat P dd e = some ks) (h0 : 0 < ks.length)
    (h : DataW.Trod enc P W 0 (fun _ => true) true t v d p) (hv : ∃ a n c, v = .slice a n c) (b : Nat) :
    ∃ bo n c x y cs ob, ((x = none ∨ x = some ks.length) ∧ n ≤ c) ∧ (∃ us : List (List NVal), us.length = n ∧ cs = rows id us ∧ ∀ u ∈ us, All2 FK.ok ks u) ∧ ((n = 0 ∧ ob = NObj.dead) ∨ (ob = .cells cs .ro ∧ bo = some (b, 0))) ∧ (∀ l : ArgL, l[b]? = some (y, ob) → VR (argI l) (.slice bo n c x) v) ∧
      ∀ l : ArgL, ob = .dead ∨ ∃ cs, ob = .cells cs .ro ∧ ∃ rb s m, y = some (rb, s, m) ∧ ∀ (i : Nat) u, cs[i]? = some u → ∃ r, W.cell? ⟨rb, s + i, none⟩ = some r ∧ VR (argI l) u r := by
  have hlen := flat_len hk
  obtain ⟨fuel, hf⟩ := h
  obtain ⟨a, n, c, rfl⟩ := hv
  have hcs : (Value.slice a n c).cells.toList = [.slice a n c] := rfl
  rw [hcs] at hf
  rcases Deep.open_slice ht hf with ⟨e1, _⟩ | ⟨a', len, cap, m, k, D, Pl, e1, _, hl, hml, hm, _, hx⟩
  · simp only [List.cons.injEq, and_true] at e1
    cases e1
    exact ⟨none, 0, 0, none, none, [], .dead, ⟨.inl rfl, Nat.le_refl _⟩, ⟨[], rfl, rfl, by simp⟩, .inl ⟨rfl, rfl⟩, fun l _ => .sliceNil, fun l => .inl rfl⟩
  · simp only [List.cons.injEq, and_true] at e1
    cases e1
    rcases Nat.eq_zero_or_pos c with hz | hz
    · subst hz
      have : n = 0 := by omega
      subst this
      exact ⟨some (b, 0), 0, 0, some ks.length, none, [], .dead, ⟨.inr rfl, Nat.le_refl _⟩, ⟨[], rfl, rfl, by simp⟩, .inl ⟨rfl, rfl⟩, fun l _ => .sliceEmpty, fun l => .inl rfl⟩
    · obtain ⟨blk, off, spot⟩ := a'
      have hm' : m = c := by rw [hm]; simp
      have elem : ∀ i, i < c → ∃ us, All2 FK.ok ks us ∧ ∀ j u, us[j]? = some u → ∃ r, W.cell? (((⟨blk, off, spot⟩ : Addr).add (i * ks.length)).add j) = some r ∧ ∀ ι, VR ι u r := fun i hi => by
        obtain ⟨cs', h1, h2⟩ := hx i (by omega)
        rw [← hlen] at h1
        obtain ⟨us, g1, g2⟩ := trod_flat dd hk h2
        obtain ⟨_, hl2, hcell⟩ := World.cells?_some h1
        refine ⟨us, g1, fun j u hj => ?_⟩
        have hju : j < us.length := (List.getElem?_eq_some_iff.1 hj).1
        have hul : us.length = cs'.length := (g2 (fun _ => none)).length
        obtain ⟨r, hr⟩ : ∃ r, cs'[j]? = some r := ⟨cs'[j]'(by omega), List.getElem?_eq_getElem (by omega)⟩
        refine ⟨r, by rw [hcell j (by omega), hr], fun ι => ?_⟩
        obtain ⟨r', hr', hv⟩ := (g2 ι).get hj
        rw [hr] at hr'
        cases hr'
        exact hv
      have hspot : spot = none := by
        obtain ⟨us, g1, g2⟩ := elem 0 hz
        have hul := g1.length
        obtain ⟨u, hu⟩ : ∃ u, us[0]? = some u := ⟨us[0]'(by omega), List.getElem?_eq_getElem (by omega)⟩
        obtain ⟨r, h1, _⟩ := g2 0 u hu
        simpa [Addr.add] using World.cell?_spot h1
      subst hspot
      have addr : ∀ i j, ((⟨blk, off, none⟩ : Addr).add (i * ks.length)).add j = ⟨blk, off + (i * ks.length + j), none⟩ := by
        intro i j
        unfold Addr.add
        by_cases q1 : i * ks.length = 0 <;> by_cases q2 : j = 0 <;> simp [q1, q2, Nat.add_assoc]
      have sk : ∀ i, ∃ us : List NVal, us.length = ks.length ∧ (i < c → All2 FK.ok ks us ∧ ∀ j u, us[j]? = some u → ∃ r, W.cell? ⟨blk, off + (i * ks.length + j), none⟩ = some r ∧ ∀ ι, VR ι u r) := fun i => by
        by_cases hi : i < c
        · obtain ⟨us, h1, h2⟩ := elem i hi
          exact ⟨us, h1.length.symm, fun _ => ⟨h1, fun j u hj => by rw [← addr]; exact h2 j u hj⟩⟩
        · exact ⟨List.replicate ks.length nundef, by simp, fun q => absurd q hi⟩
      obtain ⟨f, hf'⟩ := Classical.skolem.1 sk
      have hfl : ∀ i, (f i).length = ks.length := fun i => (hf' i).1
      have hrl : (rows f (List.range n)).length = n * ks.length := by rw [rows_len hfl, List.length_range]
      refine ⟨some (b, 0), n, c, none, some (blk, off, 0), rows f (List.range n), .cells (rows f (List.range n)) .ro, ⟨.inl rfl, hl⟩, ⟨(List.range n).map f, by simp, ?_, ?_⟩, .inr ⟨rfl, rfl⟩, fun l hl' => ?_, fun l => .inr ⟨_, rfl, blk, off, 0, rfl, fun i u hi => ?_⟩⟩
      · simp [rows, List.flatMap]
      · intro u hu
        obtain ⟨i, hi, rfl⟩ := List.mem_map.1 hu
        exact ((hf' i).2 (by have := List.mem_range.1 hi; omega)).1
      · have hi : argI l b = some (blk, off, 0) := by simp [argI, hl']
        exact VR.slice (o := 0) (s := off) hi hl rfl
      · have hlt : i < n * ks.length := by have := (List.getElem?_eq_some_iff.1 hi).1; omega
        have hq : i / ks.length < n := (Nat.div_lt_iff_lt_mul h0).2 hlt
        have hr : i % ks.length < ks.length := Nat.mod_lt _ h0
        have hdm : i / ks.length * ks.length + i % ks.length = i := by rw [Nat.mul_comm]; exact Nat.div_add_mod _ _
        have seg := rows_at hfl (List.range n) (i / ks.length) (i / ks.length) (by rw [List.getElem?_range hq])
        have hu : (f (i / ks.length))[i % ks.length]? = some u := by rw [← seg, List.getElem?_take_of_lt hr, List.getElem?_drop, hdm, hi]
        obtain ⟨r, h1, h2⟩ := ((hf' (i / ks.length)).2 (by omega)).2 _ u hu
        exact ⟨r, by rw [hdm] at h1; exact h1, h2 _⟩
end Go.Proofs.Ytblhpikljhholaa.NICE
