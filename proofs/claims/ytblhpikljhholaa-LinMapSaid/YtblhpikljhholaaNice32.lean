/- A slice that came in, of elements of one cell each. -/
import Derived.Test.YtblhpikljhholaaNice31
set_option linter.unusedVariables false
set_option linter.unusedSimpArgs false
namespace Go.Proofs.Ytblhpikljhholaa.NICE
open Go Go.RowKit

variable {P : Program}

theorem slice_ones {H : Type} {enc : TypeId × Value → H} {W : World} {t e : TypeId} {v : Value} {d : DataW H} {p : List MemPlace} (ht : P.underlying t = some (.slice e)) (hc : P.cellsOf e = 1) (G : NVal → Prop)
    (hel : ∀ {fuel cs x}, DataW.trod enc P W 0 (fun _ => true) true fuel e cs = some x → ∃ r u, cs = [r] ∧ G u ∧ ∀ ι, VR ι u r)
    (h : DataW.Trod enc P W 0 (fun _ => true) true t v d p) (hv : ∃ a n c, v = .slice a n c) (b : Nat) :
    ∃ bo n c x y cs ob, (∀ u ∈ cs, G u) ∧ cs.length = n ∧ n < 2 ^ 64 ∧ ((n = 0 ∧ ob = NObj.dead) ∨ (ob = .cells cs .ro ∧ bo = some (b, 0))) ∧ (∀ l : ArgL, l[b]? = some (y, ob) → VR (argI l) (.slice bo n c x) v) ∧
      ∀ l : ArgL, ob = .dead ∨ ∃ cs, ob = .cells cs .ro ∧ ∃ rb s m, y = some (rb, s, m) ∧ ∀ (i : Nat) u, cs[i]? = some u → ∃ r, W.cell? ⟨rb, s + i, none⟩ = some r ∧ VR (argI l) u r := by
  obtain ⟨fuel, hf⟩ := h
  obtain ⟨a, n, c, rfl⟩ := hv
  have hcs : (Value.slice a n c).cells.toList = [.slice a n c] := rfl
  rw [hcs] at hf
  rcases Deep.open_slice ht hf with ⟨e1, _⟩ | ⟨a', len, cap, m, k, D, Pl, e1, _, hl, hml, hm, _, hx⟩
  · simp only [List.cons.injEq, and_true] at e1
    cases e1
    exact ⟨none, 0, 0, none, none, [], .dead, by simp, rfl, by decide, .inl ⟨rfl, rfl⟩, fun l _ => .sliceNil, fun l => .inl rfl⟩
  · simp only [List.cons.injEq, and_true] at e1
    cases e1
    rcases Nat.eq_zero_or_pos c with hz | hz
    · subst hz
      have : n = 0 := by omega
      subst this
      exact ⟨some (b, 0), 0, 0, some 1, none, [], .dead, by simp, rfl, by decide, .inl ⟨rfl, rfl⟩, fun l _ => .sliceEmpty, fun l => .inl rfl⟩
    · obtain ⟨blk, off, spot⟩ := a'
      have hm' : m = c := by rw [hm]; simp
      have hspot : spot = none := by
        obtain ⟨cs', h1, h2⟩ := hx 0 (by omega)
        obtain ⟨r, u, rfl, hg, hu⟩ := hel h2
        obtain ⟨_, hlen, hcell⟩ := World.cells?_some h1
        have := hcell 0 (by omega)
        simp only [List.getElem?_cons_zero] at this
        simpa [Addr.add] using World.cell?_spot this
      subst hspot
      have cell : ∀ i, i < c → ∃ r u, W.cell? ⟨blk, off + i, none⟩ = some r ∧ G u ∧ ∀ ι, VR ι u r := fun i hi => by
        obtain ⟨cs', h1, h2⟩ := hx i (by omega)
        obtain ⟨r, u, rfl, hg, hu⟩ := hel h2
        obtain ⟨_, hlen, hcell⟩ := World.cells?_some h1
        have := hcell 0 (by omega)
        simp only [List.getElem?_cons_zero] at this
        refine ⟨r, u, ?_, hg, hu⟩
        rw [hc] at this
        by_cases hi0 : i = 0
        · subst hi0; simpa [Addr.add] using this
        · simpa [Addr.add, hi0] using this
      have sk : ∀ i, ∃ u, i < c → G u ∧ ∃ r, W.cell? ⟨blk, off + i, none⟩ = some r ∧ ∀ ι, VR ι u r := fun i => by
        by_cases hi : i < c
        · obtain ⟨r, u, h1, h2, h3⟩ := cell i hi
          exact ⟨u, fun _ => ⟨h2, r, h1, h3⟩⟩
        · exact ⟨nundef, fun q => absurd q hi⟩
      obtain ⟨f, hf'⟩ := Classical.skolem.1 sk
      refine ⟨some (b, 0), n, c, none, some (blk, off, 0), (List.range n).map f, .cells ((List.range n).map f) .ro, ?_, by simp, ?_, .inr ⟨rfl, rfl⟩, fun l hl' => ?_, fun l => .inr ⟨_, rfl, blk, off, 0, rfl, fun i u hi => ?_⟩⟩
      · intro u hu
        obtain ⟨i, hi, rfl⟩ := List.mem_map.1 hu
        exact (hf' i (by have := List.mem_range.1 hi; omega)).1
      · simp only [maxLen] at hml; omega
      · have hi : argI l b = some (blk, off, 0) := by simp [argI, hl']
        exact VR.slice (o := 0) (s := off) hi hl rfl
      · rw [List.getElem?_map] at hi
        obtain ⟨j, hj, rfl⟩ := Option.map_eq_some_iff.1 hi
        have hjn : i < n := by
          have := (List.getElem?_eq_some_iff.1 hj).1; simpa using this
        have : j = i := by
          rw [List.getElem?_range hjn] at hj; cases hj; rfl
        subst this
        obtain ⟨_, r, h1, h2⟩ := hf' j (by omega)
        exact ⟨r, h1, h2 _⟩

theorem bool_one {H : Type} {enc : TypeId × Value → H} {W : World} {e : TypeId} (he : P.underlying e = some .bool) {fuel cs x} (h : DataW.trod enc P W 0 (fun _ => true) true fuel e cs = some x) :
    ∃ r u, cs = [r] ∧ (∃ b, u = NVal.bool b) ∧ ∀ ι, VR ι u r := by
  obtain ⟨b, h1, _⟩ := DataW.trod_bool he h
  exact ⟨_, .bool b, h1, ⟨b, rfl⟩, fun ι => .bool b⟩
theorem int_one {H : Type} {enc : TypeId × Value → H} {W : World} {e : TypeId} {k : IntKind} (he : P.underlying e = some (.int k)) {fuel cs x} (h : DataW.trod enc P W 0 (fun _ => true) true fuel e cs = some x) :
    ∃ r u, cs = [r] ∧ (∃ n, u = NVal.int k n) ∧ ∀ ι, VR ι u r := by
  obtain ⟨n, h1, _⟩ := DataW.trod_int he h
  exact ⟨_, .int k n, h1, ⟨n, rfl⟩, fun ι => .int k n⟩
end Go.Proofs.Ytblhpikljhholaa.NICE
