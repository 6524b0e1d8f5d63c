/- Arguments: memory that came in, read only; a call that says true, over it. -/
import Derived.Test.YtblhpikljhholaaNice30
import Derived.Carry
import Derived.ChangeOld
import Derived.Deep.Slices
set_option linter.unusedVariables false
set_option linter.unusedSimpArgs false
namespace Go.Proofs.Ytblhpikljhholaa.NICE
open Go Go.RowKit

variable {P : Program} {E : Env P drStatic}

/-- one block an argument, at most -/
abbrev ArgL := List (Option (Nat × Nat × Nat) × NObj)
def argI (l : ArgL) : Inj := fun b => (l[b]?).bind (·.1)
def argHeap : ArgL → NHeap → NHeap
  | [], h => h
  | p :: l, h => argHeap l (h.alloc p.2)
theorem argHeap_next : ∀ (l : ArgL) (h : NHeap), (argHeap l h).next = h.next + l.length
  | [], h => rfl
  | p :: l, h => by simp only [argHeap, argHeap_next l, NHeap.next_alloc, List.length_cons]; omega
theorem argHeap_get : ∀ (l : ArgL) (h : NHeap) (b : Nat), (argHeap l h).get b = if b < h.next then h.get b else (l[b - h.next]?).map (·.2)
  | [], h, b => by
    simp only [argHeap, List.getElem?_nil, Option.map_none]
    split
    · rfl
    · exact NHeap.get_ge (by omega)
  | p :: l, h, b => by
    simp only [argHeap, argHeap_get l, NHeap.next_alloc, NHeap.get_alloc]
    by_cases h1 : b < h.next
    · rw [if_pos (by omega), if_pos h1, if_neg (by omega)]
    · by_cases h2 : b = h.next
      · subst h2; rw [if_pos (by omega), if_neg h1, if_pos rfl]; simp
      · rw [if_neg (by omega), if_neg h1, show b - h.next = (b - (h.next + 1)) + 1 by omega]; simp
def argH (l : ArgL) : NHeap := argHeap l NHeap.empty
theorem argH_get (l : ArgL) (b : Nat) : (argH l).get b = (l[b]?).map (·.2) := by
  unfold argH
  rw [argHeap_get, if_neg (by simp [NHeap.empty])]
  rfl

theorem Inv.args (w : World) (l : ArgL) (hok : ∀ (b : Nat) (p : Option (Nat × Nat × Nat) × NObj), l[b]? = some p → p.2 = .dead ∨ ∃ cs, p.2 = .cells cs .ro ∧ ∃ rb s m, p.1 = some (rb, s, m) ∧ ∀ (i : Nat) v, cs[i]? = some v → ∃ r, w.cell? ⟨rb, s + i, none⟩ = some r ∧ VR (argI l) v r) :
    Inv w (argI l) (argH l) w := by
  have get : ∀ {b o}, (argH l).get b = some o → o = .dead ∨ ∃ cs, o = .cells cs .ro ∧ ∃ rb s m, argI l b = some (rb, s, m) ∧ ∀ (i : Nat) v, cs[i]? = some v → ∃ r, w.cell? ⟨rb, s + i, none⟩ = some r ∧ VR (argI l) v r := by
    intro b o e
    rw [argH_get] at e
    obtain ⟨p, hp, rfl⟩ := Option.map_eq_some_iff.1 e
    rcases hok b p hp with h | ⟨cs, h1, rb, s, m, h2, h3⟩
    · exact .inl h
    · exact .inr ⟨cs, h1, rb, s, m, by simp [argI, hp, h2], h3⟩
  refine ⟨Below.refl _ _, fun b x e => ?_, fun b cs t e => ?_, fun b cs T k e => ?_, fun b cs e => ?_, fun b es e => ?_, fun b b' o o' rb s s' m m' e1 h1 e2 h2 => ?_⟩
  · unfold argH; rw [argHeap_next]
    unfold argI at e
    cases hl : l[b]? with
    | none => rw [hl] at e; cases e
    | some p => have := (List.getElem?_eq_some_iff.1 hl).1; simp [NHeap.empty]; exact this
  · rcases get e with h | ⟨cs', h, _⟩ <;> cases h
  · rcases get e with h | ⟨cs', h, _⟩ <;> cases h
  · rcases get e with h | ⟨cs', h, rb, s, m, h1, h2⟩
    · cases h
    · cases h; exact ⟨rb, s, m, h1, h2⟩
  · rcases get e with h | ⟨cs', h, _⟩ <;> cases h
  · rcases get e1 with h | ⟨cs', h, _⟩
    · subst h; cases h1
    · subst h; cases h1

theorem args_dead {w : World} {l : ArgL} (h : ∀ p ∈ l, p.2 = NObj.dead) (b : Nat) (p : Option (Nat × Nat × Nat) × NObj) (e : l[b]? = some p) : p.2 = .dead ∨ ∃ cs, p.2 = .cells cs .ro ∧ ∃ rb s m, p.1 = some (rb, s, m) ∧ ∀ (i : Nat) v, cs[i]? = some v → ∃ r, w.cell? ⟨rb, s + i, none⟩ = some r ∧ VR (argI l) v r :=
  .inl (h p (List.mem_of_getElem? e))

/-- a call that says true over what came in says true in the world -/
theorem walk_true (hm : P.follows .mixedOrders = true) {f : FuncId} {us : List NVal} {h h' : NHeap} (hk : E.known f us h = none) (e : K E f us h = some (.bool true, h')) {w : World} {ι : Inj} (I : Inv w ι h w) {ra : Array Value} (hv : VRs ι us ra.toList) :
    Calls P f ra w fun e w' => e = .returned (.bool true) ∧ Below w.heap.size w w' := by
  refine K_sim hm hk e w ι w ra _ I hv fun ι' w' rv hr I' S' => ?_
  cases hr
  exact ⟨rfl, I'.below⟩

theorem trodAll_stays {H : Type} {enc : TypeId × Value → H} (hl : laidOutB P = true) {W W' : World} (hb : Below W.heap.size W W') : ∀ {ts : List TypeId} {vs : List Value} {ds : List (DataW H)} {ps : List MemPlace},
    (ts.all fun t => P.readableRec t && decide (t < P.types.size)) = true → DataW.TrodAll enc P W 0 (fun _ => true) true ts vs ds ps → (∀ x ∈ ps, x.block < W.heap.size) → DataW.TrodAll enc P W' 0 (fun b => decide (b < W.heap.size)) true ts vs ds ps
  | [], [], [], ps, _, h, _ => h
  | t :: ts, v :: vs, d :: ds, ps, ha, h, hlt => by
    obtain ⟨p, q, h1, h2, rfl⟩ := h
    simp only [List.all_cons, Bool.and_eq_true, decide_eq_true_eq] at ha
    exact ⟨p, q, Below.trod hl ha.1.1 ha.1.2 h1 hb fun x hx => hlt x (List.mem_append_left _ hx), trodAll_stays hl hb ha.2 h2 fun x hx => hlt x (List.mem_append_right _ hx), rfl⟩
  | [], _ :: _, _, _, _, h, _ => h.elim
  | [], [], _ :: _, _, _, h, _ => h.elim
  | _ :: _, [], _, _, _, h, _ => h.elim
  | _ :: _, _ :: _, [], _, _, h, _ => h.elim

/-! ### A closed law, called by another one -/

def trueKnown (f : FuncId) (c : Nat) : CallF := fun g l h => if g = f then (match l with
  | [] => some (.bool true, layAll h.next (List.replicate c .dead) h)
  | _ => none) else none

theorem trueKnown_ok (hm : P.follows .mixedOrders = true) (E : Env P drStatic) {m n : Nat} {f : FuncId} (hk : E.known f [] NHeap.empty = none) (e : saysTrue (tF P E m (n + 1) f [] NHeap.empty) = true) : ∃ c, CallOk P (trueKnown f c) := by
  cases hr : tF P E m (n + 1) f [] NHeap.empty with
  | none => rw [hr] at e; cases e
  | some p =>
    obtain ⟨v, h1⟩ := p
    rw [hr] at e
    have hv : v = .bool true := by
      cases v with
      | bool b => cases b with
        | true => rfl
        | false => cases e
      | _ => cases e
    subst hv
    obtain ⟨s1, s2⟩ := tF_step hm E m (tF_sound hm E m n) hr hk
    refine ⟨h1.next, fun g l h v h' q => ?_⟩
    unfold trueKnown at q
    split at q
    · rename_i hg
      subst hg
      split at q
      · cases q
        have hl : Lists h1 (List.replicate h1.next .dead) := ⟨by simp, fun b o ho => .inl (List.eq_of_mem_replicate (List.mem_of_getElem? ho))⟩
        have hro : noRo (List.replicate h1.next .dead) = true := List.all_eq_true.2 fun o ho => by rw [List.eq_of_mem_replicate ho]
        exact .inl ⟨s1, s2.frame (by rfl) hl hro h⟩
      · cases q
    · cases q

theorem layAll_ext (d : Nat) : ∀ (l : List NObj) (h : NHeap), Ext h (layAll d l h)
  | [], h => Ext.refl h
  | o :: l, h => (Ext.alloc (Ext.refl h) _).trans (layAll_ext d l _)

theorem trueKnown_says {f c} {h : NHeap} {known : CallF} : ∃ h', orKnown (trueKnown f c) known f [] h = some (.bool true, h') ∧ Ext h h' :=
  ⟨layAll h.next (List.replicate c .dead) h, by simp [orKnown, trueKnown], layAll_ext _ _ _⟩

/-! ### A slice that came in, of whose elements nothing is asked -/

theorem slice_any {H : Type} {enc : TypeId × Value → H} {W : World} {t e : TypeId} {v : Value} {d : DataW H} {p : List MemPlace} (ht : P.underlying t = some (.slice e)) (hp : 0 < P.cellsOf e)
    (h : DataW.Trod enc P W 0 (fun _ => true) true t v d p) (hv : ∃ a n c, v = .slice a n c) (b : Nat) : ∃ bo n c x y, ∀ l : ArgL, l[b]? = some (y, .dead) → VR (argI l) (.slice bo n c x) v := by
  obtain ⟨fuel, hf⟩ := h
  obtain ⟨a, n, c, rfl⟩ := hv
  have hc : (Value.slice a n c).cells.toList = [.slice a n c] := rfl
  rw [hc] at hf
  rcases Deep.open_slice ht hf with ⟨e1, _⟩ | ⟨a', len, cap, m, k, D, Pl, e1, _, hl, _, hm, _, hx⟩
  · simp only [List.cons.injEq, and_true] at e1
    cases e1
    exact ⟨none, 0, 0, none, none, fun l _ => .sliceNil⟩
  · simp only [List.cons.injEq, and_true] at e1
    cases e1
    rcases Nat.eq_zero_or_pos c with hz | hz
    · subst hz
      have : n = 0 := by omega
      subst this
      exact ⟨some (b, 0), 0, 0, some 1, none, fun l _ => .sliceEmpty⟩
    · obtain ⟨cs', h1, _⟩ := hx 0 (by rw [hm]; simpa using hz)
      obtain ⟨blk, off, spot⟩ := a'
      have hspot : spot = none := by
        have h1' := h1
        obtain ⟨_, hlen, hcell⟩ := World.cells?_some h1
        match cs', hlen with
        | [], hlen => simp at hlen; omega
        | u :: r, _ =>
          have := hcell 0 hp
          simp only [List.getElem?_cons_zero] at this
          simpa [Addr.add] using World.cell?_spot this
      subst hspot
      exact ⟨some (b, 0), n, c, none, some (blk, off, 0), fun l hl' => by
        have hi : argI l b = some (blk, off, 0) := by simp [argI, hl']
        exact VR.slice (o := 0) (s := off) hi hl rfl⟩
end Go.Proofs.Ytblhpikljhholaa.NICE
