/- A call worked out over one heap is known on every heap that is this one, but for blocks of which nothing is asked. -/
import Derived.Test.YtamcodigpocecaaGreatNice40
set_option linter.unusedVariables false
set_option linter.unusedSimpArgs false
set_option linter.unusedSectionVars false
namespace Go.Proofs.YtamcodigpocecaaGreat.NICE
open Go Go.RowKit
variable [Syms]

variable {P : Program} {w0 w : World} {ι : Inj} {h : NHeap}

theorem Inv.weaken (I : Inv w0 ι h w) {H : NHeap} (hn : H.next = h.next) (get : ∀ {b o}, H.get b = some o → o = .dead ∨ h.get b = some o) : Inv w0 ι H w ∧ Step ι h w ι H w := by
  refine ⟨⟨I.below, fun b' x q => by rw [hn]; exact I.fresh b' x q, ?_, ?_, ?_, ?_, ?_⟩, ⟨ι.le_refl, fun _ _ q => .inl q, Nat.le_refl _, fun _ _ _ => rfl, ?_, by omega⟩⟩
  · intro b' cs t q
    rcases get q with q' | q'
    · cases q'
    · exact I.cells b' cs q'
  · intro b' cs T k q
    rcases get q with q' | q'
    · cases q'
    · exact I.typed b' cs T k q'
  · intro b' cs q
    rcases get q with q' | q'
    · cases q'
    · exact I.ro b' cs q'
  · intro b' es q
    rcases get q with q' | q'
    · cases q'
    · exact I.maps b' es q'
  · intro b1 b2 o1 o2 rb s1 s2 m1 m2 g1 w1 g2 w2 i1 i2
    rcases get g1 with p1 | p1
    · subst p1; simp [NObj.owned] at w1
    · rcases get g2 with p2 | p2
      · subst p2; simp [NObj.owned] at w2
      · exact I.inj b1 b2 o1 o2 rb s1 s2 m1 m2 p1 w1 p2 w2 i1 i2
  · rintro k ⟨b', ob', s', m', g, ho, hi⟩
    rcases get g with p | p
    · subst p; simp [NObj.owned] at ho
    · exact .inl ⟨b', ob', s', m', p, ho, hi⟩

/-- some blocks of a list changed -/
def setAll (l : List NObj) : List (Nat × NObj) → List NObj
  | [] => l
  | (i, o) :: r => setAll (l.set i o) r

/-- a heap out of a list -/
noncomputable def hOf (l : List NObj) : NHeap → NHeap := List.rec (motive := fun _ => NHeap → NHeap) (fun h => h) (fun o _ ih h => forceH (hAlloc h o) fun h' => ih h') l
theorem hOf_cons (o : NObj) (l : List NObj) (h : NHeap) : hOf (o :: l) h = hOf l (h.alloc o) := by
  show forceH (hAlloc h o) (fun h' => hOf l h') = _
  rw [forceH_eq, hAlloc_eq]
theorem hOf_next : ∀ (l : List NObj) (h : NHeap), (hOf l h).next = h.next + l.length
  | [], h => rfl
  | o :: l, h => by rw [hOf_cons, hOf_next l, NHeap.next_alloc, List.length_cons]; omega
theorem hOf_get : ∀ (l : List NObj) (h : NHeap) (b : Nat), (hOf l h).get b = if b < h.next then h.get b else l[b - h.next]?
  | [], h, b => by
    show h.get b = _
    split
    · rfl
    · rw [NHeap.get_ge (by omega)]; rfl
  | o :: l, h, b => by
    rw [hOf_cons, hOf_get l, NHeap.next_alloc, NHeap.get_alloc]
    by_cases h1 : b < h.next
    · rw [if_pos (by omega), if_pos h1, if_neg (by omega)]
    · by_cases h2 : b = h.next
      · subst h2; rw [if_pos (by omega), if_neg h1, if_pos rfl]; simp
      · rw [if_neg (by omega), if_neg h1, show b - h.next = (b - (h.next + 1)) + 1 by omega]; simp
theorem hOf_get0 (l : List NObj) (b : Nat) : (hOf l NHeap.empty).get b = l[b]? := by
  rw [hOf_get]; simp [NHeap.empty]

noncomputable def memoAt (f : FuncId) (args : List NVal) (L : List NObj) (v : NVal) (L' : List NObj) (els : CallF) : CallF := fun g as h =>
  if g = f then (if (heapIs L h && allB (veqF 50) args as) = true then forceH (hOf L' NHeap.empty) fun h' => some (v, h') else els g as h) else els g as h

theorem memoAt_ok (hm : P.follows .mixedOrders = true) (E : Env P drStatic) {m n : Nat} {f : FuncId} {args : List NVal} {L L' : List NObj} {v : NVal} (hk : E.known f args (hOf L NHeap.empty) = none)
    (hr : memoIs v L' (tF P E m (n + 1) f args (hOf L NHeap.empty)) = true) {els : CallF} (he : CallOk P els) : CallOk P (memoAt f args L v L' els) := by
  obtain ⟨h1, e1, e2⟩ := memoIs_spec hr
  obtain ⟨s1, s2⟩ := tF_step hm E m (tF_sound hm E m n) e1 hk
  intro g as h u h' e
  unfold memoAt at e
  split at e
  · rename_i hg
    subst hg
    split at e
    · rename_i ha
      simp only [Bool.and_eq_true] at ha
      obtain ⟨a0, a2⟩ := ha
      obtain ⟨a1, a3⟩ := heapIs_spec a0
      have a2 := allB_eq (veqF_eq _) a2
      subst a2
      rw [forceH_eq] at e
      cases e
      have g1 : ∀ {b o}, (hOf L NHeap.empty).get b = some o → o = .dead ∨ h.get b = some o := by
        intro b o q
        rw [hOf_get0] at q
        exact a3 b o q
      have g2 : ∀ {b o}, (hOf L' NHeap.empty).get b = some o → o = .dead ∨ h1.get b = some o := by
        intro b o q
        rw [hOf_get0] at q
        exact e2.2 b o q
      have n1 : (hOf L NHeap.empty).next = h.next := by rw [hOf_next, a1]; simp [NHeap.empty]
      have n2 : (hOf L' NHeap.empty).next = h1.next := by rw [hOf_next, e2.1]; simp [NHeap.empty]
      refine .inl ⟨s1, fun w0 ι w ra R I hv hR => ?_⟩
      obtain ⟨I1, S1⟩ := I.weaken n1 g1
      refine s2 w0 ι w ra R I1 hv fun ι' w' rv hrv I' S' => ?_
      obtain ⟨I2, S2⟩ := I'.weaken n2 g2
      exact hR ι' w' rv hrv I2 ((S1.trans S').trans S2)
    · exact he _ _ _ _ _ e
  · exact he _ _ _ _ _ e
end Go.Proofs.YtamcodigpocecaaGreat.NICE
