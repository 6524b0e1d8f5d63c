/- A call without memory among its arguments, worked out once on the empty heap, is known on every heap. -/
import Derived.Test.YtblhpikljhholaaNice26
set_option linter.unusedVariables false
set_option linter.unusedSimpArgs false
namespace Go.Proofs.Ytblhpikljhholaa.NICE
open Go Go.RowKit

variable {P : Program}

mutual
def shiftV (d : Nat) : NVal → NVal
  | .bool b => .bool b
  | .int k n => .int k n
  | .str s => .str s
  | .ptr none => .ptr none
  | .ptr (some (b, o)) => .ptr (some (d + b, o))
  | .slice none l c x => .slice none l c x
  | .slice (some (b, o)) l c x => .slice (some (d + b, o)) l c x
  | .map none => .map none
  | .map (some b) => .map (some (d + b))
  | .func f a c => .func f (shiftVs d a) (shiftVs d c)
  | .nilFunc => .nilFunc
  | .iface t v => .iface t (shiftV d v)
  | .nilIface => .nilIface
  | .agg cs => .agg (shiftVs d cs)
  | .tuple cs => .tuple (shiftVs d cs)
  | .junk => .junk
def shiftVs (d : Nat) : List NVal → List NVal
  | [] => []
  | v :: l => shiftV d v :: shiftVs d l
end

theorem shiftVs_map (d : Nat) : ∀ l : List NVal, shiftVs d l = l.map (shiftV d)
  | [] => rfl
  | v :: l => by simp [shiftVs, shiftVs_map d l]

/-- the two assignments, one behind the other -/
def joinI (n : Nat) (ι ι1 : Inj) : Inj := fun b => if b < n then ι b else ι1 (b - n)

theorem joinI_new {n : Nat} {ι ι1 : Inj} {b : Nat} {x} (h : ι1 b = some x) : joinI n ι ι1 (n + b) = some x := by
  unfold joinI; rw [if_neg (by omega), show n + b - n = b by omega]; exact h

theorem VR.shift {n : Nat} {ι ι1 : Inj} {u : NVal} {v : Value} (h : VR ι1 u v) : VR (joinI n ι ι1) (shiftV n u) v := by
  induction h with
  | bool b => exact .bool b
  | int k n => exact .int k n
  | str s => exact .str s
  | ptrNil => exact .ptrNil
  | ptr h => exact .ptr (joinI_new h)
  | sliceNil => exact .sliceNil
  | slice h hl hc => exact .slice (joinI_new h) hl hc
  | sliceMore h hl hc hm => exact .sliceMore (joinI_new h) hl hc hm
  | sliceEmpty => exact .sliceEmpty
  | mapNil => exact .mapNil
  | map h => exact .map (joinI_new h)
  | func hf hc _ _ ih ih' =>
    simp only [shiftV, shiftVs_map]
    refine .func (by simpa using hf) (by simpa using hc) (fun i u v hu hv => ?_) (fun i u v hu hv => ?_)
    · rw [List.getElem?_map] at hu
      obtain ⟨w, hw, rfl⟩ := Option.map_eq_some_iff.1 hu
      exact ih i w v hw hv
    · rw [List.getElem?_map] at hu
      obtain ⟨w, hw, rfl⟩ := Option.map_eq_some_iff.1 hu
      exact ih' i w v hw hv
  | nilFunc => exact .nilFunc
  | iface _ ih => exact .iface ih
  | nilIface => exact .nilIface
  | agg hl _ ih =>
    simp only [shiftV, shiftVs_map]
    refine .agg (by simpa using hl) (fun i u v hu hv => ?_)
    rw [List.getElem?_map] at hu
    obtain ⟨w, hw, rfl⟩ := Option.map_eq_some_iff.1 hu
    exact ih i w v hw hv
  | tuple hl _ ih =>
    simp only [shiftV, shiftVs_map]
    refine .tuple (by simpa using hl) (fun i u v hu hv => ?_)
    rw [List.getElem?_map] at hu
    obtain ⟨w, hw, rfl⟩ := Option.map_eq_some_iff.1 hu
    exact ih i w v hw hv
  | junk h => exact .junk h

def shiftO (d : Nat) : NObj → NObj
  | .cells cs m => .cells (shiftVs d cs) m
  | .map es => .map (es.map fun p => (shiftV d p.1, shiftV d p.2))
  | .dead => .dead

/-- blocks laid behind a heap: a list, the first at number 'h.next' -/
def layAll (d : Nat) : List NObj → NHeap → NHeap
  | [], h => h
  | o :: l, h => layAll d l (h.alloc (shiftO d o))

theorem layAll_next (d : Nat) : ∀ (l : List NObj) (h : NHeap), (layAll d l h).next = h.next + l.length
  | [], h => rfl
  | o :: l, h => by simp only [layAll, layAll_next d l, NHeap.next_alloc, List.length_cons]; omega

theorem layAll_get (d : Nat) : ∀ (l : List NObj) (h : NHeap) (b : Nat), (layAll d l h).get b = if b < h.next then h.get b else (l[b - h.next]?).map (shiftO d)
  | [], h, b => by
    simp only [layAll, List.getElem?_nil, Option.map_none]
    split
    · rfl
    · exact NHeap.get_ge (by omega)
  | o :: l, h, b => by
    simp only [layAll, layAll_get d l, NHeap.next_alloc, NHeap.get_alloc]
    by_cases h1 : b < h.next
    · rw [if_pos (by omega), if_pos h1, if_neg (by omega)]
    · by_cases h2 : b = h.next
      · subst h2; rw [if_pos (by omega), if_neg h1, if_pos rfl]; simp
      · rw [if_neg (by omega), if_neg h1, show b - h.next = (b - (h.next + 1)) + 1 by omega]; simp

/-- what has no block in it -/
def bare : NVal → Bool
  | .bool _ => true
  | .int _ _ => true
  | .str _ => true
  | .ptr none => true
  | .slice none _ _ _ => true
  | .map none => true
  | .nilFunc => true
  | .nilIface => true
  | .agg cs => cs.all fun v => match v with | .bool _ => true | .int _ _ => true | .str _ => true | .ptr none => true | .slice none _ _ _ => true | .map none => true | _ => false
  | _ => false

theorem VR.of_plain {ι ι1 : Inj} {u : NVal} {v : Value} (hb : (match u with | .bool _ => true | .int _ _ => true | .str _ => true | .ptr none => true | .slice none _ _ _ => true | .map none => true | _ => false) = true) (h : VR ι u v) : VR ι1 u v := by
  cases h with
  | bool b => exact .bool b
  | int k n => exact .int k n
  | str s => exact .str s
  | ptrNil => exact .ptrNil
  | sliceNil => exact .sliceNil
  | mapNil => exact .mapNil
  | _ => cases hb

theorem VR.of_bare {ι ι1 : Inj} {u : NVal} {v : Value} (hb : bare u = true) (h : VR ι u v) : VR ι1 u v := by
  cases h with
  | bool b => exact .bool b
  | int k n => exact .int k n
  | str s => exact .str s
  | ptrNil => exact .ptrNil
  | sliceNil => exact .sliceNil
  | mapNil => exact .mapNil
  | nilFunc => exact .nilFunc
  | nilIface => exact .nilIface
  | agg hl h =>
    refine .agg hl fun i x y hx hy => ?_
    have := List.all_eq_true.1 hb x (List.mem_of_getElem? hx)
    exact VR.of_plain this (h i x y hx hy)
  | _ => cases hb

/-- the blocks of a heap are just these; of one that is told to be dead nothing is said -/
def Lists (h : NHeap) (l : List NObj) : Prop := h.next = l.length ∧ ∀ b o, l[b]? = some o → o = .dead ∨ h.get b = some o

/-- the blocks of a heap that is over in the numbers below: none of them a block that may only be read -/
def noRo (l : List NObj) : Bool := l.all fun o => match o with | .cells _ .ro => false | _ => true

theorem SimF.frame {f : FuncId} {args : List NVal} {v : NVal} {h1 : NHeap} {l : List NObj} (hs : SimF P f args NHeap.empty v h1) (hargs : args.all bare = true) (hl : Lists h1 l) (hro : noRo l = true) (h : NHeap) :
    SimF P f args h (shiftV h.next v) (layAll h.next l h) := by
  intro w0 ι w ra R I hra hR
  have hra0 : VRs (fun _ => none) args ra.toList := by
    have key : ∀ {l : List NVal} {m : List Value}, l.all bare = true → VRs ι l m → VRs (fun _ => none) l m := by
      intro l m hb h
      induction h with
      | nil => exact .nil
      | cons a b ih =>
        simp only [List.all_cons, Bool.and_eq_true] at hb
        exact .cons (VR.of_bare hb.1 a) (ih hb.2)
    exact key hargs hra
  refine hs w (fun _ => none) w ra R (Inv.start w) hra0 fun ι1 w' rv hv I1 S1 => ?_
  have hold : ∀ {rb : Nat} {o : Obj}, w.heap[rb]? = some o → w'.heap[rb]? = some o := by
    intro rb o e
    have hlt : rb < w.heap.size := (Array.getElem?_eq_some_iff.1 e).1
    rw [I1.below.block rb hlt]; exact e
  have get : ∀ {b : Nat} {ob : NObj}, (layAll h.next l h).get b = some ob → (b < h.next ∧ h.get b = some ob) ∨ (h.next ≤ b ∧ ∃ o1, (o1 = .dead ∨ (h1.get (b - h.next) = some o1 ∧ l[b - h.next]? = some o1)) ∧ ob = shiftO h.next o1) := by
    intro b ob e
    rw [layAll_get] at e
    split at e
    · exact .inl ⟨by assumption, e⟩
    · obtain ⟨o1, e1, rfl⟩ := Option.map_eq_some_iff.1 e
      exact .inr ⟨by omega, o1, (hl.2 _ _ e1).imp id fun q => ⟨q, e1⟩, rfl⟩
  have jold : ∀ {b : Nat}, b < h.next → joinI h.next ι ι1 b = ι b := fun {b} hb => by unfold joinI; rw [if_pos hb]
  have jnew : ∀ {b : Nat}, h.next ≤ b → joinI h.next ι ι1 b = ι1 (b - h.next) := fun {b} hb => by unfold joinI; rw [if_neg (by omega)]
  have hle : ι.le (joinI h.next ι ι1) := fun b x e => by rw [jold (I.fresh b x e)]; exact e
  have hI : Inv w0 (joinI h.next ι ι1) (layAll h.next l h) w' := by
    refine ⟨I.below.trans (I1.below.mono I.below.size), ?_, ?_, ?_, ?_, ?_, ?_⟩
    · intro b x e
      rw [layAll_next]
      by_cases hb : b < h.next
      · omega
      · rw [jnew (by omega)] at e
        have := I1.fresh _ _ e
        rw [hl.1] at this; omega
    · intro b cs t e
      rcases get e with ⟨hb, e'⟩ | ⟨hb, o1, e1, e2⟩
      · obtain ⟨rb, s, m, c, et, fz, a1, a2, a3, a4, a5, a6, a7⟩ := I.cells b cs e'
        exact ⟨rb, s, m, c, et, fz, by rw [jold hb]; exact a1, a2, hold a3, a4, a5, a6, fun i v hv => by
          obtain ⟨r, r1, r2⟩ := a7 i v hv; exact ⟨r, r1, r2.mono hle⟩⟩
      · cases o1 with
        | cells cs1 m1 =>
          simp only [shiftO] at e2
          injection e2 with e2 e3
          subst e2 e3
          obtain ⟨rb, s, m, c, et, fz, a1, a2, a3, a4, a5, a6, a7⟩ := I1.cells _ cs1 (e1.resolve_left (by simp)).1
          refine ⟨rb, s, m, c, et, fz, by rw [jnew hb]; exact a1, Nat.le_trans I.below.size a2, a3, a4, by rw [shiftVs_map]; simpa using a5, a6, fun i v hv => ?_⟩
          rw [shiftVs_map, List.getElem?_map] at hv
          obtain ⟨u, hu, rfl⟩ := Option.map_eq_some_iff.1 hv
          obtain ⟨r, r1, r2⟩ := a7 i u hu
          exact ⟨r, r1, r2.shift⟩
        | map es => cases e2
        | dead => cases e2
    · intro b cs T k e
      rcases get e with ⟨hb, e'⟩ | ⟨hb, o1, e1, e2⟩
      · obtain ⟨rb, c, a1, a2, a3⟩ := I.typed b cs T k e'
        exact ⟨rb, c, by rw [jold hb]; exact a1, hold a2, a3⟩
      · cases o1 with
        | cells cs1 m1 =>
          simp only [shiftO] at e2
          injection e2 with e2 e3
          subst e2 e3
          obtain ⟨rb, c, a1, a2, a3⟩ := I1.typed _ cs1 T k (e1.resolve_left (by simp)).1
          exact ⟨rb, c, by rw [jnew hb]; exact a1, a2, a3⟩
        | map es => cases e2
        | dead => cases e2
    · intro b cs e
      rcases get e with ⟨hb, e'⟩ | ⟨hb, o1, e1, e2⟩
      · obtain ⟨rb, s, m, a1, a2⟩ := I.ro b cs e'
        exact ⟨rb, s, m, by rw [jold hb]; exact a1, fun i v hv => by obtain ⟨r, r1, r2⟩ := a2 i v hv; exact ⟨r, r1, r2.mono hle⟩⟩
      · exfalso
        cases o1 with
        | cells cs1 m1 =>
          simp only [shiftO] at e2
          injection e2 with e2 e3
          subst e3
          have := List.all_eq_true.1 hro _ (List.mem_of_getElem? (e1.resolve_left (by simp)).2)
          simp at this
        | map es => cases e2
        | dead => cases e2
    · intro b es e
      rcases get e with ⟨hb, e'⟩ | ⟨hb, o1, e1, e2⟩
      · obtain ⟨rb, s, m, ents, clock, a1, a2, a3, a4⟩ := I.maps b es e'
        exact ⟨rb, s, m, ents, clock, by rw [jold hb]; exact a1, a2, hold a3, a4.imp fun _ _ q => ⟨q.1.mono hle, q.2.mono hle⟩⟩
      · cases o1 with
        | map es1 =>
          simp only [shiftO] at e2
          injection e2 with e2
          subst e2
          obtain ⟨rb, s, m, ents, clock, a1, a2, a3, a4⟩ := I1.maps _ es1 (e1.resolve_left (by simp)).1
          refine ⟨rb, s, m, ents, clock, by rw [jnew hb]; exact a1, Nat.le_trans I.below.size a2, a3, ?_⟩
          have key : ∀ {l : List (NVal × NVal)} {m : List MapEntry}, All2 (fun p e => VR ι1 p.1 e.key ∧ VR ι1 p.2 e.val) l m → All2 (fun p e => VR (joinI h.next ι ι1) p.1 e.key ∧ VR (joinI h.next ι ι1) p.2 e.val) (l.map fun p => (shiftV h.next p.1, shiftV h.next p.2)) m := by
            intro l m q
            induction q with
            | nil => exact .nil
            | cons a b ih => exact .cons ⟨a.1.shift, a.2.shift⟩ ih
          exact key a4
        | cells cs1 m1 => cases e2
        | dead => cases e2
    · have oldB : ∀ {b o rb s m}, h.get b = some o → o.owned = true → ι b = some (rb, s, m) → rb < w.heap.size := by
        intro b o rb s m e ho hi
        cases o with
        | cells cs mine =>
          cases mine with
          | own t =>
            obtain ⟨rb', s', m', c, et, fz, a1, a2, a3, _⟩ := I.cells b cs e
            rw [hi] at a1; cases a1
            exact (Array.getElem?_eq_some_iff.1 a3).1
          | ro => cases ho
        | map es =>
          obtain ⟨rb', s', m', ents, clock, a1, a2, a3, _⟩ := I.maps b es e
          rw [hi] at a1; cases a1
          exact (Array.getElem?_eq_some_iff.1 a3).1
        | dead => cases ho
      have newB : ∀ {b o rb s m}, h1.get b = some o → o.owned = true → ι1 b = some (rb, s, m) → w.heap.size ≤ rb := by
        intro b o rb s m e ho hi
        cases o with
        | cells cs mine =>
          cases mine with
          | own t =>
            obtain ⟨rb', s', m', c, et, fz, a1, a2, a3, _⟩ := I1.cells b cs e
            rw [hi] at a1; cases a1
            exact a2
          | ro => cases ho
        | map es =>
          obtain ⟨rb', s', m', ents, clock, a1, a2, a3, _⟩ := I1.maps b es e
          rw [hi] at a1; cases a1
          exact a2
        | dead => cases ho
      have own1 : ∀ o : NObj, (shiftO h.next o).owned = o.owned := fun o => by cases o <;> rfl
      have live : ∀ {o : NObj} {b : Nat} {X : Prop}, (o = .dead ∨ (h1.get b = some o ∧ X)) → o.owned = true → h1.get b = some o := fun q ho => by
        rcases q with rfl | q
        · cases ho
        · exact q.1
      intro b b' o o' rb s s' m m' e1 ho1 e2 ho2 hi1 hi2
      rcases get e1 with ⟨hb, e1'⟩ | ⟨hb, o1, e1', rfl⟩ <;> rcases get e2 with ⟨hb', e2'⟩ | ⟨hb', o2, e2', rfl⟩
      · rw [jold hb] at hi1; rw [jold hb'] at hi2
        exact I.inj b b' o o' rb s s' m m' e1' ho1 e2' ho2 hi1 hi2
      · rw [jold hb] at hi1; rw [jnew hb'] at hi2
        have := oldB e1' ho1 hi1
        rw [own1] at ho2
        have := newB (live e2' ho2) ho2 hi2
        omega
      · rw [jnew hb] at hi1; rw [jold hb'] at hi2
        have := oldB e2' ho2 hi2
        rw [own1] at ho1
        have := newB (live e1' ho1) ho1 hi1
        omega
      · rw [jnew hb] at hi1; rw [jnew hb'] at hi2
        rw [own1] at ho1 ho2
        have := I1.inj _ _ o1 o2 rb s s' m m' (live e1' ho1) ho1 (live e2' ho2) ho2 hi1 hi2
        omega
  refine hR (joinI h.next ι ι1) w' rv hv.shift hI ⟨hle, fun b x e => ?_, S1.size, fun rb hlt _ => I1.below.block rb hlt, fun rb ho => ?_, by rw [layAll_next]; omega⟩
  · by_cases hb : b < h.next
    · rw [jold hb] at e; exact .inl e
    · exact .inr (by omega)
  · obtain ⟨b, o, s, m, e, ho, hi⟩ := ho
    rcases get e with ⟨hb, e'⟩ | ⟨hb, o1, e1, rfl⟩
    · rw [jold hb] at hi; exact .inl ⟨b, o, s, m, e', ho, hi⟩
    · rw [jnew hb] at hi
      refine .inr ?_
      have own1 : ∀ o : NObj, (shiftO h.next o).owned = o.owned := fun o => by cases o <;> rfl
      rw [own1] at ho
      cases o1 with
      | cells cs mine =>
        cases mine with
        | own t =>
          obtain ⟨rb', s', m', c, et, fz, a1, a2, a3, _⟩ := I1.cells _ cs (e1.resolve_left (by simp)).1
          rw [hi] at a1; cases a1
          exact a2
        | ro => cases ho
      | map es =>
        obtain ⟨rb', s', m', ents, clock, a1, a2, a3, _⟩ := I1.maps _ es (e1.resolve_left (by simp)).1
        rw [hi] at a1; cases a1
        exact a2
      | dead => cases ho

/-! ### The check that a run came to just this -/

def oeq (a : NObj) : Option NObj → Bool
  | none => false
  | some b => match a, b with
    | .dead, _ => true
    | .cells l (.own t), .cells m (.own u) => veqs 100000 l m && decide (t = u)
    | .map l, .map m => veqs 100000 (l.map (·.1)) (m.map (·.1)) && veqs 100000 (l.map (·.2)) (m.map (·.2))
    | _, _ => false

def oeqs (h : NHeap) : Nat → List NObj → Bool
  | _, [] => true
  | i, o :: l => oeq o (h.get i) && oeqs h (i + 1) l

def memoIs (v : NVal) (l : List NObj) : Option (NVal × NHeap) → Bool
  | none => false
  | some (u, h) => veq 100000 v u && decide (h.next = l.length) && oeqs h 0 l

theorem pairs_eq {α β : Type} : ∀ {l m : List (α × β)}, l.map (·.1) = m.map (·.1) → l.map (·.2) = m.map (·.2) → l = m
  | [], [], _, _ => rfl
  | [], _ :: _, h, _ => by simp at h
  | _ :: _, [], h, _ => by simp at h
  | (a, b) :: l, (c, d) :: m, h, k => by
    simp only [List.map_cons, List.cons.injEq] at h k
    obtain ⟨rfl, h⟩ := h
    obtain ⟨rfl, k⟩ := k
    rw [pairs_eq h k]

theorem oeq_spec {a : NObj} {b : Option NObj} (h : oeq a b = true) : a = .dead ∨ b = some a := by
  unfold oeq at h
  cases b with
  | none => cases h
  | some b =>
    simp only at h
    split at h
    · exact .inl rfl
    · simp only [Bool.and_eq_true, decide_eq_true_eq] at h; rw [veqs_eq _ h.1, h.2]; exact .inr rfl
    · simp only [Bool.and_eq_true] at h
      rw [pairs_eq (veqs_eq _ h.1) (veqs_eq _ h.2)]; exact .inr rfl
    · cases h

theorem oeqs_spec {h : NHeap} : ∀ {l : List NObj} {i : Nat}, oeqs h i l = true → ∀ (b : Nat) o, l[b]? = some o → o = .dead ∨ h.get (i + b) = some o
  | [], i, e, b, o, q => by simp at q
  | x :: l, i, e, b, o, q => by
    simp only [oeqs, Bool.and_eq_true] at e
    cases b with
    | zero => simp at q; subst q; exact oeq_spec e.1
    | succ b => have := oeqs_spec e.2 b o (by simpa using q); rwa [show i + 1 + b = i + (b + 1) by omega] at this

theorem memoIs_spec {v : NVal} {l : List NObj} {r : Option (NVal × NHeap)} (e : memoIs v l r = true) : ∃ h, r = some (v, h) ∧ Lists h l := by
  unfold memoIs at e
  cases r with
  | none => cases e
  | some p =>
    obtain ⟨u, h⟩ := p
    simp only [Bool.and_eq_true, decide_eq_true_eq] at e
    refine ⟨h, by rw [veq_eq _ e.1.1], e.1.2, fun b o q => ?_⟩
    have := oeqs_spec e.2 b o q
    rwa [Nat.zero_add] at this

/-- calls known by their number and arguments, the answer shifted -/
noncomputable def layR (d : Nat) (l : List NObj) : NHeap → NHeap := List.rec (motive := fun _ => NHeap → NHeap) (fun h => h) (fun o _ ih h => forceH (hAlloc h (shiftO d o)) fun h' => ih h') l
theorem layR_eq (d : Nat) : ∀ (l : List NObj) (h : NHeap), layR d l h = layAll d l h
  | [], h => rfl
  | o :: l, h => by
    show forceH (hAlloc h (shiftO d o)) (fun h' => layR d l h') = _
    rw [forceH_eq, hAlloc_eq, layR_eq d l]
    rfl

noncomputable def memoF (f : FuncId) (args : List NVal) (v : NVal) (l : List NObj) (els : CallF) : CallF := fun g as h =>
  if g = f then (if veqs 100000 args as then forceN h.next fun n => forceH (layR n l h) fun h' => some (shiftV n v, h') else els g as h) else els g as h

theorem memoF_ok (hm : P.follows .mixedOrders = true) (E : Env P drStatic) {m n : Nat} {f : FuncId} {args : List NVal} {v : NVal} {l : List NObj} (hk : E.known f args NHeap.empty = none)
    (hr : memoIs v l (tF P E m (n + 1) f args NHeap.empty) = true) (hb : args.all bare = true) (hro : noRo l = true) {els : CallF} (he : CallOk P els) : CallOk P (memoF f args v l els) := by
  obtain ⟨h1, e1, e2⟩ := memoIs_spec hr
  obtain ⟨s1, s2⟩ := tF_step hm E m (tF_sound hm E m n) e1 hk
  intro g as h u h' e
  unfold memoF at e
  split at e
  · rename_i hg
    subst hg
    split at e
    · rename_i ha
      rw [forceN_eq, forceH_eq, layR_eq] at e
      cases e
      have := veqs_eq _ ha
      subst this
      exact .inl ⟨s1, s2.frame hb e2 hro h⟩
    · exact he _ _ _ _ _ e
  · exact he _ _ _ _ _ e
end Go.Proofs.Ytblhpikljhholaa.NICE
