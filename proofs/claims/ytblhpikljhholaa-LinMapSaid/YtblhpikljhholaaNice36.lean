/- Arguments of flat kinds (numbers, bools, strings, structs and arrays of them), and slices of such. -/
import Derived.Test.YtblhpikljhholaaNice35
import Derived.OpenShut
import Derived.Carry
set_option linter.unusedVariables false
set_option linter.unusedSimpArgs false
namespace Go.Proofs.Ytblhpikljhholaa.NICE
open Go Go.RowKit

variable {P : Program}

inductive FK where
  | bool
  | int (k : IntKind)
  | str
  deriving DecidableEq

def FK.ok : FK → NVal → Prop
  | .bool, u => ∃ b, u = .bool b
  | .int k, u => ∃ n, u = .int k n ∧ (Lit.int k n).wf = true
  | .str, u => ∃ s, u = .str s ∧ s.length ≤ maxLen

/-- the fields of a struct, one behind the other, with nothing between -/
def flatFs (fl : TypeId → Option (List FK)) : Nat → List Field → Option (List FK)
  | _, [] => some []
  | at_, f :: fs => if f.offset = at_ then (match fl f.type with
    | none => none
    | some a => match flatFs fl (at_ + a.length) fs with
      | none => none
      | some b => some (a ++ b)) else none
def flatRep (a : List FK) : Nat → List FK
  | 0 => []
  | n + 1 => a ++ flatRep a n
def flatU (fl : TypeId → Option (List FK)) (u : Option TypeDesc) : Option (List FK) := match u with
  | some .bool => some [FK.bool]
  | some (.int k) => some [FK.int k]
  | some .string => some [FK.str]
  | some (.struct fs) => flatFs fl 0 fs.toList
  | some (.array n e) => (match fl e with | some a => some (flatRep a n) | none => none)
  | _ => none
def flat (P : Program) : Nat → TypeId → Option (List FK)
  | 0, _ => none
  | d + 1, t =>
    match flatU (flat P d) (P.underlying t) with
    | some l => if l.length = P.cellsOf t then some l else none
    | none => none

/-- cells of these kinds, that stand for these values whatever memory is -/
def Flat (ks : List FK) (cs : List Value) : Prop := ∃ us, All2 FK.ok ks us ∧ ∀ ι, VRs ι us cs

theorem Flat.append {k l : List FK} {a b : List Value} (h : Flat k a) (g : Flat l b) : Flat (k ++ l) (a ++ b) := by
  obtain ⟨u, h1, h2⟩ := h
  obtain ⟨v, g1, g2⟩ := g
  exact ⟨u ++ v, h1.append g1, fun ι => (h2 ι).append (g2 ι)⟩
theorem Flat.nil : Flat [] [] := ⟨[], .nil, fun _ => .nil⟩

section
variable {H : Type} {enc : TypeId × Value → H} {W : World}

theorem flat_len {d t l} (h : flat P d t = some l) : l.length = P.cellsOf t := by
  cases d with
  | zero => simp [flat] at h
  | succ d =>
    unfold flat at h
    split at h
    · split at h
      · cases h; assumption
      · cases h
    · cases h

theorem trod_fs {fuel : Nat} {fl : TypeId → Option (List FK)} (hfl : ∀ t l, fl t = some l → l.length = P.cellsOf t)
    (ih : ∀ t l cs x, fl t = some l → DataW.trod enc P W 0 (fun _ => true) true fuel t cs = some x → Flat l cs) (cs : List Value) :
    ∀ (fs : List Field) (at_ : Nat) (l : List FK), flatFs fl at_ fs = some l → cs.length = at_ + l.length →
      (∀ f ∈ fs, ∃ y, DataW.trod enc P W 0 (fun _ => true) true fuel f.type ((cs.drop f.offset).take (P.cellsOf f.type)) = some y) → Flat l (cs.drop at_)
  | [], at_, l, h, hl, hx => by
    cases h
    rw [List.drop_of_length_le (by simp at hl; omega)]
    exact .nil
  | f :: fs, at_, l, h, hl, hx => by
    unfold flatFs at h
    split at h
    case isFalse => cases h
    case isTrue ho =>
      cases ha : fl f.type with
      | none => rw [ha] at h; cases h
      | some a =>
        rw [ha] at h; simp only at h
        cases hb : flatFs fl (at_ + a.length) fs with
        | none => rw [hb] at h; cases h
        | some b =>
          rw [hb] at h; cases h
          obtain ⟨y, hy⟩ := hx f (by simp)
          have h1 := ih _ _ _ _ ha hy
          rw [ho, ← hfl _ _ ha] at h1
          have h2 := trod_fs hfl ih cs fs (at_ + a.length) b hb (by rw [hl, List.length_append]; omega) (fun f hf => hx f (by simp [hf]))
          have : cs.drop at_ = (cs.drop at_).take a.length ++ cs.drop (at_ + a.length) := by
            rw [← List.drop_drop]; exact (List.take_append_drop _ _).symm
          rw [this]
          exact h1.append h2

theorem trod_rep {fuel : Nat} {e : TypeId} {a : List FK} (hl : a.length = P.cellsOf e) (ih : ∀ cs x, DataW.trod enc P W 0 (fun _ => true) true fuel e cs = some x → Flat a cs) (cs : List Value) :
    ∀ (n i : Nat), cs.length = (i + n) * a.length → (∀ j, i ≤ j → j < i + n → ∃ y, DataW.trod enc P W 0 (fun _ => true) true fuel e ((cs.drop (j * P.cellsOf e)).take (P.cellsOf e)) = some y) → Flat (flatRep a n) (cs.drop (i * a.length))
  | 0, i, hc, hx => by
    rw [List.drop_of_length_le (by rw [hc]; simp)]
    exact .nil
  | n + 1, i, hc, hx => by
    obtain ⟨y, hy⟩ := hx i (Nat.le_refl _) (by omega)
    have h1 := ih _ _ hy
    rw [← hl] at h1
    have h2 := trod_rep hl ih cs n (i + 1) (by rw [hc]; congr 1; omega) (fun j h1 h2 => hx j (by omega) (by omega))
    have : cs.drop (i * a.length) = (cs.drop (i * a.length)).take a.length ++ cs.drop ((i + 1) * a.length) := by
      rw [Nat.succ_mul, ← List.drop_drop]; exact (List.take_append_drop _ _).symm
    rw [this]
    exact h1.append h2

theorem trod_flat : ∀ (d : Nat) {fuel : Nat} {t : TypeId} {l : List FK} {cs : List Value} {x}, flat P d t = some l → DataW.trod enc P W 0 (fun _ => true) true fuel t cs = some x → Flat l cs
  | 0, fuel, t, l, cs, x, h, hx => by simp [flat] at h
  | d + 1, 0, t, l, cs, x, h, hx => by simp [DataW.trod] at hx
  | d + 1, fuel + 1, t, l, cs, x, h, hx => by
    have hlen := flat_len h
    unfold flat at h
    split at h
    case h_2 => cases h
    case h_1 l' hm =>
      split at h
      case isFalse => cases h
      case isTrue hl =>
        cases h
        unfold flatU at hm
        split at hm
        · rename_i hu
          cases hm
          obtain ⟨b, h1, _⟩ := DataW.trod_bool hu hx
          exact ⟨[.bool b], .cons ⟨b, rfl⟩ .nil, fun ι => by rw [h1]; exact .cons (.bool b) .nil⟩
        · rename_i k hu
          cases hm
          obtain ⟨n, h1, _, h3⟩ := DataW.trod_int hu hx
          exact ⟨[.int k n], .cons ⟨n, rfl, h3⟩ .nil, fun ι => by rw [h1]; exact .cons (.int k n) .nil⟩
        · rename_i hu
          cases hm
          obtain ⟨s, h1, _, h3⟩ := DataW.trod_string hu hx
          exact ⟨[.str s.data.toList], .cons ⟨_, rfl, by rw [Array.length_toList]; exact h3⟩ .nil, fun ι => by rw [h1]; exact .cons (.str s) .nil⟩
        · rename_i fs hu
          obtain ⟨xs, n, _, e1, e2, e3, e4⟩ := DataW.trod_struct hu hx
          have := trod_fs (fuel := n) (fl := flat P d) (fun t l h => flat_len h) (fun t l cs x h hx => trod_flat d h hx) cs fs.toList 0 l hm (by rw [e2, hlen, Nat.zero_add]) (fun f hf => by
            obtain ⟨i, hi⟩ := List.mem_iff_getElem?.1 hf
            have hi' : fs[i]? = some f := by simpa using hi
            have hlt : i < xs.length := by
              have := (Array.getElem?_eq_some_iff.1 hi').1
              omega
            exact ⟨xs[i], by have := e4 i f hi'; rwa [List.getElem?_eq_getElem hlt] at this⟩)
          simpa using this
        · rename_i n e hu
          cases ha : flat P d e with
          | none => rw [ha] at hm; cases hm
          | some a =>
            rw [ha] at hm; cases hm
            obtain ⟨xs, m, _, e1, e2, e3, e4⟩ := DataW.trod_array hu hx
            have hrep : ∀ n, (flatRep a n).length = n * a.length := fun n => by
              induction n with
              | zero => simp [flatRep]
              | succ n ih => simp only [flatRep, List.length_append, ih, Nat.succ_mul]; omega
            have := trod_rep (fuel := m) (flat_len ha) (fun cs x hx => trod_flat d ha hx) cs n 0 (by rw [e2, ← hlen, hrep]; simp) (fun j _ hj => by
              have hlt : j < xs.length := by omega
              exact ⟨xs[j], by have := e4 j (by omega); rwa [List.getElem?_eq_getElem hlt] at this⟩)
            simpa using this
        · cases hm
end

open Go.ChangeShapes in
theorem trodAll_five {H : Type} {enc : TypeId × Value → H} {w : World} {base : Nat} {spare : Nat → Bool} {held : Bool} {t t' t'' t3 t4 : TypeId} {args : Array Value} {ds : List (DataW H)} {ps : List MemPlace} (h : DataW.TrodAll enc P w base spare held [t, t', t'', t3, t4] args.toList ds ps) :
    ∃ v v' v'' v3 v4 d d' d'' d3 d4 p p' p'' p3 p4, args = #[v, v', v'', v3, v4] ∧ ds = [d, d', d'', d3, d4] ∧ ps = p ++ p' ++ p'' ++ p3 ++ p4 ∧ DataW.Trod enc P w base spare held t v d p ∧ DataW.Trod enc P w base spare held t' v' d' p' ∧ DataW.Trod enc P w base spare held t'' v'' d'' p'' ∧ DataW.Trod enc P w base spare held t3 v3 d3 p3 ∧ DataW.Trod enc P w base spare held t4 v4 d4 p4 := by
  obtain ⟨v, vs, d, ds', p, q, hargs, rfl, rfl, hd, hrest⟩ := trodAll_cons h
  obtain ⟨v', vs', d', ds'', p', q', rfl, rfl, rfl, hd', hrest'⟩ := trodAll_cons hrest
  obtain ⟨v'', vs'', d'', ds''', p'', q'', rfl, rfl, rfl, hd'', hrest''⟩ := trodAll_cons hrest'
  obtain ⟨v3, vs3, d3, ds3, p3, q3, rfl, rfl, rfl, hd3, hrest3⟩ := trodAll_cons hrest''
  obtain ⟨v4, vs4, d4, ds4, p4, q4, rfl, rfl, rfl, hd4, hrest4⟩ := trodAll_cons hrest3
  obtain ⟨rfl, rfl, rfl⟩ := trodAll_nil hrest4
  exact ⟨v, v', v'', v3, v4, d, d', d'', d3, d4, p, p', p'', p3, p4, by cases args; simp_all, rfl, by simp, hd, hd', hd'', hd3, hd4⟩
end Go.Proofs.Ytblhpikljhholaa.NICE
