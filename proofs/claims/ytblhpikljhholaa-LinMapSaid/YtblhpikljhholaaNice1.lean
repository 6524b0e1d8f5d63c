/- A second, deterministic reading of Go code over a heap of numbered blocks, and how it stands to the model: values, heaps, and the relation between them. -/
import Derived.Laws.AppendOwn
import Derived.LoopN
import Derived.Orders
import Derived.Below
import Derived.Lib.Builder
import Derived.Lib.UnsafeStr
set_option linter.unusedVariables false
set_option linter.unusedSimpArgs false
namespace Go.Proofs.Ytblhpikljhholaa.NICE
open Go Go.RowKit

/-! ### Values -/

inductive NVal where
  | bool (b : Bool)
  | int (k : IntKind) (n : Int)
  | str (s : List UInt8)
  | ptr (a : Option (Nat × Nat))
  /-- the address, the length, a capacity that is there for sure; 'x': none: it is the capacity; some size: there may be more room, for elements of so many cells -/
  | slice (a : Option (Nat × Nat)) (len cap : Nat) (x : Option Nat)
  | map (r : Option Nat)
  | func (fn : Fn) (first captured : List NVal)
  | nilFunc
  | iface (t : TypeId) (v : NVal)
  | nilIface
  | agg (cells : List NVal)
  | tuple (vs : List NVal)
  /-- some one cell's value: nothing is known of it -/
  | junk
  deriving Inhabited

def NVal.cells : NVal → List NVal
  | .agg cs => cs
  | v => [v]

def NVal.one : NVal → Bool
  | .agg _ | .tuple _ | .junk => false
  | _ => true

def nundef : NVal := .tuple []

/-! ### Pointwise relations of lists -/

inductive All2 {α β : Type} (R : α → β → Prop) : List α → List β → Prop
  | nil : All2 R [] []
  | cons {a b l m} : R a b → All2 R l m → All2 R (a :: l) (b :: m)

namespace All2
variable {α β : Type} {R S : α → β → Prop}

theorem imp (h : ∀ a b, R a b → S a b) : ∀ {l m}, All2 R l m → All2 S l m
  | _, _, .nil => .nil
  | _, _, .cons a b => .cons (h _ _ a) (b.imp h)

theorem length : ∀ {l m}, All2 R l m → l.length = m.length
  | _, _, .nil => rfl
  | _, _, .cons _ b => by simp [b.length]

theorem get : ∀ {l m}, All2 R l m → ∀ {i : Nat} {a}, l[i]? = some a → ∃ b, m[i]? = some b ∧ R a b
  | _, _, .nil, i, a, h => by simp at h
  | _, _, .cons h t, 0, a, e => by simp at e; subst e; exact ⟨_, rfl, h⟩
  | _, _, .cons h t, i + 1, a, e => by simp at e; obtain ⟨b, e', r⟩ := t.get e; exact ⟨b, by simpa using e', r⟩

theorem of_get : ∀ {l : List α} {m : List β}, l.length = m.length → (∀ (i : Nat) a b, l[i]? = some a → m[i]? = some b → R a b) → All2 R l m
  | [], [], _, _ => .nil
  | [], _ :: _, h, _ => by simp at h
  | _ :: _, [], h, _ => by simp at h
  | a :: l, b :: m, h, g => .cons (g 0 a b rfl rfl) (of_get (by simpa using h) fun i x y hx hy => g (i + 1) x y (by simpa using hx) (by simpa using hy))

theorem append : ∀ {l m l' m'}, All2 R l m → All2 R l' m' → All2 R (l ++ l') (m ++ m')
  | _, _, _, _, .nil, h => h
  | _, _, _, _, .cons a b, h => .cons a (b.append h)

theorem take {n : Nat} : ∀ {l m}, All2 R l m → All2 R (l.take n) (m.take n) := by
  induction n with
  | zero => intro l m _; simp; exact .nil
  | succ n ih => intro l m h; cases h with
    | nil => exact .nil
    | cons a b => simp; exact .cons a (ih b)

theorem drop {n : Nat} : ∀ {l m}, All2 R l m → All2 R (l.drop n) (m.drop n) := by
  induction n with
  | zero => intro l m h; simpa using h
  | succ n ih => intro l m h; cases h with
    | nil => exact .nil
    | cons a b => simp; exact ih b

theorem set {v : α} {u : β} (hv : R v u) : ∀ {l m} {i : Nat}, All2 R l m → All2 R (l.set i v) (m.set i u)
  | _, _, _, .nil => .nil
  | _, _, 0, .cons _ b => .cons hv b
  | _, _, i + 1, .cons a b => .cons a (b.set hv)

theorem replicate {v : α} {u : β} (hv : R v u) : ∀ n, All2 R (List.replicate n v) (List.replicate n u)
  | 0 => .nil
  | n + 1 => .cons hv (replicate hv n)

theorem getD {d : α} {e : β} (hd : R d e) : ∀ {l m}, All2 R l m → ∀ i, R (l.getD i d) (m.getD i e)
  | _, _, .nil, _ => hd
  | _, _, .cons a _, 0 => a
  | _, _, .cons _ b, i + 1 => by simpa using b.getD hd i

theorem map' {γ : Type} {f : γ → α} {g : γ → β} {l : List γ} (h : ∀ x ∈ l, R (f x) (g x)) : All2 R (l.map f) (l.map g) := by
  induction l with
  | nil => exact .nil
  | cons a l ih => exact .cons (h a (by simp)) (ih fun x hx => h x (by simp [hx]))
end All2

/-! ### Values against the model's values: 'ι' says at which block, and how far in, a block of ours lies, and how many cells there are from there on -/

abbrev Inj := Nat → Option (Nat × Nat × Nat)

def Inj.le (ι ι' : Inj) : Prop := ∀ b x, ι b = some x → ι' b = some x
theorem Inj.le_refl (ι : Inj) : ι.le ι := fun _ _ h => h
theorem Inj.le.trans {ι ι' ι'' : Inj} (h : ι.le ι') (h' : ι'.le ι'') : ι.le ι'' := fun b x e => h' b x (h b x e)

inductive VR (ι : Inj) : NVal → Value → Prop
  | bool (b) : VR ι (.bool b) (.bool b)
  | int (k n) : VR ι (.int k n) (.int k n)
  | str (s : ByteArray) : VR ι (.str s.data.toList) (.string s)
  | ptrNil : VR ι (.ptr none) (.pointer none)
  | ptr {b o rb s m} (h : ι b = some (rb, s, m)) : VR ι (.ptr (some (b, o))) (.pointer (some ⟨rb, s + o, none⟩))
  | sliceNil : VR ι (.slice none 0 0 none) (.slice none 0 0)
  | slice {b o rb s m len cap rcap} (h : ι b = some (rb, s, m)) (hl : len ≤ cap) (hc : rcap = cap) :
      VR ι (.slice (some (b, o)) len cap none) (.slice (some ⟨rb, s + o, none⟩) len rcap)
  | sliceMore {b o rb s m len cap rcap z} (h : ι b = some (rb, s, m)) (hl : len ≤ rcap) (hc : cap ≤ rcap) (hm : o + rcap * z ≤ m) :
      VR ι (.slice (some (b, o)) len cap (some z)) (.slice (some ⟨rb, s + o, none⟩) len rcap)
  /-- a slice without elements that came in: where it points to is not known -/
  | sliceEmpty {b o a rcap z} : VR ι (.slice (some (b, o)) 0 0 (some z)) (.slice (some a) 0 rcap)
  | mapNil : VR ι (.map none) (.map none)
  | map {b rb s m} (h : ι b = some (rb, s, m)) : VR ι (.map (some b)) (.map (some rb))
  | func {fn f c} {rf rc : Array Value} (hf : f.length = rf.size) (hc : c.length = rc.size)
      (h : ∀ (i : Nat) u v, f[i]? = some u → rf[i]? = some v → VR ι u v) (h' : ∀ (i : Nat) u v, c[i]? = some u → rc[i]? = some v → VR ι u v) :
      VR ι (.func fn f c) (.func fn rf rc)
  | nilFunc : VR ι .nilFunc .nilFunc
  | iface {t v r} (h : VR ι v r) : VR ι (.iface t v) (.iface t r)
  | nilIface : VR ι .nilIface .nilIface
  | agg {cs} {ds : Array Value} (hl : cs.length = ds.size) (h : ∀ (i : Nat) u v, cs[i]? = some u → ds[i]? = some v → VR ι u v) : VR ι (.agg cs) (.agg ds)
  | tuple {cs} {ds : Array Value} (hl : cs.length = ds.size) (h : ∀ (i : Nat) u v, cs[i]? = some u → ds[i]? = some v → VR ι u v) : VR ι (.tuple cs) (.tuple ds)
  | junk {v} (h : v.oneCell' = true) : VR ι .junk v

theorem VR.mono {ι ι' : Inj} (hι : ι.le ι') {u v} (h : VR ι u v) : VR ι' u v := by
  induction h with
  | bool b => exact .bool b
  | int k n => exact .int k n
  | str s => exact .str s
  | ptrNil => exact .ptrNil
  | ptr h => exact .ptr (hι _ _ h)
  | sliceNil => exact .sliceNil
  | slice h hl hc => exact .slice (hι _ _ h) hl hc
  | sliceMore h hl hc hm => exact .sliceMore (hι _ _ h) hl hc hm
  | sliceEmpty => exact .sliceEmpty
  | mapNil => exact .mapNil
  | map h => exact .map (hι _ _ h)
  | func hf hc _ _ ih ih' => exact .func hf hc ih ih'
  | nilFunc => exact .nilFunc
  | iface _ ih => exact .iface ih
  | nilIface => exact .nilIface
  | agg hl _ ih => exact .agg hl ih
  | tuple hl _ ih => exact .tuple hl ih
  | junk h => exact .junk h

abbrev VRs (ι : Inj) : List NVal → List Value → Prop := All2 (VR ι)

theorem VRs.mono {ι ι' : Inj} (hι : ι.le ι') {l m} (h : VRs ι l m) : VRs ι' l m := h.imp fun _ _ => VR.mono hι

theorem VR.agg' {ι : Inj} {cs : List NVal} {ds : Array Value} (h : VRs ι cs ds.toList) : VR ι (.agg cs) (.agg ds) :=
  .agg (by simpa using h.length) fun i u v hu hv => by
    obtain ⟨b, hb, r⟩ := h.get hu
    have : ds.toList[i]? = ds[i]? := by simp
    rw [this, hv] at hb; cases hb; exact r

theorem VR.tuple' {ι : Inj} {cs : List NVal} {ds : Array Value} (h : VRs ι cs ds.toList) : VR ι (.tuple cs) (.tuple ds) :=
  .tuple (by simpa using h.length) fun i u v hu hv => by
    obtain ⟨b, hb, r⟩ := h.get hu
    have : ds.toList[i]? = ds[i]? := by simp
    rw [this, hv] at hb; cases hb; exact r

theorem VR.func' {ι : Inj} {fn : Fn} {f c : List NVal} {rf rc : Array Value} (h : VRs ι f rf.toList) (h' : VRs ι c rc.toList) : VR ι (.func fn f c) (.func fn rf rc) := by
  have key : ∀ {l : List NVal} {m : Array Value}, VRs ι l m.toList → ∀ (i : Nat) u v, l[i]? = some u → m[i]? = some v → VR ι u v := fun h i u v hu hv => by
    obtain ⟨b, hb, r⟩ := h.get hu
    rw [Array.getElem?_toList, hv] at hb; cases hb; exact r
  exact .func (by simpa using h.length) (by simpa using h'.length) (key h) (key h')

theorem VR.agg_inv {ι : Inj} {cs : List NVal} {v : Value} (h : VR ι (.agg cs) v) : ∃ ds : Array Value, v = .agg ds ∧ VRs ι cs ds.toList := by
  cases h with
  | agg hl h => exact ⟨_, rfl, .of_get (by simpa using hl) fun i a b ha hb => h i a b ha (by simpa using hb)⟩

theorem VR.tuple_inv {ι : Inj} {cs : List NVal} {v : Value} (h : VR ι (.tuple cs) v) : ∃ ds : Array Value, v = .tuple ds ∧ VRs ι cs ds.toList := by
  cases h with
  | tuple hl h => exact ⟨_, rfl, .of_get (by simpa using hl) fun i a b ha hb => h i a b ha (by simpa using hb)⟩

theorem VR.func_inv {ι : Inj} {fn : Fn} {f c : List NVal} {v : Value} (h : VR ι (.func fn f c) v) :
    ∃ rf rc : Array Value, v = .func fn rf rc ∧ VRs ι f rf.toList ∧ VRs ι c rc.toList := by
  cases h with
  | func hf hc h h' => exact ⟨_, _, rfl, .of_get (by simpa using hf) fun i a b ha hb => h i a b ha (by simpa using hb), .of_get (by simpa using hc) fun i a b ha hb => h' i a b ha (by simpa using hb)⟩

theorem VR.undef {ι : Inj} : VR ι nundef undef := .tuple' (by simpa using All2.nil)

theorem VR.cells {ι : Inj} {u : NVal} {v : Value} (h : VR ι u v) : VRs ι u.cells v.cells.toList := by
  cases u with
  | agg cs => obtain ⟨ds, rfl, hd⟩ := h.agg_inv; exact hd
  | junk => cases h with | junk h1 => cases v <;> first | exact .cons (.junk h1) .nil | (simp [Value.oneCell'] at h1)
  | _ => cases h <;> exact .cons (by first | constructor <;> assumption | assumption | exact .str _ | exact .sliceEmpty) .nil

theorem VR.one {ι : Inj} {u : NVal} {v : Value} (h : VR ι u v) (h1 : u.one = true) : v.oneCell' = true := by
  cases h <;> first | rfl | (simp [NVal.one] at h1)


/-! ### Heaps -/

/-- may a row of cells be written? 'own': it lies in a block of its own; 't': the type of its elements, if it is known and the block is whole, and how many cells it has (0: not known) -/
inductive Own where
  | ro
  | own (t : Option (TypeId × Nat))
  deriving Inhabited, DecidableEq
def Own.mine : Own → Bool
  | .ro => false
  | .own _ => true

inductive NObj where
  /-- a row of cells -/
  | cells (cs : List NVal) (mine : Own)
  | map (es : List (NVal × NVal))
  | dead
  deriving Inhabited

def NObj.owned : NObj → Bool
  | .cells _ m => m.mine
  | .map _ => true
  | .dead => false

/-- a tree over the digits of a number -/
inductive Tr where
  | leaf
  | node (v : Option NObj) (l r : Tr)
  deriving Inhabited

def Tr.get : Tr → Nat → Option NObj
  | .leaf, _ => none
  | .node v l r, n => if n = 0 then v else if n % 2 = 0 then l.get (n / 2) else r.get (n / 2)

def Tr.put : Nat → Tr → Nat → NObj → Tr
  | 0, t, _, _ => t
  | f + 1, t, n, o =>
    match t with
    | .leaf => if n = 0 then .node (some o) .leaf .leaf else if n % 2 = 0 then .node none (Tr.put f .leaf (n / 2) o) .leaf else .node none .leaf (Tr.put f .leaf (n / 2) o)
    | .node v l r => if n = 0 then .node (some o) l r else if n % 2 = 0 then .node v (Tr.put f l (n / 2) o) r else .node v l (Tr.put f r (n / 2) o)

theorem Tr.get_put (o : NObj) : ∀ (f : Nat) (t : Tr) (n m : Nat), n < f → (Tr.put f t n o).get m = if m = n then some o else t.get m
  | 0, _, _, _, h => by omega
  | f + 1, .leaf, n, m, h => by
    unfold Tr.put
    by_cases hn : n = 0
    · subst hn; by_cases hm : m = 0 <;> simp [Tr.get, hm]
    · have ih := Tr.get_put o f .leaf (n / 2) (m / 2) (by omega)
      by_cases he : n % 2 = 0
      · simp only [hn, he, if_false, if_true, Tr.get]
        by_cases hm : m = 0
        · subst hm; simp [Ne.symm hn, Tr.get]
        · simp only [hm, if_false]
          by_cases hme : m % 2 = 0
          · simp only [hme, if_true, ih]; by_cases hmn : m = n
            · subst hmn; simp
            · rw [if_neg (by omega), if_neg hmn]; rfl
          · simp only [hme, if_false]; rw [if_neg (by intro e; subst e; omega)]
      · simp only [hn, he, if_false, Tr.get]
        by_cases hm : m = 0
        · subst hm; simp [Ne.symm hn, Tr.get]
        · simp only [hm, if_false]
          by_cases hme : m % 2 = 0
          · simp only [hme, if_true]; rw [if_neg (by intro e; subst e; omega)]
          · simp only [hme, if_false, ih]; by_cases hmn : m = n
            · subst hmn; simp
            · rw [if_neg (by omega), if_neg hmn]; rfl
  | f + 1, .node v l r, n, m, h => by
    unfold Tr.put
    by_cases hn : n = 0
    · subst hn; by_cases hm : m = 0 <;> simp [Tr.get, hm]
    · by_cases he : n % 2 = 0
      · have ih := Tr.get_put o f l (n / 2) (m / 2) (by omega)
        simp only [hn, he, if_false, if_true, Tr.get]
        by_cases hm : m = 0
        · subst hm; simp [Ne.symm hn, Tr.get]
        · simp only [hm, if_false]
          by_cases hme : m % 2 = 0
          · simp only [hme, if_true, ih]; by_cases hmn : m = n
            · subst hmn; simp
            · rw [if_neg (by omega), if_neg hmn]
          · simp only [hme, if_false]; rw [if_neg (by intro e; subst e; omega)]
      · have ih := Tr.get_put o f r (n / 2) (m / 2) (by omega)
        simp only [hn, he, if_false, Tr.get]
        by_cases hm : m = 0
        · subst hm; simp [Ne.symm hn, Tr.get]
        · simp only [hm, if_false]
          by_cases hme : m % 2 = 0
          · simp only [hme, if_true]; rw [if_neg (by intro e; subst e; omega)]
          · simp only [hme, if_false, ih]; by_cases hmn : m = n
            · subst hmn; simp
            · rw [if_neg (by omega), if_neg hmn]

structure NHeap where
  next : Nat
  tree : Tr
  deriving Inhabited

namespace NHeap
def empty : NHeap := ⟨0, .leaf⟩
def get (h : NHeap) (b : Nat) : Option NObj := if b < h.next then h.tree.get b else none
def set (h : NHeap) (b : Nat) (o : NObj) : NHeap := { h with tree := Tr.put (b + 1) h.tree b o }
def alloc (h : NHeap) (o : NObj) : NHeap := { next := h.next + 1, tree := Tr.put (h.next + 1) h.tree h.next o }

theorem get_lt {h : NHeap} {b : Nat} {o : NObj} (e : h.get b = some o) : b < h.next := by
  unfold get at e; split at e
  · assumption
  · cases e
@[simp] theorem next_set (h : NHeap) (b o) : (h.set b o).next = h.next := rfl
@[simp] theorem next_alloc (h : NHeap) (o) : (h.alloc o).next = h.next + 1 := rfl
theorem get_set (h : NHeap) (b c : Nat) (o : NObj) : (h.set b o).get c = if c = b ∧ b < h.next then some o else h.get c := by
  unfold get set
  simp only [Tr.get_put o (b + 1) h.tree b c (by omega)]
  by_cases hc : c = b
  · subst hc; by_cases hl : c < h.next <;> simp [hl]
  · simp [hc]
theorem get_set_same {h : NHeap} {b : Nat} {o : NObj} (hb : b < h.next) : (h.set b o).get b = some o := by simp [get_set, hb]
theorem get_set_ne {h : NHeap} {b c : Nat} {o : NObj} (hb : c ≠ b) : (h.set b o).get c = h.get c := by simp [get_set, hb]
theorem get_alloc (h : NHeap) (c : Nat) (o : NObj) : (h.alloc o).get c = if c = h.next then some o else h.get c := by
  unfold get alloc
  simp only [Tr.get_put o (h.next + 1) h.tree h.next c (by omega)]
  by_cases hc : c = h.next
  · subst hc; simp
  · by_cases hl : c < h.next
    · simp [hc, hl, show c < h.next + 1 by omega]
    · simp [hc, hl, show ¬ c < h.next + 1 by omega]
@[simp] theorem get_alloc_same (h : NHeap) (o : NObj) : (h.alloc o).get h.next = some o := by simp [get_alloc]
theorem get_alloc_lt {h : NHeap} {c : Nat} {o : NObj} (hc : c < h.next) : (h.alloc o).get c = h.get c := by
  rw [get_alloc, if_neg (by omega)]
theorem get_ge {h : NHeap} {b : Nat} (hb : h.next ≤ b) : h.get b = none := by unfold get; rw [if_neg (by omega)]
end NHeap
end Go.Proofs.Ytblhpikljhholaa.NICE
