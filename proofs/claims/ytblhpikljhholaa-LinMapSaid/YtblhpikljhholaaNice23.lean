/- The functions of a program as a tree; a law without arguments. -/
import Derived.Test.YtblhpikljhholaaNice22
import Derived.Laws.StandIn
set_option linter.unusedVariables false
set_option linter.unusedSimpArgs false
namespace Go.Proofs.Ytblhpikljhholaa.NICE
open Go Go.RowKit

variable {P : Program}

inductive Tb where
  | leaf
  | node (v : Option Func) (l r : Tb)

def Tb.get : Tb → Nat → Option Func
  | .leaf, _ => none
  | .node v l r, n => if n = 0 then v else if n % 2 = 0 then l.get (n / 2) else r.get (n / 2)

/-- every function of the tree is the program's -/
def Tb.All (Q : Nat → Func → Prop) : Tb → Prop
  | .leaf => True
  | .node v l r => (match v with | some f => Q 0 f | none => True) ∧ l.All (fun n f => Q (2 * n) f) ∧ r.All (fun n f => Q (2 * n + 1) f)

theorem Tb.all_get : ∀ {t : Tb} {Q : Nat → Func → Prop}, t.All Q → ∀ {n f}, t.get n = some f → Q n f
  | .leaf, Q, h, n, f, e => by cases e
  | .node v l r, Q, h, n, f, e => by
    unfold Tb.get at e
    obtain ⟨h1, h2, h3⟩ := h
    split at e
    · subst e; rename_i hn; subst hn; exact h1
    · split at e
      · have := Tb.all_get h2 e; rw [show 2 * (n / 2) = n by omega] at this; exact this
      · have := Tb.all_get h3 e; rw [show 2 * (n / 2) + 1 = n by omega] at this; exact this

def fnGood (f : Func) : Bool := match f.body with | some c => codeStat drStatic c && f.name != "runtime.NumGoroutine" | none => true

theorem enters_of {f : FuncId} {fn : Func} (h : P.funcs[f]? = some fn) {c : Code} (hb : fn.body = some c) (hn : fn.name ≠ "runtime.NumGoroutine") : Enters P f := by
  intro args w
  have : (fn.name == "runtime.NumGoroutine") = false := by simpa using hn
  simp [callFunc, Sem.run_bind, run_program, h, hn, hb]

def Tb.look (t : Tb) (f : FuncId) : Option (Code × Nat × List ResultVar) := match t.get f with
  | none => none
  | some fn => match fn.body with
    | none => none
    | some c => some (c, fn.ntmps, fn.results.toList)

def Tb.env (t : Tb) (h : t.All fun n f => P.funcs[n]? = some f ∧ fnGood f = true) (known : CallF) (hk : CallOk P known) : Env P drStatic where
  get := t.look
  ok := by
    intro f c nt rs e
    unfold Tb.look at e
    cases hg : t.get f with
    | none => rw [hg] at e; cases e
    | some fn =>
      rw [hg] at e; simp only at e
      obtain ⟨h1, h2⟩ := Tb.all_get h hg
      cases hb : fn.body with
      | none => rw [hb] at e; cases e
      | some c' =>
        rw [hb] at e; cases e
        unfold fnGood at h2
        rw [hb] at h2
        simp only [Bool.and_eq_true, bne_iff_ne, ne_eq] at h2
        exact ⟨⟨⟨fn, h1, hb, rfl, rfl⟩, enters_of h1 hb h2.2⟩, h2.1⟩
  known := known
  knownOk := hk

def noneKnown : CallF := fun _ _ _ => none
theorem noneKnown_ok : CallOk P noneKnown := fun f as h v h' e => by cases e

theorem drawOk (hm : P.follows .mixedOrders = true) : DrawOk P drStatic (drawnOps P) := fun F hF id ops hs ts h ts' h' e => drawnOps_sound hm hF hs id e

theorem Inv.start (w : World) : Inv w (fun _ => none) NHeap.empty w :=
  ⟨Below.refl _ _, fun b x e => (by cases e), fun b cs _ e => absurd (NHeap.get_lt e) (by simp [NHeap.empty]), fun b cs _ _ e => absurd (NHeap.get_lt e) (by simp [NHeap.empty]), fun b cs e => absurd (NHeap.get_lt e) (by simp [NHeap.empty]), fun b es e => absurd (NHeap.get_lt e) (by simp [NHeap.empty]), fun b b' o o' rb s s' m m' e => absurd (NHeap.get_lt e) (by simp [NHeap.empty])⟩

/-! ### The first place of a byte in a string -/

def nfirst (c : UInt8) : List UInt8 → Nat → Int
  | [], _ => -1
  | x :: l, n => if x == c then (n : Int) else nfirst c l (n + 1)

def idxKnown (k : FuncId) : CallF := fun f as h => if f = k then (match as with
  | [.str s, .int .u8 c] => some (.int .i64 (nfirst c.toNat.toUInt8 s 0), h)
  | _ => none) else none

theorem nfirst_eq (c : UInt8) : ∀ (l : List UInt8) (n : Nat), nfirst c l n = match (List.range l.length).find? (fun i => l[i]! == c) with | some i => ((n + i : Nat) : Int) | none => -1
  | [], n => rfl
  | x :: l, n => by
    have ih := nfirst_eq c l (n + 1)
    unfold nfirst
    rw [List.length_cons, List.range_succ_eq_map, List.find?_cons]
    simp only [List.getElem!_cons_zero]
    by_cases hx : (x == c) = true
    · simp [hx]
    · rw [if_neg hx, ih]
      have hx' : (x == c) = false := by simpa using hx
      simp only [hx', List.find?_map]
      have : ((fun i => (x :: l)[i]! == c) ∘ Nat.succ) = fun i => l[i]! == c := by funext i; simp
      rw [this]
      cases (List.range l.length).find? (fun i => l[i]! == c) with
      | none => rfl
      | some i => show (((n + 1 + i : Nat) : Int)) = ((n + (i + 1) : Nat) : Int); congr 1; omega

theorem idxKnown_ok {k : FuncId} {fn : Func} (hf : P.funcs[k]? = some fn) (hname : (fn.name == "runtime.NumGoroutine") = false)
    (hb : fn.body.isNone = true) (hn : Extern.findNext fn = none) (he : Extern.find fn = some Extern.BytealgIndexByte.indexByte) : CallOk P (idxKnown k) := by
  intro f as h v h' e
  unfold idxKnown at e
  split at e
  · rename_i hk
    subst hk
    split at e
    · rename_i s c
      cases e
      refine .inr ⟨rfl, fun _ ι w ra _ hra => ?_⟩
      have hra' := hra
      generalize hl : ra.toList = l at hra
      cases hra with
      | @cons _ r1 _ _ h1 h2 => cases h2 with
        | cons h3 h4 => cases h4 with
          | nil =>

            obtain ⟨b, e1, e2⟩ : ∃ b : ByteArray, s = b.data.toList ∧ r1 = Value.string b := by cases h1; exact ⟨_, rfl, rfl⟩
            subst e1 e2
            cases h3
            refine ⟨_, .int _ _, ?_⟩
            have hra : ra = #[.string b, .int .u8 c] := by apply Array.ext'; simpa using hl
            rw [run_callFunc_indexByte hf hname hb hn he, hra, run_indexByte_string]
            simp only [Result.andThen_ok]
            congr 3
            unfold firstIdx
            rw [nfirst_eq]
            have hs : b.size = b.data.toList.length := by show b.data.size = _; rw [Array.length_toList]
            have hg : ∀ i, b[i]! = b.data.toList[i]! := fun i => by
              by_cases hi : i < b.size
              · rw [getElem!_pos b i hi, getElem!_pos b.data.toList i (by rw [← hs]; exact hi)]; rfl
              · rw [getElem!_neg b i hi, getElem!_neg b.data.toList i (by rw [← hs]; exact hi)]
            rw [hs]
            simp only [hg]
            split <;> rename_i q <;> rw [q] <;> simp
    · cases e
  · cases e

/-- a function that hands back its one argument, a pointer -/
def sameKnown (k : FuncId) : CallF := fun f as h => if f = k then (match as with
  | [.ptr p] => some (.ptr p, h)
  | _ => none) else none

theorem sameKnown_ok {k : FuncId} {fn : Func} (hf : P.funcs[k]? = some fn) (hname : (fn.name == "runtime.NumGoroutine") = false)
    (hb : fn.body.isNone = true) (hn : Extern.findNext fn = none) (he : Extern.find fn = some Extern.AbiNoEscape.same) : CallOk P (sameKnown k) := by
  intro f as h v h' e
  unfold sameKnown at e
  split at e
  · rename_i hk
    subst hk
    split at e
    · rename_i p
      cases e
      refine .inr ⟨rfl, fun _ ι w ra _ hra => ?_⟩
      generalize hl : ra.toList = l at hra
      cases hra with
      | @cons _ r1 _ _ h1 h2 => cases h2 with
        | nil =>
          have hra : ra = #[r1] := by apply Array.ext'; simpa using hl
          exact ⟨r1, h1, by rw [run_callFunc_extern hf hname hb hn he, hra, Lib.run_noEscape]; rfl⟩
    · cases e
  · cases e

def orKnown (F G : CallF) : CallF := fun f as h => match F f as h with
  | some r => some r
  | none => G f as h
theorem orKnown_ok {F G : CallF} (hF : CallOk P F) (hG : CallOk P G) : CallOk P (orKnown F G) := by
  intro f as h v h' e
  unfold orKnown at e
  cases hq : F f as h with
  | some r => rw [hq] at e; cases e; exact hF _ _ _ _ _ hq
  | none => rw [hq] at e; exact hG _ _ _ _ _ e

def saysTrue : Option (NVal × NHeap) → Bool
  | some (.bool true, _) => true
  | _ => false

/-- a law without arguments: worked out once, it says true in every world -/
theorem closed_walk (hm : P.follows .mixedOrders = true) (E : Env P drStatic) {m n : Nat} {f : FuncId} (hk : E.known f [] NHeap.empty = none) (e : saysTrue (evF P (drawnOps P) E m (n + 1) f [] NHeap.empty) = true) (w : World) :
    Calls P f #[] w fun e w' => e = .returned (.bool true) ∧ Below w.heap.size w w' := by
  cases hr : evF P (drawnOps P) E m (n + 1) f [] NHeap.empty with
  | none => rw [hr] at e; cases e
  | some p =>
    obtain ⟨v, h'⟩ := p
    rw [hr] at e
    cases v with
    | bool b => cases b with
      | true =>
        refine (evF_step (drawOk hm) E m (evF_sound (drawOk hm) E m n) hr hk).2 w (fun _ => none) w #[] _ (Inv.start w) .nil fun ι' w' rv hv I' S' => ?_
        cases hv
        exact ⟨rfl, I'.below⟩
      | false => cases e
    | _ => cases e
end Go.Proofs.Ytblhpikljhholaa.NICE
