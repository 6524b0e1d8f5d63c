/- Frames of temporaries as functions: a frame is told by what stands at each place. -/
import Derived.Test.YtblhpikljhholaaNice33
set_option linter.unusedVariables false
set_option linter.unusedSimpArgs false
namespace Go.Proofs.Ytblhpikljhholaa.NICE
open Go Go.RowKit

variable {P : Program} {E : Env P drStatic}

abbrev Fr := Nat → NVal
def upd (F : Fr) (d : Nat) (v : NVal) : Fr := fun i => cond (i == d) v (F i)
theorem upd_at (F : Fr) (d : Nat) (v : NVal) (i : Nat) : upd F d v i = cond (i == d) v (F i) := rfl
def toL (n : Nat) (F : Fr) : List NVal := (List.range n).map F
def argF (l : List NVal) : Fr := fun i => l.getD i nundef
theorem argF_zero (a : NVal) (l : List NVal) : argF (a :: l) 0 = a := rfl
theorem argF_succ (a : NVal) (l : List NVal) (i : Nat) : argF (a :: l) (i + 1) = argF l i := rfl
theorem argF_nil (i : Nat) : argF [] i = nundef := rfl

theorem toL_length (n : Nat) (F : Fr) : (toL n F).length = n := by simp [toL]
theorem toL_get? (n : Nat) (F : Fr) (i : Nat) : (toL n F)[i]? = if i < n then some (F i) else none := by
  unfold toL
  rw [List.getElem?_map]
  by_cases h : i < n
  · rw [List.getElem?_range h]; simp [h]
  · rw [List.getElem?_eq_none (by simpa using h)]; simp [h]
theorem toL_getD (n : Nat) (F : Fr) (i : Nat) : (toL n F).getD i nundef = if i < n then F i else nundef := by
  rw [List.getD_eq_getElem?_getD, toL_get?]
  split <;> rfl
theorem toL_set (n : Nat) (F : Fr) (d : Nat) (v : NVal) : (toL n F).set d v = toL n (upd F d v) := by
  apply List.ext_getElem?
  intro i
  rw [List.getElem?_set, toL_get?, toL_get?, toL_length]
  by_cases hd : d = i
  · subst hd
    by_cases h : d < n <;> simp [h, upd]
  · by_cases h : i < n <;> simp [h, hd, upd, beq_false_of_ne (Ne.symm hd)]
theorem nput_toL (n : Nat) (F : Fr) (d : Tmp) (v : NVal) : nput (toL n F) (some d) v = toL n (upd F d v) := toL_set n F d v
theorem nput_toL_none (n : Nat) (F : Fr) (v : NVal) : nput (toL n F) none v = toL n F := rfl
theorem ev_toL (n : Nat) (F : Fr) (t : Tmp) (h : t < n) : ev (toL n F) (.tmp t) = some (F t) := by
  rw [ev_tmp, toL_getD, if_pos h]
theorem nresult_toL (n : Nat) (F : Fr) (h : NHeap) (t : Tmp) (ht : t < n) : nresult P (toL n F) h (.tmp t) = some (F t) := by
  show some ((toL n F).getD t nundef) = _
  rw [toL_getD, if_pos ht]
theorem nresult_cell (n : Nat) (F : Fr) (h : NHeap) (a : Tmp) (t : TypeId) (ha : a < n) : nresult P (toL n F) h (.cell a t) = (match F a with
    | .ptr (some p) => nload P t p h
    | _ => none) := by
  show (match (toL n F).getD a nundef with
    | .ptr (some p) => nload P t p h
    | _ => none) = _
  rw [toL_getD, if_pos ha]
theorem toL_arg (n : Nat) (l : List NVal) (h : l.length ≤ n) : l ++ List.replicate (n - l.length) nundef = toL n (argF l) := by
  apply List.ext_getElem?
  intro i
  rw [toL_get?, List.getElem?_append, List.getElem?_replicate]
  unfold argF
  by_cases h1 : i < l.length
  · rw [if_pos h1, if_pos (by omega), List.getD_eq_getElem?_getD, List.getElem?_eq_getElem h1]; rfl
  · rw [if_neg h1]
    by_cases h2 : i < n
    · rw [if_pos (by omega), if_pos h2, List.getD_eq_getElem?_getD, List.getElem?_eq_none (by omega)]; rfl
    · rw [if_neg (by omega), if_neg h2]

theorem K_bodyF {f l h c nt rs} (hk : E.known f l h = none) (hg : E.get f = some (c, nt, rs)) (hl : l.length ≤ nt) : K E f l h = outF P rs (C E c (toL nt (argF l)) h) := by
  rw [K_body hk hg, toL_arg nt l hl]

/-! a variable's cells, told in the same way -/
def updL (G : Fr) : Nat → List NVal → Fr
  | _, [] => G
  | o, v :: vs => updL (upd G o v) (o + 1) vs
theorem updL_nil (G : Fr) (o : Nat) : updL G o [] = G := rfl
theorem updL_cons (G : Fr) (o : Nat) (v : NVal) (vs : List NVal) : updL G o (v :: vs) = updL (upd G o v) (o + 1) vs := rfl
def seg (G : Fr) : Nat → Nat → List NVal
  | _, 0 => []
  | o, k + 1 => G o :: seg G (o + 1) k
theorem seg_zero (G : Fr) (o : Nat) : seg G o 0 = [] := rfl
theorem seg_succ (G : Fr) (o k : Nat) : seg G o (k + 1) = G o :: seg G (o + 1) k := rfl
theorem setRange_get? (cs vs : List NVal) (o i : Nat) (h : o + vs.length ≤ cs.length) : (setRange cs o vs)[i]? = if i < o then cs[i]? else if i < o + vs.length then vs[i - o]? else cs[i]? := by
  unfold setRange
  have hl : (cs.take o).length = o := by simp; omega
  rw [List.append_assoc]
  by_cases h1 : i < o
  · rw [if_pos h1, List.getElem?_append_left (by omega), List.getElem?_take_of_lt h1]
  · rw [if_neg h1, List.getElem?_append_right (by omega), hl]
    by_cases h2 : i < o + vs.length
    · rw [if_pos h2, List.getElem?_append_left (by omega)]
    · rw [if_neg h2, List.getElem?_append_right (by omega), List.getElem?_drop]
      congr 1
      omega
theorem updL_get (vs : List NVal) : ∀ (G : Fr) (o i : Nat), updL G o vs i = if i < o then G i else if i < o + vs.length then vs.getD (i - o) nundef else G i := by
  induction vs with
  | nil =>
    intro G o i
    simp [updL]
    intro a b
    omega
  | cons v vs ih =>
    intro G o i
    rw [updL_cons, ih]
    simp only [List.length_cons]
    rcases Nat.lt_trichotomy i o with hi | hi | hi
    · rw [if_pos (by omega), if_pos hi, upd_at, beq_false_of_ne (by omega), cond_false]
    · subst hi
      rw [if_pos (by omega), if_neg (by omega), if_pos (by omega), upd_at]
      simp
    · by_cases h2 : i < o + (vs.length + 1)
      · simp only [show ¬ i < o + 1 by omega, show ¬ i < o by omega, show i < o + 1 + vs.length by omega, h2, if_true, if_false]
        rw [show i - o = (i - (o + 1)) + 1 by omega, List.getD_cons_succ]
      · simp only [show ¬ i < o + 1 by omega, show ¬ i < o by omega, show ¬ i < o + 1 + vs.length by omega, h2, if_true, if_false]
        rw [upd_at, beq_false_of_ne (by omega), cond_false]
theorem setRange_toL (n : Nat) (vs : List NVal) (G : Fr) (o : Nat) (h : o + vs.length ≤ n) : setRange (toL n G) o vs = toL n (updL G o vs) := by
  apply List.ext_getElem?
  intro i
  rw [setRange_get? _ _ _ _ (by rw [toL_length]; exact h), toL_get?, toL_get?, updL_get]
  by_cases h1 : i < o
  · rw [if_pos h1, if_pos h1]
  · rw [if_neg h1, if_neg h1]
    by_cases h2 : i < o + vs.length
    · rw [if_pos h2, if_pos h2, if_pos (by omega), List.getD_eq_getElem?_getD, List.getElem?_eq_getElem (by omega)]; rfl
    · rw [if_neg h2, if_neg h2]
theorem range_toL (n : Nat) (G : Fr) : ∀ (k o : Nat), o + k ≤ n → ((toL n G).drop o).take k = seg G o k
  | 0, o, h => by simp [seg]
  | k + 1, o, h => by
    have ih := range_toL n G k (o + 1) (by omega)
    rw [seg_succ, ← ih]
    have hl := toL_length n G
    have hg : (toL n G)[o]? = some (G o) := by rw [toL_get?, if_pos (by omega)]
    have ho : o < (toL n G).length := by omega
    rw [List.drop_eq_getElem_cons ho, List.take_succ_cons]
    congr 1
    rw [List.getElem?_eq_getElem ho] at hg
    exact Option.some.inj hg
theorem setRange_zero (cs vs : List NVal) : setRange cs 0 vs = vs ++ cs.drop vs.length := by simp [setRange]
theorem setRange_succ (c : NVal) (cs : List NVal) (o : Nat) (vs : List NVal) : setRange (c :: cs) (o + 1) vs = c :: setRange cs o vs := by
  simp [setRange, show o + 1 + vs.length = (o + vs.length) + 1 by omega]
/-- a list that is written out -/
theorem toL_of (l : List NVal) (n : Nat) (h : l.length = n) : l = toL n (argF l) := by
  subst h
  have := toL_arg l.length l (Nat.le_refl _)
  simpa using this

/-! a guard -/
theorem S_guardF (ops : Array Oper) (dst op ty pos after j want rest n F h) : seqOps P (K E) ops (⟨dst, op, ty, pos, after, some (j, want)⟩ :: rest) (toL n F) h =
    stepS E ops ⟨dst, op, ty, pos, after, some (j, want)⟩ rest (toL n F) h (match (ops[j]?).bind (·.dst) with
    | none => some false
    | some d => match (if d < n then some (F d) else none) with
      | some (.bool b) => some (b == want)
      | some .junk => none
      | _ => some false) := by rw [S_guard]; simp only [toL_get?]; rfl
theorem e_guardF (ops dst op ty pos after j want rest i n F h hs ei rd pend nid) : seqE E ops (⟨dst, op, ty, pos, after, some (j, want)⟩ :: rest) i (toL n F) h hs ei rd pend nid =
    eGuard E ops ⟨dst, op, ty, pos, after, some (j, want)⟩ rest i (toL n F) h hs ei rd pend nid (match (ops[j]?).bind (·.dst) with
    | none => some false
    | some d => match (if d < n then some (F d) else none) with
      | some (.bool b) => some (b == want)
      | some .junk => none
      | _ => some false) := by rw [e_guard]; simp only [toL_get?]; rfl
theorem ro_guardF (ops dst op ty pos after j want rest n F h) : seqRO P ops (⟨dst, op, ty, pos, after, some (j, want)⟩ :: rest) (toL n F) h =
    roGuard P ops ⟨dst, op, ty, pos, after, some (j, want)⟩ rest (toL n F) h (match (ops[j]?).bind (·.dst) with
    | none => some false
    | some d => match (if d < n then some (F d) else none) with
      | some (.bool b) => some (b == want)
      | some .junk => none
      | _ => some false) := by rw [ro_guard]; simp only [toL_get?]; rfl

/-! more operations -/
theorem es_min (ρ : Rho) (h : NHeap) (args tys) : eStep P ρ h (.call ⟨.builtin .min, args, tys⟩) = valE (kMin ρ args) := es_of_pure ρ h rfl
theorem es_max (ρ : Rho) (h : NHeap) (args tys) : eStep P ρ h (.call ⟨.builtin .max, args, tys⟩) = valE (kMax ρ args) := es_of_pure ρ h rfl
def esConv (a b : Option NVal) : Option (Bool × NVal) := match a with | some v => some (false, v) | none => readE b
theorem esConv_some (v : NVal) (b) : esConv (some v) b = some (false, v) := rfl
theorem esConv_none (b) : esConv none b = readE b := rfl
theorem es_convP (ρ : Rho) (h : NHeap) (s d x) : eStep P ρ h (.convert s d x) = esConv (bind1 (ρ x) (nconv P s d)) (kStr P h s d (ρ x)) := by
  have e1 : pureOp P ρ (.convert s d x) = bind1 (ρ x) (nconv P s d) := by rw [← pureK_eq]; rfl
  have e2 : readOp P ρ h (.convert s d x) = kStr P h s d (ρ x) := by rw [← readK_eq]; rfl
  unfold eStep esConv readE
  rw [e1, e2]
  rfl
def roConv (a b : Option NVal) : Option NVal := match a with | some v => some v | none => b
theorem roConv_some (v : NVal) (b) : roConv (some v) b = some v := rfl
theorem roConv_none (b) : roConv none b = b := rfl
theorem ro_convP (ρ : Rho) (h : NHeap) (s d x) : roStep P ρ h (.convert s d x) = roConv (bind1 (ρ x) (nconv P s d)) (kStr P h s d (ρ x)) := by
  have e1 : pureOp P ρ (.convert s d x) = bind1 (ρ x) (nconv P s d) := by rw [← pureK_eq]; rfl
  have e2 : readOp P ρ h (.convert s d x) = kStr P h s d (ρ x) := by rw [← readK_eq]; rfl
  unfold roStep roConv
  rw [e1, e2]
  rfl
theorem ro_min (ρ : Rho) (h : NHeap) (args tys) : roStep P ρ h (.call ⟨.builtin .min, args, tys⟩) = kMin ρ args := ro_of_pure ρ h rfl
theorem ro_max (ρ : Rho) (h : NHeap) (args tys) : roStep P ρ h (.call ⟨.builtin .max, args, tys⟩) = kMax ρ args := ro_of_pure ρ h rfl
end Go.Proofs.Ytblhpikljhholaa.NICE
