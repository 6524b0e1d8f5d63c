/- A region whose order is drawn: how it is worked out. -/
import Derived.Test.YtblhpikljhholaaNice20
set_option linter.unusedVariables false
set_option linter.unusedSimpArgs false
namespace Go.Proofs.Ytblhpikljhholaa.NICE
open Go Go.RowKit

/-! ### Equality of values, as a test -/

mutual
def veq : Nat → NVal → NVal → Bool
  | 0, _, _ => false
  | n + 1, x, y => match x, y with
    | .bool a, .bool b => a == b
    | .int j a, .int k b => decide (j = k) && decide (a = b)
    | .str a, .str b => decide (a = b)
    | .ptr a, .ptr b => decide (a = b)
    | .slice a l c e, .slice a' l' c' e' => decide (a = a') && decide (l = l') && decide (c = c') && decide (e = e')
    | .map a, .map b => decide (a = b)
    | .func f a b, .func g c d => decide (f = g) && veqs n a c && veqs n b d
    | .nilFunc, .nilFunc => true
    | .iface t a, .iface u b => decide (t = u) && veq n a b
    | .nilIface, .nilIface => true
    | .agg a, .agg b => veqs n a b
    | .tuple a, .tuple b => veqs n a b
    | .junk, .junk => true
    | _, _ => false
def veqs : Nat → List NVal → List NVal → Bool
  | _, [], [] => true
  | 0, _, _ => false
  | n + 1, a :: l, b :: m => veq n a b && veqs n l m
  | _, _, _ => false
end

mutual
theorem veq_eq : ∀ (n : Nat) {x y : NVal}, veq n x y = true → x = y
  | 0, x, y, h => by simp [veq] at h
  | n + 1, x, y, h => by
    unfold veq at h
    split at h <;> first
      | (simp only [beq_iff_eq] at h; subst h; rfl)
      | (simp only [Bool.and_eq_true, decide_eq_true_eq] at h; obtain ⟨⟨⟨rfl, rfl⟩, rfl⟩, rfl⟩ := h; rfl)
      | (simp only [Bool.and_eq_true, decide_eq_true_eq] at h; obtain ⟨⟨rfl, h1⟩, h2⟩ := h; rw [veqs_eq n h1, veqs_eq n h2])
      | (simp only [Bool.and_eq_true, decide_eq_true_eq] at h; obtain ⟨rfl, rfl⟩ := h; rfl)
      | (simp only [Bool.and_eq_true, decide_eq_true_eq] at h; obtain ⟨rfl, h1⟩ := h; rw [veq_eq n h1])
      | (simp only [decide_eq_true_eq] at h; subst h; rfl)
      | (rw [veqs_eq n h])
      | rfl
      | cases h
theorem veqs_eq : ∀ (n : Nat) {x y : List NVal}, veqs n x y = true → x = y
  | n, [], [], h => rfl
  | 0, [], b :: m, h => by simp [veqs] at h
  | 0, a :: l, [], h => by simp [veqs] at h
  | 0, a :: l, b :: m, h => by simp [veqs] at h
  | n + 1, [], b :: m, h => by simp [veqs] at h
  | n + 1, a :: l, [], h => by simp [veqs] at h
  | n + 1, a :: l, b :: m, h => by
    simp only [veqs, Bool.and_eq_true] at h
    rw [veq_eq n h.1, veqs_eq n h.2]
end

/-! ### What stands ahead of what -/

def maskOf (acc : List Nat) (o : Oper) : Nat := o.after.toList.foldl (fun s e => if Region.binds .any e then s ||| 2 ^ e.on ||| acc.getD e.on 0 else s) 0
def masksOf (l : List Oper) : List Nat := l.foldl (fun acc o => acc ++ [maskOf acc o]) []

def opTmps (o : Oper) : List Tmp := o.op.operands.toList.filterMap fun | .tmp t => some t | _ => none

def pairOk (ops : Array Oper) (mj : Nat) (i : Nat) (oi oj : Oper) : Bool :=
  let clash := (match oi.dst with | some t => (looks ops oj).contains t || (match oj.dst with | some u => u == t | none => false) | none => false) ||
    (match oj.dst with | some t => (looks ops oi).contains t | none => false)
  !clash || mj.testBit i

def pairsOk (ops : Array Oper) (mj : Nat) (oj : Oper) : Nat → List Oper → Bool
  | _, [] => true
  | i, oi :: l => pairOk ops mj i oi oj && pairsOk ops mj oj (i + 1) l

def drStaticFrom (ops : Array Oper) (M : List Nat) (l : List Oper) : Nat → List Oper → Bool
  | _, [] => true
  | j, o :: rest => o.after.toList.all (fun e => !Region.binds .any e || decide (e.on < j)) && (M.getD j 0 == maskOf M o) && pairsOk ops (M.getD j 0) o 0 (l.take j) && drStaticFrom ops M l (j + 1) rest

/-- what has to be looked at once of a region's text -/
def drStatic (ops : Array Oper) : Bool := drStaticFrom ops (masksOf ops.toList) ops.toList 0 ops.toList

structure St where
  ts : List NVal
  h : NHeap
  hs : List NHeap
  ls : List (List Float3)
  ei : List Nat
  pend : List Float3
  nid : Nat
  reads : List (Nat × Oper × List NVal × NVal)
  v : NVal
  c : Cls

def stepE (P : Program) (F : CallF) (ops : Array Oper) (M : List Nat) (i : Nat) (o : Oper) (st : St) : Option St :=
  match nwanted ops o st.ts with
  | none => none
  | some false => some { st with ts := nput st.ts o.dst nundef, v := nundef, c := .skip }
  | some true =>
    match pureOp P (ev st.ts) o.op with
    | some v => some { st with ts := nput st.ts o.dst v, v := v, c := .val }
    | none => match readOp P (ev st.ts) st.h o.op with
      | some v => some { st with ts := nput st.ts o.dst v, v := v, c := .val, reads := st.reads ++ [(i, o, st.ts, v)] }
      | none => match newOp P (ev st.ts) o.op with
        | some (.cells cs (.own none), mk) => some { st with ts := nput st.ts o.dst (mk st.nid), v := mk st.nid, c := .flt st.nid cs, pend := st.pend ++ [(i, st.nid, cs)], nid := st.nid + 1 }
        | _ =>
          let tk := st.pend.filter fun x => (M.getD i 0).testBit x.1
          let pre := adoptAll st.h tk
          match doOp P F (ev st.ts) o pre with
          | none => none
          | some (v, h') => if st.ei.all (fun j => (M.getD i 0).testBit j) && decide (pre.next ≤ h'.next) then
              some { st with ts := nput st.ts o.dst v, h := h', hs := st.hs ++ [h'], ls := st.ls ++ [tk], ei := st.ei ++ [i], pend := st.pend.filter fun x => !(M.getD i 0).testBit x.1, v := v, c := .eff (st.ei.length + 1) } else none

def runE (P : Program) (F : CallF) (ops : Array Oper) (M : List Nat) : Nat → List Oper → St → Option St
  | _, [], st => some st
  | i, o :: rest, st => match stepE P F ops M i o st with
    | none => none
    | some st' => runE P F ops M (i + 1) rest st'

def makesRow : Op → Bool
  | .alloc _ | .box _ _ | .buildSlice _ _ _ | .makeSlice _ _ _ => true
  | _ => false

/-- may the i-th operation come when k effects are done? -/
def inWin (M : List Nat) (i k : Nat) : Nat → List Nat → Bool
  | _, [] => true
  | q, j :: l => (!(M.getD i 0).testBit j || decide (q + 1 ≤ k)) && (!(M.getD j 0).testBit i || decide (k < q + 1)) && inWin M i k (q + 1) l

def readAgain (P : Program) (M : List Nat) (ei : List Nat) (r : Nat × Oper × List NVal × NVal) : Nat → List NHeap → Bool
  | _, [] => true
  | k, h :: hs => (!inWin M r.1 k 0 ei || (match readOp P (ev r.2.2.1) h r.2.1.op with | some v => veq 50 v r.2.2.2 | none => false)) && readAgain P M ei r (k + 1) hs

def drawnOps (P : Program) (F : CallF) (ops : Array Oper) (ts : List NVal) (h : NHeap) : Option (List NVal × NHeap) :=
  let nf := (ops.toList.filter fun o => makesRow o.op).length
  let M := masksOf ops.toList
  let g := reserve nf h
  match runE P F ops M 0 ops.toList { ts := ts, h := g, hs := [g], ls := [], ei := [], pend := [], nid := h.next, reads := [], v := nundef, c := .skip } with
  | none => none
  | some st => if decide (st.nid ≤ h.next + nf) && (st.ei.isEmpty || st.reads.all fun r => readAgain P M st.ei r 0 st.hs) then some (st.ts, adoptAll st.h st.pend) else none
end Go.Proofs.Ytblhpikljhholaa.NICE
