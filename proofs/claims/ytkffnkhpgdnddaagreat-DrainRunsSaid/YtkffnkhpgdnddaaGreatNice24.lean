/- The operations again, so written that the kernel copies little: each branch is a closed term. -/
import Derived.Test.YtkffnkhpgdnddaaGreatNice23
set_option linter.unusedVariables false
set_option linter.unusedSimpArgs false
namespace Go.Proofs.YtkffnkhpgdnddaaGreat.NICE
open Go Go.RowKit

abbrev Rho := Operand → Option NVal

def bind1 (a : Option NVal) (k : NVal → Option NVal) : Option NVal := match a with | some u => k u | none => none
def bind2 (a b : Option NVal) (k : NVal → NVal → Option NVal) : Option NVal := match a with | some u => (match b with | some v => k u v | none => none) | none => none

def kPick (c a b : Option NVal) : Option NVal := match c, a, b with | some (.bool t), some u, some v => some (if t then u else v) | _, _, _ => none
def kBuild (P : Program) (t : TypeId) (ps : Option (List (Nat × NVal))) : Option NVal := match ps with | some ps => nbuild P t ps | none => none
def kNil (x : Option NVal) : Option NVal := match x with
    | some (.ptr (some a)) => some (.ptr (some a))
    | some (.func (.func f) a b) => some (.func (.func f) a b)
    | _ => none
def kIface (P : Program) (t : TypeId) (x : Option NVal) : Option NVal := match x, P.underlying t with
    | some u, some (.interface _) => none
    | some u, some _ => some (.iface t u)
    | _, _ => none
def kFunc (fn : Fn) (a b : Option (List NVal)) : Option NVal := match a, b with | some a, some b => some (.func fn a b) | _, _ => none
def kSlice (P : Program) (t : TypeId) (mx : Option Operand) (x : Option NVal) (l h : Option (Option NVal)) : Option NVal := match mx, x, l, h with | none, some u, some l, some h => nslice P t u l h | _, _, _, _ => none
def kExtract (x : Option NVal) (i : Nat) : Option NVal := match x with | some (.tuple vs) => vs[i]? | _ => none
def kLen (P : Program) (ρ : Rho) (args : Array Operand) (argTypes : Array TypeId) : Option NVal := match args.toList, argTypes.toList with
    | [x], t :: _ => (match ρ x, P.underlying t with
      | some (.str s), some .string => some (.int .i64 s.length)
      | some (.slice _ n _ _), some (.slice _) => some (.int .i64 n)
      | _, _ => none)
    | _, _ => none
def kCap (P : Program) (ρ : Rho) (args : Array Operand) (argTypes : Array TypeId) : Option NVal := match args.toList, argTypes.toList with
    | [x], t :: _ => (match ρ x, P.underlying t with
      | some (.slice _ _ c none), some (.slice _) => some (.int .i64 c)
      | _, _ => none)
    | _, _ => none
def kMin (ρ : Rho) (args : Array Operand) : Option NVal := match evs ρ args.toList with | some (v :: l) => (match v with | .int _ _ => nmin v l | _ => none) | _ => none
def kMax (ρ : Rho) (args : Array Operand) : Option NVal := match evs ρ args.toList with | some (v :: l) => (match v with | .int _ _ => nmax v l | _ => none) | _ => none

def pureB (b : Builtin) : Program → Rho → Array Operand → Array TypeId → Option NVal := match b with
  | .len => kLen
  | .cap => kCap
  | .min => fun _ ρ a _ => kMin ρ a
  | .max => fun _ ρ a _ => kMax ρ a
  | _ => fun _ _ _ _ => none

def pureC (c : Callee) : Program → Rho → Array Operand → Array TypeId → Option NVal := match c with
  | .builtin b => pureB b
  | _ => fun _ _ _ _ => none

def pureK (op : Op) : Program → Rho → Option NVal := match op with
  | .move x => fun _ ρ => ρ x
  | .assign x => fun _ ρ => ρ x
  | .pick c a b => fun _ ρ => kPick (ρ c) (ρ a) (ρ b)
  | .build t parts => fun P ρ => kBuild P t (evParts ρ parts.toList)
  | .nilCheck x => fun _ ρ => kNil (ρ x)
  | .binOp op t x y _ => fun P ρ => bind2 (ρ x) (ρ y) (nbin P op t)
  | .unOp op _ x => fun _ ρ => bind1 (ρ x) (nun op)
  | .convert s d x => fun P ρ => bind1 (ρ x) (nconv P s d)
  | .makeInterface t x => fun P ρ => kIface P t (ρ x)
  | .makeFunc fn first captured => fun _ ρ => kFunc fn (evs ρ first.toList) (evs ρ captured.toList)
  | .slice t x lo hi mx => fun P ρ => kSlice P t mx (ρ x) (evOpt ρ lo) (evOpt ρ hi)
  | .fieldAddr s x f => fun P ρ => bind1 (ρ x) fun u => nfieldAddr P s u f
  | .field t x f => fun P ρ => bind1 (ρ x) fun u => nfield P t u f
  | .indexAddr t x ix => fun P ρ => bind2 (ρ x) (ρ ix) (nindexAddr P t)
  | .index t x ix => fun P ρ => bind2 (ρ x) (ρ ix) (nindex P t)
  | .extract x i => fun _ ρ => kExtract (ρ x) i
  | .typeAssert x _ d ok => fun P ρ => bind1 (ρ x) fun u => nassert P u d ok
  | .call c => fun P ρ => pureC c.callee P ρ c.args c.argTypes
  | _ => fun _ _ => none

theorem pureK_eq (op : Op) (P : Program) (ρ : Rho) : pureK op P ρ = pureOp P ρ op := by
  cases op <;> try rfl
  case binOp op t x y p => simp only [pureK, pureOp, bind2]; cases ρ x <;> cases ρ y <;> rfl
  case indexAddr t x ix => simp only [pureK, pureOp, bind2]; cases ρ x <;> cases ρ ix <;> rfl
  case index t x ix => simp only [pureK, pureOp, bind2]; cases ρ x <;> cases ρ ix <;> rfl
  case call c =>
    obtain ⟨callee, args, argTypes⟩ := c
    cases callee <;> try rfl
    rename_i b
    cases b <;> rfl

def kLoad (P : Program) (h : NHeap) (t : TypeId) (x : Option NVal) : Option NVal := match x with | some (.ptr (some a)) => nload P t a h | _ => none
def kStr (P : Program) (h : NHeap) (s d : TypeId) (x : Option NVal) : Option NVal := match P.underlying s, P.underlying d, x with
    | some (.slice e), some .string, some (.slice a len _ _) => (match P.underlying e with
      | some (.int .u8) => (match a with
        | none => some (.str [])
        | some (b, o) => (match h.get b with
          | some (.cells cs _) => if o + len ≤ cs.length then (match bytesVals ((cs.drop o).take len) with | some l => some (.str l) | none => none) else none
          | _ => none))
      | _ => none)
    | _, _, _ => none
def kLenM (P : Program) (ρ : Rho) (h : NHeap) (args : Array Operand) (argTypes : Array TypeId) : Option NVal := match args.toList, argTypes.toList with
    | [x], t :: _ => (match ρ x, P.underlying t with
      | some (.map (some b)), some (.map _ _) => (match h.get b with | some (.map es) => some (.int .i64 es.length) | _ => none)
      | _, _ => none)
    | _, _ => none
def readB (b : Builtin) : Program → Rho → NHeap → Array Operand → Array TypeId → Option NVal := match b with
  | .len => kLenM
  | _ => fun _ _ _ _ _ => none
def readC (c : Callee) : Program → Rho → NHeap → Array Operand → Array TypeId → Option NVal := match c with
  | .builtin b => readB b
  | _ => fun _ _ _ _ _ => none
def readK (op : Op) : Program → Rho → NHeap → Option NVal := match op with
  | .load t x => fun P ρ h => kLoad P h t (ρ x)
  | .lookup t m k ok => fun P ρ h => bind2 (ρ m) (ρ k) fun u v => nlookup P t u v ok h
  | .convert s d x => fun P ρ h => kStr P h s d (ρ x)
  | .call c => fun P ρ h => readC c.callee P ρ h c.args c.argTypes
  | _ => fun _ _ _ => none

theorem readK_eq (op : Op) (P : Program) (ρ : Rho) (h : NHeap) : readK op P ρ h = readOp P ρ h op := by
  cases op <;> try rfl
  case lookup t m k ok => simp only [readK, readOp, bind2]; cases ρ m <;> cases ρ k <;> rfl
  case call c =>
    obtain ⟨callee, args, argTypes⟩ := c
    cases callee <;> try rfl
    rename_i b
    cases b <;> rfl

abbrev NewR := Option (NObj × (Nat → NVal))
def kAlloc (P : Program) (t : TypeId) : NewR := match zeroOf P t with | some z => some (.cells z.cells true, fun b => .ptr (some (b, 0))) | none => none
def kBox (x : Option NVal) : NewR := match x with | some v => some (.cells v.cells true, fun b => .ptr (some (b, 0))) | none => none
def newK (op : Op) : Program → Rho → NewR := match op with
  | .alloc t => fun P _ => kAlloc P t
  | .box _ x => fun _ ρ => kBox (ρ x)
  | .buildSlice t len parts => fun P ρ => newOp P ρ (.buildSlice t len parts)
  | .makeSlice t l c => fun P ρ => newOp P ρ (.makeSlice t l c)
  | .makeMap t r => fun P ρ => newOp P ρ (.makeMap t r)
  | _ => fun _ _ => none
theorem newK_eq (op : Op) (P : Program) (ρ : Rho) : newK op P ρ = newOp P ρ op := by cases op <;> rfl

def kStore (P : Program) (h : NHeap) (t : TypeId) (x y : Option NVal) : Option (NVal × NHeap) := match x, y with
    | some (.ptr (some a)), some v => (match nstore P t a v h with | some h' => some (nundef, h') | none => none)
    | _, _ => none
def effK (op : Op) : Program → Rho → NHeap → Option (NVal × NHeap) := match op with
  | .store t x y => fun P ρ h => kStore P h t (ρ x) (ρ y)
  | .mapUpdate t m k v => fun P ρ h => effOp P ρ h (.mapUpdate t m k v)
  | .insert t m k v => fun P ρ h => effOp P ρ h (.insert t m k v)
  | .convert s d x => fun P ρ h => effOp P ρ h (.convert s d x)
  | .call c => fun P ρ h => effOp P ρ h (.call c)
  | _ => fun _ _ _ => none
theorem effK_eq (op : Op) (P : Program) (ρ : Rho) (h : NHeap) : effK op P ρ h = effOp P ρ h op := by
  cases op <;> rfl

def withH (r : Option NVal) (h : NHeap) : Option (NVal × NHeap) := match r with | some v => some (v, h) | none => none
def allocH (r : NewR) (h : NHeap) : Option (NVal × NHeap) := match r with | some (ob, mk) => some (mk h.next, h.alloc ob) | none => none
def orElseH (r : Option NVal) (h : NHeap) (k : Unit → Option (NVal × NHeap)) : Option (NVal × NHeap) := match r with | some v => some (v, h) | none => k ()

/-- which of the four it may be: 0 the first, 1 the second, 2 the third, 3 the fourth, 4 all -/
def kindK (op : Op) : Nat := match op with
  | .load _ _ => 1
  | .lookup _ _ _ _ => 1
  | .alloc _ => 2
  | .box _ _ => 2
  | .buildSlice _ _ _ => 2
  | .makeSlice _ _ _ => 2
  | .makeMap _ _ => 2
  | .store _ _ _ => 3
  | .mapUpdate _ _ _ _ => 3
  | .insert _ _ _ _ => 3
  | .convert _ _ _ => 4
  | .call _ => 4
  | _ => 0

def stepK (P : Program) (ρ : Rho) (op : Op) (h : NHeap) : Option (NVal × NHeap) :=
  match kindK op with
  | 0 => withH (pureK op P ρ) h
  | 1 => withH (readK op P ρ h) h
  | 2 => allocH (newK op P ρ) h
  | 3 => effK op P ρ h
  | _ => orElseH (pureK op P ρ) h fun _ => orElseH (readK op P ρ h) h fun _ => effK op P ρ h

theorem stepK_eq (P : Program) (ρ : Rho) (o : Oper) (h : NHeap) : stepK P ρ o.op h = stepOp P ρ o h := by
  obtain ⟨dst, op, ty, pos, after, guard⟩ := o
  have pure0 : ∀ {op : Op}, kindK op = 0 → readOp P ρ h op = none → newOp P ρ op = none → effOp P ρ h op = none → stepK P ρ op h = stepOp P ρ ⟨dst, op, ty, pos, after, guard⟩ h := by
    intro op e1 e2 e3 e4
    simp only [stepK, e1, stepOp, pureK_eq, e2, e3, e4, withH]
    rfl
  have read0 : ∀ {op : Op}, kindK op = 1 → pureOp P ρ op = none → newOp P ρ op = none → effOp P ρ h op = none → stepK P ρ op h = stepOp P ρ ⟨dst, op, ty, pos, after, guard⟩ h := by
    intro op e1 e2 e3 e4
    simp only [stepK, e1, stepOp, readK_eq, e2, e3, e4, withH]
    rfl
  have new0 : ∀ {op : Op}, kindK op = 2 → pureOp P ρ op = none → readOp P ρ h op = none → effOp P ρ h op = none → stepK P ρ op h = stepOp P ρ ⟨dst, op, ty, pos, after, guard⟩ h := by
    intro op e1 e2 e3 e4
    simp only [stepK, e1, stepOp, newK_eq, e2, e3, e4, allocH]
    cases newOp P ρ op <;> rfl
  have eff0 : ∀ {op : Op}, kindK op = 3 → pureOp P ρ op = none → readOp P ρ h op = none → newOp P ρ op = none → stepK P ρ op h = stepOp P ρ ⟨dst, op, ty, pos, after, guard⟩ h := by
    intro op e1 e2 e3 e4
    simp only [stepK, e1, stepOp, effK_eq, e2, e3, e4]
  have all0 : ∀ {op : Op}, kindK op = 4 → newOp P ρ op = none → stepK P ρ op h = stepOp P ρ ⟨dst, op, ty, pos, after, guard⟩ h := by
    intro op e1 e3
    simp only [stepK, e1, stepOp, effK_eq, pureK_eq, readK_eq, e3, orElseH]
    rfl
  cases op
  case load => exact read0 rfl rfl rfl rfl
  case lookup => exact read0 rfl rfl rfl rfl
  case alloc => exact new0 rfl rfl rfl rfl
  case box => exact new0 rfl rfl rfl rfl
  case buildSlice => exact new0 rfl rfl rfl rfl
  case makeSlice => exact new0 rfl rfl rfl rfl
  case makeMap => exact new0 rfl rfl rfl rfl
  case store => exact eff0 rfl rfl rfl rfl
  case mapUpdate => exact eff0 rfl rfl rfl rfl
  case insert => exact eff0 rfl rfl rfl rfl
  case convert => exact all0 rfl rfl
  case call => exact all0 rfl rfl
  all_goals exact pure0 rfl rfl rfl rfl

def callK (r : Option (FuncId × List NVal)) (F : CallF) (h : NHeap) : Option (NVal × NHeap) := match r with | some (f, as) => F f as h | none => none
def doK (P : Program) (F : CallF) (ρ : Rho) (op : Op) (h : NHeap) : Option (NVal × NHeap) :=
  match isGoCall op with
  | some c => callK (ncall P ρ h c) F h
  | none => stepK P ρ op h
theorem doK_eq (P : Program) (F : CallF) (ρ : Rho) (o : Oper) (h : NHeap) : doK P F ρ o.op h = doOp P F ρ o h := by
  unfold doK doOp
  rw [stepK_eq]
  rfl
end Go.Proofs.YtkffnkhpgdnddaaGreat.NICE
