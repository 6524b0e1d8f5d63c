/- The operations again, so written that the kernel copies little: each branch is a closed term. -/
import Derived.Test.YtblhpikljhholaaNice23
set_option linter.unusedVariables false
set_option linter.unusedSimpArgs false
namespace Go.Proofs.Ytblhpikljhholaa.NICE
open Go Go.RowKit

abbrev Rho := Operand → Option NVal

def bind1 (a : Option NVal) (k : NVal → Option NVal) : Option NVal := match a with | some u => k u | none => none
def bind2 (a b : Option NVal) (k : NVal → NVal → Option NVal) : Option NVal := match a with | some u => (match b with | some v => k u v | none => none) | none => none

def kPick (c a b : Option NVal) : Option NVal := match c, a, b with | some (.bool t), some u, some v => some (if t then u else v) | _, _, _ => none
def kBuild (P : Program) (t : TypeId) (ps : Option (List (Nat × NVal))) : Option NVal := match ps with | some ps => nbuild P t ps | none => none
def kNil (x : Option NVal) : Option NVal := match x with
    | some (.ptr (some a)) => some (.ptr (some a))
    | some (.func (.func f) a b) => some (.func (.func f) a b)
    | _ => none
def kIface (P : Program) (t : TypeId) (x : Option NVal) : Option NVal := match x, P.underlying t with
    | some u, some (.interface _) => none
    | some u, some _ => some (.iface t u)
    | _, _ => none
def kFunc (fn : Fn) (a b : Option (List NVal)) : Option NVal := match a, b with | some a, some b => some (.func fn a b) | _, _ => none
def kSlice (P : Program) (t : TypeId) (mx : Option (Option NVal)) (x : Option NVal) (l h : Option (Option NVal)) : Option NVal := match mx, x, l, h with | some none, some u, some l, some h => nslice P t u l h | some (some m), some u, some (some l), some (some h) => nslice3 P t u l h m | _, _, _, _ => none
def kExtract (x : Option NVal) (i : Nat) : Option NVal := match x with | some (.tuple vs) => vs[i]? | _ => none
def kLen (P : Program) (ρ : Rho) (args : Array Operand) (argTypes : Array TypeId) : Option NVal := match args.toList, argTypes.toList with
    | [x], t :: _ => (match ρ x, P.underlying t with
      | some (.str s), some .string => some (.int .i64 s.length)
      | some (.slice _ n _ _), some (.slice _) => some (.int .i64 n)
      | _, _ => none)
    | _, _ => none
def kCap (P : Program) (ρ : Rho) (args : Array Operand) (argTypes : Array TypeId) : Option NVal := match args.toList, argTypes.toList with
    | [x], t :: _ => (match ρ x, P.underlying t with
      | some (.slice _ _ c none), some (.slice _) => some (.int .i64 c)
      | _, _ => none)
    | _, _ => none
def kMin (ρ : Rho) (args : Array Operand) : Option NVal := match evs ρ args.toList with | some (v :: l) => (match v with | .int _ _ => nmin v l | _ => none) | _ => none
def kMax (ρ : Rho) (args : Array Operand) : Option NVal := match evs ρ args.toList with | some (v :: l) => (match v with | .int _ _ => nmax v l | _ => none) | _ => none

def pureB (b : Builtin) : Program → Rho → Array Operand → Array TypeId → Option NVal := match b with
  | .len => kLen
  | .cap => kCap
  | .min => fun _ ρ a _ => kMin ρ a
  | .max => fun _ ρ a _ => kMax ρ a
  | _ => fun _ _ _ _ => none

def pureC (c : Callee) : Program → Rho → Array Operand → Array TypeId → Option NVal := match c with
  | .builtin b => pureB b
  | _ => fun _ _ _ _ => none

def pureK (op : Op) : Program → Rho → Option NVal := match op with
  | .move x => fun _ ρ => ρ x
  | .assign x => fun _ ρ => ρ x
  | .pick c a b => fun _ ρ => kPick (ρ c) (ρ a) (ρ b)
  | .build t parts => fun P ρ => kBuild P t (evParts ρ parts.toList)
  | .nilCheck x => fun _ ρ => kNil (ρ x)
  | .binOp op t x y _ => fun P ρ => bind2 (ρ x) (ρ y) (nbin P op t)
  | .unOp op _ x => fun _ ρ => bind1 (ρ x) (nun op)
  | .convert s d x => fun P ρ => bind1 (ρ x) (nconv P s d)
  | .makeInterface t x => fun P ρ => kIface P t (ρ x)
  | .makeFunc fn first captured => fun _ ρ => kFunc fn (evs ρ first.toList) (evs ρ captured.toList)
  | .slice t x lo hi mx => fun P ρ => kSlice P t (evOpt ρ mx) (ρ x) (evOpt ρ lo) (evOpt ρ hi)
  | .fieldAddr s x f => fun P ρ => bind1 (ρ x) fun u => nfieldAddr P s u f
  | .field t x f => fun P ρ => bind1 (ρ x) fun u => nfield P t u f
  | .indexAddr t x ix => fun P ρ => bind2 (ρ x) (ρ ix) (nindexAddr P t)
  | .index t x ix => fun P ρ => bind2 (ρ x) (ρ ix) (nindex P t)
  | .extract x i => fun _ ρ => kExtract (ρ x) i
  | .typeAssert x _ d ok => fun P ρ => bind1 (ρ x) fun u => nassert P u d ok
  | .call c => fun P ρ => pureC c.callee P ρ c.args c.argTypes
  | _ => fun _ _ => none

theorem pureK_eq (op : Op) (P : Program) (ρ : Rho) : pureK op P ρ = pureOp P ρ op := by
  cases op <;> try rfl
  case binOp op t x y p => simp only [pureK, pureOp, bind2]; cases ρ x <;> cases ρ y <;> rfl
  case indexAddr t x ix => simp only [pureK, pureOp, bind2]; cases ρ x <;> cases ρ ix <;> rfl
  case index t x ix => simp only [pureK, pureOp, bind2]; cases ρ x <;> cases ρ ix <;> rfl
  case call c =>
    obtain ⟨callee, args, argTypes⟩ := c
    cases callee <;> try rfl
    rename_i b
    cases b <;> rfl

def kLoad (P : Program) (h : NHeap) (t : TypeId) (x : Option NVal) : Option NVal := match x with | some (.ptr (some a)) => nload P t a h | _ => none
def kStr (P : Program) (h : NHeap) (s d : TypeId) (x : Option NVal) : Option NVal := match P.underlying s, P.underlying d, x with
    | some (.slice e), some .string, some (.slice a len _ _) => (match P.underlying e with
      | some (.int .u8) => (match a with
        | none => some (.str [])
        | some (b, o) => (match h.get b with
          | some (.cells cs _) => if o + len ≤ cs.length then (match bytesVals ((cs.drop o).take len) with | some l => some (.str l) | none => none) else none
          | _ => none))
      | _ => none)
    | _, _, _ => none
def kLenM (P : Program) (ρ : Rho) (h : NHeap) (args : Array Operand) (argTypes : Array TypeId) : Option NVal := match args.toList, argTypes.toList with
    | [x], t :: _ => (match ρ x, P.underlying t with
      | some (.map (some b)), some (.map _ _) => (match h.get b with | some (.map es) => some (.int .i64 es.length) | _ => none)
      | _, _ => none)
    | _, _ => none
def readB (b : Builtin) : Program → Rho → NHeap → Array Operand → Array TypeId → Option NVal := match b with
  | .len => kLenM
  | _ => fun _ _ _ _ _ => none
def readC (c : Callee) : Program → Rho → NHeap → Array Operand → Array TypeId → Option NVal := match c with
  | .builtin b => readB b
  | _ => fun _ _ _ _ _ => none
def readK (op : Op) : Program → Rho → NHeap → Option NVal := match op with
  | .load t x => fun P ρ h => kLoad P h t (ρ x)
  | .lookup t m k ok => fun P ρ h => bind2 (ρ m) (ρ k) fun u v => nlookup P t u v ok h
  | .convert s d x => fun P ρ h => kStr P h s d (ρ x)
  | .call c => fun P ρ h => readC c.callee P ρ h c.args c.argTypes
  | _ => fun _ _ _ => none

theorem readK_eq (op : Op) (P : Program) (ρ : Rho) (h : NHeap) : readK op P ρ h = readOp P ρ h op := by
  cases op <;> try rfl
  case lookup t m k ok => simp only [readK, readOp, bind2]; cases ρ m <;> cases ρ k <;> rfl
  case call c =>
    obtain ⟨callee, args, argTypes⟩ := c
    cases callee <;> try rfl
    rename_i b
    cases b <;> rfl

abbrev NewR := Option (NObj × (Nat → NVal))
def kAlloc (P : Program) (t : TypeId) : NewR := match zeroOf P t with | some z => some (.cells z.cells (.own none), fun b => .ptr (some (b, 0))) | none => none
def kBox (x : Option NVal) : NewR := match x with | some v => some (.cells v.cells (.own none), fun b => .ptr (some (b, 0))) | none => none
def newK (op : Op) : Program → Rho → NewR := match op with
  | .alloc t => fun P _ => kAlloc P t
  | .box _ x => fun _ ρ => kBox (ρ x)
  | .buildSlice t len parts => fun P ρ => newOp P ρ (.buildSlice t len parts)
  | .makeSlice t l c => fun P ρ => newOp P ρ (.makeSlice t l c)
  | .makeMap t r => fun P ρ => newOp P ρ (.makeMap t r)
  | _ => fun _ _ => none
theorem newK_eq (op : Op) (P : Program) (ρ : Rho) : newK op P ρ = newOp P ρ op := by cases op <;> rfl

def kStore (P : Program) (h : NHeap) (t : TypeId) (x y : Option NVal) : Option (NVal × NHeap) := match x, y with
    | some (.ptr (some a)), some v => (match nstore P t a v h with | some h' => some (nundef, h') | none => none)
    | _, _ => none
def effK (op : Op) : Program → Rho → NHeap → Option (NVal × NHeap) := match op with
  | .store t x y => fun P ρ h => kStore P h t (ρ x) (ρ y)
  | .mapUpdate t m k v => fun P ρ h => effOp P ρ h (.mapUpdate t m k v)
  | .insert t m k v => fun P ρ h => effOp P ρ h (.insert t m k v)
  | .convert s d x => fun P ρ h => effOp P ρ h (.convert s d x)
  | .call c => fun P ρ h => effOp P ρ h (.call c)
  | _ => fun _ _ _ => none
theorem effK_eq (op : Op) (P : Program) (ρ : Rho) (h : NHeap) : effK op P ρ h = effOp P ρ h op := by
  cases op <;> rfl

def withH (r : Option NVal) (h : NHeap) : Option (NVal × NHeap) := match r with | some v => some (v, h) | none => none
def allocH (r : NewR) (h : NHeap) : Option (NVal × NHeap) := match r with | some (ob, mk) => some (mk h.next, h.alloc ob) | none => none
def orElseH (r : Option NVal) (h : NHeap) (k : Unit → Option (NVal × NHeap)) : Option (NVal × NHeap) := match r with | some v => some (v, h) | none => k ()

/-- .. a variable's type is known -/
def kAllocT (P : Program) (t : TypeId) : NewR := match zeroOf P t with | some z => some (.cells z.cells (.own (some (t, z.cells.length))), fun b => .ptr (some (b, 0))) | none => none
def newS (op : Op) (P : Program) (ρ : Rho) : NewR := match op with
  | .alloc t => kAllocT P t
  | op => newK op P ρ

/-- which of the four it may be: 0 the first, 1 the second, 2 the third, 3 the fourth, 4 all -/
def kindK (op : Op) : Nat := match op with
  | .load _ _ => 1
  | .lookup _ _ _ _ => 1
  | .alloc _ => 2
  | .box _ _ => 2
  | .buildSlice _ _ _ => 2
  | .makeSlice _ _ _ => 2
  | .makeMap _ _ => 2
  | .store _ _ _ => 3
  | .mapUpdate _ _ _ _ => 3
  | .insert _ _ _ _ => 3
  | .convert _ _ _ => 4
  | .call _ => 4
  | _ => 0

def stepK (P : Program) (ρ : Rho) (op : Op) (h : NHeap) : Option (NVal × NHeap) :=
  match kindK op with
  | 0 => withH (pureK op P ρ) h
  | 1 => withH (readK op P ρ h) h
  | 2 => allocH (newS op P ρ) h
  | 3 => effK op P ρ h
  | _ => orElseH (pureK op P ρ) h fun _ => orElseH (readK op P ρ h) h fun _ => effK op P ρ h

theorem stepK_eq (P : Program) (ρ : Rho) (o : Oper) (h : NHeap) : stepK P ρ o.op h = stepOp P ρ o h := by
  obtain ⟨dst, op, ty, pos, after, guard⟩ := o
  have pure0 : ∀ {op : Op}, kindK op = 0 → readOp P ρ h op = none → newOp P ρ op = none → effOp P ρ h op = none → stepK P ρ op h = stepOp P ρ ⟨dst, op, ty, pos, after, guard⟩ h := by
    intro op e1 e2 e3 e4
    simp only [stepK, e1, stepOp, pureK_eq, e2, e3, e4, withH]
    rfl
  have read0 : ∀ {op : Op}, kindK op = 1 → pureOp P ρ op = none → newOp P ρ op = none → effOp P ρ h op = none → stepK P ρ op h = stepOp P ρ ⟨dst, op, ty, pos, after, guard⟩ h := by
    intro op e1 e2 e3 e4
    simp only [stepK, e1, stepOp, readK_eq, e2, e3, e4, withH]
    rfl
  have new0 : ∀ {op : Op}, kindK op = 2 → pureOp P ρ op = none → readOp P ρ h op = none → effOp P ρ h op = none → stepK P ρ op h = stepOp P ρ ⟨dst, op, ty, pos, after, guard⟩ h := by
    intro op e1 e2 e3 e4
    simp only [stepK, e1, stepOp, e2, e3, e4]
    cases op <;> (try cases e1) <;> simp only [newS, newK_eq]
    case alloc t =>
      unfold kAllocT
      simp only [newOp]
      cases zeroOf P t <;> rfl
    all_goals (simp only [allocH]; split <;> rename_i hn <;> rw [hn] <;> rfl)
  have eff0 : ∀ {op : Op}, kindK op = 3 → pureOp P ρ op = none → readOp P ρ h op = none → newOp P ρ op = none → stepK P ρ op h = stepOp P ρ ⟨dst, op, ty, pos, after, guard⟩ h := by
    intro op e1 e2 e3 e4
    simp only [stepK, e1, stepOp, effK_eq, e2, e3, e4]
  have all0 : ∀ {op : Op}, kindK op = 4 → newOp P ρ op = none → stepK P ρ op h = stepOp P ρ ⟨dst, op, ty, pos, after, guard⟩ h := by
    intro op e1 e3
    simp only [stepK, e1, stepOp, effK_eq, pureK_eq, readK_eq, e3, orElseH]
    rfl
  cases op
  case load => exact read0 rfl rfl rfl rfl
  case lookup => exact read0 rfl rfl rfl rfl
  case alloc => exact new0 rfl rfl rfl rfl
  case box => exact new0 rfl rfl rfl rfl
  case buildSlice => exact new0 rfl rfl rfl rfl
  case makeSlice => exact new0 rfl rfl rfl rfl
  case makeMap => exact new0 rfl rfl rfl rfl
  case store => exact eff0 rfl rfl rfl rfl
  case mapUpdate => exact eff0 rfl rfl rfl rfl
  case insert => exact eff0 rfl rfl rfl rfl
  case convert => exact all0 rfl rfl
  case call => exact all0 rfl rfl
  all_goals exact pure0 rfl rfl rfl rfl

def callK (r : Option (FuncId × List NVal)) (F : CallF) (h : NHeap) : Option (NVal × NHeap) := match r with | some (f, as) => F f as h | none => none
def doK (P : Program) (F : CallF) (ρ : Rho) (op : Op) (h : NHeap) : Option (NVal × NHeap) :=
  match isGoCall op with
  | some c => callK (ncall P ρ h c) F h
  | none => stepK P ρ op h
theorem doK_eq (P : Program) (F : CallF) (ρ : Rho) (o : Oper) (h : NHeap) : doK P F ρ o.op h = doOp P F ρ o h := by
  unfold doK doOp
  rw [stepK_eq]
  rfl

/-! ### The same by the recursors themselves -/

theorem nbeq (n m : Nat) : Nat.beq n m = decide (n = m) := by
  by_cases h : n = m
  · subst h; simp
  · have : Nat.beq n m = false := by
      cases e : Nat.beq n m with
      | false => rfl
      | true => exact absurd (Nat.eq_of_beq_eq_true e) h
    rw [this]; simp [h]

noncomputable def ifR {α : Type} (b : Bool) (x y : α) : α := Bool.rec (motive := fun _ => α) y x b
theorem ifR_eq {α : Type} (b : Bool) (x y : α) : ifR b x y = if b = true then x else y := by cases b <;> rfl

noncomputable def trGet (t : Tr) : Nat → Option NObj :=
  Tr.rec (motive := fun _ => Nat → Option NObj) (fun _ => none)
    (fun v _ _ gl gr n => Bool.rec (motive := fun _ => Option NObj) (Bool.rec (motive := fun _ => Option NObj) (gr (Nat.div n 2)) (gl (Nat.div n 2)) (Nat.beq (Nat.mod n 2) 0)) v (Nat.beq n 0)) t
theorem trGet_eq : ∀ (t : Tr) (n : Nat), trGet t n = t.get n
  | .leaf, n => rfl
  | .node v l r, n => by
    show ifR (Nat.beq n 0) v (ifR (Nat.beq (n % 2) 0) (trGet l (n / 2)) (trGet r (n / 2))) = _
    rw [ifR_eq, ifR_eq, nbeq, nbeq, trGet_eq l, trGet_eq r]
    simp only [decide_eq_true_eq, Tr.get]

noncomputable def trPut (f : Nat) : Tr → Nat → NObj → Tr :=
  Nat.rec (motive := fun _ => Tr → Nat → NObj → Tr) (fun t _ _ => t)
    (fun _ ih t n o => Tr.rec (motive := fun _ => Tr)
      (Bool.rec (motive := fun _ => Tr) (Bool.rec (motive := fun _ => Tr) (.node none .leaf (ih .leaf (Nat.div n 2) o)) (.node none (ih .leaf (Nat.div n 2) o) .leaf) (Nat.beq (Nat.mod n 2) 0)) (.node (some o) .leaf .leaf) (Nat.beq n 0))
      (fun v l r _ _ => Bool.rec (motive := fun _ => Tr) (Bool.rec (motive := fun _ => Tr) (.node v l (ih r (Nat.div n 2) o)) (.node v (ih l (Nat.div n 2) o) r) (Nat.beq (Nat.mod n 2) 0)) (.node (some o) l r) (Nat.beq n 0)) t) f
theorem trPut_eq (o : NObj) : ∀ (f : Nat) (t : Tr) (n : Nat), trPut f t n o = Tr.put f t n o
  | 0, t, n => rfl
  | f + 1, .leaf, n => by
    show ifR (Nat.beq n 0) (Tr.node (some o) .leaf .leaf) (ifR (Nat.beq (n % 2) 0) (Tr.node none (trPut f .leaf (n / 2) o) .leaf) (Tr.node none .leaf (trPut f .leaf (n / 2) o))) = _
    rw [ifR_eq, ifR_eq, nbeq, nbeq, trPut_eq o f]
    simp only [decide_eq_true_eq, Tr.put]
  | f + 1, .node v l r, n => by
    show ifR (Nat.beq n 0) (Tr.node (some o) l r) (ifR (Nat.beq (n % 2) 0) (Tr.node v (trPut f l (n / 2) o) r) (Tr.node v l (trPut f r (n / 2) o))) = _
    rw [ifR_eq, ifR_eq, nbeq, nbeq, trPut_eq o f, trPut_eq o f]
    simp only [decide_eq_true_eq, Tr.put]

theorem nble (n m : Nat) : Nat.ble n m = decide (n ≤ m) := by
  by_cases h : n ≤ m
  · rw [Nat.ble_eq_true_of_le h]; simp [h]
  · have : Nat.ble n m = false := by
      cases e : Nat.ble n m with
      | false => rfl
      | true => exact absurd (Nat.le_of_ble_eq_true e) h
    rw [this]; simp [h]

noncomputable def hGet (h : NHeap) (b : Nat) : Option NObj := ifR (Nat.ble (Nat.succ b) h.next) (trGet h.tree b) none
theorem hGet_eq (h : NHeap) (b : Nat) : hGet h b = h.get b := by
  unfold hGet NHeap.get
  rw [ifR_eq, nble, trGet_eq]
  simp only [decide_eq_true_eq, Nat.succ_le_iff]
noncomputable def hSet (h : NHeap) (b : Nat) (o : NObj) : NHeap := ⟨h.next, trPut (Nat.succ b) h.tree b o⟩
theorem hSet_eq (h : NHeap) (b : Nat) (o : NObj) : hSet h b o = h.set b o := by
  unfold hSet NHeap.set
  rw [trPut_eq]

/-! a heap made a constructor's term, its number a numeral, ahead of what follows -/
noncomputable def forceN {α : Type} (n : Nat) (k : Nat → α) : α := Nat.rec (motive := fun _ => α) (k 0) (fun m _ => k (Nat.succ m)) n
theorem forceN_eq {α : Type} (n : Nat) (k : Nat → α) : forceN n k = k n := by cases n <;> rfl
noncomputable def forceT {α : Type} (t : Tr) (k : Tr → α) : α := Tr.rec (motive := fun _ => α) (k .leaf) (fun v l r _ _ => k (.node v l r)) t
theorem forceT_eq {α : Type} (t : Tr) (k : Tr → α) : forceT t k = k t := by cases t <;> rfl
noncomputable def forceH {α : Type} (h : NHeap) (k : NHeap → α) : α := NHeap.rec (motive := fun _ => α) (fun n t => forceN n fun n' => forceT t fun t' => k ⟨n', t'⟩) h
theorem forceH_eq {α : Type} (h : NHeap) (k : NHeap → α) : forceH h k = k h := by
  cases h with
  | mk n t =>
    show forceN n (fun n' => forceT t fun t' => k ⟨n', t'⟩) = _
    rw [forceN_eq, forceT_eq]
noncomputable def forceP (r : Option (NVal × NHeap)) : Option (NVal × NHeap) := Option.rec (motive := fun _ => Option (NVal × NHeap)) none (fun p => Prod.rec (motive := fun _ => Option (NVal × NHeap)) (fun v h => forceH h fun h' => some (v, h')) p) r
theorem forceP_eq (r : Option (NVal × NHeap)) : forceP r = r := by
  cases r with
  | none => rfl
  | some p =>
    obtain ⟨v, h⟩ := p
    show forceH h (fun h' => some (v, h')) = _
    rw [forceH_eq]
noncomputable def hAlloc (h : NHeap) (o : NObj) : NHeap := ⟨Nat.succ h.next, trPut (Nat.succ h.next) h.tree h.next o⟩
theorem hAlloc_eq (h : NHeap) (o : NObj) : hAlloc h o = h.alloc o := by unfold hAlloc NHeap.alloc; rw [trPut_eq]
noncomputable def allocR (r : NewR) (h : NHeap) : Option (NVal × NHeap) := Option.rec (motive := fun _ => Option (NVal × NHeap)) none (fun p => Prod.rec (motive := fun _ => Option (NVal × NHeap)) (fun o mk => forceN h.next fun n => forceH (hAlloc h o) fun h' => some (mk n, h')) p) r
theorem allocR_eq (r : NewR) (h : NHeap) : allocR r h = allocH r h := by
  cases r with
  | none => rfl
  | some p =>
    obtain ⟨o, mk⟩ := p
    show forceN h.next (fun n => forceH (hAlloc h o) fun h' => some (mk n, h')) = _
    rw [forceN_eq, forceH_eq, hAlloc_eq]
    rfl

noncomputable def nthR {α : Type} (l : List α) : Nat → Option α :=
  List.rec (motive := fun _ => Nat → Option α) (fun _ => none) (fun x _ ih n => Nat.rec (motive := fun _ => Option α) (some x) (fun m _ => ih m) n) l
theorem nthR_eq {α : Type} : ∀ (l : List α) (n : Nat), nthR l n = l[n]?
  | [], n => by simp [nthR]
  | x :: l, 0 => rfl
  | x :: l, n + 1 => by
    show nthR l n = _
    rw [nthR_eq l]; simp

/-- as many cells as this, at least -/
noncomputable def hasR {α : Type} (l : List α) : Nat → Bool :=
  List.rec (motive := fun _ => Nat → Bool) (fun n => Nat.beq n 0) (fun _ _ ih n => Nat.rec (motive := fun _ => Bool) true (fun m _ => ih m) n) l
theorem hasR_eq {α : Type} : ∀ (l : List α) (n : Nat), hasR l n = decide (n ≤ l.length)
  | [], n => by show Nat.beq n 0 = _; rw [nbeq]; simp
  | x :: l, 0 => by show true = _; simp
  | x :: l, n + 1 => by show hasR l n = _; rw [hasR_eq l]; simp

noncomputable def setR {α : Type} (l : List α) : Nat → α → List α :=
  List.rec (motive := fun _ => Nat → α → List α) (fun _ _ => []) (fun x xs ih n v => Nat.rec (motive := fun _ => List α) (v :: xs) (fun m _ => x :: ih m v) n) l
theorem setR_eq {α : Type} : ∀ (l : List α) (n : Nat) (v : α), setR l n v = l.set n v
  | [], n, v => by cases n <;> rfl
  | x :: l, 0, v => rfl
  | x :: l, n + 1, v => by show x :: setR l n v = _; rw [setR_eq l]; rfl
theorem setRange_one {l : List NVal} {n : Nat} {v : NVal} (h : n + 1 ≤ l.length) : setRange l n [v] = l.set n v := by
  unfold setRange
  rw [List.set_eq_take_append_cons_drop, if_pos (by omega)]
  simp

noncomputable def asPtrR (u : NVal) : Option (Nat × Nat) :=
  NVal.rec (motive_1 := fun _ => Option (Nat × Nat)) (motive_2 := fun _ => Unit) (fun _ => none) (fun _ _ => none) (fun _ => none) (fun a => a) (fun _ _ _ _ => none) (fun _ => none) (fun _ _ _ _ _ => none) none (fun _ _ _ => none) none (fun _ _ => none) (fun _ _ => none) none () (fun _ _ _ _ => ()) u
noncomputable def asCellsR (o : NObj) : Option (List NVal) := NObj.rec (motive := fun _ => Option (List NVal)) (fun cs _ => some cs) (fun _ => none) none o
noncomputable def asMineR (o : NObj) : Option (List NVal × Option (TypeId × Nat)) := NObj.rec (motive := fun _ => Option (List NVal × Option (TypeId × Nat))) (fun cs m => Own.rec (motive := fun _ => Option (List NVal × Option (TypeId × Nat))) none (fun t => some (cs, t)) m) (fun _ => none) none o
noncomputable def thenR {α β : Type} (a : Option α) (k : α → Option β) : Option β := Option.rec (motive := fun _ => Option β) none (fun x => k x) a

noncomputable def loadR (P : Program) (h : NHeap) (t : TypeId) (x : Option NVal) : Option NVal :=
  thenR x fun u => thenR (asPtrR u) fun a => thenR (hGet h a.1) fun o => thenR (asCellsR o) fun cs =>
    thenR (aggT P t) fun g => ifR g (thenR (szOf P t) fun n => ifR (hasR cs (Nat.add a.2 n)) (some (.agg ((cs.drop a.2).take n))) none) (nthR cs a.2)

theorem loadR_eq (P : Program) (h : NHeap) (t : TypeId) (x : Option NVal) : loadR P h t x = kLoad P h t x := by
  unfold loadR kLoad
  cases x with
  | none => rfl
  | some u =>
    cases u <;> try rfl
    rename_i a
    cases a with
    | none => rfl
    | some a =>
      show thenR (hGet h a.1) _ = nload P t a h
      unfold nload
      rw [hGet_eq]
      cases h.get a.1 with
      | none => rfl
      | some o =>
        cases o with
        | cells cs m =>
          show thenR (aggT P t) _ = _
          simp only
          cases aggT P t with
          | none => rfl
          | some g =>
            show ifR g _ _ = _
            rw [ifR_eq]
            cases g with
            | true =>
              simp only [if_true]
              cases szOf P t with
              | none => rfl
              | some n =>
                show ifR (hasR cs (a.2 + n)) _ _ = _
                rw [ifR_eq, hasR_eq]
                simp only [decide_eq_true_eq]
            | false => exact nthR_eq cs a.2
        | map es => rfl
        | dead => rfl

/-- is it one cell? -/
noncomputable def plainR (u : NVal) : Bool :=
  NVal.rec (motive_1 := fun _ => Bool) (motive_2 := fun _ => Unit) (fun _ => true) (fun _ _ => true) (fun _ => true) (fun _ => true) (fun _ _ _ _ => true) (fun _ => true) (fun _ _ _ _ _ => false) false (fun _ _ _ => false) false (fun _ _ => false) (fun _ _ => false) false () (fun _ _ _ _ => ()) u
theorem plainR_eq {u : NVal} (h : plainR u = true) : u.cells = [u] ∧ allOne [u] = true := by
  cases u <;> first | exact ⟨rfl, rfl⟩ | cases h

noncomputable def storeR (P : Program) (h : NHeap) (t : TypeId) (x y : Option NVal) : Option (NVal × NHeap) :=
  thenR x fun u => thenR y fun v => ifR (plainR v)
    (thenR (asPtrR u) fun a => thenR (szOf P t) fun n => ifR (Nat.beq n 1) (thenR (hGet h a.1) fun o => thenR (asMineR o) fun p => ifR (hasR p.1 (Nat.succ a.2)) (forceH (hSet h a.1 (.cells (setR p.1 a.2 v) (.own p.2))) fun h' => some (nundef, h')) none) none)
    (forceP (kStore P h t x y))

theorem storeR_eq (P : Program) (h : NHeap) (t : TypeId) (x y : Option NVal) : storeR P h t x y = kStore P h t x y := by
  unfold storeR
  cases x with
  | none => rfl
  | some u =>
    cases y with
    | none =>
      show none = kStore P h t (some u) none
      unfold kStore
      cases u <;> try rfl
      rename_i a; cases a <;> rfl
    | some v =>
      show ifR (plainR v) _ _ = _
      rw [ifR_eq]
      split
      · rename_i hp
        obtain ⟨e1, e2⟩ := plainR_eq hp
        cases u <;> try rfl
        rename_i a
        cases a with
        | none => rfl
        | some a =>
          show thenR (szOf P t) _ = (match nstore P t a v h with | some h' => some (nundef, h') | none => none)
          unfold nstore
          cases szOf P t with
          | none => rfl
          | some n =>
            show ifR (Nat.beq n 1) _ _ = _
            rw [ifR_eq, nbeq, hGet_eq]
            simp only [decide_eq_true_eq]
            split
            · rename_i hn
              subst hn
              cases h.get a.1 with
              | none => rfl
              | some o =>
                cases o with
                | cells cs m =>
                  cases m with
                  | own t =>
                    show ifR (hasR cs (a.2 + 1)) _ _ = _
                    rw [ifR_eq, hasR_eq]
                    simp only [decide_eq_true_eq, e1, e2, List.length_singleton, true_and, and_true]
                    split
                    · rename_i hl
                      rw [setRange_one hl, setR_eq, hSet_eq, forceH_eq]
                    · rfl
                  | ro => rfl
                | map es => rfl
                | dead => rfl
            · rename_i hn
              cases h.get a.1 with
              | none => rfl
              | some o =>
                cases o with
                | cells cs m =>
                  cases m with
                  | own t =>
                    simp only [e1, List.length_singleton]
                    rw [if_neg (by omega)]
                  | ro => rfl
                | map es => rfl
                | dead => rfl
      · exact forceP_eq _

noncomputable def asIntR (u : NVal) : Option (IntKind × Int) :=
  NVal.rec (motive_1 := fun _ => Option (IntKind × Int)) (motive_2 := fun _ => Unit) (fun _ => none) (fun k n => some (k, n)) (fun _ => none) (fun _ => none) (fun _ _ _ _ => none) (fun _ => none) (fun _ _ _ _ _ => none) none (fun _ _ _ => none) none (fun _ _ => none) (fun _ _ => none) none () (fun _ _ _ _ => ()) u
theorem asIntR_some {u : NVal} {p : IntKind × Int} (h : asIntR u = some p) : u = .int p.1 p.2 := by
  cases u <;> first | (cases h; rfl) | cases h

noncomputable def kindEqR (k j : IntKind) : Bool := IntKind.rec (motive := fun _ => Bool) (IntKind.rec (motive := fun _ => Bool) true false false false false false false false j) (IntKind.rec (motive := fun _ => Bool) false true false false false false false false j) (IntKind.rec (motive := fun _ => Bool) false false true false false false false false j) (IntKind.rec (motive := fun _ => Bool) false false false true false false false false j) (IntKind.rec (motive := fun _ => Bool) false false false false true false false false j) (IntKind.rec (motive := fun _ => Bool) false false false false false true false false j) (IntKind.rec (motive := fun _ => Bool) false false false false false false true false j) (IntKind.rec (motive := fun _ => Bool) false false false false false false false true j) k
theorem kindEqR_eq (k j : IntKind) : kindEqR k j = decide (k = j) := by cases k <;> cases j <;> rfl
noncomputable def kmaxR (k : IntKind) : Nat := IntKind.rec (motive := fun _ => Nat) 127 32767 2147483647 9223372036854775807 255 65535 4294967295 18446744073709551615 k
noncomputable def wrapR (k : IntKind) (n : Int) : Int := Int.rec (motive := fun _ => Int) (fun m => ifR (Nat.ble m (kmaxR k)) (Int.ofNat m) (k.wrap (Int.ofNat m))) (fun m => k.wrap (Int.negSucc m)) n
theorem wrapR_eq (k : IntKind) (n : Int) : wrapR k n = k.wrap n := by
  cases n with
  | ofNat m =>
    show ifR (Nat.ble m (kmaxR k)) _ _ = _
    rw [ifR_eq, nble]
    simp only [decide_eq_true_eq]
    split
    · rename_i h
      cases k
      case i8 =>
        have hk : m ≤ 127 := h
        simp only [IntKind.wrap, IntKind.signed, IntKind.bits, Int.ofNat_eq_natCast, Bool.true_and, Bool.false_and, Bool.false_eq_true, if_false, decide_eq_true_eq]
        split <;> rename_i q <;> simp at q <;> omega
      case i16 =>
        have hk : m ≤ 32767 := h
        simp only [IntKind.wrap, IntKind.signed, IntKind.bits, Int.ofNat_eq_natCast, Bool.true_and, Bool.false_and, Bool.false_eq_true, if_false, decide_eq_true_eq]
        split <;> rename_i q <;> simp at q <;> omega
      case i32 =>
        have hk : m ≤ 2147483647 := h
        simp only [IntKind.wrap, IntKind.signed, IntKind.bits, Int.ofNat_eq_natCast, Bool.true_and, Bool.false_and, Bool.false_eq_true, if_false, decide_eq_true_eq]
        split <;> rename_i q <;> simp at q <;> omega
      case i64 =>
        have hk : m ≤ 9223372036854775807 := h
        simp only [IntKind.wrap, IntKind.signed, IntKind.bits, Int.ofNat_eq_natCast, Bool.true_and, Bool.false_and, Bool.false_eq_true, if_false, decide_eq_true_eq]
        split <;> rename_i q <;> simp at q <;> omega
      case u8 =>
        have hk : m ≤ 255 := h
        simp only [IntKind.wrap, IntKind.signed, IntKind.bits, Int.ofNat_eq_natCast, Bool.true_and, Bool.false_and, Bool.false_eq_true, if_false, decide_eq_true_eq]
        omega
      case u16 =>
        have hk : m ≤ 65535 := h
        simp only [IntKind.wrap, IntKind.signed, IntKind.bits, Int.ofNat_eq_natCast, Bool.true_and, Bool.false_and, Bool.false_eq_true, if_false, decide_eq_true_eq]
        omega
      case u32 =>
        have hk : m ≤ 4294967295 := h
        simp only [IntKind.wrap, IntKind.signed, IntKind.bits, Int.ofNat_eq_natCast, Bool.true_and, Bool.false_and, Bool.false_eq_true, if_false, decide_eq_true_eq]
        omega
      case u64 =>
        have hk : m ≤ 18446744073709551615 := h
        simp only [IntKind.wrap, IntKind.signed, IntKind.bits, Int.ofNat_eq_natCast, Bool.true_and, Bool.false_and, Bool.false_eq_true, if_false, decide_eq_true_eq]
        omega
    · rfl
  | negSucc m => rfl
noncomputable def addR (x y : Int) : Int := Int.rec (motive := fun _ => Int) (fun m => Int.rec (motive := fun _ => Int) (fun n => Int.ofNat (Nat.add m n)) (fun _ => x + y) y) (fun _ => x + y) x
theorem addR_eq (x y : Int) : addR x y = x + y := by cases x <;> cases y <;> rfl
noncomputable def subR (x y : Int) : Int := Int.rec (motive := fun _ => Int) (fun m => Int.rec (motive := fun _ => Int) (fun n => ifR (Nat.ble n m) (Int.ofNat (Nat.sub m n)) (x - y)) (fun _ => x - y) y) (fun _ => x - y) x
theorem subR_eq (x y : Int) : subR x y = x - y := by
  cases x with
  | ofNat m => cases y with
    | ofNat n =>
      show ifR (Nat.ble n m) (Int.ofNat (m - n)) _ = _
      rw [ifR_eq, nble]
      simp only [decide_eq_true_eq]
      split
      · rename_i h; simp only [Int.ofNat_eq_natCast]; omega
      · rfl
    | negSucc n => rfl
  | negSucc m => rfl
noncomputable def mulR (x y : Int) : Int := Int.rec (motive := fun _ => Int) (fun m => Int.rec (motive := fun _ => Int) (fun n => Int.ofNat (Nat.mul m n)) (fun _ => x * y) y) (fun _ => x * y) x
theorem mulR_eq (x y : Int) : mulR x y = x * y := by cases x <;> cases y <;> rfl
noncomputable def eqR (x y : Int) : Bool := Int.rec (motive := fun _ => Bool) (fun m => Int.rec (motive := fun _ => Bool) (fun n => Nat.beq m n) (fun _ => false) y) (fun m => Int.rec (motive := fun _ => Bool) (fun _ => false) (fun n => Nat.beq m n) y) x
theorem eqR_eq (x y : Int) : eqR x y = (x == y) := by
  cases x with
  | ofNat m => cases y with
    | ofNat n =>
      show Nat.beq m n = _
      rw [nbeq]
      by_cases h : m = n
      · simp [h]
      · simp only [h, decide_false]; symm; rw [beq_eq_false_iff_ne]; intro q; injection q with q; exact h q
    | negSucc n => show false = _; symm; rw [beq_eq_false_iff_ne]; intro h; cases h
  | negSucc m => cases y with
    | ofNat n => show false = _; symm; rw [beq_eq_false_iff_ne]; intro h; cases h
    | negSucc n =>
      show Nat.beq m n = _
      rw [nbeq]
      by_cases h : m = n
      · simp [h]
      · simp only [h, decide_false]; symm; rw [beq_eq_false_iff_ne]; intro q; injection q with q; exact h q
noncomputable def ltR (x y : Int) : Bool := Int.rec (motive := fun _ => Bool) (fun m => Int.rec (motive := fun _ => Bool) (fun n => Nat.ble (Nat.succ m) n) (fun _ => false) y) (fun m => Int.rec (motive := fun _ => Bool) (fun _ => true) (fun n => Nat.ble (Nat.succ n) m) y) x
theorem ltR_eq (x y : Int) : ltR x y = decide (x < y) := by
  cases x with
  | ofNat m => cases y with
    | ofNat n => show Nat.ble (m + 1) n = _; rw [nble]; congr 1; simp only [Int.ofNat_eq_natCast, eq_iff_iff]; omega
    | negSucc n => show false = _; symm; simp only [Int.ofNat_eq_natCast, decide_eq_false_iff_not]; omega
  | negSucc m => cases y with
    | ofNat n => show true = _; symm; simp only [Int.ofNat_eq_natCast, decide_eq_true_eq]; omega
    | negSucc n => show Nat.ble (n + 1) m = _; rw [nble]; congr 1; simp only [eq_iff_iff]; omega
noncomputable def leR (x y : Int) : Bool := Int.rec (motive := fun _ => Bool) (fun m => Int.rec (motive := fun _ => Bool) (fun n => Nat.ble m n) (fun _ => false) y) (fun m => Int.rec (motive := fun _ => Bool) (fun _ => true) (fun n => Nat.ble n m) y) x
theorem leR_eq (x y : Int) : leR x y = decide (x ≤ y) := by
  cases x with
  | ofNat m => cases y with
    | ofNat n => show Nat.ble m n = _; rw [nble]; congr 1; simp only [Int.ofNat_eq_natCast, eq_iff_iff]; omega
    | negSucc n => show false = _; symm; simp only [Int.ofNat_eq_natCast, decide_eq_false_iff_not]; omega
  | negSucc m => cases y with
    | ofNat n => show true = _; symm; simp only [Int.ofNat_eq_natCast, decide_eq_true_eq]; omega
    | negSucc n => show Nat.ble n m = _; rw [nble]; congr 1; simp only [eq_iff_iff]; omega

/-- of two numbers of one kind -/
noncomputable def intsR (g : IntKind → Int → Int → Option NVal) (u v : NVal) (els : Option NVal) : Option NVal :=
  Option.rec (motive := fun _ => Option NVal) els (fun p => Option.rec (motive := fun _ => Option NVal) els (fun q => ifR (kindEqR p.1 q.1) (g p.1 p.2 q.2) none) (asIntR v)) (asIntR u)

theorem intsR_eq (P : Program) (op : BinOp) (t : TypeId) (g : IntKind → Int → Int → Option NVal) (hop : op ≠ .shl) (hop' : op ≠ .shr) (hg : ∀ k x y, g k x y = nIntOp op k x y) (u v : NVal) : intsR g u v (nbin P op t u v) = nbin P op t u v := by
  unfold intsR
  cases hu : asIntR u with
  | none => rfl
  | some p =>
    cases hv : asIntR v with
    | none => rfl
    | some q =>
      show ifR (kindEqR p.1 q.1) (g p.1 p.2 q.2) none = _
      rw [ifR_eq, kindEqR_eq, asIntR_some hu, asIntR_some hv, hg]
      simp only [decide_eq_true_eq]
      cases op <;> first | rfl | exact absurd rfl hop | exact absurd rfl hop'

noncomputable def binR (op : BinOp) : Program → TypeId → Option NVal → Option NVal → Option NVal := BinOp.rec (motive := fun _ => Program → TypeId → Option NVal → Option NVal → Option NVal)
  (fun P t a b => thenR a fun u => thenR b fun v => intsR (fun k x y => some (.int k (wrapR k (addR x y)))) u v (nbin P .add t u v))
  (fun P t a b => thenR a fun u => thenR b fun v => intsR (fun k x y => some (.int k (wrapR k (subR x y)))) u v (nbin P .sub t u v))
  (fun P t a b => thenR a fun u => thenR b fun v => intsR (fun k x y => some (.int k (wrapR k (mulR x y)))) u v (nbin P .mul t u v))
  (fun P t a b => thenR a fun u => thenR b fun v => nbin P .quo t u v)
  (fun P t a b => thenR a fun u => thenR b fun v => nbin P .rem t u v)
  (fun P t a b => thenR a fun u => thenR b fun v => nbin P .and t u v)
  (fun P t a b => thenR a fun u => thenR b fun v => nbin P .or t u v)
  (fun P t a b => thenR a fun u => thenR b fun v => nbin P .xor t u v)
  (fun P t a b => thenR a fun u => thenR b fun v => nbin P .shl t u v)
  (fun P t a b => thenR a fun u => thenR b fun v => nbin P .shr t u v)
  (fun P t a b => thenR a fun u => thenR b fun v => nbin P .andNot t u v)
  (fun P t a b => thenR a fun u => thenR b fun v => intsR (fun _ x y => some (.bool (eqR x y))) u v (nbin P .eql t u v))
  (fun P t a b => thenR a fun u => thenR b fun v => intsR (fun _ x y => some (.bool (Bool.rec (motive := fun _ => Bool) true false (eqR x y)))) u v (nbin P .neq t u v))
  (fun P t a b => thenR a fun u => thenR b fun v => intsR (fun _ x y => some (.bool (ltR x y))) u v (nbin P .lss t u v))
  (fun P t a b => thenR a fun u => thenR b fun v => intsR (fun _ x y => some (.bool (leR x y))) u v (nbin P .leq t u v))
  (fun P t a b => thenR a fun u => thenR b fun v => intsR (fun _ x y => some (.bool (ltR y x))) u v (nbin P .gtr t u v))
  (fun P t a b => thenR a fun u => thenR b fun v => intsR (fun _ x y => some (.bool (leR y x))) u v (nbin P .geq t u v)) op

theorem binR_eq (op : BinOp) (P : Program) (t : TypeId) (a b : Option NVal) : binR op P t a b = bind2 a b (nbin P op t) := by
  cases a with
  | none => cases op <;> rfl
  | some u =>
    cases b with
    | none => cases op <;> rfl
    | some v =>
      have neg : ∀ x : Bool, Bool.rec (motive := fun _ => Bool) true false x = !x := fun x => by cases x <;> rfl
      show _ = nbin P op t u v
      cases op
      case add => exact intsR_eq P .add t (fun k x y => some (.int k (wrapR k (addR x y)))) (by decide) (by decide) (fun k x y => by simp only [wrapR_eq, addR_eq, nIntOp]) u v
      case sub => exact intsR_eq P .sub t (fun k x y => some (.int k (wrapR k (subR x y)))) (by decide) (by decide) (fun k x y => by simp only [wrapR_eq, subR_eq, nIntOp]) u v
      case mul => exact intsR_eq P .mul t (fun k x y => some (.int k (wrapR k (mulR x y)))) (by decide) (by decide) (fun k x y => by simp only [wrapR_eq, mulR_eq, nIntOp]) u v
      case eql => exact intsR_eq P .eql t (fun _ x y => some (.bool (eqR x y))) (by decide) (by decide) (fun k x y => by simp only [eqR_eq, nIntOp]) u v
      case neq => exact intsR_eq P .neq t (fun _ x y => some (.bool (Bool.rec (motive := fun _ => Bool) true false (eqR x y)))) (by decide) (by decide) (fun k x y => by rw [neg, eqR_eq]; rfl) u v
      case lss => exact intsR_eq P .lss t (fun _ x y => some (.bool (ltR x y))) (by decide) (by decide) (fun k x y => by simp only [ltR_eq, nIntOp]) u v
      case leq => exact intsR_eq P .leq t (fun _ x y => some (.bool (leR x y))) (by decide) (by decide) (fun k x y => by simp only [leR_eq, nIntOp]) u v
      case gtr => exact intsR_eq P .gtr t (fun _ x y => some (.bool (ltR y x))) (by decide) (by decide) (fun k x y => by simp only [ltR_eq, nIntOp]) u v
      case geq => exact intsR_eq P .geq t (fun _ x y => some (.bool (leR y x))) (by decide) (by decide) (fun k x y => by simp only [leR_eq, nIntOp]) u v
      all_goals rfl

noncomputable def withR (r : Option NVal) (h : NHeap) : Option (NVal × NHeap) := Option.rec (motive := fun _ => Option (NVal × NHeap)) none (fun v => some (v, h)) r
theorem withR_eq (r : Option NVal) (h : NHeap) : withR r h = withH r h := by cases r <;> rfl

noncomputable def builtR (c : Call) (P : Program) (ρ : Rho) (h : NHeap) : Option (NVal × NHeap) := orElseH (pureC c.callee P ρ c.args c.argTypes) h fun _ => orElseH (readC c.callee P ρ h c.args c.argTypes) h fun _ => forceP (effOp P ρ h (.call c))
noncomputable def callR (c : Call) (P : Program) (F : CallF) (ρ : Rho) (h : NHeap) : Option (NVal × NHeap) :=
  Callee.rec (motive := fun _ => Option (NVal × NHeap)) (fun _ => callK (ncall P ρ h c) F h) (fun _ _ => callK (ncall P ρ h c) F h) (fun _ => builtR c P ρ h) c.callee

noncomputable def doR (op : Op) : Program → CallF → Rho → NHeap → Option (NVal × NHeap) := Op.rec (motive := fun _ => Program → CallF → Rho → NHeap → Option (NVal × NHeap))
  (fun x => fun P F ρ h => withR (ρ x) h)
  (fun x => fun P F ρ h => withR (ρ x) h)
  (fun c a b => fun P F ρ h => withR (kPick (ρ c) (ρ a) (ρ b)) h)
  (fun t => fun P F ρ h => allocR (kAllocT P t) h)
  (fun t x => fun P F ρ h => allocR (kBox (ρ x)) h)
  (fun t parts => fun P F ρ h => withR (kBuild P t (evParts ρ parts.toList)) h)
  (fun t len parts => fun P F ρ h => allocR (newOp P ρ (.buildSlice t len parts)) h)
  (fun t m k v => fun P F ρ h => forceP (effOp P ρ h (.insert t m k v)))
  (fun t x => fun P F ρ h => withR (loadR P h t (ρ x)) h)
  (fun t x y => fun P F ρ h => storeR P h t (ρ x) (ρ y))
  (fun _ => fun _ _ _ _ => none)
  (fun _ => fun _ _ _ _ => none)
  (fun x => fun P F ρ h => withR (kNil (ρ x)) h)
  (fun op t x y p => fun P F ρ h => withR (binR op P t (ρ x) (ρ y)) h)
  (fun op t x => fun P F ρ h => withR (bind1 (ρ x) (nun op)) h)
  (fun s d x => fun P F ρ h => orElseH (bind1 (ρ x) (nconv P s d)) h fun _ => orElseH (kStr P h s d (ρ x)) h fun _ => forceP (effOp P ρ h (.convert s d x)))
  (fun _ _ => fun _ _ _ _ => none)
  (fun t x => fun P F ρ h => withR (kIface P t (ρ x)) h)
  (fun fn first captured => fun P F ρ h => withR (kFunc fn (evs ρ first.toList) (evs ρ captured.toList)) h)
  (fun t r => fun P F ρ h => allocR (newOp P ρ (.makeMap t r)) h)
  (fun _ _ => fun _ _ _ _ => none)
  (fun t l c => fun P F ρ h => allocR (newOp P ρ (.makeSlice t l c)) h)
  (fun t x lo hi mx => fun P F ρ h => withR (kSlice P t (evOpt ρ mx) (ρ x) (evOpt ρ lo) (evOpt ρ hi)) h)
  (fun t x f => fun P F ρ h => withR (bind1 (ρ x) fun u => nfieldAddr P t u f) h)
  (fun t x f => fun P F ρ h => withR (bind1 (ρ x) fun u => nfield P t u f) h)
  (fun t x ix => fun P F ρ h => withR (bind2 (ρ x) (ρ ix) (nindexAddr P t)) h)
  (fun t x ix => fun P F ρ h => withR (bind2 (ρ x) (ρ ix) (nindex P t)) h)
  (fun t m k ok => fun P F ρ h => withR (bind2 (ρ m) (ρ k) fun u v => nlookup P t u v ok h) h)
  (fun t m k v => fun P F ρ h => forceP (effOp P ρ h (.mapUpdate t m k v)))
  (fun _ _ _ => fun _ _ _ _ => none)
  (fun _ _ _ _ => fun _ _ _ _ => none)
  (fun _ _ => fun _ _ _ _ => none)
  (fun _ _ => fun _ _ _ _ => none)
  (fun _ => fun _ _ _ _ => none)
  (fun x t d ok => fun P F ρ h => withR (bind1 (ρ x) fun u => nassert P u d ok) h)
  (fun x i => fun P F ρ h => withR (kExtract (ρ x) i) h)
  (fun c => fun P F ρ h => callR c P F ρ h)
  (fun _ => fun _ _ _ _ => none)
  (fun _ => fun _ _ _ _ => none)
  (fun _ => fun _ _ _ _ => none)
  (fun _ _ => fun _ _ _ _ => none)
  (fun _ _ _ => fun _ _ _ _ => none)
  (fun _ _ => fun _ _ _ _ => none) op

theorem doR_eq (op : Op) (P : Program) (F : CallF) (ρ : Rho) (h : NHeap) : doR op P F ρ h = doK P F ρ op h := by
  cases op
  case binOp op t x y p =>
    show withR (binR op P t (ρ x) (ρ y)) h = withH (bind2 (ρ x) (ρ y) (nbin P op t)) h
    rw [withR_eq, binR_eq]
  case load t x =>
    show withR (loadR P h t (ρ x)) h = withH (kLoad P h t (ρ x)) h
    rw [withR_eq, loadR_eq]
  case store t x y => exact storeR_eq P h t (ρ x) (ρ y)
  case call c =>
    obtain ⟨callee, args, argTypes⟩ := c
    cases callee with
    | builtin b =>
      show builtR _ P ρ h = _
      unfold builtR
      simp only [forceP_eq]
      rfl
    | value f => rfl
    | invoke r n => rfl
  case convert s d x =>
    show orElseH (bind1 (ρ x) (nconv P s d)) h (fun _ => orElseH (kStr P h s d (ρ x)) h fun _ => forceP (effOp P ρ h (.convert s d x))) = _
    simp only [forceP_eq]
    rfl
  all_goals first | rfl | exact withR_eq _ _ | exact allocR_eq _ _ | exact forceP_eq _
end Go.Proofs.Ytblhpikljhholaa.NICE
