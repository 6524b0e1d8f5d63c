/- What an operation of the code does over a heap of numbered blocks. -/
import Derived.Test.YtblhpikljhholaaNice1
set_option linter.unusedVariables false
set_option linter.unusedSimpArgs false
namespace Go.Proofs.Ytblhpikljhholaa.NICE
open Go Go.RowKit

/-! ### Constants -/

def ofVals (g : Value → Option NVal) : List Value → Option (List NVal)
  | [] => some []
  | v :: l => match g v with
    | none => none
    | some x => match ofVals g l with
      | none => none
      | some y => some (x :: y)

def ofVal : Nat → Value → Option NVal
  | _, .bool b => some (.bool b)
  | _, .int k n => some (.int k n)
  | _, .string s => some (.str s.data.toList)
  | _, .pointer none => some (.ptr none)
  | _, .slice none 0 0 => some (.slice none 0 0 none)
  | _, .map none => some (.map none)
  | _, .nilFunc => some .nilFunc
  | _, .nilIface => some .nilIface
  | f + 1, .agg cs => (ofVals (ofVal f) cs.toList).map .agg
  | f + 1, .tuple cs => (ofVals (ofVal f) cs.toList).map .tuple
  | f + 1, .iface t v => (ofVal f v).map (.iface t)
  | _, _ => none

def ev (ts : List NVal) : Operand → Option NVal
  | .tmp t => some (ts.getD t nundef)
  | .const v => ofVal 4 v
  | .global _ => none
  | .func f => some (.func (.func f) [] [])

/-! ### Types -/

def szOf (P : Program) (t : TypeId) : Option Nat := match P.info? t with | some i => some i.size | none => none
def bytesOf (P : Program) (t : TypeId) : Option Nat := match P.info? t with | some i => some i.bytes | none => none
def zeroOf (P : Program) (t : TypeId) : Option NVal := match P.info? t with
  | some i => (match i.zero with | some z => ofVal 4 z | none => none)
  | none => none
def aggT (P : Program) (t : TypeId) : Option Bool := match P.underlying t with
  | some (.struct _) => some true
  | some (.array _ _) => some true
  | some _ => some false
  | none => none

def npart (P : Program) (t : TypeId) (cs : List NVal) (off : Nat) : Option NVal :=
  match aggT P t with
  | some true => (match szOf P t with | some n => some (.agg ((cs.drop off).take n)) | none => none)
  | some false => cs[off]?
  | none => none

def setRange (cs : List NVal) (off : Nat) (vs : List NVal) : List NVal := cs.take off ++ vs ++ cs.drop (off + vs.length)

def nfill (place : Nat → Option (Nat × Nat)) (cs : List NVal) : List (Nat × NVal) → Option (List NVal)
  | [] => some cs
  | (i, v) :: rest => match place i with
    | none => none
    | some (off, size) => if v.cells.length ≠ size ∨ off + v.cells.length > cs.length then none else nfill place (setRange cs off v.cells) rest

def evs (ρ : Operand → Option NVal) : List Operand → Option (List NVal)
  | [] => some []
  | x :: l => match ρ x with
    | none => none
    | some v => match evs ρ l with
      | none => none
      | some r => some (v :: r)

def evParts (ρ : Operand → Option NVal) : List (Nat × Operand) → Option (List (Nat × NVal))
  | [] => some []
  | (i, x) :: l => match ρ x with
    | none => none
    | some v => match evParts ρ l with
      | none => none
      | some r => some ((i, v) :: r)

def fieldPlaces (P : Program) : List Field → Option (List (Nat × Nat))
  | [] => some []
  | f :: l => match szOf P f.type with
    | none => none
    | some n => match fieldPlaces P l with
      | none => none
      | some r => some ((f.offset, n) :: r)

/-! ### Operators -/

def nIntOp (op : BinOp) (k : IntKind) (a b : Int) : Option NVal :=
  match op with
  | .add => some (.int k (k.wrap (a + b)))
  | .sub => some (.int k (k.wrap (a - b)))
  | .mul => some (.int k (k.wrap (a * b)))
  | .quo => if b = 0 then none else some (.int k (k.wrap (a.tdiv b)))
  | .rem => if b = 0 then none else some (.int k (a.tmod b))
  | .and => some (.int k (k.wrap (BitVec.ofInt k.bits a &&& BitVec.ofInt k.bits b).toNat))
  | .or => some (.int k (k.wrap (BitVec.ofInt k.bits a ||| BitVec.ofInt k.bits b).toNat))
  | .xor => some (.int k (k.wrap (BitVec.ofInt k.bits a ^^^ BitVec.ofInt k.bits b).toNat))
  | .andNot => some (.int k (k.wrap (BitVec.ofInt k.bits a &&& ~~~BitVec.ofInt k.bits b).toNat))
  | .eql => some (.bool (a == b))
  | .neq => some (.bool (a != b))
  | .lss => some (.bool (a < b))
  | .leq => some (.bool (a ≤ b))
  | .gtr => some (.bool (a > b))
  | .geq => some (.bool (a ≥ b))
  | _ => none

def nShift (op : BinOp) (k : IntKind) (a b : Int) : Option NVal :=
  if b < 0 then none else
  match op with
  | .shl => some (.int k (k.wrap (a * 2 ^ (min b.toNat k.bits))))
  | .shr => some (.int k (a.fdiv (2 ^ (min b.toNat k.bits))))
  | _ => none

def nStrOp (op : BinOp) (x y : List UInt8) : Option NVal :=
  match op with
  | .add => if ((x.length + y.length : Nat) : Int) > 9223372036854775807 then none else some (.str (x ++ y))
  | .eql => some (.bool (x == y))
  | .neq => some (.bool !(x == y))
  | .lss => some (.bool (Op.bytesLess x y))
  | .leq => some (.bool (Op.bytesLess x y || x == y))
  | .gtr => some (.bool !(Op.bytesLess x y || x == y))
  | .geq => some (.bool !(Op.bytesLess x y))
  | _ => none

def nilP : NVal → Option Bool | .ptr none => some true | .ptr (some _) => some false | _ => none
def nilS : NVal → Option Bool | .slice none _ _ _ => some true | .slice (some _) _ _ _ => some false | _ => none
def nilF : NVal → Option Bool | .nilFunc => some true | .func _ _ _ => some false | _ => none
def nilI : NVal → Option Bool | .nilIface => some true | .iface _ _ => some false | _ => none

def neqFields (P : Program) (eq : TypeId → NVal → NVal → Option Bool) (xs ys : List NVal) : List Field → Option Bool
  | [] => some true
  | f :: fs =>
    if f.name = "_" then neqFields P eq xs ys fs else
    match npart P f.type xs f.offset with
    | none => none
    | some u => match npart P f.type ys f.offset with
      | none => none
      | some v => match eq f.type u v with
        | none => none
        | some false => some false
        | some true => neqFields P eq xs ys fs

def neq (P : Program) : Nat → TypeId → NVal → NVal → Option Bool
  | 0, _, _, _ => none
  | d + 1, t, x, y =>
    match P.underlying t with
    | some .bool => (match x, y with | .bool a, .bool b => some (a == b) | _, _ => none)
    | some (.int _) => (match x, y with | .int k a, .int k' b => if k = k' then some (a == b) else none | _, _ => none)
    | some .string => (match x, y with | .str a, .str b => some (a == b) | _, _ => none)
    | some (.pointer _) => (match nilP x, nilP y with | some true, some c => some c | some false, some true => some false | _, _ => none)
    | some (.slice _) => (match nilS x, nilS y with | some true, some c => some c | some false, some true => some false | _, _ => none)
    | some (.func _ _ _) => (match nilF x, nilF y with | some true, some c => some c | some false, some true => some false | _, _ => none)
    | some (.interface _) => (match nilI x, nilI y with | some true, some false => some false | some false, some true => some false | _, _ => none)
    | some (.struct fs) => (match x, y with
      | .agg xs, .agg ys => if P.stoodInHeld t ∨ P.eqGuardType P.depth t then none else neqFields P (neq P d) xs ys fs.toList
      | _, _ => none)
    | _ => none

/-- one address twice -/
def nsame (P : Program) (t : TypeId) (x y : NVal) (b : Bool) : Option NVal :=
  match P.underlying t, x, y with
  | some (.pointer e), .ptr (some a), .ptr (some c) => (match P.info? e with | some _ => if a = c then some (.bool b) else none | none => none)
  | _, _, _ => none

def nbin (P : Program) (op : BinOp) (t : TypeId) (x y : NVal) : Option NVal :=
  match x, y with
  | .int k a, .int k' b => (match op with
    | .shl => nShift .shl k a b
    | .shr => nShift .shr k a b
    | _ => if k = k' then nIntOp op k a b else none)
  | .str a, .str b => nStrOp op a b
  | x, y => (match op with
    | .eql => (match neq P 6 t x y with | some b => some (.bool b) | none => nsame P t x y true)
    | .neq => (match neq P 6 t x y with | some b => some (.bool !b) | none => nsame P t x y false)
    | _ => none)

def nun (op : UnOp) (x : NVal) : Option NVal :=
  match op, x with
  | .not, .bool b => some (.bool !b)
  | .neg, .int k n => some (.int k (k.wrap (0 - n)))
  | _, _ => none

def nconv (P : Program) (src dst : TypeId) (x : NVal) : Option NVal :=
  match P.underlying src, P.underlying dst, x with
  | some _, some (.int k), .int _ n => some (.int k (k.wrap n))
  | some _, some .string, .str s => some (.str s)
  | _, _, _ => none

/-! ### Slices -/

def nbound (y : Nat) : Option NVal → Nat → Option Nat
  | none, d => some d
  | some (.int _ i), _ => if 0 ≤ i ∧ i ≤ (y : Int) then some i.toNat else none
  | some _, _ => none

def evOpt (ρ : Operand → Option NVal) : Option Operand → Option (Option NVal)
  | none => some none
  | some x => match ρ x with | none => none | some v => some (some v)

def nslice (P : Program) (t : TypeId) (x : NVal) (lo hi : Option NVal) : Option NVal :=
  match P.underlying t, x with
  | some .string, .str s => (match nbound s.length hi s.length with
    | none => none
    | some h => match nbound h lo 0 with
      | none => none
      | some l => some (.str ((s.drop l).take (h - l))))
  | some (.slice e), .slice a len cap x => (match nbound cap hi len with
    | none => none
    | some h => match nbound h lo 0 with
      | none => none
      | some l => match szOf P e with
        | none => none
        | some sz => match a with
          | none => some (.slice none 0 0 none)
          | some (b, o) => match x with
            | none => some (.slice (some (b, if cap = l then o else o + l * sz)) (h - l) (cap - l) none)
            | some z => if z = sz then
                (if l < max cap len then some (.slice (some (b, o + l * sz)) (h - l) (cap - l) (some z))
                else some (.slice (some (b, o + l * sz)) 0 0 (some z))) else none)
  | some (.array n e), .ptr (some (b, o)) => (match nbound n hi n with
    | none => none
    | some h => match nbound h lo 0 with
      | none => none
      | some l => match szOf P e with
        | none => none
        | some sz => some (.slice (some (b, if n = l then o else o + l * sz)) (h - l) (n - l) none))
  | _, _ => none

/-- a full slice expression -/
def nslice3 (P : Program) (t : TypeId) (x lo hi mx : NVal) : Option NVal :=
  match P.underlying t, x, lo, hi, mx with
  | some (.slice e), .slice (some (b, o)) len cap _, .int _ l, .int _ h, .int _ m => (match szOf P e with
    | some sz => if 0 ≤ l ∧ l ≤ h ∧ h ≤ m ∧ m ≤ (max cap len : Nat) ∧ 0 < max cap len then
        some (.slice (some (b, if m = l then o else o + l.toNat * sz)) (h - l).toNat (m - l).toNat none) else none
    | none => none)
  | _, _, _, _, _ => none

def nindexAddr (P : Program) (t : TypeId) (x ix : NVal) : Option NVal :=
  match ix with
  | .int _ i => (match P.underlying t, x with
    | some (.slice e), .slice (some (b, o)) len _ _ => (match szOf P e with
      | some sz => if 0 ≤ i ∧ i < (len : Int) then some (.ptr (some (b, o + i.toNat * sz))) else none
      | none => none)
    | some (.array n e), .ptr (some (b, o)) => (match szOf P e with
      | some sz => if 0 ≤ i ∧ i < (n : Int) then some (.ptr (some (b, o + i.toNat * sz))) else none
      | none => none)
    | _, _ => none)
  | _ => none

def nindex (P : Program) (t : TypeId) (x ix : NVal) : Option NVal :=
  match ix with
  | .int _ i => (match P.underlying t, x with
    | some .string, .str s => if 0 ≤ i then (match s[i.toNat]? with | some b => some (.int .u8 b.toNat) | none => none) else none
    | some (.array n e), .agg cs => (match szOf P e with
      | some sz => if 0 ≤ i ∧ i < (n : Int) then npart P e cs (i.toNat * sz) else none
      | none => none)
    | _, _ => none)
  | _ => none

def nfieldAddr (P : Program) (s : TypeId) (x : NVal) (f : Nat) : Option NVal :=
  match P.underlying s, x with
  | some (.struct fs), .ptr (some (b, o)) => (match fs[f]? with
    | some fd => (match szOf P fd.type with
      | some n => if n = 0 then none else some (.ptr (some (b, o + fd.offset)))
      | none => none)
    | none => none)
  | _, _ => none

def nfield (P : Program) (t : TypeId) (x : NVal) (f : Nat) : Option NVal :=
  match P.underlying t, x with
  | some (.struct fs), .agg cs => (match fs[f]? with | some fd => npart P fd.type cs fd.offset | none => none)
  | _, _ => none

def nbuild (P : Program) (t : TypeId) (parts : List (Nat × NVal)) : Option NVal :=
  match zeroOf P t with
  | none => none
  | some z => match P.underlying t with
    | some (.struct fs) => (match fieldPlaces P fs.toList with
      | none => none
      | some ps => match nfill (fun i => ps[i]?) z.cells parts with
        | none => none
        | some cs => some (.agg cs))
    | some (.array _ e) => (match szOf P e with
      | none => none
      | some n => match nfill (fun i => some (i * n, n)) z.cells parts with
        | none => none
        | some cs => some (.agg cs))
    | _ => none

def nassert' (P : Program) (x : NVal) (d : TypeId) (ok : Bool) : Option NVal :=
  match x with
  | .iface t v => if t = d then some (if ok then .tuple [v, .bool true] else v)
      else if ok then (match zeroOf P d with | some z => some (.tuple [z, .bool false]) | none => none) else none
  | .nilIface => if ok then (match zeroOf P d with | some z => some (.tuple [z, .bool false]) | none => none) else none
  | _ => none
def nassert (P : Program) (x : NVal) (asserted : TypeId) (ok : Bool) : Option NVal :=
  match P.underlying asserted with
  | some (.interface _) => none
  | some _ => nassert' P x asserted ok
  | none => none

def nmin : NVal → List NVal → Option NVal
  | v, [] => some v
  | .int k a, .int _ b :: l => nmin (.int k (if b < a then b else a)) l
  | _, _ => none
def nmax : NVal → List NVal → Option NVal
  | v, [] => some v
  | .int k a, .int _ b :: l => nmax (.int k (if b > a then b else a)) l
  | _, _ => none

/-- operations that need no memory -/
def pureOp (P : Program) (ρ : Operand → Option NVal) : Op → Option NVal
  | .move x => ρ x
  | .assign x => ρ x
  | .pick c a b => (match ρ c, ρ a, ρ b with | some (.bool t), some u, some v => some (if t then u else v) | _, _, _ => none)
  | .build t parts => (match evParts ρ parts.toList with | some ps => nbuild P t ps | none => none)
  | .nilCheck x => (match ρ x with
    | some (.ptr (some a)) => some (.ptr (some a))
    | some (.func (.func f) a b) => some (.func (.func f) a b)
    | _ => none)
  | .binOp op t x y _ => (match ρ x, ρ y with | some u, some v => nbin P op t u v | _, _ => none)
  | .unOp op _ x => (match ρ x with | some u => nun op u | none => none)
  | .convert s d x => (match ρ x with | some u => nconv P s d u | none => none)
  | .makeInterface t x => (match ρ x, P.underlying t with
    | some u, some (.interface _) => none
    | some u, some _ => some (.iface t u)
    | _, _ => none)
  | .makeFunc fn first captured => (match evs ρ first.toList, evs ρ captured.toList with | some a, some b => some (.func fn a b) | _, _ => none)
  | .slice t x lo hi mx => (match evOpt ρ mx, ρ x, evOpt ρ lo, evOpt ρ hi with | some none, some u, some l, some h => nslice P t u l h | some (some m), some u, some (some l), some (some h) => nslice3 P t u l h m | _, _, _, _ => none)
  | .fieldAddr s x f => (match ρ x with | some u => nfieldAddr P s u f | none => none)
  | .field t x f => (match ρ x with | some u => nfield P t u f | none => none)
  | .indexAddr t x ix => (match ρ x, ρ ix with | some u, some i => nindexAddr P t u i | _, _ => none)
  | .index t x ix => (match ρ x, ρ ix with | some u, some i => nindex P t u i | _, _ => none)
  | .extract x i => (match ρ x with | some (.tuple vs) => vs[i]? | _ => none)
  | .typeAssert x _ d ok => (match ρ x with | some u => nassert P u d ok | none => none)
  | .call { callee := .builtin .len, args, argTypes } => (match args.toList, argTypes.toList with
    | [x], t :: _ => (match ρ x, P.underlying t with
      | some (.str s), some .string => some (.int .i64 s.length)
      | some (.slice _ n _ _), some (.slice _) => some (.int .i64 n)
      | _, _ => none)
    | _, _ => none)
  | .call { callee := .builtin .cap, args, argTypes } => (match args.toList, argTypes.toList with
    | [x], t :: _ => (match ρ x, P.underlying t with
      | some (.slice _ _ c none), some (.slice _) => some (.int .i64 c)
      | _, _ => none)
    | _, _ => none)
  | .call { callee := .builtin .min, args, .. } => (match evs ρ args.toList with | some (v :: l) => (match v with | .int _ _ => nmin v l | _ => none) | _ => none)
  | .call { callee := .builtin .max, args, .. } => (match evs ρ args.toList with | some (v :: l) => (match v with | .int _ _ => nmax v l | _ => none) | _ => none)
  | _ => none

/-! ### Reading -/

def nload (P : Program) (t : TypeId) (a : Nat × Nat) (h : NHeap) : Option NVal :=
  match h.get a.1 with
  | some (.cells cs _) => (match aggT P t with
    | some true => (match szOf P t with
      | some n => if a.2 + n ≤ cs.length then some (.agg ((cs.drop a.2).take n)) else none
      | none => none)
    | some false => cs[a.2]?
    | none => none)
  | _ => none

def byteVal : NVal → Option UInt8
  | .int .u8 n => some (UInt8.ofNat n.toNat)
  | _ => none
def bytesVals : List NVal → Option (List UInt8)
  | [] => some []
  | v :: l => match byteVal v with
    | none => none
    | some b => match bytesVals l with
      | none => none
      | some r => some (b :: r)

def bumpIx : Option (Option (Nat × NVal)) → Option (Option (Nat × NVal))
  | some (some (i, u)) => some (some (i + 1, u))
  | r => r

def nkeyIn (k : NVal) : List (NVal × NVal) → Option (Option (Nat × NVal))
  | [] => some none
  | (e, v) :: es => match k, e with
    | .int a x, .int b y => if a = b then (if x = y then some (some (0, v)) else bumpIx (nkeyIn k es)) else none
    | .str x, .str y => if x = y then some (some (0, v)) else bumpIx (nkeyIn k es)
    | _, _ => none

def keyTypeOk (P : Program) (t : TypeId) : NVal → Bool
  | .int _ _ => (match P.underlying t with | some (.int _) => true | _ => false)
  | .str _ => (match P.underlying t with | some .string => true | _ => false)
  | _ => false

def nlookup (P : Program) (t : TypeId) (m k : NVal) (ok : Bool) (h : NHeap) : Option NVal :=
  match P.underlying t with
  | some (.map kt et) =>
    if keyTypeOk P kt k then
      match (match m with
        | .map none => some none
        | .map (some b) => (match h.get b with | some (.map es) => nkeyIn k es | _ => none)
        | _ => none) with
      | some (some (_, v)) => some (if ok then .tuple [v, .bool true] else v)
      | some none => (match zeroOf P et with | some z => some (if ok then .tuple [z, .bool false] else z) | none => none)
      | none => none
    else none
  | _ => none

/-- operations that read memory and leave it alone -/
def readOp (P : Program) (ρ : Operand → Option NVal) (h : NHeap) : Op → Option NVal
  | .load t x => (match ρ x with | some (.ptr (some a)) => nload P t a h | _ => none)
  | .lookup t m k ok => (match ρ m, ρ k with | some u, some v => nlookup P t u v ok h | _, _ => none)
  | .convert s d x => (match P.underlying s, P.underlying d, ρ x with
    | some (.slice e), some .string, some (.slice a len _ _) => (match P.underlying e with
      | some (.int .u8) => (match a with
        | none => some (.str [])
        | some (b, o) => (match h.get b with
          | some (.cells cs _) => if o + len ≤ cs.length then (match bytesVals ((cs.drop o).take len) with | some l => some (.str l) | none => none) else none
          | _ => none))
      | _ => none)
    | _, _, _ => none)
  | .call { callee := .builtin .len, args, argTypes } => (match args.toList, argTypes.toList with
    | [x], t :: _ => (match ρ x, P.underlying t with
      | some (.map (some b)), some (.map _ _) => (match h.get b with | some (.map es) => some (.int .i64 es.length) | _ => none)
      | _, _ => none)
    | _, _ => none)
  | _ => none

/-! ### New memory -/

def repeatCells (z : List NVal) : Nat → List NVal
  | 0 => []
  | n + 1 => z ++ repeatCells z n

/-- operations that make a block and look at none -/
def newOp (P : Program) (ρ : Operand → Option NVal) : Op → Option (NObj × (Nat → NVal))
  | .alloc t => (match zeroOf P t with | some z => some (.cells z.cells (.own none), fun b => .ptr (some (b, 0))) | none => none)
  | .box _ x => (match ρ x with | some v => some (.cells v.cells (.own none), fun b => .ptr (some (b, 0))) | none => none)
  | .buildSlice t len parts => (match P.underlying t with
    | some (.slice e) => (match szOf P e, evParts ρ parts.toList with
      | some n, some ps => if len * n ≤ 16777216 ∧ 0 < n then (match zeroOf P e with
        | some z => if z.cells.length = n then (match nfill (fun i => some (i * n, n)) (repeatCells z.cells len) ps with
          | some cs => some (.cells cs (.own none), fun b => .slice (some (b, 0)) len len none)
          | none => none) else none
        | none => none) else none
      | _, _ => none)
    | _ => none)
  | .makeSlice t l c => (match P.underlying t, ρ l, ρ c with
    | some (.slice e), some (.int _ l), some (.int _ c) => (match szOf P e, bytesOf P e, zeroOf P e with
      | some n, some by_, some z => if 0 ≤ l ∧ l ≤ c ∧ c * by_ ≤ 1099511627776 ∧ c ≤ 1099511627776 ∧ z.cells.length = n ∧ 0 < n then
          some (.cells (repeatCells z.cells c.toNat) (.own none), fun b => .slice (some (b, 0)) l.toNat c.toNat none) else none
      | _, _, _ => none)
    | _, _, _ => none)
  | .makeMap _ none => some (.map [], fun b => .map (some b))
  | _ => none

/-! ### Writing -/

def allOne : List NVal → Bool
  | [] => true
  | v :: l => v.one && allOne l

def nstore (P : Program) (t : TypeId) (a : Nat × Nat) (v : NVal) (h : NHeap) : Option NHeap :=
  match szOf P t, h.get a.1 with
  | some n, some (.cells cs (.own q)) => if v.cells.length = n ∧ a.2 + n ≤ cs.length ∧ allOne v.cells then some (h.set a.1 (.cells (setRange cs a.2 v.cells) (.own q))) else none
  | _, _ => none

/-- the first cells of a slice, or a string's bytes -/
def srcCells (sz n : Nat) (h : NHeap) : NVal → Option (List NVal)
  | .slice none _ _ _ => if n = 0 then some [] else none
  | .slice (some (b, o)) len _ _ => if n * sz = 0 then some [] else (match h.get b with
    | some (.cells cs _) => if n ≤ len ∧ o + n * sz ≤ cs.length then some ((cs.drop o).take (n * sz)) else none
    | _ => none)
  | .str s => some ((s.take n).map fun b => .int .u8 b.toNat)
  | _ => none

def nlenOf : NVal → Option Nat
  | .slice _ n _ _ => some n
  | .str s => some s.length
  | _ => none

/-- what is appended: how many, and their cells -/
def appended (P : Program) (e : TypeId) (sz : Nat) (xt : TypeId) (x : NVal) (h : NHeap) : Option (Nat × List NVal) :=
  match P.underlying xt with
  | some (.int _) => (match x, zeroOf P e with
    | .int _ l, some z => if 0 ≤ l ∧ l ≤ 1099511627776 ∧ z.cells.length = sz then some (l.toNat, repeatCells z.cells l.toNat) else none
    | _, _ => none)
  | some _ => (match nlenOf x with
    | some n => (match srcCells sz n h x with | some cs => some (n, cs) | none => none)
    | none => none)
  | none => none

/-- the type of what is grown: known, where it is known in each way -/
def regrown (o : Nat) (e : TypeId) (t : Option (TypeId × Nat)) : Option (TypeId × Nat) := if o = 0 ∧ t = some (e, 0) then t else none

def nappend (P : Program) (st xt : TypeId) (s x : NVal) (h : NHeap) : Option (NVal × NHeap) :=
  match P.underlying st, s with
  | some (.slice e), .slice base len cap x' => (match szOf P e, bytesOf P e, zeroOf P e with
    | some sz, some by_, some z => if z.cells.length = sz ∧ 0 < sz ∧ allOne z.cells = true then (match appended P e sz xt x h with
      | some (n, cs) =>
        if cs.length = n * sz ∧ allOne cs ∧ len + n ≤ 1099511627776 ∧ (len + n) * by_ ≤ 1099511627776 then
        (match base with
        | none => if n = 0 then some (.slice none 0 0 none, h) else some (.slice (some (h.next, 0)) n n (some sz), h.alloc (.cells cs (.own (some (e, 0)))))
        | some (b, o) =>
          if n = 0 then some (s, h)
          else if len + n ≤ cap then
            (match h.get b with
            | some (.cells old (.own q)) => if o + (len + n) * sz ≤ old.length then some (.slice (some (b, o)) (len + n) cap x', h.set b (.cells (setRange old (o + len * sz) cs) (.own q))) else none
            | _ => none)
          else match x' with
            | none => (match srcCells sz len h s with
              | some olds => if allOne olds = true then some (.slice (some (h.next, 0)) (len + n) (len + n) (some sz), h.alloc (.cells (olds ++ cs) (.own (some (e, 0))))) else none
              | none => none)
            | some q => if q = sz ∧ 0 < len + cap then (match h.get b with
              | some (.cells old (.own t)) => if o + len * sz ≤ old.length then
                  some (.slice (some (h.next, 0)) (len + n) (len + n) (some sz), (h.set b .dead).alloc (.cells ((old.drop o).take (len * sz) ++ cs) (.own (regrown o e t)))) else none
              | _ => none) else none)
        else none
      | none => none) else none
    | _, _, _ => none)
  | _, _ => none

def ncopy (P : Program) (dt : TypeId) (d s : NVal) (h : NHeap) : Option (NVal × NHeap) :=
  match P.underlying dt, d with
  | some (.slice e), .slice base dl _ _ => (match szOf P e, nlenOf s with
    | some sz, some sl => (match srcCells sz (min sl dl) h s with
      | some cs => if allOne cs then (match base with
        | none => if cs.length = 0 then some (.int .i64 (min sl dl : Nat), h) else none
        | some (b, o) => if cs.length = 0 then some (.int .i64 (min sl dl : Nat), h) else (match h.get b with
          | some (.cells old (.own q)) => if o + cs.length ≤ old.length then some (.int .i64 (min sl dl : Nat), h.set b (.cells (setRange old o cs) (.own q))) else none
          | _ => none)) else none
      | none => none)
    | _, _ => none)
  | _, _ => none

def nclear (P : Program) (t : TypeId) (x : NVal) (h : NHeap) : Option (NVal × NHeap) :=
  match P.underlying t, x with
  | some (.slice e), .slice a n _ _ => (match a with
    | none => some (.tuple [], h)
    | some (b, o) => if n = 0 then some (.tuple [], h) else (match zeroOf P e, h.get b with
      | some z, some (.cells old (.own q)) => if o + n * z.cells.length ≤ old.length ∧ allOne z.cells then some (.tuple [], h.set b (.cells (setRange old o (repeatCells z.cells n)) (.own q))) else none
      | _, _ => none))
  | _, _ => none

def nmapSet (es : List (NVal × NVal)) (k v : NVal) : Option (List (NVal × NVal)) :=
  match nkeyIn k es with
  | none => none
  | some (some (i, _)) => some (es.set i (k, v))
  | some none => some (es ++ [(k, v)])

def nmapUpdate (P : Program) (t : TypeId) (m k v : NVal) (h : NHeap) : Option NHeap :=
  match P.underlying t, m with
  | some (.map kt _), .map (some b) => if keyTypeOk P kt k then (match h.get b with
    | some (.map es) => (match nmapSet es k v with | some es' => some (h.set b (.map es')) | none => none)
    | _ => none) else none
  | _, _ => none

def ndelete (P : Program) (t : TypeId) (m k : NVal) (h : NHeap) : Option (NVal × NHeap) :=
  match P.underlying t, m with
  | some (.map kt _), .map (some b) => if keyTypeOk P kt k then (match h.get b with
    | some (.map es) => (match nkeyIn k es with
      | some (some (i, _)) => some (.tuple [], h.set b (.map (es.eraseIdx i)))
      | some none => some (.tuple [], h.set b (.map es))
      | none => none)
    | _ => none) else none
  | _, _ => none

/-- pointers to unsafe pointers and back: at a block that is whole, of a known type -/
def nunsafe (P : Program) (s d : TypeId) (x : NVal) (h : NHeap) : Option NVal :=
  match P.underlying s, P.underlying d, x with
  | some (.pointer t), some .unsafePointer, .ptr (some (b, 0)) => (match h.get b, szOf P t with
    | some (.cells (_ :: _) (.own (some (T, _ + 1)))), some (_ + 1) => some (.ptr (some (b, 0)))
    | _, _ => none)
  | some .unsafePointer, some (.pointer u), .ptr (some (b, 0)) => (match h.get b, szOf P u with
    | some (.cells (_ :: _) (.own (some (T, n + 1)))), some (_ + 1) => if liesAt P P.depth T ((n + 1) / P.cellsOf T) 0 u 1 then some (.ptr (some (b, 0))) else none
    | _, _ => none)
  | _, _, _ => none

def allBytes : List NVal → Bool
  | [] => true
  | .int .u8 n :: l => decide (0 ≤ n ∧ n < 256) && allBytes l
  | _ :: _ => false

/-- unsafe.String over a row's head: the row is given away -/
def nstring (P : Program) (pt : TypeId) (p n : NVal) (h : NHeap) : Option (NVal × NHeap) :=
  match p, n with
  | .ptr none, .int _ 0 => some (.str [], h)
  | .ptr (some (b, 0)), .int .i64 (.ofNat n) => (match h.get b, P.underlying pt with
    | some (.cells cs (.own (some (T, _)))), some (.pointer e) => if e = T ∧ P.cellsOf e = 1 ∧ 0 < n ∧ n ≤ cs.length ∧ n ≤ 9223372036854775807 ∧ allBytes (cs.take n) then
        (match bytesVals (cs.take n) with | some l => some (.str l, h.set b .dead) | none => none) else none
    | _, _ => none)
  | _, _ => none

/-- operations that change memory -/
def effOp (P : Program) (ρ : Operand → Option NVal) (h : NHeap) : Op → Option (NVal × NHeap)
  | .store t x y => (match ρ x, ρ y with
    | some (.ptr (some a)), some v => (match nstore P t a v h with | some h' => some (nundef, h') | none => none)
    | _, _ => none)
  | .mapUpdate t m k v => (match ρ m, ρ k, ρ v with
    | some m, some k, some v => (match nmapUpdate P t m k v h with | some h' => some (nundef, h') | none => none)
    | _, _, _ => none)
  | .insert t m k v => (match ρ m, ρ k, ρ v with
    | some m, some k, some v => (match nmapUpdate P t m k v h with | some h' => some (nundef, h') | none => none)
    | _, _, _ => none)
  | .convert s d x => (match ρ x with
    | some (.str l) => (match P.underlying s, P.underlying d with
      | some _, some (.slice e) => (match P.underlying e with
        | some (.int .u8) => if l.length ≤ 1099511627776 then some (.slice (some (h.next, 0)) l.length l.length (some 1), h.alloc (.cells (l.map fun b => .int .u8 b.toNat) (.own none))) else none
        | _ => none)
      | _, _ => none)
    | some u => (match nunsafe P s d u h with | some v => some (v, h) | none => none)
    | none => none)
  | .call { callee := .builtin .unsafeSliceData, args, .. } => (match args.toList with
    | [x] => (match ρ x with
      | some (.slice none _ _ _) => some (.ptr none, h)
      | some (.slice (some a) _ (_ + 1) _) => some (.ptr (some a), h)
      | _ => none)
    | _ => none)
  | .call { callee := .builtin .unsafeString, args, argTypes } => (match args.toList, argTypes.toList with
    | [p, n], [pt, _] => (match ρ p, ρ n with | some p, some n => nstring P pt p n h | _, _ => none)
    | _, _ => none)
  | .call { callee := .builtin .append, args, argTypes } => (match args.toList, argTypes.toList with
    | [s, x], [st, xt] => (match ρ s, ρ x with | some s, some x => nappend P st xt s x h | _, _ => none)
    | _, _ => none)
  | .call { callee := .builtin .copy, args, argTypes } => (match args.toList, argTypes.toList with
    | [d, s], dt :: _ => (match ρ d, ρ s with | some d, some s => ncopy P dt d s h | _, _ => none)
    | _, _ => none)
  | .call { callee := .builtin .clear, args, argTypes } => (match args.toList, argTypes.toList with
    | [x], t :: _ => (match ρ x with | some v => nclear P t v h | none => none)
    | _, _ => none)
  | .call { callee := .builtin .delete, args, argTypes } => (match args.toList, argTypes.toList with
    | [m, k], t :: _ => (match ρ m, ρ k with | some m, some k => ndelete P t m k h | _, _ => none)
    | _, _ => none)
  | _ => none
end Go.Proofs.Ytblhpikljhholaa.NICE
