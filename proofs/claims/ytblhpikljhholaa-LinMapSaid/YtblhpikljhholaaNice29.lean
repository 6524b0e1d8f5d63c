/- Symbolic working-out: code step by step, its rest kept as data; heaps that only grow. -/
import Derived.Test.YtblhpikljhholaaNice28
set_option linter.unusedVariables false
set_option linter.unusedSimpArgs false
namespace Go.Proofs.Ytblhpikljhholaa.NICE
open Go Go.RowKit

variable {P : Program} {E : Env P drStatic}

/-! ### Code -/

noncomputable def thenD (E : Env P drStatic) (r : Out) (b : Code) : Out := thenC r (C E b)
noncomputable def condD (E : Env P drStatic) (x : Option NVal) (a b : Code) (ts : List NVal) (h : NHeap) : Out := ifC x (C E a ts h) (C E b ts h)

theorem S_seq (a b ts h) : C E (.seq a b) ts h = thenD E (C E a ts h) b := C_seq a b ts h
theorem thenD_normal (ts h b) : thenD E (some (.normal, ts, h)) b = C E b ts h := rfl
theorem thenD_exit (i ts h b) : thenD E (some (.exit i, ts, h)) b = some (.exit i, ts, h) := rfl
theorem thenD_ret (ts h b) : thenD E (some (.ret, ts, h)) b = some (.ret, ts, h) := rfl
theorem S_cond (x a b ts h) : C E (.cond x a b) ts h = condD E (ev ts x) a b ts h := C_cond x a b ts h
theorem condD_true (a b ts h) : condD E (some (.bool true)) a b ts h = C E a ts h := rfl
theorem condD_false (a b ts h) : condD E (some (.bool false)) a b ts h = C E b ts h := rfl
theorem condD_dec (p : Prop) [Decidable p] (a b ts h) : condD E (some (.bool (decide p))) a b ts h = if p then C E a ts h else C E b ts h := by
  by_cases hp : p <;> simp [hp, condD_true, condD_false]
theorem blockC_exit (i ts h) : blockC i (some (.exit i, ts, h)) = some (.normal, ts, h) := by simp [blockC]
theorem blockC_normal (i ts h) : blockC i (some (.normal, ts, h)) = some (.normal, ts, h) := rfl
theorem blockC_ret (i ts h) : blockC i (some (.ret, ts, h)) = some (.ret, ts, h) := rfl
theorem blockC_other (i j ts h) : blockC i (some (.exit j, ts, h)) = if j = i then some (.normal, ts, h) else some (.exit j, ts, h) := rfl
theorem S_loop (a ts h) : C E (.loop a) ts h = thenD E (C E a ts h) (.loop a) := C_loop a ts h

def finR (P : Program) (rs : List ResultVar) (ts : List NVal) (h : NHeap) : Option (NVal × NHeap) := match nresults P ts h rs with
  | none => none
  | some vs => some (oneOr vs, h)
theorem beqT (b : Bool) : (b == true) = b := by cases b <;> rfl
theorem beqF (b : Bool) : (b == false) = !b := by cases b <;> rfl
theorem outF_ret (rs ts h) : outF P rs (some (.ret, ts, h)) = finR P rs ts h := rfl
theorem outF_normal (rs ts h) : outF P rs (some (.normal, ts, h)) = finR P rs ts h := rfl

/-! the places of a code -/
def bodyOf (f : Func) : Code := f.body.getD .skip
def seqL : Code → List Code
  | .seq a b => seqL a ++ seqL b
  | c => [c]
/-- code out of its parts -/
def seqAll : List Code → Code
  | [] => .skip
  | [a] => a
  | a :: b :: l => .seq a (seqAll (b :: l))
def seqFrom (c : Code) (i : Nat) : Code := seqAll ((seqL c).drop i)
def atC (c : Code) (i : Nat) : Code := ((seqL c)[i]?).getD .skip
def inC : Code → Code
  | .block _ a => a
  | .loop a => a
  | .cond _ a _ => a
  | c => c
def elC : Code → Code
  | .cond _ _ b => b
  | c => c

/-! ### Regions in the order of the text -/

noncomputable def restS (E : Env P drStatic) (ops : Array Oper) (rest : List Oper) (dst : Option Tmp) (ts : List NVal) (x : Option (NVal × NHeap)) : Option (List NVal × NHeap) := match x with
  | none => none
  | some (v, h) => seqOps P (K E) ops rest (nput ts dst v) h
noncomputable def stepS (E : Env P drStatic) (ops : Array Oper) (o : Oper) (rest : List Oper) (ts : List NVal) (h : NHeap) (g : Option Bool) : Option (List NVal × NHeap) := match g with
  | none => none
  | some false => seqOps P (K E) ops rest (nput ts o.dst nundef) h
  | some true => restS E ops rest o.dst ts (doK P (K E) (ev ts) o.op h)

theorem S_nil (ops ts h) : seqOps P (K E) ops [] ts h = some (ts, h) := rfl
theorem S_cons (ops o rest ts h) : seqOps P (K E) ops (o :: rest) ts h = stepS E ops o rest ts h (nwanted ops o ts) := by
  unfold stepS restS
  rw [doK_eq]
  rw [seqOps]
  cases nwanted ops o ts with
  | none => rfl
  | some b => cases b <;> rfl
theorem wanted_none (ops dst op ty pos after ts) : nwanted ops ⟨dst, op, ty, pos, after, none⟩ ts = some true := rfl
/-- an operation without a guard -/
theorem S_plain (ops dst op ty pos after rest ts h) : seqOps P (K E) ops (⟨dst, op, ty, pos, after, none⟩ :: rest) ts h = restS E ops rest dst ts (doK P (K E) (ev ts) op h) := by
  rw [S_cons, wanted_none]; rfl
/-- .. with one -/
theorem S_guard (ops dst op ty pos after j want rest ts h) : seqOps P (K E) ops (⟨dst, op, ty, pos, after, some (j, want)⟩ :: rest) ts h =
    stepS E ops ⟨dst, op, ty, pos, after, some (j, want)⟩ rest ts h (match (ops[j]?).bind (·.dst) with
    | none => some false
    | some d => match ts[d]? with
      | some (.bool b) => some (b == want)
      | some .junk => none
      | _ => some false) := by rw [S_cons]; rfl
theorem stepS_true (ops o rest ts h) : stepS E ops o rest ts h (some true) = restS E ops rest o.dst ts (doK P (K E) (ev ts) o.op h) := rfl
theorem stepS_false (ops o rest ts h) : stepS E ops o rest ts h (some false) = seqOps P (K E) ops rest (nput ts o.dst nundef) h := rfl
theorem restS_some (ops rest dst ts v h) : restS E ops rest dst ts (some (v, h)) = seqOps P (K E) ops rest (nput ts dst v) h := rfl
theorem normal_some (ts : List NVal) (h : NHeap) : normal (some (ts, h)) = some (.normal, ts, h) := rfl
theorem nput_some (ts : List NVal) (d : Tmp) (v : NVal) : nput ts (some d) v = ts.set d v := rfl
theorem nput_none (ts : List NVal) (v : NVal) : nput ts none v = ts := rfl

/-! ### Operands -/
theorem ev_tmp (ts : List NVal) (t : Tmp) : ev ts (.tmp t) = some (ts.getD t nundef) := rfl
theorem ev_func (ts : List NVal) (f : FuncId) : ev ts (.func f) = some (.func (.func f) [] []) := rfl
theorem ev_bool (ts : List NVal) (b : Bool) : ev ts (.const (.bool b)) = some (.bool b) := rfl
theorem ev_int (ts : List NVal) (k n) : ev ts (.const (.int k n)) = some (.int k n) := rfl
theorem ev_str (ts : List NVal) (s) : ev ts (.const (.string s)) = some (.str s.data.toList) := rfl
theorem ev_ptr (ts : List NVal) : ev ts (.const (.pointer none)) = some (.ptr none) := rfl
theorem ev_slice (ts : List NVal) : ev ts (.const (.slice none 0 0)) = some (.slice none 0 0 none) := rfl
theorem ev_map (ts : List NVal) : ev ts (.const (.map none)) = some (.map none) := rfl
theorem ev_nilFunc (ts : List NVal) : ev ts (.const .nilFunc) = some .nilFunc := rfl
theorem ev_nilIface (ts : List NVal) : ev ts (.const .nilIface) = some .nilIface := rfl

/-! ### Operations -/
section
variable (F : CallF) (ρ : Rho) (h : NHeap)
theorem do_move (x) : doK P F ρ (.move x) h = withH (ρ x) h := rfl
theorem do_assign (x) : doK P F ρ (.assign x) h = withH (ρ x) h := rfl
theorem do_pick (c a b) : doK P F ρ (.pick c a b) h = withH (kPick (ρ c) (ρ a) (ρ b)) h := rfl
theorem do_build (t parts) : doK P F ρ (.build t parts) h = withH (kBuild P t (evParts ρ parts.toList)) h := rfl
theorem do_nilCheck (x) : doK P F ρ (.nilCheck x) h = withH (kNil (ρ x)) h := rfl
theorem do_binOp (op t x y p) : doK P F ρ (.binOp op t x y p) h = withH (bind2 (ρ x) (ρ y) (nbin P op t)) h := rfl
theorem do_unOp (op t x) : doK P F ρ (.unOp op t x) h = withH (bind1 (ρ x) (nun op)) h := rfl
theorem do_makeInterface (t x) : doK P F ρ (.makeInterface t x) h = withH (kIface P t (ρ x)) h := rfl
theorem do_makeFunc (fn a b) : doK P F ρ (.makeFunc fn a b) h = withH (kFunc fn (evs ρ a.toList) (evs ρ b.toList)) h := rfl
theorem do_slice (t x lo hi mx) : doK P F ρ (.slice t x lo hi mx) h = withH (kSlice P t (evOpt ρ mx) (ρ x) (evOpt ρ lo) (evOpt ρ hi)) h := rfl
theorem do_fieldAddr (t x f) : doK P F ρ (.fieldAddr t x f) h = withH (bind1 (ρ x) fun u => nfieldAddr P t u f) h := rfl
theorem do_field (t x f) : doK P F ρ (.field t x f) h = withH (bind1 (ρ x) fun u => nfield P t u f) h := rfl
theorem do_indexAddr (t x ix) : doK P F ρ (.indexAddr t x ix) h = withH (bind2 (ρ x) (ρ ix) (nindexAddr P t)) h := rfl
theorem do_index (t x ix) : doK P F ρ (.index t x ix) h = withH (bind2 (ρ x) (ρ ix) (nindex P t)) h := rfl
theorem do_extract (x i) : doK P F ρ (.extract x i) h = withH (kExtract (ρ x) i) h := rfl
theorem do_typeAssert (x t d ok) : doK P F ρ (.typeAssert x t d ok) h = withH (bind1 (ρ x) fun u => nassert P u d ok) h := rfl
theorem do_load (t x) : doK P F ρ (.load t x) h = withH (kLoad P h t (ρ x)) h := rfl
theorem do_lookup (t m k ok) : doK P F ρ (.lookup t m k ok) h = withH (bind2 (ρ m) (ρ k) fun u v => nlookup P t u v ok h) h := rfl
theorem do_alloc (t) : doK P F ρ (.alloc t) h = allocH (kAllocT P t) h := rfl
theorem do_box (t x) : doK P F ρ (.box t x) h = allocH (kBox (ρ x)) h := rfl
theorem do_buildSlice (t len parts) : doK P F ρ (.buildSlice t len parts) h = allocH (newOp P ρ (.buildSlice t len parts)) h := rfl
theorem do_makeSlice (t l c) : doK P F ρ (.makeSlice t l c) h = allocH (newOp P ρ (.makeSlice t l c)) h := rfl
theorem do_makeMap (t r) : doK P F ρ (.makeMap t r) h = allocH (newOp P ρ (.makeMap t r)) h := rfl
theorem do_store (t x y) : doK P F ρ (.store t x y) h = kStore P h t (ρ x) (ρ y) := rfl
theorem do_len (args tys) : doK P F ρ (.call ⟨.builtin .len, args, tys⟩) h = orElseH (kLen P ρ args tys) h fun _ => orElseH (kLenM P ρ h args tys) h fun _ => none := rfl
theorem do_cap (args tys) : doK P F ρ (.call ⟨.builtin .cap, args, tys⟩) h = orElseH (kCap P ρ args tys) h fun _ => none := rfl
theorem do_min (args tys) : doK P F ρ (.call ⟨.builtin .min, args, tys⟩) h = orElseH (kMin ρ args) h fun _ => none := rfl
theorem do_max (args tys) : doK P F ρ (.call ⟨.builtin .max, args, tys⟩) h = orElseH (kMax ρ args) h fun _ => none := rfl
theorem do_append (a c st xt) : doK P F ρ (.call ⟨.builtin .append, #[a, c], #[st, xt]⟩) h = (match ρ a, ρ c with | some s, some x => nappend P st xt s x h | _, _ => none) := rfl
theorem do_call (f args tys) : doK P F ρ (.call ⟨.value f, args, tys⟩) h = callK (ncall P ρ h ⟨.value f, args, tys⟩) F h := rfl
theorem do_convert (s d x) : doK P F ρ (.convert s d x) h = orElseH (bind1 (ρ x) (nconv P s d)) h fun _ => orElseH (kStr P h s d (ρ x)) h fun _ => effOp P ρ h (.convert s d x) := rfl
end

theorem withH_some (v : NVal) (h : NHeap) : withH (some v) h = some (v, h) := rfl
theorem allocH_some (ob : NObj) (mk : Nat → NVal) (h : NHeap) : allocH (some (ob, mk)) h = some (mk h.next, h.alloc ob) := rfl
theorem bind1_some (u : NVal) (k : NVal → Option NVal) : bind1 (some u) k = k u := rfl
theorem bind2_some (u v : NVal) (k : NVal → NVal → Option NVal) : bind2 (some u) (some v) k = k u v := rfl
theorem orElseH_some (v : NVal) (h : NHeap) (k) : orElseH (some v) h k = some (v, h) := rfl
theorem orElseH_none (h : NHeap) (k) : orElseH none h k = k () := rfl
theorem kPick_bool (t : Bool) (u v : NVal) : kPick (some (.bool t)) (some u) (some v) = some (if t then u else v) := rfl
theorem kNil_ptr (a) : kNil (some (.ptr (some a))) = some (.ptr (some a)) := rfl
theorem kExtract_tuple (vs : List NVal) (i : Nat) : kExtract (some (.tuple vs)) i = vs[i]? := rfl
theorem kBox_some (v : NVal) : kBox (some v) = some (.cells v.cells (.own none), fun b => .ptr (some (b, 0))) := rfl
theorem kLoad_ptr (h : NHeap) (t a) : kLoad P h t (some (.ptr (some a))) = nload P t a h := rfl
theorem callK_some (f as F h) : callK (some (f, as)) F h = F f as h := rfl
theorem ncall_func (ρ : Rho) (h : NHeap) (g args tys l) (hg : ρ (.func g) = some (.func (.func g) [] [])) (hl : evs ρ args.toList = some l) : ncall P ρ h ⟨.value (.func g), args, tys⟩ = some (g, l) := by
  simp [ncall, hg, hl]

section
variable (t : TypeId) (k : IntKind) (a b : Int)
theorem bin_add : nbin P .add t (.int k a) (.int k b) = some (.int k (k.wrap (a + b))) := by simp [nbin, nIntOp]
theorem bin_sub : nbin P .sub t (.int k a) (.int k b) = some (.int k (k.wrap (a - b))) := by simp [nbin, nIntOp]
theorem bin_mul : nbin P .mul t (.int k a) (.int k b) = some (.int k (k.wrap (a * b))) := by simp [nbin, nIntOp]
theorem bin_quo (h : b ≠ 0) : nbin P .quo t (.int k a) (.int k b) = some (.int k (k.wrap (a.tdiv b))) := by simp [nbin, nIntOp, h]
theorem bin_rem (h : b ≠ 0) : nbin P .rem t (.int k a) (.int k b) = some (.int k (a.tmod b)) := by simp [nbin, nIntOp, h]
theorem bin_eql : nbin P .eql t (.int k a) (.int k b) = some (.bool (decide (a = b))) := by simp [nbin, nIntOp]; by_cases h : a = b <;> simp [h]
theorem bin_neq : nbin P .neq t (.int k a) (.int k b) = some (.bool (!decide (a = b))) := by simp [nbin, nIntOp]; by_cases h : a = b <;> simp [h, bne]
theorem bin_lss : nbin P .lss t (.int k a) (.int k b) = some (.bool (decide (a < b))) := by simp [nbin, nIntOp]
theorem bin_leq : nbin P .leq t (.int k a) (.int k b) = some (.bool (decide (a ≤ b))) := by simp [nbin, nIntOp]
theorem bin_gtr : nbin P .gtr t (.int k a) (.int k b) = some (.bool (decide (b < a))) := by simp [nbin, nIntOp]
theorem bin_geq : nbin P .geq t (.int k a) (.int k b) = some (.bool (decide (b ≤ a))) := by simp [nbin, nIntOp]
end
section
variable (t : TypeId) (x y : List UInt8)
theorem str_eql : nbin P .eql t (.str x) (.str y) = some (.bool (x == y)) := rfl
theorem str_neq : nbin P .neq t (.str x) (.str y) = some (.bool !(x == y)) := rfl
theorem str_lss : nbin P .lss t (.str x) (.str y) = some (.bool (Op.bytesLess x y)) := rfl
theorem str_leq : nbin P .leq t (.str x) (.str y) = some (.bool (Op.bytesLess x y || x == y)) := rfl
theorem str_gtr : nbin P .gtr t (.str x) (.str y) = some (.bool !(Op.bytesLess x y || x == y)) := rfl
theorem str_geq : nbin P .geq t (.str x) (.str y) = some (.bool !(Op.bytesLess x y)) := rfl
end
theorem slice_eql {t e : TypeId} (hu : P.underlying t = some (.slice e)) (a n c x) : nbin P .eql t (.slice a n c x) (.slice none 0 0 none) = some (.bool a.isNone) := by
  cases a <;> simp [nbin, neq, hu, nilS]
theorem slice_neq {t e : TypeId} (hu : P.underlying t = some (.slice e)) (a n c x) : nbin P .neq t (.slice a n c x) (.slice none 0 0 none) = some (.bool !a.isNone) := by
  cases a <;> simp [nbin, neq, hu, nilS]
theorem ptr_eql {t e : TypeId} (hu : P.underlying t = some (.pointer e)) (a) : nbin P .eql t (.ptr a) (.ptr none) = some (.bool a.isNone) := by
  cases a <;> simp [nbin, neq, hu, nilP]
theorem ptr_neq {t e : TypeId} (hu : P.underlying t = some (.pointer e)) (a) : nbin P .neq t (.ptr a) (.ptr none) = some (.bool !a.isNone) := by
  cases a <;> simp [nbin, neq, hu, nilP]
theorem bool_eql {t : TypeId} (hu : P.underlying t = some .bool) (a b : Bool) : nbin P .eql t (.bool a) (.bool b) = some (.bool (a == b)) := by
  simp [nbin, neq, hu]
theorem bool_neq {t : TypeId} (hu : P.underlying t = some .bool) (a b : Bool) : nbin P .neq t (.bool a) (.bool b) = some (.bool !(a == b)) := by
  simp [nbin, neq, hu]
theorem indexAddr_slice {t e : TypeId} {sz : Nat} (hu : P.underlying t = some (.slice e)) (hs : szOf P e = some sz) (b o n c : Nat) (x) (k) (i : Int) (h0 : 0 ≤ i) (h1 : i < (n : Int)) : nindexAddr P t (.slice (some (b, o)) n c x) (.int k i) = some (.ptr (some (b, o + i.toNat * sz))) := by
  simp [nindexAddr, hu, hs, h0, h1]
theorem not_bool (b : Bool) : nun .not (.bool b) = some (.bool !b) := rfl

theorem kBuild_struct {t : TypeId} {z : NVal} {fs : Array Field} {ps : List (Nat × Nat)} (hz : zeroOf P t = some z) (hu : P.underlying t = some (.struct fs)) (hp : fieldPlaces P fs.toList = some ps) (l : List (Nat × NVal)) :
    kBuild P t (some l) = (match nfill (fun i => ps[i]?) z.cells l with | none => none | some cs => some (.agg cs)) := by
  simp only [kBuild, nbuild, hz, hu, hp]
  cases nfill (fun i => ps[i]?) z.cells l <;> rfl

/-! ### A region whose order is drawn, that makes nothing and changes nothing -/

def seqRO (P : Program) (ops : Array Oper) : List Oper → List NVal → NHeap → Option (List NVal)
  | [], ts, h => some ts
  | o :: rest, ts, h => match nwanted ops o ts with
    | none => none
    | some false => seqRO P ops rest (nput ts o.dst nundef) h
    | some true => match pureOp P (ev ts) o.op with
      | some v => seqRO P ops rest (nput ts o.dst v) h
      | none => match readOp P (ev ts) h o.op with
        | some v => seqRO P ops rest (nput ts o.dst v) h
        | none => none

theorem runE_RO {F : CallF} {ops M} : ∀ {l : List Oper} {i : Nat} {st : St} {ts'}, st.ei = [] → st.pend = [] → seqRO P ops l st.ts st.h = some ts' → ∃ st', runE P F ops M i l st = some st' ∧ st'.ts = ts' ∧ st'.h = st.h ∧ st'.ei = [] ∧ st'.pend = [] ∧ st'.nid = st.nid
  | [], i, st, ts', h1, h2, e => by cases e; exact ⟨st, rfl, rfl, rfl, h1, h2, rfl⟩
  | o :: rest, i, st, ts', h1, h2, e => by
    unfold seqRO at e
    cases hw : nwanted ops o st.ts with
    | none => rw [hw] at e; cases e
    | some b =>
      rw [hw] at e
      cases b with
      | false =>
        simp only at e
        obtain ⟨st', r1, r2, r3, r4, r5, r6⟩ := runE_RO (F := F) (M := M) (i := i + 1) (st := { st with ts := nput st.ts o.dst nundef, v := nundef, c := .skip }) h1 h2 e
        exact ⟨st', by unfold runE stepE; rw [hw]; exact r1, r2, r3, r4, r5, r6⟩
      | true =>
        simp only at e
        cases hp : pureOp P (ev st.ts) o.op with
        | some v =>
          rw [hp] at e
          obtain ⟨st', r1, r2, r3, r4, r5, r6⟩ := runE_RO (F := F) (M := M) (i := i + 1) (st := { st with ts := nput st.ts o.dst v, v := v, c := .val }) h1 h2 e
          exact ⟨st', by unfold runE stepE; rw [hw]; simp only; rw [hp]; exact r1, r2, r3, r4, r5, r6⟩
        | none =>
          rw [hp] at e
          simp only at e
          cases hr : readOp P (ev st.ts) st.h o.op with
          | some v =>
            rw [hr] at e
            obtain ⟨st', r1, r2, r3, r4, r5, r6⟩ := runE_RO (F := F) (M := M) (i := i + 1) (st := { st with ts := nput st.ts o.dst v, v := v, c := .val, reads := st.reads ++ [(i, o, st.ts, v)] }) h1 h2 e
            exact ⟨st', by unfold runE stepE; rw [hw]; simp only; rw [hp]; simp only; rw [hr]; exact r1, r2, r3, r4, r5, r6⟩
          | none => rw [hr] at e; cases e

theorem drawn_RO {F : CallF} {ops : Array Oper} {ts ts' : List NVal} {h : NHeap} (hn : (ops.toList.filter fun o => makesRow o.op).length = 0) (e : seqRO P ops ops.toList ts h = some ts') : drawnOps P F ops ts h = some (ts', h) := by
  unfold drawnOps
  obtain ⟨st', r1, r2, r3, r4, r5, r6⟩ := runE_RO (F := F) (M := masksOf ops.toList) (i := 0) (st := { ts := ts, h := h, hs := [h], ls := [], ei := [], pend := [], nid := h.next, reads := [], v := nundef, c := .skip }) rfl rfl e
  simp only [hn, reserve]
  rw [r1]
  simp only [r2, r3, r4, r5, r6]
  simp [adoptAll]

def rowsIn : List Oper → Nat
  | [] => 0
  | o :: l => (if makesRow o.op then 1 else 0) + rowsIn l
theorem rowsIn_eq : ∀ l : List Oper, rowsIn l = (l.filter fun o => makesRow o.op).length
  | [] => rfl
  | o :: l => by
    unfold rowsIn
    rw [List.filter_cons, rowsIn_eq l]
    by_cases h : makesRow o.op = true
    · simp [h]; omega
    · simp [h]

noncomputable def drawD (E : Env P drStatic) (ops : Array Oper) (ts : List NVal) (h : NHeap) (r : Option (List NVal)) (n : Nat) : Out := match n, r with
  | 0, some ts' => some (.normal, ts', h)
  | _, _ => normal (drawnOps P (K E) ops ts h)
theorem S_draw (id ops ts h) : C E (.region id ops true) ts h = drawD E ops ts h (seqRO P ops ops.toList ts h) (rowsIn ops.toList) := by
  rw [C_draw]
  unfold drawD
  split
  · rename_i ts' h1 h2
    rw [drawn_RO (by rw [← rowsIn_eq]; exact h1) h2]; rfl
  · rfl
theorem drawD_some (ops : Array Oper) (ts : List NVal) (h : NHeap) (ts' : List NVal) : drawD E ops ts h (some ts') 0 = some (.normal, ts', h) := rfl
theorem rowsIn_nil : rowsIn [] = 0 := rfl
theorem rowsIn_cons (o l) : rowsIn (o :: l) = (if makesRow o.op then 1 else 0) + rowsIn l := rfl

def roStep (P : Program) (ρ : Rho) (h : NHeap) (op : Op) : Option NVal := match pureOp P ρ op with
  | some v => some v
  | none => readOp P ρ h op
def roRest (P : Program) (ops : Array Oper) (rest : List Oper) (dst : Option Tmp) (ts : List NVal) (h : NHeap) (x : Option NVal) : Option (List NVal) := match x with
  | none => none
  | some v => seqRO P ops rest (nput ts dst v) h
def roGuard (P : Program) (ops : Array Oper) (o : Oper) (rest : List Oper) (ts : List NVal) (h : NHeap) (g : Option Bool) : Option (List NVal) := match g with
  | none => none
  | some false => seqRO P ops rest (nput ts o.dst nundef) h
  | some true => roRest P ops rest o.dst ts h (roStep P (ev ts) h o.op)
theorem ro_nil (ops ts h) : seqRO P ops [] ts h = some ts := rfl
theorem ro_cons (ops o rest ts h) : seqRO P ops (o :: rest) ts h = roGuard P ops o rest ts h (nwanted ops o ts) := by
  unfold roGuard roRest roStep
  rw [seqRO]
  cases nwanted ops o ts with
  | none => rfl
  | some b =>
    cases b with
    | false => rfl
    | true =>
      simp only
      cases pureOp P (ev ts) o.op with
      | some v => rfl
      | none => cases readOp P (ev ts) h o.op <;> rfl
theorem ro_plain (ops dst op ty pos after rest ts h) : seqRO P ops (⟨dst, op, ty, pos, after, none⟩ :: rest) ts h = roRest P ops rest dst ts h (roStep P (ev ts) h op) := by
  rw [ro_cons]; rfl
theorem ro_guard (ops dst op ty pos after j want rest ts h) : seqRO P ops (⟨dst, op, ty, pos, after, some (j, want)⟩ :: rest) ts h =
    roGuard P ops ⟨dst, op, ty, pos, after, some (j, want)⟩ rest ts h (match (ops[j]?).bind (·.dst) with
    | none => some false
    | some d => match ts[d]? with
      | some (.bool b) => some (b == want)
      | some .junk => none
      | _ => some false) := by rw [ro_cons]; rfl
theorem roGuard_true (ops o rest ts h) : roGuard P ops o rest ts h (some true) = roRest P ops rest o.dst ts h (roStep P (ev ts) h o.op) := rfl
theorem roGuard_false (ops o rest ts h) : roGuard P ops o rest ts h (some false) = seqRO P ops rest (nput ts o.dst nundef) h := rfl
theorem roRest_some (ops rest dst ts h v) : roRest P ops rest dst ts h (some v) = seqRO P ops rest (nput ts dst v) h := rfl
section
variable (ρ : Rho) (h : NHeap)
theorem orSelf (x : Option NVal) : (match x with | some v => some v | none => none) = x := by cases x <;> rfl
theorem ro_of_pure {op : Op} (hr : readOp P ρ h op = none) : roStep P ρ h op = pureK op P ρ := by
  unfold roStep; rw [pureK_eq, hr]; cases pureOp P ρ op <;> rfl
theorem ro_move (x) : roStep P ρ h (.move x) = ρ x := ro_of_pure ρ h rfl
theorem ro_assign (x) : roStep P ρ h (.assign x) = ρ x := ro_of_pure ρ h rfl
theorem ro_pick (c a b) : roStep P ρ h (.pick c a b) = kPick (ρ c) (ρ a) (ρ b) := ro_of_pure ρ h rfl
theorem ro_build (t parts) : roStep P ρ h (.build t parts) = kBuild P t (evParts ρ parts.toList) := ro_of_pure ρ h rfl
theorem ro_nilCheck (x) : roStep P ρ h (.nilCheck x) = kNil (ρ x) := ro_of_pure ρ h rfl
theorem ro_binOp (op t x y p) : roStep P ρ h (.binOp op t x y p) = bind2 (ρ x) (ρ y) (nbin P op t) := ro_of_pure ρ h rfl
theorem ro_unOp (op t x) : roStep P ρ h (.unOp op t x) = bind1 (ρ x) (nun op) := ro_of_pure ρ h rfl
theorem ro_makeInterface (t x) : roStep P ρ h (.makeInterface t x) = kIface P t (ρ x) := ro_of_pure ρ h rfl
theorem ro_makeFunc (fn a b) : roStep P ρ h (.makeFunc fn a b) = kFunc fn (evs ρ a.toList) (evs ρ b.toList) := ro_of_pure ρ h rfl
theorem ro_slice (t x lo hi mx) : roStep P ρ h (.slice t x lo hi mx) = kSlice P t (evOpt ρ mx) (ρ x) (evOpt ρ lo) (evOpt ρ hi) := ro_of_pure ρ h rfl
theorem ro_fieldAddr (t x f) : roStep P ρ h (.fieldAddr t x f) = bind1 (ρ x) fun u => nfieldAddr P t u f := ro_of_pure ρ h rfl
theorem ro_field (t x f) : roStep P ρ h (.field t x f) = bind1 (ρ x) fun u => nfield P t u f := ro_of_pure ρ h rfl
theorem ro_indexAddr (t x ix) : roStep P ρ h (.indexAddr t x ix) = bind2 (ρ x) (ρ ix) (nindexAddr P t) := ro_of_pure ρ h rfl
theorem ro_index (t x ix) : roStep P ρ h (.index t x ix) = bind2 (ρ x) (ρ ix) (nindex P t) := ro_of_pure ρ h rfl
theorem ro_extract (x i) : roStep P ρ h (.extract x i) = kExtract (ρ x) i := ro_of_pure ρ h rfl
theorem ro_load (t x) : roStep P ρ h (.load t x) = kLoad P h t (ρ x) := rfl
theorem ro_len (args tys) : roStep P ρ h (.call ⟨.builtin .len, args, tys⟩) = (match kLen P ρ args tys with | some v => some v | none => kLenM P ρ h args tys) := rfl
end

/-! ### Numbers of blocks -/
theorem ne1 (n : Nat) : (n = n + 1) = False := by simp only [eq_iff_iff, iff_false]; omega
theorem ne1' (n : Nat) : (n + 1 = n) = False := by simp only [eq_iff_iff, iff_false]; omega
theorem lt1 (n : Nat) : (n < n + 1) = True := by simp only [eq_iff_iff, iff_true]; omega
theorem ne2 (n : Nat) : (n = n + 1 + 1) = False := by simp only [eq_iff_iff, iff_false]; omega
theorem ne2' (n : Nat) : (n + 1 + 1 = n) = False := by simp only [eq_iff_iff, iff_false]; omega
theorem lt2 (n : Nat) : (n < n + 1 + 1) = True := by simp only [eq_iff_iff, iff_true]; omega
theorem ne3 (n : Nat) : (n = n + 1 + 1 + 1) = False := by simp only [eq_iff_iff, iff_false]; omega
theorem ne3' (n : Nat) : (n + 1 + 1 + 1 = n) = False := by simp only [eq_iff_iff, iff_false]; omega
theorem lt3 (n : Nat) : (n < n + 1 + 1 + 1) = True := by simp only [eq_iff_iff, iff_true]; omega
theorem ne4 (n : Nat) : (n = n + 1 + 1 + 1 + 1) = False := by simp only [eq_iff_iff, iff_false]; omega
theorem ne4' (n : Nat) : (n + 1 + 1 + 1 + 1 = n) = False := by simp only [eq_iff_iff, iff_false]; omega
theorem lt4 (n : Nat) : (n < n + 1 + 1 + 1 + 1) = True := by simp only [eq_iff_iff, iff_true]; omega
theorem ne5 (n : Nat) : (n = n + 1 + 1 + 1 + 1 + 1) = False := by simp only [eq_iff_iff, iff_false]; omega
theorem ne5' (n : Nat) : (n + 1 + 1 + 1 + 1 + 1 = n) = False := by simp only [eq_iff_iff, iff_false]; omega
theorem lt5 (n : Nat) : (n < n + 1 + 1 + 1 + 1 + 1) = True := by simp only [eq_iff_iff, iff_true]; omega
theorem ne6 (n : Nat) : (n = n + 1 + 1 + 1 + 1 + 1 + 1) = False := by simp only [eq_iff_iff, iff_false]; omega
theorem ne6' (n : Nat) : (n + 1 + 1 + 1 + 1 + 1 + 1 = n) = False := by simp only [eq_iff_iff, iff_false]; omega
theorem lt6 (n : Nat) : (n < n + 1 + 1 + 1 + 1 + 1 + 1) = True := by simp only [eq_iff_iff, iff_true]; omega
theorem ne7 (n : Nat) : (n = n + 1 + 1 + 1 + 1 + 1 + 1 + 1) = False := by simp only [eq_iff_iff, iff_false]; omega
theorem ne7' (n : Nat) : (n + 1 + 1 + 1 + 1 + 1 + 1 + 1 = n) = False := by simp only [eq_iff_iff, iff_false]; omega
theorem lt7 (n : Nat) : (n < n + 1 + 1 + 1 + 1 + 1 + 1 + 1) = True := by simp only [eq_iff_iff, iff_true]; omega
theorem ne8 (n : Nat) : (n = n + 1 + 1 + 1 + 1 + 1 + 1 + 1 + 1) = False := by simp only [eq_iff_iff, iff_false]; omega
theorem ne8' (n : Nat) : (n + 1 + 1 + 1 + 1 + 1 + 1 + 1 + 1 = n) = False := by simp only [eq_iff_iff, iff_false]; omega
theorem lt8 (n : Nat) : (n < n + 1 + 1 + 1 + 1 + 1 + 1 + 1 + 1) = True := by simp only [eq_iff_iff, iff_true]; omega
theorem ne9 (n : Nat) : (n = n + 1 + 1 + 1 + 1 + 1 + 1 + 1 + 1 + 1) = False := by simp only [eq_iff_iff, iff_false]; omega
theorem ne9' (n : Nat) : (n + 1 + 1 + 1 + 1 + 1 + 1 + 1 + 1 + 1 = n) = False := by simp only [eq_iff_iff, iff_false]; omega
theorem lt9 (n : Nat) : (n < n + 1 + 1 + 1 + 1 + 1 + 1 + 1 + 1 + 1) = True := by simp only [eq_iff_iff, iff_true]; omega
theorem ne10 (n : Nat) : (n = n + 1 + 1 + 1 + 1 + 1 + 1 + 1 + 1 + 1 + 1) = False := by simp only [eq_iff_iff, iff_false]; omega
theorem ne10' (n : Nat) : (n + 1 + 1 + 1 + 1 + 1 + 1 + 1 + 1 + 1 + 1 = n) = False := by simp only [eq_iff_iff, iff_false]; omega
theorem lt10 (n : Nat) : (n < n + 1 + 1 + 1 + 1 + 1 + 1 + 1 + 1 + 1 + 1) = True := by simp only [eq_iff_iff, iff_true]; omega
theorem ne11 (n : Nat) : (n = n + 1 + 1 + 1 + 1 + 1 + 1 + 1 + 1 + 1 + 1 + 1) = False := by simp only [eq_iff_iff, iff_false]; omega
theorem ne11' (n : Nat) : (n + 1 + 1 + 1 + 1 + 1 + 1 + 1 + 1 + 1 + 1 + 1 = n) = False := by simp only [eq_iff_iff, iff_false]; omega
theorem lt11 (n : Nat) : (n < n + 1 + 1 + 1 + 1 + 1 + 1 + 1 + 1 + 1 + 1 + 1) = True := by simp only [eq_iff_iff, iff_true]; omega
theorem ne12 (n : Nat) : (n = n + 1 + 1 + 1 + 1 + 1 + 1 + 1 + 1 + 1 + 1 + 1 + 1) = False := by simp only [eq_iff_iff, iff_false]; omega
theorem ne12' (n : Nat) : (n + 1 + 1 + 1 + 1 + 1 + 1 + 1 + 1 + 1 + 1 + 1 + 1 = n) = False := by simp only [eq_iff_iff, iff_false]; omega
theorem lt12 (n : Nat) : (n < n + 1 + 1 + 1 + 1 + 1 + 1 + 1 + 1 + 1 + 1 + 1 + 1) = True := by simp only [eq_iff_iff, iff_true]; omega
theorem lt_step (n m : Nat) : (n + 1 < m + 1) = (n < m) := by simp

/-! ### Heaps that only grow -/

/-- all blocks stand as they did -/
structure Ext (h h' : NHeap) : Prop where
  next : h.next ≤ h'.next
  get : ∀ {b o}, h.get b = some o → h'.get b = some o

theorem Ext.refl (h : NHeap) : Ext h h := ⟨Nat.le_refl _, fun e => e⟩
theorem Ext.trans {h h' h'' : NHeap} (a : Ext h h') (b : Ext h' h'') : Ext h h'' := ⟨Nat.le_trans a.next b.next, fun e => b.get (a.get e)⟩
theorem Ext.alloc {h h' : NHeap} (a : Ext h h') (o : NObj) : Ext h (h'.alloc o) := ⟨Nat.le_succ_of_le a.next, fun e => by
  rw [NHeap.get_alloc_lt (Nat.lt_of_lt_of_le (NHeap.get_lt e) a.next)]; exact a.get e⟩
theorem Ext.set {h h' : NHeap} (a : Ext h h') {b : Nat} (hb : h.next ≤ b) (o : NObj) : Ext h (h'.set b o) := ⟨a.next, fun e => by
  have := NHeap.get_lt e
  rw [NHeap.get_set_ne (by omega)]; exact a.get e⟩

/-! ### Slices that are only read -/

/-- what the model knows of a slice's elements: so many cells from its head on -/
structure Row (h : NHeap) (v : NVal) (n : Nat) (cs : List NVal) : Prop where
  is : ∃ bo cap x, v = .slice bo n cap x ∧ (n = 0 ∧ cs = [] ∨ ∃ b o all m, bo = some (b, o) ∧ h.get b = some (.cells all m) ∧ o + cs.length ≤ all.length ∧ (all.drop o).take cs.length = cs)

theorem Row.ext {h h' : NHeap} {v n cs} (r : Row h v n cs) (e : Ext h h') : Row h' v n cs := by
  obtain ⟨bo, cap, x, h1, h2⟩ := r.is
  refine ⟨bo, cap, x, h1, ?_⟩
  rcases h2 with h2 | ⟨b, o, all, m, a1, a2, a3, a4⟩
  · exact .inl h2
  · exact .inr ⟨b, o, all, m, a1, e.get a2, a3, a4⟩
end Go.Proofs.Ytblhpikljhholaa.NICE
