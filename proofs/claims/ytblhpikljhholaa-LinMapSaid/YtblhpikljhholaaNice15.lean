/- Temporaries, guards, a region in the order of its text. -/
import Derived.Test.YtblhpikljhholaaNice14
set_option linter.unusedVariables false
set_option linter.unusedSimpArgs false
namespace Go.Proofs.Ytblhpikljhholaa.NICE
open Go Go.RowKit

variable {P : Program}

def nput (ts : List NVal) (dst : Option Tmp) (v : NVal) : List NVal := match dst with | some d => ts.set d v | none => ts

theorem put_rel {ι : Inj} {ts : List NVal} {a : Act} (h : VRs ι ts a.tmps.toList) {v : NVal} {rv : Value} (hv : VR ι v rv) (dst : Option Tmp) : VRs ι (nput ts dst v) (a.put dst rv).tmps.toList := by
  cases dst with
  | none => exact h
  | some d => simp only [nput, Act.put, Array.toList_setIfInBounds]; exact h.set hv

theorem put_defers (a : Act) (dst : Option Tmp) (v : Value) : (a.put dst v).defers = a.defers := by cases dst <;> rfl

/-- is an operation carried out? (its guard) -/
def nwanted (ops : Array Oper) (o : Oper) (ts : List NVal) : Option Bool :=
  match o.guard with
  | none => some true
  | some (j, want) => match (ops[j]?).bind (·.dst) with
    | none => some false
    | some d => match ts[d]? with
      | some (.bool b) => some (b == want)
      | some .junk => none
      | _ => some false

theorem wanted_sound {ops : Array Oper} {o : Oper} {ts : List NVal} {b : Bool} (h : nwanted ops o ts = some b) {tmps : Array Value}
    (hr : ∀ j want d, o.guard = some (j, want) → (ops[j]?).bind (·.dst) = some d → ∀ ι0 : Unit, ∃ ι : Inj, (∀ u, ts[d]? = some u → ∃ r, tmps[d]? = some r ∧ VR ι u r) ∧ (ts[d]? = none → tmps[d]? = none)) :
    Region.wanted o (yielded ops tmps) = b := by
  unfold nwanted at h
  unfold Region.wanted
  cases hg : o.guard with
  | none => rw [hg] at h; cases h; rfl
  | some p =>
    obtain ⟨j, want⟩ := p
    rw [hg] at h; simp only at h
    unfold yielded
    cases hd : (ops[j]?).bind (·.dst) with
    | none => rw [hd] at h; cases h; simp [hd]
    | some d =>
      rw [hd] at h; simp only at h
      obtain ⟨ι, h1, h2⟩ := hr j want d hg hd ()
      cases ht : ts[d]? with
      | none =>
        rw [ht] at h; cases h
        simp [hd, h2 ht]
      | some u =>
        rw [ht] at h
        obtain ⟨r, hr1, hr2⟩ := h1 u ht
        simp only [hd, Option.bind_some, hr1]
        cases hr2 <;> (try simp only at h) <;> cases h <;> first | rfl | simp

theorem wanted_of_VRs {ι : Inj} {ops : Array Oper} {o : Oper} {ts : List NVal} {b : Bool} (h : nwanted ops o ts = some b) {tmps : Array Value} (hr : VRs ι ts tmps.toList) : Region.wanted o (yielded ops tmps) = b := by
  refine wanted_sound h fun j want d _ _ _ => ⟨ι, fun u hu => ?_, fun hn => ?_⟩
  · obtain ⟨r, h1, h2⟩ := hr.get hu; exact ⟨r, by simpa using h1, h2⟩
  · have := hr.length
    rw [List.getElem?_eq_none_iff] at hn
    rw [Array.getElem?_eq_none_iff]; simp at this; omega

theorem relOn_of_VRs {ι : Inj} {ts : List NVal} {a : Act} (h : VRs ι ts a.tmps.toList) (l : Array Operand) : RelOn ι (ev ts) a.eval l := fun x _ u hu => ev_sound h hu

/-- a variable of its own: its type is known -/
def upNew (op : Op) (ob : NObj) : NObj := match op with
  | .alloc t => (match ob with | .cells cs (.own none) => .cells cs (.own (some (t, cs.length))) | ob => ob)
  | _ => ob

theorem SimO.of_new_up {o : Oper} {ρ : Operand → Option NVal} {h : NHeap} {ob : NObj} {mk : Nat → NVal} (e : newOp P ρ o.op = some (ob, mk)) : SimO P o ρ h (mk h.next) (h.alloc (upNew o.op ob)) := by
  obtain ⟨dst, op, ty, pos, after, guard⟩ := o
  simp only at e
  cases op
  case alloc t =>
    simp only [newOp] at e
    cases hz : zeroOf P t with
    | none => rw [hz] at e; cases e
    | some z =>
      rw [hz] at e; cases e
      intro w0 ι w a K Q I hr hK
      obtain ⟨i, rz, hi, hiz, hzr⟩ := zeroOf_sound (ι := ι) hz
      have hlen := hzr.cells.length
      obtain ⟨I', S'⟩ := new_cells I (Pushed.alloc w (.cells rz.cells t)) hzr.cells (t := some (t, z.cells.length)) (.inr (by rw [hlen]; simp))
      unfold Oper.wp
      have hrun : (execOp a.eval { dst := dst, op := .alloc t, type := ty, pos := pos, after := after, guard := guard }).run P w = .ok (.value (.pointer (some ⟨w.heap.size, 0, none⟩))) (w.alloc (.cells rz.cells t)) := by
        simp [execOp, Instr.alloc, run_zeroValue' hi hiz, newVar, newRow]
      rw [hrun]
      exact hK _ _ _ (.ptr (by simp; rfl)) I' S'
  all_goals exact SimO.of_new (o := { dst := dst, op := _, type := ty, pos := pos, after := after, guard := guard }) e

/-- what one operation does, a call by 'callF' -/
def stepOp (P : Program) (ρ : Operand → Option NVal) (o : Oper) (h : NHeap) : Option (NVal × NHeap) :=
  match pureOp P ρ o.op with
  | some v => some (v, h)
  | none => match readOp P ρ h o.op with
    | some v => some (v, h)
    | none => match newOp P ρ o.op with
      | some (ob, mk) => some (mk h.next, h.alloc (upNew o.op ob))
      | none => effOp P ρ h o.op

theorem stepOp_sound {ρ : Operand → Option NVal} {o : Oper} {h h' : NHeap} {v : NVal} (e : stepOp P ρ o h = some (v, h')) : SimO P o ρ h v h' := by
  unfold stepOp at e
  split at e
  · rename_i u hu; cases e; exact (SimR.of_pure hu).simO
  · split at e
    · rename_i u hu; cases e; exact (SimR.of_read hu).simO
    · split at e
      · rename_i ob mk hu; cases e; exact .of_new_up hu
      · exact .of_eff e

abbrev CallF := FuncId → List NVal → NHeap → Option (NVal × NHeap)

def isGoCall : Op → Option Call
  | .call c => (match c.callee with | .builtin _ => none | _ => some c)
  | _ => none

def doOp (P : Program) (F : CallF) (ρ : Operand → Option NVal) (o : Oper) (h : NHeap) : Option (NVal × NHeap) :=
  match isGoCall o.op with
  | some c => (match ncall P ρ h c with | some (f, as) => F f as h | none => none)
  | none => stepOp P ρ o h

def CallOk (P : Program) (F : CallF) : Prop := ∀ f as h v h', F f as h = some (v, h') → Does P f as h v h'

theorem doOp_sound {F : CallF} (hF : CallOk P F) {ρ : Operand → Option NVal} {o : Oper} {h h' : NHeap} {v : NVal} (e : doOp P F ρ o h = some (v, h')) : SimO P o ρ h v h' := by
  unfold doOp at e
  split at e
  · rename_i c hc
    have ho : o.op = .call c := by
      unfold isGoCall at hc
      split at hc
      · rename_i c' heq
        split at hc
        · cases hc
        · cases hc; exact heq
      · cases hc
    split at e
    · rename_i f as hn
      exact call_sound ho hn (hF f as h v h' e)
    · cases e
  · exact stepOp_sound e

/-! ### A region in the order of its text -/

def seqOps (P : Program) (F : CallF) (ops : Array Oper) : List Oper → List NVal → NHeap → Option (List NVal × NHeap)
  | [], ts, h => some (ts, h)
  | o :: rest, ts, h => match nwanted ops o ts with
    | none => none
    | some false => seqOps P F ops rest (nput ts o.dst nundef) h
    | some true => match doOp P F (ev ts) o h with
      | none => none
      | some (v, h') => seqOps P F ops rest (nput ts o.dst v) h'

/-- code comes to this exit with these temporaries over this heap -/
def SimC (P : Program) (c : Code) (ts : List NVal) (h : NHeap) (e : Exit) (ts' : List NVal) (h' : NHeap) : Prop :=
  ∀ (w0 : World) (ι : Inj) (w : World) (a : Act) (Q : Exit → Act → World → Prop), Inv w0 ι h w → VRs ι ts a.tmps.toList → a.defers = [] →
    (∀ ι' w' a', VRs ι' ts' a'.tmps.toList → a'.defers = [] → Inv w0 ι' h' w' → Step ι h w ι' h' w' → Q e a' w') → c.wp P Q a w

theorem seqOps_sound {F : CallF} (hF : CallOk P F) {ops : Array Oper} : ∀ {l : List Oper} {ts ts' : List NVal} {h h' : NHeap}, seqOps P F ops l ts h = some (ts', h') →
    ∀ (w0 : World) (ι : Inj) (w : World) (a : Act) (Q : Exit → Act → World → Prop), Inv w0 ι h w → VRs ι ts a.tmps.toList → a.defers = [] →
      (∀ ι' w' a', VRs ι' ts' a'.tmps.toList → a'.defers = [] → Inv w0 ι' h' w' → Step ι h w ι' h' w' → Q .normal a' w') → wpList P ops Q l a w
  | [], ts, ts', h, h', e => by
    intro w0 ι w a Q I ht hd hQ
    cases e
    exact hQ ι w a ht hd I (Step.refl _ _ _)
  | o :: rest, ts, ts', h, h', e => by
    intro w0 ι w a Q I ht hd hQ
    unfold seqOps at e
    cases hw : nwanted ops o ts with
    | none => rw [hw] at e; cases e
    | some b =>
      rw [hw] at e
      have hwant := wanted_of_VRs hw ht
      cases b with
      | false =>
        simp only [wpList, hwant, Bool.false_eq_true, if_false]
        exact seqOps_sound hF e w0 ι w _ Q I (put_rel ht .undef o.dst) (by rw [put_defers]; exact hd) hQ
      | true =>
        simp only at e
        cases hdo : doOp P F (ev ts) o h with
        | none => rw [hdo] at e; cases e
        | some p =>
          obtain ⟨v, h1⟩ := p
          rw [hdo] at e
          simp only [wpList, hwant, if_true]
          refine .inl (doOp_sound hF hdo w0 ι w a _ Q I (relOn_of_VRs ht _) fun ι' w' rv hv I' S' => ?_)
          exact seqOps_sound hF e w0 ι' w' _ Q I' (put_rel (ht.mono S'.ext) hv o.dst) (by rw [put_defers]; exact hd) fun ι2 w2 a2 t2 d2 I2 S2 => hQ ι2 w2 a2 t2 d2 I2 (S'.trans S2)

theorem region_seq_sound {F : CallF} (hF : CallOk P F) {id : Nat} {ops : Array Oper} {ts ts' : List NVal} {h h' : NHeap} (e : seqOps P F ops ops.toList ts h = some (ts', h')) : SimC P (.region id ops false) ts h .normal ts' h' :=
  fun w0 ι w a Q I ht hd hQ => wp_region_list (seqOps_sound hF e w0 ι w a Q I ht hd hQ)
end Go.Proofs.Ytblhpikljhholaa.NICE
