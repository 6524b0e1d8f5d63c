/- Code and functions. -/
import Derived.Test.YtblhpikljhholaaNice15
set_option linter.unusedVariables false
set_option linter.unusedSimpArgs false
namespace Go.Proofs.Ytblhpikljhholaa.NICE
open Go Go.RowKit

variable {P : Program}

/-- a region whose order is drawn, as a function; and that it may be trusted -/
abbrev DrawF := CallF → Array Oper → List NVal → NHeap → Option (List NVal × NHeap)
def DrawOk (P : Program) (S : Array Oper → Bool) (D : DrawF) : Prop := ∀ F, CallOk P F → ∀ id ops, S ops = true → ∀ ts h ts' h', D F ops ts h = some (ts', h') → SimC P (.region id ops true) ts h .normal ts' h'

/-- the static test, of every region of a code whose order is drawn -/
def codeStat (S : Array Oper → Bool) : Code → Bool
  | .region _ ops true => S ops
  | .seq a b => codeStat S a && codeStat S b
  | .cond _ a b => codeStat S a && codeStat S b
  | .block _ a => codeStat S a
  | .loop a => codeStat S a
  | _ => true

inductive Ex where
  | normal
  | exit (id : Nat)
  | ret
  deriving DecidableEq

def Ex.real : Ex → Exit
  | .normal => .normal
  | .exit i => .exit i
  | .ret => .ret

abbrev Out := Option (Ex × List NVal × NHeap)

def evC (P : Program) (D : DrawF) (F : CallF) : Nat → Code → List NVal → NHeap → Out
  | 0, _, _, _ => none
  | n + 1, c, ts, h =>
    match c with
    | .skip => some (.normal, ts, h)
    | .ret => some (.ret, ts, h)
    | .exit i => some (.exit i, ts, h)
    | .region _ ops draw => (match (if draw then D F ops ts h else seqOps P F ops ops.toList ts h) with
      | some (ts', h') => some (.normal, ts', h')
      | none => none)
    | .seq a b => (match evC P D F n a ts h with
      | some (.normal, ts', h') => evC P D F n b ts' h'
      | r => r)
    | .cond x a b => (match ev ts x with
      | some (.bool true) => evC P D F n a ts h
      | some (.bool false) => evC P D F n b ts h
      | _ => none)
    | .block i a => (match evC P D F n a ts h with
      | some (.exit j, ts', h') => if j = i then some (.normal, ts', h') else some (.exit j, ts', h')
      | r => r)
    | .loop a => (match evC P D F n a ts h with
      | some (.normal, ts', h') => evC P D F n (.loop a) ts' h'
      | r => r)
    | _ => none

def RoundsOk (P : Program) (c : Code) (ts : List NVal) (h : NHeap) (e : Exit) (ts' : List NVal) (h' : NHeap) : Prop :=
  ∃ k, ∀ (w0 : World) (ι : Inj) (w : World) (a : Act) (Q : Exit → Act → World → Prop), Inv w0 ι h w → VRs ι ts a.tmps.toList → a.defers = [] →
    (∀ ι' w' a', VRs ι' ts' a'.tmps.toList → a'.defers = [] → Inv w0 ι' h' w' → Step ι h w ι' h' w' → Q e a' w') → Code.rounds P c Q k a w

theorem SimC.skip (ts : List NVal) (h : NHeap) : SimC P .skip ts h .normal ts h := fun w0 ι w a Q I ht hd hQ => wp_skip (hQ ι w a ht hd I (Step.refl _ _ _))
theorem SimC.ret (ts : List NVal) (h : NHeap) : SimC P .ret ts h .ret ts h := fun w0 ι w a Q I ht hd hQ => wp_ret (hQ ι w a ht hd I (Step.refl _ _ _))
theorem SimC.exit (i : Nat) (ts : List NVal) (h : NHeap) : SimC P (.exit i) ts h (.exit i) ts h := fun w0 ι w a Q I ht hd hQ => wp_exit (hQ ι w a ht hd I (Step.refl _ _ _))

theorem SimC.seq {a b : Code} {ts ts1 ts2 : List NVal} {h h1 h2 : NHeap} {e : Exit} (ha : SimC P a ts h .normal ts1 h1) (hb : SimC P b ts1 h1 e ts2 h2) : SimC P (.seq a b) ts h e ts2 h2 :=
  fun w0 ι w x Q I ht hd hQ => wp_seq (ha w0 ι w x _ I ht hd fun ι' w' a' t' d' I' S' =>
    hb w0 ι' w' a' Q I' t' d' fun ι2 w2 a2 t2 d2 I2 S2 => hQ ι2 w2 a2 t2 d2 I2 (S'.trans S2))

theorem SimC.seq_exit {a b : Code} {ts ts1 : List NVal} {h h1 : NHeap} {e : Exit} (ha : SimC P a ts h e ts1 h1) (he : e ≠ .normal) : SimC P (.seq a b) ts h e ts1 h1 :=
  fun w0 ι w x Q I ht hd hQ => wp_seq (ha w0 ι w x _ I ht hd fun ι' w' a' t' d' I' S' => by
    have := hQ ι' w' a' t' d' I' S'
    cases e <;> first | exact absurd rfl he | exact this)

theorem SimC.cond {c : Operand} {t : Bool} {a b : Code} {ts ts1 : List NVal} {h h1 : NHeap} {e : Exit} (hc : ev ts c = some (.bool t)) (ha : SimC P (if t then a else b) ts h e ts1 h1) : SimC P (.cond c a b) ts h e ts1 h1 :=
  fun w0 ι w x Q I ht hd hQ => wp_cond (t := t) ((ev_sound ht hc).bool_inv) (ha w0 ι w x Q I ht hd hQ)

def outOf (i : Nat) : Exit → Exit
  | .exit j => if j = i then .normal else .exit j
  | e => e

theorem SimC.block {i : Nat} {a : Code} {ts ts1 : List NVal} {h h1 : NHeap} {e : Exit} (ha : SimC P a ts h e ts1 h1) : SimC P (.block i a) ts h (outOf i e) ts1 h1 :=
  fun w0 ι w x Q I ht hd hQ => wp_block (ha w0 ι w x _ I ht hd fun ι' w' a' t' d' I' S' => by
    have := hQ ι' w' a' t' d' I' S'
    cases e with
    | exit j =>
      simp only [Exit.inBlock, outOf] at this ⊢
      by_cases hj : j = i
      · rw [if_pos hj] at this ⊢; exact this
      · rw [if_neg hj] at this ⊢; exact this
    | _ => exact this)

theorem RoundsOk.loop {a : Code} {ts ts1 : List NVal} {h h1 : NHeap} {e : Exit} (r : RoundsOk P a ts h e ts1 h1) : SimC P (.loop a) ts h e ts1 h1 := by
  obtain ⟨k, hk⟩ := r
  exact fun w0 ι w x Q I ht hd hQ => wp_loop_rounds k (hk w0 ι w x Q I ht hd hQ)

theorem RoundsOk.last {a : Code} {ts ts1 : List NVal} {h h1 : NHeap} {e : Exit} (ha : SimC P a ts h e ts1 h1) (he : e ≠ .normal) : RoundsOk P a ts h e ts1 h1 :=
  ⟨1, fun w0 ι w x Q I ht hd hQ => ha w0 ι w x _ I ht hd fun ι' w' a' t' d' I' S' => by
    have := hQ ι' w' a' t' d' I' S'
    cases e <;> first | exact absurd rfl he | exact this⟩

theorem RoundsOk.more {a : Code} {ts ts1 ts2 : List NVal} {h h1 h2 : NHeap} {e : Exit} (ha : SimC P a ts h .normal ts1 h1) (r : RoundsOk P a ts1 h1 e ts2 h2) : RoundsOk P a ts h e ts2 h2 := by
  obtain ⟨k, hk⟩ := r
  exact ⟨k + 1, fun w0 ι w x Q I ht hd hQ => ha w0 ι w x _ I ht hd fun ι' w' a' t' d' I' S' => hk w0 ι' w' a' Q I' t' d' fun ι2 w2 a2 t2 d2 I2 S2 => hQ ι2 w2 a2 t2 d2 I2 (S'.trans S2)⟩

theorem evC_sound {S : Array Oper → Bool} {D : DrawF} (hD : DrawOk P S D) {F : CallF} (hF : CallOk P F) : ∀ (n : Nat) (c : Code), codeStat S c = true → ∀ (ts : List NVal) (h : NHeap) (e : Ex) (ts' : List NVal) (h' : NHeap), evC P D F n c ts h = some (e, ts', h') →
    SimC P c ts h e.real ts' h' ∧ ∀ a, c = .loop a → RoundsOk P a ts h e.real ts' h'
  | 0, c, hs, ts, h, e, ts', h', q => by cases q
  | n + 1, c, hs, ts, h, e, ts', h', q => by
    have ih := evC_sound hD hF n
    cases c with
    | skip => cases q; exact ⟨.skip _ _, fun a ha => by cases ha⟩
    | ret => cases q; exact ⟨.ret _ _, fun a ha => by cases ha⟩
    | exit i => cases q; exact ⟨.exit _ _ _, fun a ha => by cases ha⟩
    | region id ops draw =>
      refine ⟨?_, fun a ha => by cases ha⟩
      unfold evC at q
      cases draw with
      | true =>
        simp only [if_true] at q
        cases hx : D F ops ts h with
        | none => rw [hx] at q; cases q
        | some p => obtain ⟨t1, h1⟩ := p; rw [hx] at q; cases q; exact hD F hF id ops hs ts h _ _ hx
      | false =>
        simp only [Bool.false_eq_true, if_false] at q
        cases hx : seqOps P F ops ops.toList ts h with
        | none => rw [hx] at q; cases q
        | some p => obtain ⟨t1, h1⟩ := p; rw [hx] at q; cases q; exact region_seq_sound hF hx
    | seq a b =>
      refine ⟨?_, fun a ha => by cases ha⟩
      simp only [codeStat, Bool.and_eq_true] at hs
      unfold evC at q; simp only at q
      cases hx : evC P D F n a ts h with
      | none => rw [hx] at q; cases q
      | some p =>
        obtain ⟨e1, t1, h1⟩ := p
        rw [hx] at q
        cases e1 with
        | normal => exact (ih _ hs.1 _ _ _ _ _ hx).1.seq (ih _ hs.2 _ _ _ _ _ q).1
        | exit j => cases q; exact (ih _ hs.1 _ _ _ _ _ hx).1.seq_exit (by simp [Ex.real])
        | ret => cases q; exact (ih _ hs.1 _ _ _ _ _ hx).1.seq_exit (by simp [Ex.real])
    | cond x a b =>
      refine ⟨?_, fun a ha => by cases ha⟩
      simp only [codeStat, Bool.and_eq_true] at hs
      unfold evC at q; simp only at q
      cases hx : ev ts x with
      | none => rw [hx] at q; cases q
      | some u =>
        rw [hx] at q
        cases u with
        | bool t => cases t with
          | true => exact .cond hx (by simpa using (ih _ hs.1 _ _ _ _ _ q).1)
          | false => exact .cond hx (by simpa using (ih _ hs.2 _ _ _ _ _ q).1)
        | _ => cases q
    | block i a =>
      refine ⟨?_, fun a ha => by cases ha⟩
      unfold evC at q; simp only at q
      cases hx : evC P D F n a ts h with
      | none => rw [hx] at q; cases q
      | some p =>
        obtain ⟨e1, t1, h1⟩ := p
        rw [hx] at q
        have := (ih a hs _ _ _ _ _ hx).1.block (i := i)
        cases e1 with
        | normal => cases q; exact this
        | ret => cases q; exact this
        | exit j =>
          simp only at q
          simp only [Ex.real, outOf] at this
          by_cases hj : j = i
          · rw [if_pos hj] at q this; cases q; exact this
          · rw [if_neg hj] at q this; cases q; exact this
    | loop a =>
      have key : RoundsOk P a ts h e.real ts' h' := by
        unfold evC at q; simp only at q
        cases hx : evC P D F n a ts h with
        | none => rw [hx] at q; cases q
        | some p =>
          obtain ⟨e1, t1, h1⟩ := p
          rw [hx] at q
          cases e1 with
          | normal => exact .more (ih a hs _ _ _ _ _ hx).1 ((ih (.loop a) hs _ _ _ _ _ q).2 a rfl)
          | exit j => cases q; exact .last (ih a hs _ _ _ _ _ hx).1 (by simp [Ex.real])
          | ret => cases q; exact .last (ih a hs _ _ _ _ _ hx).1 (by simp [Ex.real])
      exact ⟨key.loop, fun b hb => by cases hb; exact key⟩
    | rangeFunc _ _ _ _ => cases q
    | scope _ => cases q
    | label _ => cases q
    | goto _ => cases q
    | refuse _ => cases q

/-! ### Functions -/

def nresult (P : Program) (ts : List NVal) (h : NHeap) : ResultVar → Option NVal
  | .tmp t => some (ts.getD t nundef)
  | .cell a t => (match ts.getD a nundef with
    | .ptr (some p) => nload P t p h
    | _ => none)

def nresults (P : Program) (ts : List NVal) (h : NHeap) : List ResultVar → Option (List NVal)
  | [] => some []
  | r :: rs => match nresult P ts h r with
    | none => none
    | some v => match nresults P ts h rs with
      | none => none
      | some vs => some (v :: vs)

def oneOr : List NVal → NVal
  | [v] => v
  | vs => .tuple vs

variable {w0 w : World} {ι : Inj} {h : NHeap}

def resSem (tmps : Array Value) : ResultVar → Sem Value
  | .tmp t => pure (tmps.getD t undef)
  | .cell a t => do loadVar t (← asAddr (tmps.getD a undef))

theorem results_eq (fn : Func) (tmps : Array Value) : results fn tmps = (fn.results.mapM (resSem tmps) >>= fun vs => pure (if h : vs.size = 1 then vs[0] else .tuple vs)) := by
  unfold results
  congr 2

theorem result_sound (I : Inv w0 ι h w) {ts : List NVal} {tmps : Array Value} (ht : VRs ι ts tmps.toList) {r : ResultVar} {v : NVal} (e : nresult P ts h r = some v) :
    ∃ rv, VR ι v rv ∧ (resSem tmps r).run P w = .ok rv w := by
  cases r with
  | tmp t =>
    cases e
    have := ht.getD VR.undef t
    exact ⟨_, this, by simp [resSem]⟩
  | cell a t =>
    simp only [nresult] at e
    have hv := ht.getD VR.undef a
    generalize hg : ts.getD a nundef = u at e hv
    cases u with
    | ptr p => cases p with
      | none => cases e
      | some p =>
        obtain ⟨b, o⟩ := p
        simp only at e
        obtain ⟨rv, h1, h2⟩ := load_sound (P := P) I e hv
        obtain ⟨rb, s, m, hι, e2⟩ := hv.ptr_inv
        refine ⟨rv, h1, ?_⟩
        have e3 : tmps.getD a undef = .pointer (some ⟨rb, s + o, none⟩) := by rw [← e2]; simp
        rw [e2] at h2
        simp only [resSem, Sem.run_bind, e3, asAddr, Sem.run_pure, Result.andThen_ok]
        simpa [Instr.loadAt, Instr.sureAddr] using h2
    | _ => cases e

theorem results_sound (I : Inv w0 ι h w) {ts : List NVal} {tmps : Array Value} (ht : VRs ι ts tmps.toList) : ∀ {rs : List ResultVar} {vs : List NVal}, nresults P ts h rs = some vs →
    ∃ rvs, VRs ι vs rvs ∧ (rs.mapM (resSem tmps)).run P w = .ok rvs w
  | [], vs, e => by simp only [nresults] at e; cases e; exact ⟨[], .nil, by simp⟩
  | r :: rs, vs, e => by
    unfold nresults at e
    cases hr : nresult P ts h r with
    | none => rw [hr] at e; cases e
    | some v => cases hrs : nresults P ts h rs with
      | none => rw [hr, hrs] at e; cases e
      | some vs' =>
        rw [hr, hrs] at e; cases e
        obtain ⟨rv, h1, h2⟩ := result_sound I ht hr
        obtain ⟨rvs, h3, h4⟩ := results_sound I ht hrs
        refine ⟨rv :: rvs, .cons h1 h3, ?_⟩
        simp only [List.mapM_cons, Sem.run_bind, h2, Result.andThen_ok, h4, Sem.run_pure]

/-- what the model knows of a function -/
structure FnOk (P : Program) (f : FuncId) (c : Code) (nt : Nat) (rs : List ResultVar) : Prop where
  fn : ∃ fn, P.funcs[f]? = some fn ∧ fn.body = some c ∧ fn.ntmps = nt ∧ fn.results.toList = rs
  enters : Enters P f

theorem oneOr_rel {vs : List NVal} {rvs : List Value} (hv : VRs ι vs rvs) : VR ι (oneOr vs) (if h : rvs.toArray.size = 1 then rvs.toArray[0] else .tuple rvs.toArray) := by
  cases hv with
  | nil => exact .tuple' (by simpa using All2.nil)
  | cons a b =>
    cases b with
    | nil => simpa [oneOr] using a
    | cons c d =>
      simp only [oneOr]
      rw [dif_neg (by simp)]
      exact .tuple' (by simpa using All2.cons a (All2.cons c d))

theorem fn_sound {f : FuncId} {c : Code} {nt : Nat} {rs : List ResultVar} (ok : FnOk P f c nt rs) {args ts' : List NVal} {h' : NHeap} {e : Exit} (he : e = .normal ∨ e = .ret) {vs : List NVal}
    (hc : SimC P c (args ++ List.replicate (nt - args.length) nundef) h e ts' h') (hr : nresults P ts' h' rs = some vs) : SimF P f args h (oneOr vs) h' := by
  intro w0 ι w ra R I hra hR
  obtain ⟨fn, h1, h2, h3, h4⟩ := ok.fn
  refine calls_of_wp h1 h2 (hc w0 ι w _ _ I ?_ rfl ?_)
  · have hlen := hra.length
    simp only [Array.toList_append, Array.toList_replicate]
    rw [h3, show ra.size = args.length by simpa using hlen.symm]
    exact hra.append (.replicate .undef _)
  · intro ι' w' a' t' d' I' S'
    obtain ⟨rvs, r1, r2⟩ := results_sound (P := P) I' t' hr
    have fin : (results fn a'.tmps).run P w' = .ok (if h : rvs.toArray.size = 1 then rvs.toArray[0] else .tuple rvs.toArray) w' := by
      rw [results_eq]
      simp only [Array.mapM_eq_mapM_toList, h4, Sem.run_bind, Sem.run_map, r2, Result.andThen_ok, Sem.run_pure]
    have := hR ι' w' _ (oneOr_rel r1) I' S'
    rcases he with rfl | rfl <;> exact ⟨d', _, fin, this⟩

/-- the functions that are known, and calls that are known by a contract -/
structure Env (P : Program) (S : Array Oper → Bool) where
  get : FuncId → Option (Code × Nat × List ResultVar)
  ok : ∀ f c nt rs, get f = some (c, nt, rs) → FnOk P f c nt rs ∧ codeStat S c = true
  known : CallF
  knownOk : CallOk P known

def evF (P : Program) {S : Array Oper → Bool} (D : DrawF) (E : Env P S) (m : Nat) : Nat → CallF
  | 0 => fun _ _ _ => none
  | n + 1 => fun f args h => match E.known f args h with
    | some r => some r
    | none => match E.get f with
      | none => none
      | some (c, nt, rs) => match evC P D (evF P D E m n) m c (args ++ List.replicate (nt - args.length) nundef) h with
        | some (.exit _, _, _) => none
        | none => none
        | some (_, ts', h') => match nresults P ts' h' rs with
          | none => none
          | some vs => some (oneOr vs, h')

theorem evF_step {S : Array Oper → Bool} {D : DrawF} (hD : DrawOk P S D) (E : Env P S) (m : Nat) {n : Nat} (ih : CallOk P (evF P D E m n)) {f : FuncId} {as : List NVal} {h : NHeap} {v : NVal} {h' : NHeap}
    (e : evF P D E m (n + 1) f as h = some (v, h')) (hk : E.known f as h = none) : Enters P f ∧ SimF P f as h v h' := by
  unfold evF at e
  rw [hk] at e; simp only at e
  cases hg : E.get f with
  | none => rw [hg] at e; cases e
  | some p =>
    obtain ⟨c, nt, rs⟩ := p
    rw [hg] at e; simp only at e
    obtain ⟨ok, st⟩ := E.ok f c nt rs hg
    refine ⟨ok.enters, ?_⟩
    cases hx : evC P D (evF P D E m n) m c (as ++ List.replicate (nt - as.length) nundef) h with
    | none => rw [hx] at e; cases e
    | some q =>
      obtain ⟨ex, ts', h1⟩ := q
      rw [hx] at e
      have hs := (evC_sound hD ih m c st _ _ _ _ _ hx).1
      cases ex with
      | exit j => cases e
      | normal =>
        simp only at e
        cases hr : nresults P ts' h1 rs with
        | none => rw [hr] at e; cases e
        | some vs => rw [hr] at e; cases e; exact fn_sound ok (.inl rfl) hs hr
      | ret =>
        simp only at e
        cases hr : nresults P ts' h1 rs with
        | none => rw [hr] at e; cases e
        | some vs => rw [hr] at e; cases e; exact fn_sound ok (.inr rfl) hs hr

theorem evF_sound {S : Array Oper → Bool} {D : DrawF} (hD : DrawOk P S D) (E : Env P S) (m : Nat) : ∀ n, CallOk P (evF P D E m n)
  | 0, f, as, h, v, h', e => by cases e
  | n + 1, f, as, h, v, h', e => by
    cases hk : E.known f as h with
    | some r => unfold evF at e; rw [hk] at e; cases e; exact E.knownOk f as h v h' hk
    | none => exact .inl (evF_step hD E m (evF_sound hD E m n) e hk)
end Go.Proofs.Ytblhpikljhholaa.NICE
