/- The same working out, the temporaries in a tree. -/
import Derived.Test.YtblhpikljhholaaNice24
set_option linter.unusedVariables false
set_option linter.unusedSimpArgs false
namespace Go.Proofs.Ytblhpikljhholaa.NICE
open Go Go.RowKit

variable {P : Program}

inductive TT where
  | leaf
  | node (v : NVal) (l r : TT)

/-- (written with the recursors themselves: so the kernel has the fewest steps) -/
noncomputable def TT.get (t : TT) : Nat → NVal :=
  TT.rec (motive := fun _ => Nat → NVal) (fun _ => nundef)
    (fun v _ _ gl gr n => Bool.rec (motive := fun _ => NVal) (Bool.rec (motive := fun _ => NVal) (gr (Nat.div n 2)) (gl (Nat.div n 2)) (Nat.beq (Nat.mod n 2) 0)) v (Nat.beq n 0)) t

noncomputable def TT.put (f : Nat) : TT → Nat → NVal → TT :=
  Nat.rec (motive := fun _ => TT → Nat → NVal → TT) (fun t _ _ => t)
    (fun _ ih t n o => TT.rec (motive := fun _ => TT)
      (Bool.rec (motive := fun _ => TT) (Bool.rec (motive := fun _ => TT) (.node nundef .leaf (ih .leaf (Nat.div n 2) o)) (.node nundef (ih .leaf (Nat.div n 2) o) .leaf) (Nat.beq (Nat.mod n 2) 0)) (.node o .leaf .leaf) (Nat.beq n 0))
      (fun v l r _ _ => Bool.rec (motive := fun _ => TT) (Bool.rec (motive := fun _ => TT) (.node v l (ih r (Nat.div n 2) o)) (.node v (ih l (Nat.div n 2) o) r) (Nat.beq (Nat.mod n 2) 0)) (.node o l r) (Nat.beq n 0)) t) f

theorem TT.put_leaf (f : Nat) (n : Nat) (o : NVal) : TT.put (f + 1) .leaf n o = bif Nat.beq n 0 then .node o .leaf .leaf else bif Nat.beq (n % 2) 0 then .node nundef (TT.put f .leaf (n / 2) o) .leaf else .node nundef .leaf (TT.put f .leaf (n / 2) o) := by
  show Bool.rec (motive := fun _ => TT) _ _ (Nat.beq n 0) = _
  cases Nat.beq n 0
  · show Bool.rec (motive := fun _ => TT) _ _ (Nat.beq (n % 2) 0) = _
    cases Nat.beq (n % 2) 0 <;> rfl
  · rfl

theorem TT.put_node (f : Nat) (v : NVal) (l r : TT) (n : Nat) (o : NVal) : TT.put (f + 1) (.node v l r) n o = bif Nat.beq n 0 then .node o l r else bif Nat.beq (n % 2) 0 then .node v (TT.put f l (n / 2) o) r else .node v l (TT.put f r (n / 2) o) := by
  show Bool.rec (motive := fun _ => TT) _ _ (Nat.beq n 0) = _
  cases Nat.beq n 0
  · show Bool.rec (motive := fun _ => TT) _ _ (Nat.beq (n % 2) 0) = _
    cases Nat.beq (n % 2) 0 <;> rfl
  · rfl

theorem cbeq {α : Type} (n m : Nat) (a b : α) : (bif Nat.beq n m then a else b) = if n = m then a else b := by
  by_cases h : n = m
  · subst h; simp
  · have : Nat.beq n m = false := by
      cases e : Nat.beq n m with
      | false => rfl
      | true => exact absurd (Nat.eq_of_beq_eq_true e) h
    rw [this, if_neg h]; rfl

theorem TT.get_leaf (n : Nat) : TT.leaf.get n = nundef := rfl
theorem TT.get_node (v : NVal) (l r : TT) (n : Nat) : (TT.node v l r).get n = if n = 0 then v else if n % 2 = 0 then l.get (n / 2) else r.get (n / 2) := by
  show Bool.rec (motive := fun _ => NVal) (Bool.rec (motive := fun _ => NVal) (r.get (n / 2)) (l.get (n / 2)) (Nat.beq (n % 2) 0)) v (Nat.beq n 0) = _
  rw [← cbeq, ← cbeq]
  cases Nat.beq n 0
  · cases Nat.beq (n % 2) 0 <;> rfl
  · rfl

theorem TT.get_put (o : NVal) : ∀ (f : Nat) (t : TT) (n m : Nat), n < f → (TT.put f t n o).get m = if m = n then o else t.get m
  | 0, _, _, _, h => by omega
  | f + 1, .leaf, n, m, h => by
    rw [TT.put_leaf]
    simp only [cbeq]
    by_cases hn : n = 0
    · subst hn; simp only [if_true, TT.get_node, TT.get_leaf]
      by_cases hm : m = 0
      · simp [hm]
      · simp only [hm, if_false]; split <;> rfl
    · have ih := TT.get_put o f .leaf (n / 2) (m / 2) (by omega)
      by_cases he : n % 2 = 0
      · simp only [hn, he, if_false, if_true, TT.get_node]
        by_cases hm : m = 0
        · subst hm; simp [Ne.symm hn, TT.get_leaf]
        · simp only [hm, if_false]
          by_cases hme : m % 2 = 0
          · simp only [hme, if_true, ih]; by_cases hmn : m = n
            · subst hmn; simp
            · rw [if_neg (by omega), if_neg hmn]; rfl
          · simp only [hme, if_false]; rw [if_neg (by intro e; subst e; omega)]; rfl
      · simp only [hn, he, if_false, TT.get_node]
        by_cases hm : m = 0
        · subst hm; simp [Ne.symm hn, TT.get_leaf]
        · simp only [hm, if_false]
          by_cases hme : m % 2 = 0
          · simp only [hme, if_true]; rw [if_neg (by intro e; subst e; omega)]; rfl
          · simp only [hme, if_false, ih]; by_cases hmn : m = n
            · subst hmn; simp
            · rw [if_neg (by omega), if_neg hmn]; rfl
  | f + 1, .node v l r, n, m, h => by
    rw [TT.put_node]
    simp only [cbeq]
    by_cases hn : n = 0
    · subst hn; by_cases hm : m = 0 <;> simp [TT.get_node, hm]
    · by_cases he : n % 2 = 0
      · have ih := TT.get_put o f l (n / 2) (m / 2) (by omega)
        simp only [hn, he, if_false, if_true, TT.get_node]
        by_cases hm : m = 0
        · subst hm; simp [Ne.symm hn]
        · simp only [hm, if_false]
          by_cases hme : m % 2 = 0
          · simp only [hme, if_true, ih]; by_cases hmn : m = n
            · subst hmn; simp
            · rw [if_neg (by omega), if_neg hmn]
          · simp only [hme, if_false]; rw [if_neg (by intro e; subst e; omega)]
      · have ih := TT.get_put o f r (n / 2) (m / 2) (by omega)
        simp only [hn, he, if_false, TT.get_node]
        by_cases hm : m = 0
        · subst hm; simp [Ne.symm hn]
        · simp only [hm, if_false]
          by_cases hme : m % 2 = 0
          · simp only [hme, if_true]; rw [if_neg (by intro e; subst e; omega)]
          · simp only [hme, if_false, ih]; by_cases hmn : m = n
            · subst hmn; simp
            · rw [if_neg (by omega), if_neg hmn]

abbrev TS := TT

/-- a tree stands for a list of this length -/
structure Rep (n : Nat) (s : TS) (ts : List NVal) : Prop where
  len : ts.length = n
  get : ∀ i, s.get i = ts.getD i nundef

noncomputable def TT.ev (s : TS) : Operand → Option NVal
  | .tmp t => some (s.get t)
  | .const v => ofVal 4 v
  | .global _ => none
  | .func f => some (.func (.func f) [] [])

variable {N : Nat}

theorem Rep.ev {s : TS} {ts : List NVal} (r : Rep N s ts) : s.ev = NICE.ev ts := by
  funext x
  cases x <;> simp [TT.ev, NICE.ev, r.get]

noncomputable def TT.putO (N : Nat) (s : TS) (dst : Option Tmp) (v : NVal) : Option TS :=
  Option.rec (motive := fun _ => Option TS) (some s) (fun d => Bool.rec (motive := fun _ => Option TS) none (some (TT.put (Nat.succ d) s d v)) (Nat.ble (Nat.succ d) N)) dst

theorem Rep.put {s s' : TS} {ts : List NVal} (r : Rep N s ts) {dst : Option Tmp} {v : NVal} (h : s.putO N dst v = some s') : Rep N s' (nput ts dst v) := by
  cases dst with
  | none => cases h; exact r
  | some d =>
    have h' : Bool.rec (motive := fun _ => Option TS) none (some (TT.put (d + 1) s d v)) (Nat.ble (d + 1) N) = some s' := h
    cases hb : Nat.ble (d + 1) N with
    | false => rw [hb] at h'; cases h'
    | true =>
      rw [hb] at h'; cases h'
      have hd : Nat.lt d N := Nat.le_of_ble_eq_true hb
      have hd : d < N := hd
      refine ⟨by simp [nput, r.len], fun i => ?_⟩
      rw [TT.get_put v (d + 1) s d i (by omega), r.get]
      simp only [nput, List.getD_eq_getElem?_getD, List.getElem?_set]
      by_cases hi : i = d
      · subst hi
        rw [if_pos rfl, if_pos rfl, if_pos (by rw [r.len]; exact hd)]; rfl
      · rw [if_neg hi, if_neg (Ne.symm hi)]

/-- temporaries out of a list -/
noncomputable def TT.ofList : List NVal → Nat → TT → TT
  | [], _, t => t
  | v :: l, i, t => TT.ofList l (i + 1) (TT.put (i + 1) t i v)

theorem TT.get_ofList : ∀ (l : List NVal) (i : Nat) (t : TT) (j : Nat), (TT.ofList l i t).get j = if i ≤ j ∧ j < i + l.length then l.getD (j - i) nundef else t.get j
  | [], i, t, j => by rw [if_neg (by simp)]; rfl
  | v :: l, i, t, j => by
    unfold TT.ofList
    rw [TT.get_ofList l, TT.get_put v (i + 1) t i j (by omega)]
    by_cases h1 : j = i
    · subst h1
      rw [if_neg (by omega), if_pos rfl, if_pos (by simp)]; simp
    · by_cases h2 : i + 1 ≤ j ∧ j < i + 1 + l.length
      · rw [if_pos h2, if_pos (by simp; omega), show j - i = (j - (i + 1)) + 1 by omega]; simp
      · rw [if_neg h2, if_neg h1, if_neg (by simp; omega)]

noncomputable def TT.start (args : List NVal) : TS := TT.ofList args 0 .leaf

theorem Rep.start (args : List NVal) (nt : Nat) : Rep (args.length + (nt - args.length)) (TT.start args) (args ++ List.replicate (nt - args.length) nundef) := by
  refine ⟨by simp, fun i => ?_⟩
  show (TT.ofList args 0 .leaf).get i = _
  rw [TT.get_ofList]
  simp only [Nat.zero_le, true_and, Nat.zero_add, Nat.sub_zero, TT.get_leaf]
  by_cases h : i < args.length
  · rw [if_pos h]; simp [List.getD_eq_getElem?_getD, List.getElem?_append, h]
  · rw [if_neg h]
    simp only [List.getD_eq_getElem?_getD, List.getElem?_append, h, if_false, List.getElem?_replicate]
    split <;> rfl

/-! ### Regions, code, functions again -/

noncomputable def twanted (ops : Array Oper) (o : Oper) (s : TS) : Option Bool :=
  match o.guard with
  | none => some true
  | some (j, want) => match (ops[j]?).bind (·.dst) with
    | none => some false
    | some d => match s.get d with
      | .bool b => some (b == want)
      | .junk => none
      | _ => some false

theorem Rep.wanted {s : TS} {ts : List NVal} (r : Rep N s ts) (ops : Array Oper) (o : Oper) : twanted ops o s = nwanted ops o ts := by
  unfold twanted nwanted
  cases o.guard with
  | none => rfl
  | some p =>
    obtain ⟨j, want⟩ := p
    simp only
    cases (ops[j]?).bind (·.dst) with
    | none => rfl
    | some d =>
      simp only [r.get, List.getD_eq_getElem?_getD]
      cases ts[d]? with
      | none => rfl
      | some u => cases u <;> rfl

noncomputable def tseq (P : Program) (F : CallF) (N : Nat) (ops : Array Oper) : List Oper → TS → NHeap → Option (TS × NHeap)
  | [], s, h => some (s, h)
  | o :: rest, s, h => match twanted ops o s with
    | none => none
    | some false => (match s.putO N o.dst nundef with | some s' => tseq P F N ops rest s' h | none => none)
    | some true => match doR o.op P F s.ev h with
      | none => none
      | some (v, h') => (match s.putO N o.dst v with | some s' => tseq P F N ops rest s' h' | none => none)

noncomputable def twantedR (ops : Array Oper) (o : Oper) (s : TS) (g : Option (Nat × Bool)) : Option Bool := Option.rec (motive := fun _ => Option Bool) (some true) (fun _ => twanted ops o s) g
theorem twantedR_eq (ops : Array Oper) (o : Oper) (s : TS) : twantedR ops o s o.guard = twanted ops o s := by
  unfold twanted
  cases h : o.guard with
  | none => rfl
  | some p => show twanted ops o s = _; unfold twanted; rw [h]

noncomputable def tseqR (P : Program) (F : CallF) (N : Nat) (ops : Array Oper) (l : List Oper) : TS → NHeap → Option (TS × NHeap) :=
  List.rec (motive := fun _ => TS → NHeap → Option (TS × NHeap)) (fun s h => some (s, h))
    (fun o _ ih s h => Oper.rec (motive := fun _ => Option (TS × NHeap)) (fun dst op _ _ _ guard =>
      Option.rec (motive := fun _ => Option (TS × NHeap)) none
        (fun w => Bool.rec (motive := fun _ => Option (TS × NHeap))
          (Option.rec (motive := fun _ => Option (TS × NHeap)) none (fun s' => ih s' h) (s.putO N dst nundef))
          (Option.rec (motive := fun _ => Option (TS × NHeap)) none (fun p => Prod.rec (motive := fun _ => Option (TS × NHeap)) (fun v h' => Option.rec (motive := fun _ => Option (TS × NHeap)) none (fun s' => ih s' h') (s.putO N dst v)) p) (doR op P F s.ev h)) w)
        (twantedR ops o s guard)) o) l

theorem tseqR_eq (P : Program) (F : CallF) (N : Nat) (ops : Array Oper) : ∀ (l : List Oper) (s : TS) (h : NHeap), tseqR P F N ops l s h = tseq P F N ops l s h
  | [], s, h => rfl
  | o :: rest, s, h => by
    have ih := tseqR_eq P F N ops rest
    unfold tseq
    obtain ⟨dst, op, ty, pos, after, guard⟩ := o
    show Option.rec (motive := fun _ => Option (TS × NHeap)) none
        (fun w => Bool.rec (motive := fun _ => Option (TS × NHeap))
          (Option.rec (motive := fun _ => Option (TS × NHeap)) none (fun s' => tseqR P F N ops rest s' h) (s.putO N dst nundef))
          (Option.rec (motive := fun _ => Option (TS × NHeap)) none (fun p => Prod.rec (motive := fun _ => Option (TS × NHeap)) (fun v h' => Option.rec (motive := fun _ => Option (TS × NHeap)) none (fun s' => tseqR P F N ops rest s' h') (s.putO N dst v)) p) (doR op P F s.ev h)) w)
        (twantedR ops ⟨dst, op, ty, pos, after, guard⟩ s guard) = _
    have hw := twantedR_eq ops ⟨dst, op, ty, pos, after, guard⟩ s
    simp only at hw
    rw [hw]
    cases twanted ops ⟨dst, op, ty, pos, after, guard⟩ s with
    | none => rfl
    | some w =>
      cases w with
      | false =>
        simp only
        cases s.putO N dst nundef with
        | none => rfl
        | some s' => exact ih s' h
      | true =>
        simp only
        cases doR op P F s.ev h with
        | none => rfl
        | some p =>
          obtain ⟨v, h'⟩ := p
          simp only
          cases s.putO N dst v with
          | none => rfl
          | some s' => exact ih s' h'

theorem tseq_sound {F : CallF} {ops : Array Oper} : ∀ {l : List Oper} {s s' : TS} {ts : List NVal} {h h' : NHeap}, Rep N s ts → tseq P F N ops l s h = some (s', h') → ∃ ts', Rep N s' ts' ∧ seqOps P F ops l ts h = some (ts', h')
  | [], s, s', ts, h, h', r, e => by cases e; exact ⟨ts, r, rfl⟩
  | o :: rest, s, s', ts, h, h', r, e => by
    unfold tseq at e
    unfold seqOps
    rw [r.wanted] at e
    cases hw : nwanted ops o ts with
    | none => rw [hw] at e; cases e
    | some b =>
      rw [hw] at e
      cases b with
      | false =>
        simp only at e ⊢
        cases hp : s.putO N o.dst nundef with
        | none => rw [hp] at e; cases e
        | some s1 => rw [hp] at e; exact tseq_sound (r.put hp) e
      | true =>
        simp only at e ⊢
        rw [r.ev, doR_eq, doK_eq] at e
        cases hd : doOp P F (ev ts) o h with
        | none => rw [hd] at e; cases e
        | some p =>
          obtain ⟨v, h1⟩ := p
          rw [hd] at e
          simp only at e ⊢
          cases hp : s.putO N o.dst v with
          | none => rw [hp] at e; cases e
          | some s1 => rw [hp] at e; exact tseq_sound (r.put hp) e

noncomputable def readRR (op : Op) (P : Program) (ρ : Rho) (h : NHeap) : Option NVal := match op with
  | .load t x => loadR P h t (ρ x)
  | o => readK o P ρ h
theorem readRR_eq (op : Op) (P : Program) (ρ : Rho) (h : NHeap) : readRR op P ρ h = readOp P ρ h op := by
  unfold readRR
  split
  · rw [loadR_eq]; rfl
  · exact readK_eq _ P ρ h

structure Su where
  s : TS
  h : NHeap
  hs : List NHeap
  ls : List (List Float3)
  ei : List Nat
  pend : List Float3
  nid : Nat
  reads : List (Nat × Oper × TS × NVal)

noncomputable def tstep (P : Program) (F : CallF) (N : Nat) (ops : Array Oper) (M : List Nat) (i : Nat) (o : Oper) (st : Su) : Option Su :=
  match st with
  | ⟨s, h, hs, ls, ei, pend, nid, reads⟩ =>
  match twanted ops o s with
  | none => none
  | some false => (match s.putO N o.dst nundef with | some s' => some ⟨s', h, hs, ls, ei, pend, nid, reads⟩ | none => none)
  | some true =>
    match pureK o.op P s.ev with
    | some v => (match s.putO N o.dst v with | some s' => some ⟨s', h, hs, ls, ei, pend, nid, reads⟩ | none => none)
    | none => match readRR o.op P s.ev h with
      | some v => (match s.putO N o.dst v with | some s' => some ⟨s', h, hs, ls, ei, pend, nid, reads ++ [(i, o, s, v)]⟩ | none => none)
      | none => match newK o.op P s.ev with
        | some (.cells cs (.own none), mk) => (match s.putO N o.dst (mk nid) with | some s' => forceN (nid + 1) fun nid' => some ⟨s', h, hs, ls, ei, pend ++ [(i, nid, cs)], nid', reads⟩ | none => none)
        | _ =>
          let tk := pend.filter fun x => (M.getD i 0).testBit x.1
          forceH (adoptAll h tk) fun pre =>
          match doR o.op P F s.ev pre with
          | none => none
          | some (v, h') => if ei.all (fun j => (M.getD i 0).testBit j) && decide (pre.next ≤ h'.next) then
              (match s.putO N o.dst v with
              | some s' => some ⟨s', h', hs ++ [h'], ls ++ [tk], ei ++ [i], pend.filter fun x => !(M.getD i 0).testBit x.1, nid, reads⟩
              | none => none) else none

noncomputable def trun (P : Program) (F : CallF) (N : Nat) (ops : Array Oper) (M : List Nat) : Nat → List Oper → Su → Option Su
  | _, [], st => some st
  | i, o :: rest, st => match tstep P F N ops M i o st with
    | none => none
    | some st' => trun P F N ops M (i + 1) rest st'

noncomputable def treadAgain (P : Program) (M : List Nat) (ei : List Nat) (r : Nat × Oper × TS × NVal) : Nat → List NHeap → Bool
  | _, [] => true
  | k, h :: hs => (!inWin M r.1 k 0 ei || (match readRR r.2.1.op P r.2.2.1.ev h with | some v => veq 50 v r.2.2.2 | none => false)) && treadAgain P M ei r (k + 1) hs

noncomputable def tdrawn (P : Program) (F : CallF) (N : Nat) (ops : Array Oper) (s : TS) (h : NHeap) : Option (TS × NHeap) :=
  let nf := (ops.toList.filter fun o => makesRow o.op).length
  let M := masksOf ops.toList
  forceH (reserve nf h) fun g =>
  match trun P F N ops M 0 ops.toList { s := s, h := g, hs := [g], ls := [], ei := [], pend := [], nid := h.next, reads := [] } with
  | none => none
  | some st => if decide (st.nid ≤ h.next + nf) && (st.ei.isEmpty || st.reads.all fun r => treadAgain P M st.ei r 0 st.hs) then forceH (adoptAll st.h st.pend) fun h' => some (st.s, h') else none

structure RepS (N : Nat) (u : Su) (st : St) : Prop where
  s : Rep N u.s st.ts
  h : u.h = st.h
  hs : u.hs = st.hs
  ls : u.ls = st.ls
  ei : u.ei = st.ei
  pend : u.pend = st.pend
  nid : u.nid = st.nid
  reads : All2 (fun a b => a.1 = b.1 ∧ a.2.1 = b.2.1 ∧ Rep N a.2.2.1 b.2.2.1 ∧ a.2.2.2 = b.2.2.2) u.reads st.reads

theorem tstep_sound {F : CallF} {ops : Array Oper} {M : List Nat} {i : Nat} {o : Oper} {u u' : Su} {st : St} (r : RepS N u st) (e : tstep P F N ops M i o u = some u') : ∃ st', RepS N u' st' ∧ stepE P F ops M i o st = some st' := by
  obtain ⟨s, h, hs, ls, ei, pend, nid, reads⟩ := u
  obtain ⟨ts, h1, hs1, ls1, ei1, pend1, nid1, reads1, v1, c1⟩ := st
  obtain ⟨r1, r2, r3, r4, r5, r6, r7, r8⟩ := r
  simp only at r1 r2 r3 r4 r5 r6 r7 r8
  subst r2 r3 r4 r5 r6 r7
  unfold tstep at e
  unfold stepE
  simp only at e ⊢
  rw [r1.wanted] at e
  cases hw : nwanted ops o ts with
  | none => rw [hw] at e; cases e
  | some b =>
    rw [hw] at e
    cases b with
    | false =>
      simp only at e ⊢
      cases hp : s.putO N o.dst nundef with
      | none => rw [hp] at e; cases e
      | some s1 => rw [hp] at e; cases e; exact ⟨_, ⟨r1.put hp, rfl, rfl, rfl, rfl, rfl, rfl, r8⟩, rfl⟩
    | true =>
      simp only at e ⊢
      simp only [r1.ev, pureK_eq, readRR_eq, newK_eq, doR_eq, doK_eq, forceH_eq, forceN_eq] at e
      cases hpu : pureOp P (ev ts) o.op with
      | some v =>
        rw [hpu] at e
        simp only at e ⊢
        cases hp : s.putO N o.dst v with
        | none => rw [hp] at e; cases e
        | some s1 => rw [hp] at e; cases e; exact ⟨_, ⟨r1.put hp, rfl, rfl, rfl, rfl, rfl, rfl, r8⟩, rfl⟩
      | none =>
        rw [hpu] at e
        simp only at e ⊢
        cases hre : readOp P (ev ts) h o.op with
        | some v =>
          rw [hre] at e
          simp only at e ⊢
          cases hp : s.putO N o.dst v with
          | none => rw [hp] at e; cases e
          | some s1 =>
            rw [hp] at e; cases e
            exact ⟨_, ⟨r1.put hp, rfl, rfl, rfl, rfl, rfl, rfl, r8.append (.cons ⟨rfl, rfl, r1, rfl⟩ .nil)⟩, rfl⟩
        | none =>
          rw [hre] at e
          simp only at e ⊢
          have efft : ∀ u', (match doOp P F (ev ts) o (adoptAll h (pend.filter fun x => (M.getD i 0).testBit x.1)) with
              | none => none
              | some (v, h') => if ei.all (fun j => (M.getD i 0).testBit j) && decide ((adoptAll h (pend.filter fun x => (M.getD i 0).testBit x.1)).next ≤ h'.next) then
                  (match s.putO N o.dst v with
                  | some s' => some ({ s := s', h := h', hs := hs ++ [h'], ls := ls ++ [pend.filter fun x => (M.getD i 0).testBit x.1], ei := ei ++ [i], pend := pend.filter fun x => !(M.getD i 0).testBit x.1, nid := nid, reads := reads } : Su)
                  | none => none) else none) = some u' →
              ∃ st', RepS N u' st' ∧ (match doOp P F (ev ts) o (adoptAll h (pend.filter fun x => (M.getD i 0).testBit x.1)) with
                | none => none
                | some (v, h') => if ei.all (fun j => (M.getD i 0).testBit j) && decide ((adoptAll h (pend.filter fun x => (M.getD i 0).testBit x.1)).next ≤ h'.next) then
                    some ({ ts := nput ts o.dst v, h := h', hs := hs ++ [h'], ls := ls ++ [pend.filter fun x => (M.getD i 0).testBit x.1], ei := ei ++ [i], pend := pend.filter fun x => !(M.getD i 0).testBit x.1, nid := nid, reads := reads1, v := v, c := .eff (ei.length + 1) } : St) else none) = some st' := by
            intro u' e
            cases hd : doOp P F (ev ts) o (adoptAll h (pend.filter fun x => (M.getD i 0).testBit x.1)) with
            | none => rw [hd] at e; cases e
            | some p =>
              obtain ⟨v, h'⟩ := p
              rw [hd] at e
              simp only at e ⊢
              split at e
              · rename_i hc
                rw [if_pos hc]
                cases hp : s.putO N o.dst v with
                | none => rw [hp] at e; cases e
                | some s1 => rw [hp] at e; cases e; exact ⟨_, ⟨r1.put hp, rfl, rfl, rfl, rfl, rfl, rfl, r8⟩, rfl⟩
              · cases e
          cases hn : newOp P (ev ts) o.op with
          | none => rw [hn] at e; exact efft _ e
          | some p =>
            obtain ⟨ob, mk⟩ := p
            rw [hn] at e
            cases ob with
            | cells cs mine =>
              cases mine with
              | own q => cases q with
                | none =>
                  simp only at e ⊢
                  cases hp : s.putO N o.dst (mk nid) with
                  | none => rw [hp] at e; cases e
                  | some s1 => rw [hp] at e; cases e; exact ⟨_, ⟨r1.put hp, rfl, rfl, rfl, rfl, rfl, rfl, r8⟩, rfl⟩
                | some q => exact efft _ e
              | ro => exact efft _ e
            | map es => exact efft _ e
            | dead => exact efft _ e

theorem trun_sound {F : CallF} {ops : Array Oper} {M : List Nat} : ∀ {l : List Oper} {i : Nat} {u u' : Su} {st : St}, RepS N u st → trun P F N ops M i l u = some u' → ∃ st', RepS N u' st' ∧ runE P F ops M i l st = some st'
  | [], i, u, u', st, r, e => by cases e; exact ⟨st, r, rfl⟩
  | o :: l, i, u, u', st, r, e => by
    unfold trun at e
    unfold runE
    cases hs : tstep P F N ops M i o u with
    | none => rw [hs] at e; cases e
    | some u1 =>
      rw [hs] at e
      obtain ⟨st1, r1, e1⟩ := tstep_sound r hs
      rw [e1]
      exact trun_sound r1 e

theorem treadAgain_eq {M ei : List Nat} {a : Nat × Oper × TS × NVal} {b : Nat × Oper × List NVal × NVal} (h : a.1 = b.1 ∧ a.2.1 = b.2.1 ∧ Rep N a.2.2.1 b.2.2.1 ∧ a.2.2.2 = b.2.2.2) : ∀ {k : Nat} {hs : List NHeap}, treadAgain P M ei a k hs = readAgain P M ei b k hs
  | k, [] => rfl
  | k, x :: hs => by
    unfold treadAgain readAgain
    rw [treadAgain_eq h, readRR_eq, h.1, h.2.1, h.2.2.1.ev, h.2.2.2]
    rfl

theorem tdrawn_sound {F : CallF} {ops : Array Oper} {s s' : TS} {ts : List NVal} {h h' : NHeap} (r : Rep N s ts) (e : tdrawn P F N ops s h = some (s', h')) : ∃ ts', Rep N s' ts' ∧ drawnOps P F ops ts h = some (ts', h') := by
  unfold tdrawn at e
  unfold drawnOps
  simp only [forceH_eq] at e ⊢
  cases hr : trun P F N ops (masksOf ops.toList) 0 ops.toList { s := s, h := reserve (ops.toList.filter fun o => makesRow o.op).length h, hs := [reserve (ops.toList.filter fun o => makesRow o.op).length h], ls := [], ei := [], pend := [], nid := h.next, reads := [] } with
  | none => rw [hr] at e; cases e
  | some u =>
    rw [hr] at e
    obtain ⟨st, r1, e1⟩ := trun_sound (st := { ts := ts, h := _, hs := _, ls := [], ei := [], pend := [], nid := h.next, reads := [], v := nundef, c := .skip }) ⟨r, rfl, rfl, rfl, rfl, rfl, rfl, .nil⟩ hr
    rw [e1]
    simp only at e ⊢
    split at e
    · rename_i hc
      cases e
      have hall : (st.ei.isEmpty || st.reads.all fun r => readAgain P (masksOf ops.toList) st.ei r 0 st.hs) = true := by
        simp only [Bool.and_eq_true] at hc
        have := hc.2
        rw [r1.ei] at this
        simp only [Bool.or_eq_true] at this ⊢
        rcases this with q | q
        · exact .inl q
        · refine .inr ?_
          rw [r1.hs] at q
          have r8 := r1.reads
          revert q
          generalize u.reads = la at r8
          generalize st.reads = lb at r8
          intro q
          induction r8 with
          | nil => rfl
          | cons a b ih =>
            simp only [List.all_cons, Bool.and_eq_true] at q ⊢
            exact ⟨by rw [← treadAgain_eq a]; exact q.1, ih q.2⟩
      rw [if_pos (by rw [hall, ← r1.nid]; simp only [Bool.and_eq_true] at hc; simp only [hc.1, Bool.and_self])]
      exact ⟨_, r1.s, by rw [r1.h, r1.pend]⟩
    · cases e

noncomputable def tC (P : Program) (F : CallF) (N : Nat) : Nat → Code → TS → NHeap → Option (Ex × TS × NHeap)
  | 0, _, _, _ => none
  | n + 1, c, ts, h =>
    match c with
    | .skip => some (.normal, ts, h)
    | .ret => some (.ret, ts, h)
    | .exit i => some (.exit i, ts, h)
    | .region _ ops draw => (match (if draw then tdrawn P F N ops ts h else tseq P F N ops ops.toList ts h) with
      | some (ts', h') => some (.normal, ts', h')
      | none => none)
    | .seq a b => (match tC P F N n a ts h with
      | some (.normal, ts', h') => tC P F N n b ts' h'
      | r => r)
    | .cond x a b => (match ts.ev x with
      | some (.bool true) => tC P F N n a ts h
      | some (.bool false) => tC P F N n b ts h
      | _ => none)
    | .block i a => (match tC P F N n a ts h with
      | some (.exit j, ts', h') => if j = i then some (.normal, ts', h') else some (.exit j, ts', h')
      | r => r)
    | .loop a => (match tC P F N n a ts h with
      | some (.normal, ts', h') => tC P F N n (.loop a) ts' h'
      | r => r)
    | _ => none

abbrev OutT := Option (Ex × TS × NHeap)
noncomputable def exK (r : OutT) (n : TS → NHeap → OutT) (x : Nat → TS → NHeap → OutT) : OutT :=
  Option.rec (motive := fun _ => OutT) none (fun p => Prod.rec (motive := fun _ => OutT) (fun e q => Prod.rec (motive := fun _ => OutT) (fun s h => Ex.rec (motive := fun _ => OutT) (n s h) (fun i => x i s h) (some (.ret, s, h)) e) q) p) r
noncomputable def normK (r : Option (TS × NHeap)) : OutT := Option.rec (motive := fun _ => OutT) none (fun q => Prod.rec (motive := fun _ => OutT) (fun s h => some (.normal, s, h)) q) r
noncomputable def boolK (u : NVal) (a b : OutT) : OutT :=
  NVal.rec (motive_1 := fun _ => OutT) (motive_2 := fun _ => Unit) (fun t => Bool.rec (motive := fun _ => OutT) b a t) (fun _ _ => none) (fun _ => none) (fun _ => none) (fun _ _ _ _ => none) (fun _ => none) (fun _ _ _ _ _ => none) none (fun _ _ _ => none) none (fun _ _ => none) (fun _ _ => none) none () (fun _ _ _ _ => ()) u

abbrev Self := Code → TS → NHeap → OutT
noncomputable def codeR (c : Code) : Self → Program → CallF → Nat → TS → NHeap → OutT := Code.rec (motive := fun _ => Self → Program → CallF → Nat → TS → NHeap → OutT)
  (fun _ _ _ _ s h => some (.normal, s, h))
  (fun _ ops draw => fun _ P F N s h => normK (Bool.rec (motive := fun _ => Option (TS × NHeap)) (tseqR P F N ops ops.toList s h) (tdrawn P F N ops s h) draw))
  (fun a b _ _ => fun self _ _ _ s h => exK (self a s h) (fun s' h' => self b s' h') (fun i s' h' => some (.exit i, s', h')))
  (fun x a b _ _ => fun self _ _ _ s h => Option.rec (motive := fun _ => OutT) none (fun u => boolK u (self a s h) (self b s h)) (s.ev x))
  (fun i a _ => fun self _ _ _ s h => exK (self a s h) (fun s' h' => some (.normal, s', h')) (fun j s' h' => Bool.rec (motive := fun _ => OutT) (some (.exit j, s', h')) (some (.normal, s', h')) (Nat.beq j i)))
  (fun a _ => fun self _ _ _ s h => exK (self a s h) (fun s' h' => self (.loop a) s' h') (fun i s' h' => some (.exit i, s', h')))
  (fun _ _ _ _ _ _ => fun _ _ _ _ _ _ => none)
  (fun i => fun _ _ _ _ s h => some (.exit i, s, h))
  (fun _ _ => fun _ _ _ _ _ _ => none)
  (fun _ => fun _ _ _ _ _ _ => none)
  (fun _ => fun _ _ _ _ _ _ => none)
  (fun _ _ _ _ s h => some (.ret, s, h))
  (fun _ => fun _ _ _ _ _ _ => none) c

noncomputable def tCR (P : Program) (F : CallF) (N : Nat) (n : Nat) : Self :=
  Nat.rec (motive := fun _ => Self) (fun _ _ _ => none) (fun _ ih c s h => codeR c ih P F N s h) n

theorem tCR_eq (P : Program) (F : CallF) (N : Nat) : ∀ (n : Nat) (c : Code) (s : TS) (h : NHeap), tCR P F N n c s h = tC P F N n c s h
  | 0, c, s, h => rfl
  | n + 1, c, s, h => by
    have ih := tCR_eq P F N n
    show codeR c (tCR P F N n) P F N s h = _
    unfold tC
    cases c with
    | skip => rfl
    | ret => rfl
    | exit i => rfl
    | region id ops draw =>
      cases draw with
      | true =>
        show normK (tdrawn P F N ops s h) = _
        simp only [if_true]
        cases tdrawn P F N ops s h with
        | none => rfl
        | some p => rfl
      | false =>
        show normK (tseqR P F N ops ops.toList s h) = _
        simp only [Bool.false_eq_true, if_false]
        rw [tseqR_eq]
        cases tseq P F N ops ops.toList s h with
        | none => rfl
        | some p => rfl
    | seq a b =>
      show exK (tCR P F N n a s h) (fun s' h' => tCR P F N n b s' h') (fun i s' h' => some (.exit i, s', h')) = _
      rw [ih]
      simp only
      cases tC P F N n a s h with
      | none => rfl
      | some p =>
        obtain ⟨e, s', h'⟩ := p
        cases e with
        | normal => exact ih b s' h'
        | exit j => rfl
        | ret => rfl
    | cond x a b =>
      show Option.rec (motive := fun _ => OutT) none (fun u => boolK u (tCR P F N n a s h) (tCR P F N n b s h)) (s.ev x) = _
      rw [ih, ih]
      simp only
      cases s.ev x with
      | none => rfl
      | some u =>
        cases u <;> try rfl
        rename_i t
        cases t <;> rfl
    | block i a =>
      show exK (tCR P F N n a s h) (fun s' h' => some (.normal, s', h')) (fun j s' h' => Bool.rec (motive := fun _ => OutT) (some (.exit j, s', h')) (some (.normal, s', h')) (Nat.beq j i)) = _
      rw [ih]
      simp only
      cases tC P F N n a s h with
      | none => rfl
      | some p =>
        obtain ⟨e, s', h'⟩ := p
        cases e with
        | normal => rfl
        | exit j =>
          show Bool.rec (motive := fun _ => OutT) (some (.exit j, s', h')) (some (.normal, s', h')) (Nat.beq j i) = _
          rw [nbeq]
          by_cases hj : j = i
          · simp [hj]
          · simp [hj]
        | ret => rfl
    | loop a =>
      show exK (tCR P F N n a s h) (fun s' h' => tCR P F N n (.loop a) s' h') (fun i s' h' => some (.exit i, s', h')) = _
      rw [ih]
      simp only
      cases tC P F N n a s h with
      | none => rfl
      | some p =>
        obtain ⟨e, s', h'⟩ := p
        cases e with
        | normal => exact ih _ s' h'
        | exit j => rfl
        | ret => rfl
    | rangeFunc _ _ _ _ => rfl
    | scope _ => rfl
    | label _ => rfl
    | goto _ => rfl
    | refuse _ => rfl

theorem tC_sound {F : CallF} : ∀ (n : Nat) (c : Code) (s : TS) (ts : List NVal) (h : NHeap) (e : Ex) (s' : TS) (h' : NHeap), Rep N s ts → tC P F N n c s h = some (e, s', h') →
    ∃ ts', Rep N s' ts' ∧ evC P (drawnOps P) F n c ts h = some (e, ts', h')
  | 0, c, s, ts, h, e, s', h', r, q => by cases q
  | n + 1, c, s, ts, h, e, s', h', r, q => by
    have ih := tC_sound (F := F) n
    unfold tC at q
    unfold evC
    cases c with
    | skip => cases q; exact ⟨ts, r, rfl⟩
    | ret => cases q; exact ⟨ts, r, rfl⟩
    | exit i => cases q; exact ⟨ts, r, rfl⟩
    | region id ops draw =>
      simp only at q ⊢
      cases draw with
      | true =>
        simp only [if_true] at q ⊢
        cases hx : tdrawn P F N ops s h with
        | none => rw [hx] at q; cases q
        | some p =>
          obtain ⟨s1, h1⟩ := p
          rw [hx] at q; cases q
          obtain ⟨ts1, r1, e1⟩ := tdrawn_sound r hx
          rw [e1]; exact ⟨ts1, r1, rfl⟩
      | false =>
        simp only [Bool.false_eq_true, if_false] at q ⊢
        cases hx : tseq P F N ops ops.toList s h with
        | none => rw [hx] at q; cases q
        | some p =>
          obtain ⟨s1, h1⟩ := p
          rw [hx] at q; cases q
          obtain ⟨ts1, r1, e1⟩ := tseq_sound r hx
          rw [e1]; exact ⟨ts1, r1, rfl⟩
    | seq a b =>
      simp only at q ⊢
      cases hx : tC P F N n a s h with
      | none => rw [hx] at q; cases q
      | some p =>
        obtain ⟨e1, s1, h1⟩ := p
        rw [hx] at q
        obtain ⟨ts1, r1, q1⟩ := ih _ _ _ _ _ _ _ r hx
        rw [q1]
        cases e1 with
        | normal => exact ih _ _ _ _ _ _ _ r1 q
        | exit j => cases q; exact ⟨ts1, r1, rfl⟩
        | ret => cases q; exact ⟨ts1, r1, rfl⟩
    | cond x a b =>
      simp only at q ⊢
      rw [r.ev] at q
      cases hx : ev ts x with
      | none => rw [hx] at q; cases q
      | some u =>
        rw [hx] at q
        cases u with
        | bool t => cases t with
          | true => exact ih _ _ _ _ _ _ _ r q
          | false => exact ih _ _ _ _ _ _ _ r q
        | _ => cases q
    | block i a =>
      simp only at q ⊢
      cases hx : tC P F N n a s h with
      | none => rw [hx] at q; cases q
      | some p =>
        obtain ⟨e1, s1, h1⟩ := p
        rw [hx] at q
        obtain ⟨ts1, r1, q1⟩ := ih _ _ _ _ _ _ _ r hx
        rw [q1]
        cases e1 with
        | normal => cases q; exact ⟨ts1, r1, rfl⟩
        | ret => cases q; exact ⟨ts1, r1, rfl⟩
        | exit j =>
          simp only at q ⊢
          by_cases hj : j = i
          · rw [if_pos hj] at q ⊢; cases q; exact ⟨ts1, r1, rfl⟩
          · rw [if_neg hj] at q ⊢; cases q; exact ⟨ts1, r1, rfl⟩
    | loop a =>
      simp only at q ⊢
      cases hx : tC P F N n a s h with
      | none => rw [hx] at q; cases q
      | some p =>
        obtain ⟨e1, s1, h1⟩ := p
        rw [hx] at q
        obtain ⟨ts1, r1, q1⟩ := ih _ _ _ _ _ _ _ r hx
        rw [q1]
        cases e1 with
        | normal => exact ih _ _ _ _ _ _ _ r1 q
        | exit j => cases q; exact ⟨ts1, r1, rfl⟩
        | ret => cases q; exact ⟨ts1, r1, rfl⟩
    | rangeFunc _ _ _ _ => cases q
    | scope _ => cases q
    | label _ => cases q
    | goto _ => cases q
    | refuse _ => cases q

noncomputable def tresult (P : Program) (s : TS) (h : NHeap) : ResultVar → Option NVal
  | .tmp t => some (s.get t)
  | .cell a t => (match s.get a with
    | .ptr (some p) => nload P t p h
    | _ => none)

noncomputable def tresults (P : Program) (s : TS) (h : NHeap) : List ResultVar → Option (List NVal)
  | [] => some []
  | r :: rs => match tresult P s h r with
    | none => none
    | some v => match tresults P s h rs with
      | none => none
      | some vs => some (v :: vs)

theorem tresults_eq {s : TS} {ts : List NVal} (r : Rep N s ts) (h : NHeap) : ∀ rs, tresults P s h rs = nresults P ts h rs
  | [] => rfl
  | x :: rs => by
    unfold tresults nresults
    have : tresult P s h x = nresult P ts h x := by
      cases x
      · simp only [tresult, nresult, r.get]
      · simp only [tresult, nresult, r.get]; rfl
    rw [this, tresults_eq r h rs]
    rfl

noncomputable def tF (P : Program) {S : Array Oper → Bool} (E : Env P S) (m : Nat) : Nat → CallF
  | 0 => fun _ _ _ => none
  | n + 1 => fun f args h => match E.known f args h with
    | some r => some r
    | none => match E.get f with
      | none => none
      | some (c, nt, rs) => match tCR P (tF P E m n) (args.length + (nt - args.length)) m c (TT.start args) h with
        | some (.exit _, _, _) => none
        | none => none
        | some (_, s', h') => match tresults P s' h' rs with
          | none => none
          | some vs => some (oneOr vs, h')

theorem tF_step (hm : P.follows .mixedOrders = true) (E : Env P drStatic) (m : Nat) {n : Nat} (ih : CallOk P (tF P E m n)) {f : FuncId} {as : List NVal} {h : NHeap} {v : NVal} {h' : NHeap}
    (e : tF P E m (n + 1) f as h = some (v, h')) (hk : E.known f as h = none) : Enters P f ∧ SimF P f as h v h' := by
  unfold tF at e
  rw [hk] at e; simp only [tCR_eq] at e
  cases hg : E.get f with
  | none => rw [hg] at e; cases e
  | some p =>
    obtain ⟨c, nt, rs⟩ := p
    rw [hg] at e; simp only at e
    obtain ⟨ok, st⟩ := E.ok f c nt rs hg
    refine ⟨ok.enters, ?_⟩
    cases hx : tC P (tF P E m n) (as.length + (nt - as.length)) m c (TT.start as) h with
    | none => rw [hx] at e; cases e
    | some q =>
      obtain ⟨ex, s', h1⟩ := q
      rw [hx] at e
      obtain ⟨ts', r1, e1⟩ := tC_sound m c _ _ _ _ _ _ (Rep.start as nt) hx
      have hs := (evC_sound (drawOk hm) ih m c st _ _ _ _ _ e1).1
      cases ex with
      | exit j => cases e
      | normal =>
        simp only [tresults_eq r1] at e
        cases hr : nresults P ts' h1 rs with
        | none => rw [hr] at e; cases e
        | some vs => rw [hr] at e; cases e; exact fn_sound ok (.inl rfl) hs hr
      | ret =>
        simp only [tresults_eq r1] at e
        cases hr : nresults P ts' h1 rs with
        | none => rw [hr] at e; cases e
        | some vs => rw [hr] at e; cases e; exact fn_sound ok (.inr rfl) hs hr

theorem tF_sound (hm : P.follows .mixedOrders = true) (E : Env P drStatic) (m : Nat) : ∀ n, CallOk P (tF P E m n)
  | 0, f, as, h, v, h', e => by cases e
  | n + 1, f, as, h, v, h', e => by
    cases hk : E.known f as h with
    | some r => unfold tF at e; rw [hk] at e; cases e; exact E.knownOk f as h v h' hk
    | none => exact .inl (tF_step hm E m (tF_sound hm E m n) e hk)

/-- a law without arguments: worked out once, it says true in every world -/
theorem closed_walk_t (hm : P.follows .mixedOrders = true) (E : Env P drStatic) {m n : Nat} {f : FuncId} (hk : E.known f [] NHeap.empty = none) (e : saysTrue (tF P E m (n + 1) f [] NHeap.empty) = true) (w : World) :
    Calls P f #[] w fun e w' => e = .returned (.bool true) ∧ Below w.heap.size w w' := by
  cases hr : tF P E m (n + 1) f [] NHeap.empty with
  | none => rw [hr] at e; cases e
  | some p =>
    obtain ⟨v, h'⟩ := p
    rw [hr] at e
    cases v with
    | bool b => cases b with
      | true =>
        refine (tF_step hm E m (tF_sound hm E m n) hr hk).2 w (fun _ => none) w #[] _ (Inv.start w) .nil fun ι' w' rv hv I' S' => ?_
        cases hv
        exact ⟨rfl, I'.below⟩
      | false => cases e
    | _ => cases e
end Go.Proofs.Ytblhpikljhholaa.NICE
