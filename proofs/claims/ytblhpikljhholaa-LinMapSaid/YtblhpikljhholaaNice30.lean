/- A region whose order is drawn, and whose reads and effects all stand in line: worked out in the order of its text. -/
import Derived.Test.YtblhpikljhholaaNice29
set_option linter.unusedVariables false
set_option linter.unusedSimpArgs false
namespace Go.Proofs.Ytblhpikljhholaa.NICE
open Go Go.RowKit

variable {P : Program} {E : Env P drStatic}

/-! ### What stands ahead of what, by the edges alone -/

def edgeB (j : Nat) : List Edge → Bool
  | [] => false
  | e :: l => (match e.ground with | .textOnly _ => false | .gcOnly _ => false | _ => e.on == j) || edgeB j l

theorem mask_keep (acc : List Nat) (j : Nat) : ∀ (l : List Edge) (s : Nat), s.testBit j = true → (l.foldl (fun s e => if Region.binds .any e then s ||| 2 ^ e.on ||| acc.getD e.on 0 else s) s).testBit j = true
  | [], s, h => h
  | e :: l, s, h => by
    rw [List.foldl_cons]
    refine mask_keep acc j l _ ?_
    split
    · simp [Nat.testBit_or, h]
    · exact h

theorem mask_edge (acc : List Nat) (j : Nat) : ∀ (l : List Edge) (s : Nat), edgeB j l = true → (l.foldl (fun s e => if Region.binds .any e then s ||| 2 ^ e.on ||| acc.getD e.on 0 else s) s).testBit j = true
  | [], s, h => by cases h
  | e :: l, s, h => by
    rw [List.foldl_cons]
    simp only [edgeB, Bool.or_eq_true] at h
    rcases h with h | h
    · refine mask_keep acc j l _ ?_
      have hb : Region.binds .any e = true ∧ e.on = j := by
        unfold Region.binds
        cases hg : e.ground <;> rw [hg] at h <;> first | (cases h; done) | (simp at h; exact ⟨rfl, h⟩)
      rw [if_pos hb.1, hb.2]
      simp [Nat.testBit_or, Nat.testBit_two_pow_self]
    · exact mask_edge acc j l _ h

theorem masks_grow : ∀ (l : List Oper) (acc : List Nat), ∃ r, l.foldl (fun acc o => acc ++ [maskOf acc o]) acc = acc ++ r
  | [], acc => ⟨[], by simp⟩
  | o :: l, acc => by
    obtain ⟨r, hr⟩ := masks_grow l (acc ++ [maskOf acc o])
    exact ⟨[maskOf acc o] ++ r, by rw [List.foldl_cons, hr, List.append_assoc]⟩

theorem masks_len : ∀ (l : List Oper) (acc : List Nat), (l.foldl (fun acc o => acc ++ [maskOf acc o]) acc).length = acc.length + l.length
  | [], acc => by simp
  | o :: l, acc => by rw [List.foldl_cons, masks_len l]; simp; omega

theorem masks_at {l : List Oper} {i : Nat} {o : Oper} (h : l[i]? = some o) : ∃ acc, (masksOf l).getD i 0 = maskOf acc o := by
  have hi : i < l.length := (List.getElem?_eq_some_iff.1 h).1
  have e : l = l.take i ++ o :: l.drop (i + 1) := by
    conv => lhs; rw [← List.take_append_drop i l]
    congr 1
    rw [List.drop_eq_getElem_cons hi]
    congr 1
    exact (List.getElem?_eq_some_iff.1 h).2
  refine ⟨masksOf (l.take i), ?_⟩
  conv => lhs; rw [e]
  unfold masksOf
  rw [List.foldl_append, List.foldl_cons]
  obtain ⟨r, hr⟩ := masks_grow (l.drop (i + 1)) ((l.take i).foldl (fun acc o => acc ++ [maskOf acc o]) [] ++ [maskOf ((l.take i).foldl (fun acc o => acc ++ [maskOf acc o]) []) o])
  rw [hr]
  have hl : ((l.take i).foldl (fun acc o => acc ++ [maskOf acc o]) []).length = i := by rw [masks_len]; simp; omega
  rw [List.getD_eq_getElem?_getD, List.append_assoc, List.getElem?_append_right (by omega), hl]
  simp

theorem edge_bit {l : List Oper} {i j : Nat} {o : Oper} (h : l[i]? = some o) (he : edgeB j o.after.toList = true) : ((masksOf l).getD i 0).testBit j = true := by
  obtain ⟨acc, ha⟩ := masks_at h
  rw [ha]
  exact mask_edge acc j _ 0 he

/-! ### The working-out -/

def eStep (P : Program) (ρ : Rho) (h : NHeap) (op : Op) : Option (Bool × NVal) := match pureOp P ρ op with
  | some v => some (false, v)
  | none => match readOp P ρ h op with
    | some v => some (true, v)
    | none => none

def allEdge (o : List Edge) : List Nat → Bool
  | [] => true
  | j :: l => edgeB j o && allEdge o l
theorem allEdge_mem {o : List Edge} : ∀ {l : List Nat}, allEdge o l = true → ∀ j ∈ l, edgeB j o = true
  | [], h, j, hj => by cases hj
  | k :: l, h, j, hj => by
    simp only [allEdge, Bool.and_eq_true] at h
    cases hj with
    | head => exact h.1
    | tail _ hj => exact allEdge_mem h.2 j hj

/-- an operation that makes a row of cells -/
def floats (r : NewR) : Option (List NVal × (Nat → NVal)) := match r with
  | some (.cells cs (.own none), mk) => some (cs, mk)
  | _ => none

open Classical in
noncomputable def seqE (E : Env P drStatic) (ops : Array Oper) : List Oper → Nat → List NVal → NHeap → List NHeap → List Nat → List Nat → List Float3 → Nat → Option (List NVal × NHeap)
  | [], i, ts, h, hs, ei, rd, pend, nid => some (ts, adoptAll h pend)
  | o :: rest, i, ts, h, hs, ei, rd, pend, nid => match nwanted ops o ts with
    | none => none
    | some false => seqE E ops rest (i + 1) (nput ts o.dst nundef) h hs ei rd pend nid
    | some true => match eStep P (ev ts) h o.op with
      | some (false, v) => seqE E ops rest (i + 1) (nput ts o.dst v) h hs ei rd pend nid
      | some (true, v) => if allEdge o.after.toList ei && veq 50 v v then seqE E ops rest (i + 1) (nput ts o.dst v) h hs ei (rd ++ [i]) pend nid
        else if veq 50 v v = true ∧ ∀ H ∈ hs, readOp P (ev ts) H o.op = some v then seqE E ops rest (i + 1) (nput ts o.dst v) h hs ei (rd ++ [i]) pend nid else none
      | none => match floats (newOp P (ev ts) o.op) with
        | some (cs, mk) => seqE E ops rest (i + 1) (nput ts o.dst (mk nid)) h hs ei rd (pend ++ [(i, nid, cs)]) (nid + 1)
        | none => if allEdge o.after.toList ei && allEdge o.after.toList rd && allEdge o.after.toList (pend.map (·.1)) then
            match doOp P (K E) (ev ts) o (adoptAll h pend) with
            | none => none
            | some (v, h') => if (adoptAll h pend).next ≤ h'.next then seqE E ops rest (i + 1) (nput ts o.dst v) h' (hs ++ [h]) (ei ++ [i]) rd [] nid else none
          else none

/-- what a read found stands when its turn comes -/
structure ReadOk (P : Program) (M : List Nat) (st : St) (r : Nat × Oper × List NVal × NVal) : Prop where
  ok : ∃ lo hi, lo ≤ hi ∧ hi ≤ st.ei.length ∧ (∀ k, lo ≤ k → k ≤ hi → ∃ H, st.hs[k]? = some H ∧ readOp P (ev r.2.2.1) H r.2.1.op = some r.2.2.2) ∧ veq 50 r.2.2.2 r.2.2.2 = true ∧
    ∀ q j, st.ei[q]? = some j → (q < lo → (M.getD r.1 0).testBit j = true) ∧ (hi ≤ q → (M.getD j 0).testBit r.1 = true)

theorem inWin_at {M : List Nat} {i k : Nat} : ∀ {ei : List Nat} {p : Nat}, inWin M i k p ei = true → ∀ q j, ei[q]? = some j → ((M.getD i 0).testBit j = true → p + q + 1 ≤ k) ∧ ((M.getD j 0).testBit i = true → k < p + q + 1)
  | [], p, h, q, j, e => by simp at e
  | a :: l, p, h, q, j, e => by
    simp only [inWin, Bool.and_eq_true, Bool.or_eq_true, Bool.not_eq_true', decide_eq_true_eq] at h
    cases q with
    | zero =>
      simp at e; subst e
      refine ⟨fun t => ?_, fun t => ?_⟩
      · rcases h.1.1 with h1 | h1
        · rw [t] at h1; cases h1
        · omega
      · rcases h.1.2 with h1 | h1
        · rw [t] at h1; cases h1
        · omega
    | succ q =>
      have := inWin_at h.2 q j (by simpa using e)
      exact ⟨fun t => by have := this.1 t; omega, fun t => by have := this.2 t; omega⟩

theorem readAgain_of {M : List Nat} {st : St} {r : Nat × Oper × List NVal × NVal} (hr : ReadOk P M st r) : ∀ (hs : List NHeap) (k : Nat), (∀ q H, hs[q]? = some H → st.hs[k + q]? = some H) → k + hs.length ≤ st.ei.length + 1 → readAgain P M st.ei r k hs = true
  | [], k, _, _ => rfl
  | h :: hs, k, hh, hl => by
    unfold readAgain
    rw [Bool.and_eq_true]
    refine ⟨?_, readAgain_of hr hs (k + 1) (fun q H e => by have := hh (q + 1) H (by simpa using e); rwa [show k + (q + 1) = k + 1 + q by omega] at this) (by simp at hl; omega)⟩
    cases hw : inWin M r.1 k 0 st.ei with
    | false => rfl
    | true =>
      obtain ⟨lo, hi, h00, h0, h2, h3, h4⟩ := hr.ok
      have hle : lo ≤ k := by
        rcases Nat.eq_zero_or_pos lo with z | z
        · omega
        · obtain ⟨j, hj⟩ : ∃ j, st.ei[lo - 1]? = some j := ⟨st.ei[lo - 1], by simp [show lo - 1 < st.ei.length by omega]⟩
          have := (inWin_at hw (lo - 1) j hj).1 ((h4 _ _ hj).1 (by omega))
          omega
      have hge : k ≤ hi := by
        rcases Nat.lt_or_ge hi st.ei.length with z | z
        · obtain ⟨j, hj⟩ : ∃ j, st.ei[hi]? = some j := ⟨st.ei[hi], by simp [z]⟩
          have := (inWin_at hw hi j hj).2 ((h4 _ _ hj).2 (by omega))
          omega
        · simp at hl; omega
      obtain ⟨H, h1, h2⟩ := h2 k hle hge
      have e := hh 0 h rfl
      rw [Nat.add_zero, h1] at e
      cases e
      simp only [Bool.not_true, Bool.false_or]
      rw [h2]
      exact h3

theorem floats_rows {ρ : Rho} {op : Op} {x} (h : floats (newOp P ρ op) = some x) : makesRow op = true := by
  cases op <;> first | rfl | (exfalso; simp only [newOp, floats] at h; cases h; done) | skip
  case makeMap t r => cases r <;> (simp only [newOp, floats] at h; cases h)

theorem floats_some {r : NewR} {cs mk} (h : floats r = some (cs, mk)) : r = some (.cells cs (.own none), mk) := by
  unfold floats at h
  split at h
  · cases h; rfl
  · cases h

theorem floats_none {r : NewR} (h : floats r = none) : ∀ cs mk, r ≠ some (.cells cs (.own none), mk) := by
  rintro cs mk rfl
  cases h

theorem ReadOk.step {M : List Nat} {st st' : St} {r} (hr : ReadOk P M st r) {i : Nat} (hl : st.hs.length = st.ei.length + 1) (he : st'.ei = st.ei ∨ (st'.ei = st.ei ++ [i] ∧ (M.getD i 0).testBit r.1 = true)) (hh : ∃ l, st'.hs = st.hs ++ l) : ReadOk P M st' r := by
  obtain ⟨lo, hi, h00, h0, h2, h3, h4⟩ := hr.ok
  obtain ⟨l, hh⟩ := hh
  have hk : ∀ k, lo ≤ k → k ≤ hi → ∃ H, st'.hs[k]? = some H ∧ readOp P (ev r.2.2.1) H r.2.1.op = some r.2.2.2 := fun k a b => by
    obtain ⟨H, e1, e2⟩ := h2 k a b
    exact ⟨H, by rw [hh, List.getElem?_append_left (by omega)]; exact e1, e2⟩
  rcases he with he | ⟨he, hb⟩
  · exact ⟨⟨lo, hi, h00, by rw [he]; exact h0, hk, h3, by rw [he]; exact h4⟩⟩
  · refine ⟨⟨lo, hi, h00, by rw [he]; simp; omega, hk, h3, fun q j hq => ?_⟩⟩
    rw [he] at hq
    rcases Nat.lt_or_ge q st.ei.length with z | z
    · rw [List.getElem?_append_left z] at hq; exact h4 q j hq
    · rw [List.getElem?_append_right z] at hq
      have : j = i := by
        cases hq' : q - st.ei.length with
        | zero => rw [hq'] at hq; simpa using hq.symm
        | succ n => rw [hq'] at hq; simp at hq
      subst this
      exact ⟨fun _ => by omega, fun _ => hb⟩

theorem seqE_run {ops : Array Oper} : ∀ {l : List Oper} {i : Nat} {st : St} {hs : List NHeap} {rd : List Nat} {r : List NVal × NHeap},
    (∀ k o, l[k]? = some o → ops.toList[i + k]? = some o) → st.hs.length = st.ei.length + 1 → st.hs[st.ei.length]? = some st.h → (∀ x ∈ st.reads, ReadOk P (masksOf ops.toList) st x) → (∀ x ∈ st.reads, x.1 ∈ rd) →
    st.hs = hs ++ [st.h] →
    seqE E ops l i st.ts st.h hs st.ei rd st.pend st.nid = some r →
    ∃ st', runE P (K E) ops (masksOf ops.toList) i l st = some st' ∧ r = (st'.ts, adoptAll st'.h st'.pend) ∧ (∀ x ∈ st'.reads, ReadOk P (masksOf ops.toList) st' x) ∧ st'.hs.length = st'.ei.length + 1 ∧ st'.nid ≤ st.nid + rowsIn l
  | [], i, st, hs, rd, r, hops, h1, h2, h3, h4, h5, e => by
    simp only [seqE, Option.some.injEq] at e
    exact ⟨st, rfl, e.symm, h3, h1, Nat.le_add_right _ _⟩
  | o :: rest, i, st, hs, rd, r, hops, h1, h2, h3, h4, h5, e => by
    have ho : ops.toList[i]? = some o := by simpa using hops 0 o rfl
    have hops' : ∀ k o', rest[k]? = some o' → ops.toList[i + 1 + k]? = some o' := fun k o' hk => by
      have := hops (k + 1) o' (by simpa using hk); rwa [show i + (k + 1) = i + 1 + k by omega] at this
    unfold seqE at e
    have same : ∀ (ts : List NVal) (v : NVal) (c : Cls) x, x ∈ st.reads → ReadOk P (masksOf ops.toList) { st with ts := ts, v := v, c := c } x := fun ts v c x hx => (h3 x hx).step (i := i) h1 (.inl rfl) ⟨[], by simp⟩
    cases hw : nwanted ops o st.ts with
    | none => rw [hw] at e; cases e
    | some b =>
      rw [hw] at e
      cases b with
      | false =>
        simp only at e
        obtain ⟨st', r1, r2, r3, r4, r5⟩ := seqE_run (i := i + 1) (st := { st with ts := nput st.ts o.dst nundef, v := nundef, c := .skip }) hops' h1 h2 (same _ _ _) h4 h5 e
        exact ⟨st', by unfold runE stepE; rw [hw]; exact r1, r2, r3, r4, by rw [rowsIn_cons]; exact Nat.le_trans r5 (by simp <;> omega)⟩
      | true =>
        simp only at e
        cases hp : pureOp P (ev st.ts) o.op with
        | some v =>
          have he : eStep P (ev st.ts) st.h o.op = some (false, v) := by unfold eStep; rw [hp]
          rw [he] at e
          simp only at e
          obtain ⟨st', r1, r2, r3, r4, r5⟩ := seqE_run (i := i + 1) (st := { st with ts := nput st.ts o.dst v, v := v, c := .val }) hops' h1 h2 (same _ _ _) h4 h5 e
          exact ⟨st', by unfold runE stepE; rw [hw]; simp only; rw [hp]; exact r1, r2, r3, r4, by rw [rowsIn_cons]; exact Nat.le_trans r5 (by simp <;> omega)⟩
        | none =>
          cases hr : readOp P (ev st.ts) st.h o.op with
          | some v =>
            have he : eStep P (ev st.ts) st.h o.op = some (true, v) := by unfold eStep; rw [hp]; simp only; rw [hr]
            rw [he] at e
            simp only at e
            split at e
            · rename_i hc
              simp only [Bool.and_eq_true] at hc
              obtain ⟨st', r1, r2, r3, r4, r5⟩ := seqE_run (i := i + 1) (st := { st with ts := nput st.ts o.dst v, v := v, c := .val, reads := st.reads ++ [(i, o, st.ts, v)] }) (rd := rd ++ [i]) hops' h1 h2 (fun x hx => by
                rw [List.mem_append] at hx
                rcases hx with hx | hx
                · exact (h3 x hx).step (i := i) h1 (.inl rfl) ⟨[], by simp⟩
                · rw [List.mem_singleton] at hx
                  subst hx
                  refine ⟨⟨st.ei.length, st.ei.length, Nat.le_refl _, Nat.le_refl _, fun k a b => ⟨st.h, by rw [show k = st.ei.length from Nat.le_antisymm b a]; exact h2, hr⟩, hc.2, fun q j hq => ⟨fun _ => ?_, fun hge => ?_⟩⟩⟩
                  · exact edge_bit ho (allEdge_mem hc.1 j (List.mem_of_getElem? hq))
                  · have := (List.getElem?_eq_some_iff.1 hq).1
                    simp only at this; omega) (fun x hx => by
                rw [List.mem_append] at hx ⊢
                rcases hx with hx | hx
                · exact .inl (h4 x hx)
                · rw [List.mem_singleton] at hx; subst hx; exact .inr (by simp)) h5 e
              exact ⟨st', by unfold runE stepE; rw [hw]; simp only; rw [hp]; simp only; rw [hr]; exact r1, r2, r3, r4, by rw [rowsIn_cons]; exact Nat.le_trans r5 (by simp <;> omega)⟩
            · split at e
              case isTrue hc =>
                obtain ⟨st', r1, r2, r3, r4, r5⟩ := seqE_run (i := i + 1) (st := { st with ts := nput st.ts o.dst v, v := v, c := .val, reads := st.reads ++ [(i, o, st.ts, v)] }) (rd := rd ++ [i]) hops' h1 h2 (fun x hx => by
                  rw [List.mem_append] at hx
                  rcases hx with hx | hx
                  · exact (h3 x hx).step (i := i) h1 (.inl rfl) ⟨[], by simp⟩
                  · rw [List.mem_singleton] at hx
                    subst hx
                    refine ⟨⟨0, st.ei.length, Nat.zero_le _, Nat.le_refl _, fun k a b => ?_, hc.1, fun q j hq => ⟨fun hlt => absurd hlt (Nat.not_lt_zero _), fun hge => ?_⟩⟩⟩
                    · show ∃ H, st.hs[k]? = some H ∧ _
                      have hl : hs.length = st.ei.length := by have := h1; rw [h5] at this; simpa using this
                      rcases Nat.lt_or_ge k hs.length with z | z
                      · exact ⟨hs[k], by rw [h5, List.getElem?_append_left z]; simp [z], hc.2 _ (List.getElem_mem z)⟩
                      · refine ⟨st.h, ?_, hr⟩
                        rw [show k = st.ei.length by omega]; exact h2
                    · have := (List.getElem?_eq_some_iff.1 hq).1
                      simp only at this; omega) (fun x hx => by
                  rw [List.mem_append] at hx ⊢
                  rcases hx with hx | hx
                  · exact .inl (h4 x hx)
                  · rw [List.mem_singleton] at hx; subst hx; exact .inr (by simp)) h5 e
                exact ⟨st', by unfold runE stepE; rw [hw]; simp only; rw [hp]; simp only; rw [hr]; exact r1, r2, r3, r4, by rw [rowsIn_cons]; exact Nat.le_trans r5 (by simp <;> omega)⟩
              case isFalse => cases e
          | none =>
            have he : eStep P (ev st.ts) st.h o.op = none := by unfold eStep; rw [hp]; simp only; rw [hr]
            rw [he] at e
            simp only at e
            cases hf : floats (newOp P (ev st.ts) o.op) with
            | some p =>
              obtain ⟨cs, mk⟩ := p
              rw [hf] at e
              simp only at e
              obtain ⟨st', r1, r2, r3, r4, r5⟩ := seqE_run (i := i + 1) (st := { st with ts := nput st.ts o.dst (mk st.nid), v := mk st.nid, c := .flt st.nid cs, pend := st.pend ++ [(i, st.nid, cs)], nid := st.nid + 1 }) hops' h1 h2 (fun x hx => (h3 x hx).step (i := i) h1 (.inl rfl) ⟨[], by simp⟩) h4 h5 e
              refine ⟨st', by unfold runE stepE; rw [hw]; simp only; rw [hp]; simp only; rw [hr]; simp only; rw [floats_some hf]; exact r1, r2, r3, r4, ?_⟩
              rw [rowsIn_cons, floats_rows hf]
              exact Nat.le_trans r5 (by simp <;> omega)
            | none =>
              rw [hf] at e
              simp only at e
              split at e
              · rename_i hc
                simp only [Bool.and_eq_true] at hc
                cases hd : doOp P (K E) (ev st.ts) o (adoptAll st.h st.pend) with
                | none => rw [hd] at e; cases e
                | some q =>
                  obtain ⟨v, h'⟩ := q
                  rw [hd] at e
                  simp only at e
                  split at e
                  · rename_i hnx
                    have hall : st.pend.filter (fun x => ((masksOf ops.toList).getD i 0).testBit x.1) = st.pend := List.filter_eq_self.2 fun x hx => edge_bit ho (allEdge_mem hc.2 x.1 (List.mem_map_of_mem hx))
                    have hnone : st.pend.filter (fun x => !((masksOf ops.toList).getD i 0).testBit x.1) = [] := List.filter_eq_nil_iff.2 fun x hx => by rw [edge_bit ho (allEdge_mem hc.2 x.1 (List.mem_map_of_mem hx))]; simp
                    have hei : st.ei.all (fun j => ((masksOf ops.toList).getD i 0).testBit j) = true := List.all_eq_true.2 fun j hj => edge_bit ho (allEdge_mem hc.1.1 j hj)
                    obtain ⟨st', r1, r2, r3, r4, r5⟩ := seqE_run (i := i + 1) (st := { st with ts := nput st.ts o.dst v, h := h', hs := st.hs ++ [h'], ls := st.ls ++ [st.pend], ei := st.ei ++ [i], pend := [], v := v, c := .eff (st.ei.length + 1) }) (rd := rd) hops' (by simp [h1]) (by simp only [List.length_append, List.length_singleton]; rw [List.getElem?_append_right (by omega)]; simp [h1]) (fun x hx => (h3 x hx).step (i := i) h1 (.inr ⟨rfl, edge_bit ho (allEdge_mem hc.1.2 x.1 (h4 x hx))⟩) ⟨[h'], rfl⟩) h4 (by show st.hs ++ [h'] = _; rw [h5]) e
                    refine ⟨st', ?_, r2, r3, r4, by rw [rowsIn_cons]; exact Nat.le_trans r5 (by simp <;> omega)⟩
                    have hse : stepE P (K E) ops (masksOf ops.toList) i o st = some { st with ts := nput st.ts o.dst v, h := h', hs := st.hs ++ [h'], ls := st.ls ++ [st.pend], ei := st.ei ++ [i], pend := [], v := v, c := .eff (st.ei.length + 1) } := by
                      unfold stepE
                      rw [hw]; simp only; rw [hp]; simp only; rw [hr]; simp only
                      have hfn := floats_none hf
                      split
                      · rename_i cs mk heq; exact absurd heq (hfn cs mk)
                      · simp only [hall, hnone, hd, hei]
                        rw [if_pos (by simpa using hnx)]
                    unfold runE
                    rw [hse]
                    exact r1
                  · cases e
              · cases e

theorem drawn_E {ops : Array Oper} {ts : List NVal} {h : NHeap} {r : List NVal × NHeap} (e : seqE E ops ops.toList 0 ts (reserve (rowsIn ops.toList) h) [] [] [] [] h.next = some r) : drawnOps P (K E) ops ts h = some r := by
  obtain ⟨st', r1, r2, r3, r4, r5⟩ := seqE_run (E := E) (l := ops.toList) (i := 0) (st := { ts := ts, h := reserve (rowsIn ops.toList) h, hs := [reserve (rowsIn ops.toList) h], ls := [], ei := [], pend := [], nid := h.next, reads := [], v := nundef, c := .skip }) (rd := []) (fun k o hk => by simpa using hk) rfl rfl (fun x hx => by cases hx) (fun x hx => by cases hx) (hs := []) rfl e
  unfold drawnOps
  simp only [← rowsIn_eq]
  rw [r1]
  simp only
  have hreads : (st'.reads.all fun r => readAgain P (masksOf ops.toList) st'.ei r 0 st'.hs) = true := List.all_eq_true.2 fun x hx => readAgain_of (r3 x hx) st'.hs 0 (fun q H hq => by simpa using hq) (by omega)
  simp only at r5
  rw [if_pos (by simp [hreads, r5]), r2]

/-- .. and as a step of code -/
noncomputable def drawL (E : Env P drStatic) (ops : Array Oper) (ts : List NVal) (h : NHeap) (r : Option (List NVal × NHeap)) : Out := match r with
  | some (ts', h') => some (.normal, ts', h')
  | none => normal (drawnOps P (K E) ops ts h)
theorem S_drawE (id ops ts h) : C E (.region id ops true) ts h = drawL E ops ts h (seqE E ops ops.toList 0 ts (reserve (rowsIn ops.toList) h) [] [] [] [] h.next) := by
  rw [C_draw]
  unfold drawL
  split
  · rename_i ts' h' e
    rw [drawn_E e]; rfl
  · rfl
theorem drawL_some (ops : Array Oper) (ts : List NVal) (h : NHeap) (ts' : List NVal) (h' : NHeap) : drawL E ops ts h (some (ts', h')) = some (.normal, ts', h') := rfl

/-! ### Step by step -/

def readsAll (P : Program) (ρ : Rho) (op : Op) (v : NVal) : List NHeap → Prop
  | [] => True
  | H :: l => readOp P ρ H op = some v ∧ readsAll P ρ op v l
theorem readsAll_iff {ρ : Rho} {op : Op} {v : NVal} : ∀ (l : List NHeap), readsAll P ρ op v l ↔ ∀ H ∈ l, readOp P ρ H op = some v
  | [] => by simp [readsAll]
  | H :: l => by simp [readsAll, readsAll_iff l]
theorem readOp_load (ρ : Rho) (H : NHeap) (t x) : readOp P ρ H (.load t x) = kLoad P H t (ρ x) := rfl
section
variable (E) (ops : Array Oper) (o : Oper) (rest : List Oper) (i : Nat) (ts : List NVal) (h : NHeap) (hs : List NHeap) (ei rd : List Nat) (pend : List Float3) (nid : Nat)
open Classical in
noncomputable def eRd (v : NVal) (b : Bool) : Option (List NVal × NHeap) := if b = true then seqE E ops rest (i + 1) (nput ts o.dst v) h hs ei (rd ++ [i]) pend nid
  else if veq 50 v v = true ∧ ∀ H ∈ hs, readOp P (ev ts) H o.op = some v then seqE E ops rest (i + 1) (nput ts o.dst v) h hs ei (rd ++ [i]) pend nid else none
open Classical in
noncomputable def eAgain (v : NVal) (b : Bool) (p : Prop) : Option (List NVal × NHeap) := if b = true ∧ p then seqE E ops rest (i + 1) (nput ts o.dst v) h hs ei (rd ++ [i]) pend nid else none
noncomputable def eDo (n : Nat) (x : Option (NVal × NHeap)) : Option (List NVal × NHeap) := match x with
  | none => none
  | some (v, h') => if n ≤ h'.next then seqE E ops rest (i + 1) (nput ts o.dst v) h' (hs ++ [h]) (ei ++ [i]) rd [] nid else none
noncomputable def eChk (b : Bool) : Option (List NVal × NHeap) := if b = true then eDo E ops o rest i ts h hs ei rd nid (adoptAll h pend).next (doK P (K E) (ev ts) o.op (adoptAll h pend)) else none
noncomputable def eNew (x : Option (List NVal × (Nat → NVal))) : Option (List NVal × NHeap) := match x with
  | some (cs, mk) => seqE E ops rest (i + 1) (nput ts o.dst (mk nid)) h hs ei rd (pend ++ [(i, nid, cs)]) (nid + 1)
  | none => eChk E ops o rest i ts h hs ei rd pend nid (allEdge o.after.toList ei && allEdge o.after.toList rd && allEdge o.after.toList (pend.map (·.1)))
noncomputable def eGo (x : Option (Bool × NVal)) : Option (List NVal × NHeap) := match x with
  | some (false, v) => seqE E ops rest (i + 1) (nput ts o.dst v) h hs ei rd pend nid
  | some (true, v) => eRd E ops o rest i ts h hs ei rd pend nid v (allEdge o.after.toList ei && veq 50 v v)
  | none => eNew E ops o rest i ts h hs ei rd pend nid (floats (newOp P (ev ts) o.op))
noncomputable def eGuard (g : Option Bool) : Option (List NVal × NHeap) := match g with
  | none => none
  | some false => seqE E ops rest (i + 1) (nput ts o.dst nundef) h hs ei rd pend nid
  | some true => eGo E ops o rest i ts h hs ei rd pend nid (eStep P (ev ts) h o.op)

theorem e_nil : seqE E ops [] i ts h hs ei rd pend nid = some (ts, adoptAll h pend) := rfl
theorem e_cons : seqE E ops (o :: rest) i ts h hs ei rd pend nid = eGuard E ops o rest i ts h hs ei rd pend nid (nwanted ops o ts) := by
  rw [seqE]
  unfold eGuard eGo eRd eNew eChk eDo
  cases nwanted ops o ts with
  | none => rfl
  | some b =>
    cases b with
    | false => rfl
    | true =>
      simp only
      cases eStep P (ev ts) h o.op with
      | some p =>
        obtain ⟨b, v⟩ := p
        cases b <;> rfl
      | none =>
        simp only
        cases floats (newOp P (ev ts) o.op) with
        | some p => rfl
        | none =>
          rw [doK_eq]
theorem eGuard_true : eGuard E ops o rest i ts h hs ei rd pend nid (some true) = eGo E ops o rest i ts h hs ei rd pend nid (eStep P (ev ts) h o.op) := rfl
theorem eGuard_false : eGuard E ops o rest i ts h hs ei rd pend nid (some false) = seqE E ops rest (i + 1) (nput ts o.dst nundef) h hs ei rd pend nid := rfl
theorem eGo_val (v : NVal) : eGo E ops o rest i ts h hs ei rd pend nid (some (false, v)) = seqE E ops rest (i + 1) (nput ts o.dst v) h hs ei rd pend nid := rfl
theorem eGo_read (v : NVal) : eGo E ops o rest i ts h hs ei rd pend nid (some (true, v)) = eRd E ops o rest i ts h hs ei rd pend nid v (allEdge o.after.toList ei && veq 50 v v) := rfl
theorem eGo_none : eGo E ops o rest i ts h hs ei rd pend nid none = eNew E ops o rest i ts h hs ei rd pend nid (floats (newOp P (ev ts) o.op)) := rfl
theorem eRd_true (v : NVal) : eRd E ops o rest i ts h hs ei rd pend nid v true = seqE E ops rest (i + 1) (nput ts o.dst v) h hs ei (rd ++ [i]) pend nid := rfl
/-- a read that no edge ties to what was done ahead of it: it finds the same ahead of that, too -/
theorem eRd_false (v : NVal) : eRd E ops o rest i ts h hs ei rd pend nid v false = eAgain E ops o rest i ts h hs ei rd pend nid v (veq 50 v v) (readsAll P (ev ts) o.op v hs) := by
  unfold eRd eAgain
  rw [if_neg (by decide)]
  have := readsAll_iff (P := P) (ρ := ev ts) (op := o.op) (v := v) hs
  by_cases h1 : veq 50 v v = true
  · by_cases h2 : readsAll P (ev ts) o.op v hs
    · rw [if_pos ⟨h1, this.1 h2⟩, if_pos ⟨h1, h2⟩]
    · rw [if_neg fun q => h2 (this.2 q.2), if_neg fun q => h2 q.2]
  · rw [if_neg fun q => h1 q.1, if_neg fun q => h1 q.1]
theorem eAgain_true (v : NVal) : eAgain E ops o rest i ts h hs ei rd pend nid v true True = seqE E ops rest (i + 1) (nput ts o.dst v) h hs ei (rd ++ [i]) pend nid := by
  unfold eAgain; rw [if_pos ⟨rfl, trivial⟩]
theorem eNew_some (cs mk) : eNew E ops o rest i ts h hs ei rd pend nid (some (cs, mk)) = seqE E ops rest (i + 1) (nput ts o.dst (mk nid)) h hs ei rd (pend ++ [(i, nid, cs)]) (nid + 1) := rfl
theorem eNew_none : eNew E ops o rest i ts h hs ei rd pend nid none = eChk E ops o rest i ts h hs ei rd pend nid (allEdge o.after.toList ei && allEdge o.after.toList rd && allEdge o.after.toList (pend.map (·.1))) := rfl
theorem eChk_true : eChk E ops o rest i ts h hs ei rd pend nid true = eDo E ops o rest i ts h hs ei rd nid (adoptAll h pend).next (doK P (K E) (ev ts) o.op (adoptAll h pend)) := rfl
theorem eDo_some (n v h') : eDo E ops o rest i ts h hs ei rd nid n (some (v, h')) = if n ≤ h'.next then seqE E ops rest (i + 1) (nput ts o.dst v) h' (hs ++ [h]) (ei ++ [i]) rd [] nid else none := rfl
end
theorem e_plain (ops dst op ty pos after rest i ts h hs ei rd pend nid) : seqE E ops (⟨dst, op, ty, pos, after, none⟩ :: rest) i ts h hs ei rd pend nid = eGo E ops ⟨dst, op, ty, pos, after, none⟩ rest i ts h hs ei rd pend nid (eStep P (ev ts) h op) := by
  rw [e_cons]; rfl
theorem e_guard (ops dst op ty pos after j want rest i ts h hs ei rd pend nid) : seqE E ops (⟨dst, op, ty, pos, after, some (j, want)⟩ :: rest) i ts h hs ei rd pend nid =
    eGuard E ops ⟨dst, op, ty, pos, after, some (j, want)⟩ rest i ts h hs ei rd pend nid (match (ops[j]?).bind (·.dst) with
    | none => some false
    | some d => match ts[d]? with
      | some (.bool b) => some (b == want)
      | some .junk => none
      | _ => some false) := e_cons _ _ _ _ _ _ _ _ _ _ _ _
theorem adoptAll_nil (h : NHeap) : adoptAll h [] = h := rfl
theorem adoptAll_cons (h : NHeap) (i id : Nat) (cs : List NVal) (l) : adoptAll h ((i, id, cs) :: l) = adoptAll (h.set id (.cells cs (.own none))) l := rfl
theorem reserve_zero (h : NHeap) : reserve 0 h = h := rfl
theorem reserve_succ (n : Nat) (h : NHeap) : reserve (n + 1) h = reserve n (h.alloc .dead) := rfl
theorem floats_cells (cs mk) : floats (some (.cells cs (.own none), mk)) = some (cs, mk) := rfl
theorem floats_nothing : floats none = none := rfl

def valE (x : Option NVal) : Option (Bool × NVal) := match x with | some v => some (false, v) | none => none
def readE (x : Option NVal) : Option (Bool × NVal) := match x with | some v => some (true, v) | none => none
theorem valE_some (v : NVal) : valE (some v) = some (false, v) := rfl
theorem readE_some (v : NVal) : readE (some v) = some (true, v) := rfl
section
variable (ρ : Rho) (h : NHeap)
theorem es_of_pure {op : Op} (hr : readOp P ρ h op = none) : eStep P ρ h op = valE (pureK op P ρ) := by
  unfold eStep valE; rw [pureK_eq]; cases hp : pureOp P ρ op with
  | some v => rfl
  | none => simp only [hr]
theorem es_move (x) : eStep P ρ h (.move x) = valE (ρ x) := es_of_pure ρ h rfl
theorem es_assign (x) : eStep P ρ h (.assign x) = valE (ρ x) := es_of_pure ρ h rfl
theorem es_pick (c a b) : eStep P ρ h (.pick c a b) = valE (kPick (ρ c) (ρ a) (ρ b)) := es_of_pure ρ h rfl
theorem es_build (t parts) : eStep P ρ h (.build t parts) = valE (kBuild P t (evParts ρ parts.toList)) := es_of_pure ρ h rfl
theorem es_nilCheck (x) : eStep P ρ h (.nilCheck x) = valE (kNil (ρ x)) := es_of_pure ρ h rfl
theorem es_binOp (op t x y p) : eStep P ρ h (.binOp op t x y p) = valE (bind2 (ρ x) (ρ y) (nbin P op t)) := es_of_pure ρ h rfl
theorem es_unOp (op t x) : eStep P ρ h (.unOp op t x) = valE (bind1 (ρ x) (nun op)) := es_of_pure ρ h rfl
theorem es_makeInterface (t x) : eStep P ρ h (.makeInterface t x) = valE (kIface P t (ρ x)) := es_of_pure ρ h rfl
theorem es_makeFunc (fn a b) : eStep P ρ h (.makeFunc fn a b) = valE (kFunc fn (evs ρ a.toList) (evs ρ b.toList)) := es_of_pure ρ h rfl
theorem es_slice (t x lo hi mx) : eStep P ρ h (.slice t x lo hi mx) = valE (kSlice P t (evOpt ρ mx) (ρ x) (evOpt ρ lo) (evOpt ρ hi)) := es_of_pure ρ h rfl
theorem es_fieldAddr (t x f) : eStep P ρ h (.fieldAddr t x f) = valE (bind1 (ρ x) fun u => nfieldAddr P t u f) := es_of_pure ρ h rfl
theorem es_field (t x f) : eStep P ρ h (.field t x f) = valE (bind1 (ρ x) fun u => nfield P t u f) := es_of_pure ρ h rfl
theorem es_indexAddr (t x ix) : eStep P ρ h (.indexAddr t x ix) = valE (bind2 (ρ x) (ρ ix) (nindexAddr P t)) := es_of_pure ρ h rfl
theorem es_index (t x ix) : eStep P ρ h (.index t x ix) = valE (bind2 (ρ x) (ρ ix) (nindex P t)) := es_of_pure ρ h rfl
theorem es_extract (x i) : eStep P ρ h (.extract x i) = valE (kExtract (ρ x) i) := es_of_pure ρ h rfl
theorem es_load (t x) : eStep P ρ h (.load t x) = readE (kLoad P h t (ρ x)) := rfl
theorem es_len (args tys) : eStep P ρ h (.call ⟨.builtin .len, args, tys⟩) = (match kLen P ρ args tys with | some v => some (false, v) | none => readE (kLenM P ρ h args tys)) := rfl
theorem es_store (t x y) : eStep P ρ h (.store t x y) = none := rfl
theorem es_call (f args tys) : eStep P ρ h (.call ⟨.value f, args, tys⟩) = none := rfl
theorem es_append (args tys) : eStep P ρ h (.call ⟨.builtin .append, args, tys⟩) = none := rfl
theorem es_copy (args tys) : eStep P ρ h (.call ⟨.builtin .copy, args, tys⟩) = none := rfl
theorem es_clear (args tys) : eStep P ρ h (.call ⟨.builtin .clear, args, tys⟩) = none := rfl
theorem es_alloc (t) : eStep P ρ h (.alloc t) = none := rfl
theorem es_box (t x) : eStep P ρ h (.box t x) = none := rfl
theorem es_buildSlice (t n ps) : eStep P ρ h (.buildSlice t n ps) = none := rfl
theorem es_makeSlice (t l c) : eStep P ρ h (.makeSlice t l c) = none := rfl
end

/-! ### Which of the two -/

def quietO : Op → Bool
  | .store _ _ _ => false
  | .mapUpdate _ _ _ _ => false
  | .insert _ _ _ _ => false
  | .alloc _ => false
  | .box _ _ => false
  | .buildSlice _ _ _ => false
  | .makeSlice _ _ _ => false
  | .makeMap _ _ => false
  | .convert _ _ _ => false
  | .call c => (match c.callee with | .builtin .len => true | .builtin .cap => true | .builtin .min => true | .builtin .max => true | _ => false)
  | _ => true
def quiet : List Oper → Bool
  | [] => true
  | o :: l => quietO o.op && quiet l
theorem S_drawn (id ops ts h) : C E (.region id ops true) ts h = if quiet ops.toList = true then drawD E ops ts h (seqRO P ops ops.toList ts h) (rowsIn ops.toList) else drawL E ops ts h (seqE E ops ops.toList 0 ts (reserve (rowsIn ops.toList) h) [] [] [] [] h.next) := by
  split
  · exact S_draw _ _ _ _
  · exact S_drawE _ _ _ _
end Go.Proofs.Ytblhpikljhholaa.NICE
