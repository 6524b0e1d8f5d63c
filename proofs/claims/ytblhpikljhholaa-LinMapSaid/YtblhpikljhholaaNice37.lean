/- A region whose order is drawn, worked out in the order of its text: what stands ahead of what is told through chains of edges; a read that no edge ties to a later effect finds the same behind it. -/
import Derived.Test.YtblhpikljhholaaNice36
set_option linter.unusedVariables false
set_option linter.unusedSimpArgs false
namespace Go.Proofs.Ytblhpikljhholaa.NICE
open Go Go.RowKit

variable {P : Program} {E : Env P drStatic}

def gEdge (e : Edge) : Bool := match e.ground with | .textOnly _ => false | .gcOnly _ => false | _ => true
theorem gEdge_binds (e : Edge) : gEdge e = Region.binds .any e := by
  unfold gEdge Region.binds
  cases e.ground <;> rfl

/-- behind how many effects an operation stands, by its first edges -/
def tieOf (tl : List Nat) : Nat → List Edge → Nat
  | 0, _ => 0
  | _ + 1, [] => 0
  | n + 1, e :: l => max (if gEdge e then tl.getD e.on 0 else 0) (tieOf tl n l)

theorem masks_take {l : List Oper} {i : Nat} (j : Nat) (hj : j < i) : (masksOf (l.take i)).getD j 0 = (masksOf l).getD j 0 := by
  conv => rhs; rw [← List.take_append_drop i l]
  unfold masksOf
  rw [List.foldl_append]
  obtain ⟨r, hr⟩ := masks_grow (l.drop i) ((l.take i).foldl (fun acc o => acc ++ [maskOf acc o]) [])
  rw [hr]
  by_cases hl : j < l.length
  · have hlen : ((l.take i).foldl (fun acc o => acc ++ [maskOf acc o]) []).length = min i l.length := by rw [masks_len]; simp
    rw [List.getD_eq_getElem?_getD, List.getD_eq_getElem?_getD, List.getElem?_append_left (by omega)]
  · have hlen : ((l.take i).foldl (fun acc o => acc ++ [maskOf acc o]) []).length = min i l.length := by rw [masks_len]; simp
    have hd : l.drop i = [] := List.drop_of_length_le (by omega)
    rw [hd] at hr
    simp only [List.foldl_nil] at hr
    have : r = [] := by simpa using hr
    rw [this, List.append_nil]

theorem masks_at' {l : List Oper} {i : Nat} {o : Oper} (h : l[i]? = some o) : (masksOf l).getD i 0 = maskOf (masksOf (l.take i)) o := by
  have hi : i < l.length := (List.getElem?_eq_some_iff.1 h).1
  have e : l = l.take i ++ o :: l.drop (i + 1) := by
    conv => lhs; rw [← List.take_append_drop i l]
    congr 1
    rw [List.drop_eq_getElem_cons hi]
    congr 1
    exact (List.getElem?_eq_some_iff.1 h).2
  conv => lhs; rw [e]
  show (List.getD (List.foldl _ _ (l.take i ++ o :: l.drop (i + 1))) i 0) = _
  rw [List.foldl_append, List.foldl_cons]
  obtain ⟨r, hr⟩ := masks_grow (l.drop (i + 1)) ((l.take i).foldl (fun acc o => acc ++ [maskOf acc o]) [] ++ [maskOf ((l.take i).foldl (fun acc o => acc ++ [maskOf acc o]) []) o])
  rw [hr]
  have hl : ((l.take i).foldl (fun acc o => acc ++ [maskOf acc o]) []).length = i := by rw [masks_len]; simp; omega
  rw [List.getD_eq_getElem?_getD, List.append_assoc, List.getElem?_append_right (by omega), hl]
  simp [masksOf]

theorem mask_over (acc : List Nat) (b : Nat) : ∀ (l : List Edge) (s : Nat) (e : Edge), e ∈ l → Region.binds .any e = true → (e.on = b ∨ (acc.getD e.on 0).testBit b = true) → (l.foldl (fun s e => if Region.binds .any e then s ||| 2 ^ e.on ||| acc.getD e.on 0 else s) s).testBit b = true
  | [], s, e, h, _, _ => by cases h
  | x :: l, s, e, h, hb, hc => by
    rw [List.foldl_cons]
    cases h with
    | head =>
      refine mask_keep acc b l _ ?_
      rw [if_pos hb]
      rcases hc with rfl | hc
      · simp [Nat.testBit_or, Nat.testBit_two_pow_self]
      · simp only [Nat.testBit_or, hc, Bool.or_true]
    | tail _ h => exact mask_over acc b l _ e h hb hc

theorem tie_mem (tl : List Nat) : ∀ (n : Nat) (l : List Edge) (q : Nat), q < tieOf tl n l → ∃ e ∈ l, gEdge e = true ∧ q < tl.getD e.on 0
  | 0, l, q, h => by simp [tieOf] at h
  | n + 1, [], q, h => by simp [tieOf] at h
  | n + 1, e :: l, q, h => by
    unfold tieOf at h
    by_cases hg : gEdge e = true
    · rw [if_pos hg] at h
      by_cases h1 : q < tl.getD e.on 0
      · exact ⟨e, by simp, hg, h1⟩
      · obtain ⟨e', h2, h3⟩ := tie_mem tl n l q (by omega)
        exact ⟨e', by simp [h2], h3⟩
    · rw [if_neg hg] at h
      obtain ⟨e', h2, h3⟩ := tie_mem tl n l q (by omega)
      exact ⟨e', by simp [h2], h3⟩

/-- what is behind the operation j is behind the first effects, so many -/
def TieOk (M : List Nat) (ei tl : List Nat) (i : Nat) : Prop := tl.length = i ∧ ∀ (j t : Nat), tl[j]? = some t → t ≤ ei.length ∧ ∀ (q k : Nat), q < t → ei[q]? = some k → k = j ∨ ((M.getD j 0).testBit k = true ∧ ∀ b, (M.getD k 0).testBit b = true → (M.getD j 0).testBit b = true)

theorem tie_le {M ei tl : List Nat} {i : Nat} (ht : TieOk M ei tl i) : ∀ (n : Nat) (l : List Edge), tieOf tl n l ≤ ei.length
  | 0, l => by simp [tieOf]
  | n + 1, [] => by simp [tieOf]
  | n + 1, e :: l => by
    unfold tieOf
    have ih := tie_le ht n l
    have : tl.getD e.on 0 ≤ ei.length := by
      by_cases h : e.on < tl.length
      · have := (ht.2 e.on tl[e.on] (List.getElem?_eq_getElem h)).1
        rwa [List.getD_eq_getElem?_getD, List.getElem?_eq_getElem h]
      · rw [List.getD_eq_getElem?_getD, List.getElem?_eq_none (by omega)]; simp
    split <;> omega

theorem tie_bit {l : List Oper} {i : Nat} {o : Oper} (ho : l[i]? = some o) {ei tl : List Nat} (ht : TieOk (masksOf l) ei tl i) {n q k : Nat} (hq : q < tieOf tl n o.after.toList) (hk : ei[q]? = some k) :
    ((masksOf l).getD i 0).testBit k = true ∧ ∀ b, ((masksOf l).getD k 0).testBit b = true → ((masksOf l).getD i 0).testBit b = true := by
  obtain ⟨e, he, hg, h1⟩ := tie_mem tl n _ q hq
  have hlt : e.on < i := by
    by_cases h : e.on < tl.length
    · rw [← ht.1]; exact h
    · rw [List.getD_eq_getElem?_getD, List.getElem?_eq_none (by omega)] at h1; simp at h1
  obtain ⟨t, htl⟩ : ∃ t, tl[e.on]? = some t := ⟨tl[e.on]'(by rw [ht.1]; exact hlt), List.getElem?_eq_getElem _⟩
  have h1' : q < t := by rw [List.getD_eq_getElem?_getD, htl] at h1; exact h1
  have over : ∀ b, e.on = b ∨ ((masksOf l).getD e.on 0).testBit b = true → ((masksOf l).getD i 0).testBit b = true := fun b hb => by
    rw [masks_at' ho]
    unfold maskOf
    refine mask_over _ b _ 0 e he (by rw [← gEdge_binds]; exact hg) ?_
    rw [masks_take _ hlt]
    exact hb
  rcases (ht.2 _ _ htl).2 q k h1' hk with h2 | ⟨h2, h3⟩
  · subst h2
    exact ⟨over _ (.inl rfl), fun b hb => over b (.inr hb)⟩
  · exact ⟨over _ (.inr h2), fun b hb => over b (.inr (h3 b hb))⟩

abbrev RdL := List (Nat × Oper × List NVal × NVal)
/-- reads that an effect stands not behind -/
def loose (es : List Edge) (rd : RdL) : RdL := rd.filter fun r => !edgeB r.1 es

open Classical in
noncomputable def seqX (E : Env P drStatic) (ops : Array Oper) : List Oper → Nat → List NVal → NHeap → List NHeap → List Nat → List Nat → RdL → List Float3 → Nat → Option (List NVal × NHeap)
  | [], i, ts, h, hs, ei, tl, rd, pend, nid => some (ts, adoptAll h pend)
  | o :: rest, i, ts, h, hs, ei, tl, rd, pend, nid => match nwanted ops o ts with
    | none => none
    | some false => seqX E ops rest (i + 1) (nput ts o.dst nundef) h hs ei (tl ++ [tieOf tl 4 o.after.toList]) rd pend nid
    | some true => match eStep P (ev ts) h o.op with
      | some (false, v) => seqX E ops rest (i + 1) (nput ts o.dst v) h hs ei (tl ++ [tieOf tl 4 o.after.toList]) rd pend nid
      | some (true, v) => if veq 50 v v = true ∧ ∀ H ∈ hs.drop (tieOf tl 4 o.after.toList), readOp P (ev ts) H o.op = some v then seqX E ops rest (i + 1) (nput ts o.dst v) h hs ei (tl ++ [tieOf tl 4 o.after.toList]) (rd ++ [(i, o, ts, v)]) pend nid else none
      | none => match floats (newOp P (ev ts) o.op) with
        | some (cs, mk) => seqX E ops rest (i + 1) (nput ts o.dst (mk nid)) h hs ei (tl ++ [tieOf tl 4 o.after.toList]) rd (pend ++ [(i, nid, cs)]) (nid + 1)
        | none => if ei.length ≤ tieOf tl 4 o.after.toList ∧ allEdge o.after.toList (pend.map (·.1)) = true then
            match doOp P (K E) (ev ts) o (adoptAll h pend) with
            | none => none
            | some (v, h') => if (adoptAll h pend).next ≤ h'.next ∧ ∀ r ∈ loose o.after.toList rd, readOp P (ev r.2.2.1) h' r.2.1.op = some r.2.2.2 then
                seqX E ops rest (i + 1) (nput ts o.dst v) h' (hs ++ [h]) (ei ++ [i]) (tl ++ [ei.length + 1]) (loose o.after.toList rd) [] nid else none
          else none

theorem TieOk.push {l : List Oper} {i : Nat} {o : Oper} (ho : l[i]? = some o) {ei tl : List Nat} (ht : TieOk (masksOf l) ei tl i) (n : Nat) : TieOk (masksOf l) ei (tl ++ [tieOf tl n o.after.toList]) (i + 1) := by
  refine ⟨by simp [ht.1], fun j t hj => ?_⟩
  rcases Nat.lt_or_ge j tl.length with z | z
  · rw [List.getElem?_append_left z] at hj; exact ht.2 j t hj
  · rw [List.getElem?_append_right z] at hj
    have hji : j = i := by
      cases hz : j - tl.length with
      | zero => have := ht.1; omega
      | succ m => rw [hz] at hj; simp at hj
    subst hji
    rw [show j - tl.length = 0 by have := ht.1; omega] at hj
    simp at hj
    subst hj
    exact ⟨tie_le ht _ _, fun q k hq hk => .inr (tie_bit ho ht hq hk)⟩

theorem TieOk.eff {l : List Oper} {i : Nat} {o : Oper} (ho : l[i]? = some o) {ei tl : List Nat} (ht : TieOk (masksOf l) ei tl i) (n : Nat) (hn : ei.length ≤ tieOf tl n o.after.toList) : TieOk (masksOf l) (ei ++ [i]) (tl ++ [ei.length + 1]) (i + 1) := by
  refine ⟨by simp [ht.1], fun j t hj => ?_⟩
  rcases Nat.lt_or_ge j tl.length with z | z
  · rw [List.getElem?_append_left z] at hj
    obtain ⟨h1, h2⟩ := ht.2 j t hj
    exact ⟨by simp; omega, fun q k hq hk => by
      rw [List.getElem?_append_left (by omega)] at hk; exact h2 q k hq hk⟩
  · rw [List.getElem?_append_right z] at hj
    have hji : j = i := by
      cases hz : j - tl.length with
      | zero => have := ht.1; omega
      | succ m => rw [hz] at hj; simp at hj
    subst hji
    rw [show j - tl.length = 0 by have := ht.1; omega] at hj
    simp at hj
    subst hj
    refine ⟨by simp, fun q k hq hk => ?_⟩
    rcases Nat.lt_or_ge q ei.length with y | y
    · rw [List.getElem?_append_left y] at hk
      exact .inr (tie_bit (n := n) ho ht (by omega) hk)
    · rw [List.getElem?_append_right y, show q - ei.length = 0 by omega] at hk
      simp at hk
      exact .inl hk.symm

/-- an effect comes behind all others: what a read found stands still, if the effect is behind it, or if it finds the same now -/
theorem ReadOk.next {M : List Nat} {st st' : St} {r} (hr : ReadOk P M st r) {i : Nat} (hl : st.hs.length = st.ei.length + 1) (he : st'.ei = st.ei ++ [i]) {h' : NHeap} (hh : st'.hs = st.hs ++ [h'])
    (hall : ∀ (q k : Nat), st.ei[q]? = some k → ∀ b, (M.getD k 0).testBit b = true → (M.getD i 0).testBit b = true)
    (hc : (M.getD i 0).testBit r.1 = true ∨ readOp P (ev r.2.2.1) h' r.2.1.op = some r.2.2.2) : ReadOk P M st' r := by
  by_cases hb : (M.getD i 0).testBit r.1 = true
  · exact hr.step hl (.inr ⟨he, hb⟩) ⟨[h'], hh⟩
  · have hc : readOp P (ev r.2.2.1) h' r.2.1.op = some r.2.2.2 := hc.resolve_left hb
    obtain ⟨lo, hi, h00, h0, h2, h3, h4⟩ := hr.ok
    have hhi : hi = st.ei.length := by
      rcases Nat.lt_or_ge hi st.ei.length with z | z
      · obtain ⟨k, hk⟩ : ∃ k, st.ei[hi]? = some k := ⟨st.ei[hi], List.getElem?_eq_getElem z⟩
        exact absurd (hall hi k hk _ ((h4 hi k hk).2 (Nat.le_refl _))) hb
      · omega
    refine ⟨⟨lo, hi + 1, by omega, by rw [he]; simp; omega, fun k a b => ?_, h3, fun q j hq => ?_⟩⟩
    · rcases Nat.lt_or_ge hi k with z | z
      · refine ⟨h', ?_, hc⟩
        rw [hh, show k = st.hs.length by omega, List.getElem?_append_right (Nat.le_refl _)]
        simp
      · obtain ⟨H, e1, e2⟩ := h2 k a z
        exact ⟨H, by rw [hh, List.getElem?_append_left (by omega)]; exact e1, e2⟩
    · rw [he] at hq
      rcases Nat.lt_or_ge q st.ei.length with z | z
      · rw [List.getElem?_append_left z] at hq
        exact ⟨fun h => (h4 q j hq).1 h, fun h => by omega⟩
      · have : q < st.ei.length + 1 := by
          have := (List.getElem?_eq_some_iff.1 hq).1; simpa using this
        exact ⟨fun h => by omega, fun h => by omega⟩

theorem seqX_run {ops : Array Oper} : ∀ {l : List Oper} {i : Nat} {st : St} {hs : List NHeap} {tl : List Nat} {rd : RdL} {r : List NVal × NHeap},
    (∀ k o, l[k]? = some o → ops.toList[i + k]? = some o) → st.hs.length = st.ei.length + 1 → st.hs[st.ei.length]? = some st.h → (∀ x ∈ st.reads, ReadOk P (masksOf ops.toList) st x) →
    (∀ x ∈ st.reads, x ∈ rd ∨ ∃ (q k : Nat), st.ei[q]? = some k ∧ ((masksOf ops.toList).getD k 0).testBit x.1 = true) →
    st.hs = hs ++ [st.h] → TieOk (masksOf ops.toList) st.ei tl i →
    seqX E ops l i st.ts st.h hs st.ei tl rd st.pend st.nid = some r →
    ∃ st', runE P (K E) ops (masksOf ops.toList) i l st = some st' ∧ r = (st'.ts, adoptAll st'.h st'.pend) ∧ (∀ x ∈ st'.reads, ReadOk P (masksOf ops.toList) st' x) ∧ st'.hs.length = st'.ei.length + 1 ∧ st'.nid ≤ st.nid + rowsIn l
  | [], i, st, hs, tl, rd, r, hops, h1, h2, h3, h4, h5, h6, e => by
    simp only [seqX, Option.some.injEq] at e
    exact ⟨st, rfl, e.symm, h3, h1, Nat.le_add_right _ _⟩
  | o :: rest, i, st, hs, tl, rd, r, hops, h1, h2, h3, h4, h5, h6, e => by
    have ho : ops.toList[i]? = some o := by simpa using hops 0 o rfl
    have hops' : ∀ k o', rest[k]? = some o' → ops.toList[i + 1 + k]? = some o' := fun k o' hk => by
      have := hops (k + 1) o' (by simpa using hk); rwa [show i + (k + 1) = i + 1 + k by omega] at this
    unfold seqX at e
    have same : ∀ (ts : List NVal) (v : NVal) (c : Cls) x, x ∈ st.reads → ReadOk P (masksOf ops.toList) { st with ts := ts, v := v, c := c } x := fun ts v c x hx => (h3 x hx).step (i := i) h1 (.inl rfl) ⟨[], by simp⟩
    have h6' := h6.push ho 4
    cases hw : nwanted ops o st.ts with
    | none => rw [hw] at e; cases e
    | some b =>
      rw [hw] at e
      cases b with
      | false =>
        simp only at e
        obtain ⟨st', r1, r2, r3, r4, r5⟩ := seqX_run (i := i + 1) (st := { st with ts := nput st.ts o.dst nundef, v := nundef, c := .skip }) hops' h1 h2 (same _ _ _) h4 h5 h6' e
        exact ⟨st', by unfold runE stepE; rw [hw]; exact r1, r2, r3, r4, by rw [rowsIn_cons]; exact Nat.le_trans r5 (by simp <;> omega)⟩
      | true =>
        simp only at e
        cases hp : pureOp P (ev st.ts) o.op with
        | some v =>
          have he : eStep P (ev st.ts) st.h o.op = some (false, v) := by unfold eStep; rw [hp]
          rw [he] at e
          simp only at e
          obtain ⟨st', r1, r2, r3, r4, r5⟩ := seqX_run (i := i + 1) (st := { st with ts := nput st.ts o.dst v, v := v, c := .val }) hops' h1 h2 (same _ _ _) h4 h5 h6' e
          exact ⟨st', by unfold runE stepE; rw [hw]; simp only; rw [hp]; exact r1, r2, r3, r4, by rw [rowsIn_cons]; exact Nat.le_trans r5 (by simp <;> omega)⟩
        | none =>
          cases hr : readOp P (ev st.ts) st.h o.op with
          | some v =>
            have he : eStep P (ev st.ts) st.h o.op = some (true, v) := by unfold eStep; rw [hp]; simp only; rw [hr]
            rw [he] at e
            simp only at e
            split at e
            case isFalse => cases e
            case isTrue hc =>
              have hl : hs.length = st.ei.length := by have := h1; rw [h5] at this; simpa using this
              have hti := tie_le h6 4 o.after.toList
              obtain ⟨st', r1, r2, r3, r4, r5⟩ := seqX_run (i := i + 1) (st := { st with ts := nput st.ts o.dst v, v := v, c := .val, reads := st.reads ++ [(i, o, st.ts, v)] }) (rd := rd ++ [(i, o, st.ts, v)]) hops' h1 h2 (fun x hx => by
                rw [List.mem_append] at hx
                rcases hx with hx | hx
                · exact (h3 x hx).step (i := i) h1 (.inl rfl) ⟨[], by simp⟩
                · rw [List.mem_singleton] at hx
                  subst hx
                  refine ⟨⟨tieOf tl 4 o.after.toList, st.ei.length, hti, Nat.le_refl _, fun k a b => ?_, hc.1, fun q j hq => ⟨fun hlt => (tie_bit ho h6 hlt hq).1, fun hge => ?_⟩⟩⟩
                  · show ∃ H, st.hs[k]? = some H ∧ _
                    rcases Nat.lt_or_ge k hs.length with z | z
                    · exact ⟨hs[k], by rw [h5, List.getElem?_append_left z]; simp [z], hc.2 _ (by
                        rw [List.mem_iff_getElem?]
                        exact ⟨k - tieOf tl 4 o.after.toList, by rw [List.getElem?_drop, show tieOf tl 4 o.after.toList + (k - tieOf tl 4 o.after.toList) = k by omega]; exact List.getElem?_eq_getElem z⟩)⟩
                    · refine ⟨st.h, ?_, hr⟩
                      rw [show k = st.ei.length by omega]; exact h2
                  · have := (List.getElem?_eq_some_iff.1 hq).1
                    simp only at this; omega) (fun x hx => by
                rw [List.mem_append] at hx
                rcases hx with hx | hx
                · rcases h4 x hx with h | h
                  · exact .inl (List.mem_append_left _ h)
                  · exact .inr h
                · exact .inl (List.mem_append_right _ hx)) h5 h6' e
              exact ⟨st', by unfold runE stepE; rw [hw]; simp only; rw [hp]; simp only; rw [hr]; exact r1, r2, r3, r4, by rw [rowsIn_cons]; exact Nat.le_trans r5 (by simp <;> omega)⟩
          | none =>
            have he : eStep P (ev st.ts) st.h o.op = none := by unfold eStep; rw [hp]; simp only; rw [hr]
            rw [he] at e
            simp only at e
            cases hf : floats (newOp P (ev st.ts) o.op) with
            | some p =>
              obtain ⟨cs, mk⟩ := p
              rw [hf] at e
              simp only at e
              obtain ⟨st', r1, r2, r3, r4, r5⟩ := seqX_run (i := i + 1) (st := { st with ts := nput st.ts o.dst (mk st.nid), v := mk st.nid, c := .flt st.nid cs, pend := st.pend ++ [(i, st.nid, cs)], nid := st.nid + 1 }) hops' h1 h2 (fun x hx => (h3 x hx).step (i := i) h1 (.inl rfl) ⟨[], by simp⟩) h4 h5 h6' e
              refine ⟨st', by unfold runE stepE; rw [hw]; simp only; rw [hp]; simp only; rw [hr]; simp only; rw [floats_some hf]; exact r1, r2, r3, r4, ?_⟩
              rw [rowsIn_cons, floats_rows hf]
              exact Nat.le_trans r5 (by simp <;> omega)
            | none =>
              rw [hf] at e
              simp only at e
              split at e
              case isFalse => cases e
              case isTrue hc =>
                cases hd : doOp P (K E) (ev st.ts) o (adoptAll st.h st.pend) with
                | none => rw [hd] at e; cases e
                | some q =>
                  obtain ⟨v, h'⟩ := q
                  rw [hd] at e
                  simp only at e
                  split at e
                  case isFalse => cases e
                  case isTrue hnx =>
                    have hbit : ∀ (q k : Nat), st.ei[q]? = some k → ((masksOf ops.toList).getD i 0).testBit k = true ∧ ∀ b, ((masksOf ops.toList).getD k 0).testBit b = true → ((masksOf ops.toList).getD i 0).testBit b = true := fun q k hk =>
                      tie_bit ho h6 (n := 4) (by have := (List.getElem?_eq_some_iff.1 hk).1; omega) hk
                    have hall : st.pend.filter (fun x => ((masksOf ops.toList).getD i 0).testBit x.1) = st.pend := List.filter_eq_self.2 fun x hx => edge_bit ho (allEdge_mem hc.2 x.1 (List.mem_map_of_mem hx))
                    have hnone : st.pend.filter (fun x => !((masksOf ops.toList).getD i 0).testBit x.1) = [] := List.filter_eq_nil_iff.2 fun x hx => by rw [edge_bit ho (allEdge_mem hc.2 x.1 (List.mem_map_of_mem hx))]; simp
                    have hei : st.ei.all (fun j => ((masksOf ops.toList).getD i 0).testBit j) = true := List.all_eq_true.2 fun j hj => by
                      obtain ⟨q, hq⟩ := List.mem_iff_getElem?.1 hj
                      exact (hbit q j hq).1
                    have tied : ∀ x ∈ st.reads, ((masksOf ops.toList).getD i 0).testBit x.1 = true ∨ x ∈ loose o.after.toList rd := fun x hx => by
                      rcases h4 x hx with h | ⟨q, k, h, h'⟩
                      · by_cases hb : edgeB x.1 o.after.toList = true
                        · exact .inl (edge_bit ho hb)
                        · exact .inr (List.mem_filter.2 ⟨h, by simpa using hb⟩)
                      · exact .inl ((hbit q k h).2 _ h')
                    obtain ⟨st', r1, r2, r3, r4, r5⟩ := seqX_run (i := i + 1) (st := { st with ts := nput st.ts o.dst v, h := h', hs := st.hs ++ [h'], ls := st.ls ++ [st.pend], ei := st.ei ++ [i], pend := [], v := v, c := .eff (st.ei.length + 1) }) (rd := loose o.after.toList rd) hops' (by simp [h1]) (by simp only [List.length_append, List.length_singleton]; rw [List.getElem?_append_right (by omega)]; simp [h1])
                      (fun x hx => (h3 x hx).next h1 (st' := { st with ts := nput st.ts o.dst v, h := h', hs := st.hs ++ [h'], ls := st.ls ++ [st.pend], ei := st.ei ++ [i], pend := [], v := v, c := .eff (st.ei.length + 1) }) (i := i) rfl rfl (fun q k hk b hb => (hbit q k hk).2 b hb) ((tied x hx).imp id (fun h => hnx.2 x h)))
                      (fun x hx => by
                        rcases tied x hx with h | h
                        · exact .inr ⟨st.ei.length, i, by simp, h⟩
                        · exact .inl h)
                      (by rw [h5]) (h6.eff ho 4 hc.1) e
                    refine ⟨st', ?_, r2, r3, r4, by rw [rowsIn_cons]; exact Nat.le_trans r5 (by simp <;> omega)⟩
                    have hse : stepE P (K E) ops (masksOf ops.toList) i o st = some { st with ts := nput st.ts o.dst v, h := h', hs := st.hs ++ [h'], ls := st.ls ++ [st.pend], ei := st.ei ++ [i], pend := [], v := v, c := .eff (st.ei.length + 1) } := by
                      unfold stepE
                      rw [hw]; simp only; rw [hp]; simp only; rw [hr]; simp only
                      have hfn := floats_none hf
                      split
                      · rename_i cs mk heq; exact absurd heq (hfn cs mk)
                      · simp only [hall, hnone, hd, hei]
                        rw [if_pos (by simpa using hnx.1)]
                    unfold runE
                    rw [hse]
                    exact r1

theorem drawn_X {ops : Array Oper} {ts : List NVal} {h : NHeap} {r : List NVal × NHeap} (e : seqX E ops ops.toList 0 ts (reserve (rowsIn ops.toList) h) [] [] [] [] [] h.next = some r) : drawnOps P (K E) ops ts h = some r := by
  obtain ⟨st', r1, r2, r3, r4, r5⟩ := seqX_run (E := E) (l := ops.toList) (i := 0) (st := { ts := ts, h := reserve (rowsIn ops.toList) h, hs := [reserve (rowsIn ops.toList) h], ls := [], ei := [], pend := [], nid := h.next, reads := [], v := nundef, c := .skip }) (rd := []) (fun k o hk => by simpa using hk) rfl rfl (fun x hx => by cases hx) (fun x hx => by cases hx) (hs := []) (tl := []) rfl ⟨rfl, fun j t hj => by simp at hj⟩ e
  unfold drawnOps
  simp only [← rowsIn_eq]
  rw [r1]
  simp only
  have hreads : (st'.reads.all fun r => readAgain P (masksOf ops.toList) st'.ei r 0 st'.hs) = true := List.all_eq_true.2 fun x hx => readAgain_of (r3 x hx) st'.hs 0 (fun q H hq => by simpa using hq) (by omega)
  simp only at r5
  rw [if_pos (by simp [hreads, r5]), r2]

/-- .. and as a step of code -/
theorem S_drawX (id ops ts h) : C E (.region id ops true) ts h = drawL E ops ts h (seqX E ops ops.toList 0 ts (reserve (rowsIn ops.toList) h) [] [] [] [] [] h.next) := by
  rw [C_draw]
  unfold drawL
  split
  · rename_i ts' h' e
    rw [drawn_X e]; rfl
  · rfl

/-! ### Step by step -/

theorem ifc {α : Type} {p q : Prop} {_ : Decidable p} {_ : Decidable q} (h : p ↔ q) (a b : α) : (if p then a else b) = if q then a else b := by
  by_cases hp : p
  · rw [if_pos hp, if_pos (h.1 hp)]
  · rw [if_neg hp, if_neg fun hq => hp (h.2 hq)]

section
variable (E) (ops : Array Oper) (o : Oper) (rest : List Oper) (i : Nat) (ts : List NVal) (h : NHeap) (hs : List NHeap) (ei tl : List Nat) (rd : RdL) (pend : List Float3) (nid : Nat)
def looseOk (P : Program) (h' : NHeap) : RdL → Prop
  | [] => True
  | r :: l => readOp P (ev r.2.2.1) h' r.2.1.op = some r.2.2.2 ∧ looseOk P h' l
theorem looseOk_iff {P : Program} {h' : NHeap} : ∀ (l : RdL), looseOk P h' l ↔ ∀ r ∈ l, readOp P (ev r.2.2.1) h' r.2.1.op = some r.2.2.2
  | [] => by simp [looseOk]
  | r :: l => by simp [looseOk, looseOk_iff l]
theorem looseOk_nil {P : Program} {h' : NHeap} : looseOk P h' [] = True := rfl
theorem looseOk_cons {P : Program} {h' : NHeap} (j : Nat) (dst op ty pos after guard) (us : List NVal) (v : NVal) (l : RdL) : looseOk P h' ((j, ⟨dst, op, ty, pos, after, guard⟩, us, v) :: l) = (readOp P (ev us) h' op = some v ∧ looseOk P h' l) := rfl
theorem loose_nil (es : List Edge) : loose es [] = [] := rfl
theorem loose_cons (es : List Edge) (j : Nat) (x) (l : RdL) : loose es ((j, x) :: l) = cond (edgeB j es) (loose es l) ((j, x) :: loose es l) := by
  unfold loose
  rw [List.filter_cons]
  cases edgeB j es <;> rfl
open Classical in
noncomputable def xAgain (v : NVal) (b : Bool) (p : Prop) : Option (List NVal × NHeap) := if b = true ∧ p then seqX E ops rest (i + 1) (nput ts o.dst v) h hs ei (tl ++ [tieOf tl 4 o.after.toList]) (rd ++ [(i, o, ts, v)]) pend nid else none
open Classical in
noncomputable def xEnd (v : NVal) (h' : NHeap) (p q : Prop) : Option (List NVal × NHeap) := if p ∧ q then seqX E ops rest (i + 1) (nput ts o.dst v) h' (hs ++ [h]) (ei ++ [i]) (tl ++ [ei.length + 1]) (loose o.after.toList rd) [] nid else none
noncomputable def xDo (n : Nat) (x : Option (NVal × NHeap)) : Option (List NVal × NHeap) := match x with
  | none => none
  | some (v, h') => xEnd E ops o rest i ts h hs ei tl rd nid v h' (n ≤ h'.next) (looseOk P h' (loose o.after.toList rd))
noncomputable def xChk (b c : Bool) : Option (List NVal × NHeap) := if b = true ∧ c = true then xDo E ops o rest i ts h hs ei tl rd nid (adoptAll h pend).next (doK P (K E) (ev ts) o.op (adoptAll h pend)) else none
noncomputable def xNew (x : Option (List NVal × (Nat → NVal))) : Option (List NVal × NHeap) := match x with
  | some (cs, mk) => seqX E ops rest (i + 1) (nput ts o.dst (mk nid)) h hs ei (tl ++ [tieOf tl 4 o.after.toList]) rd (pend ++ [(i, nid, cs)]) (nid + 1)
  | none => xChk E ops o rest i ts h hs ei tl rd pend nid (decide (ei.length ≤ tieOf tl 4 o.after.toList)) (allEdge o.after.toList (pend.map (·.1)))
noncomputable def xGo (x : Option (Bool × NVal)) : Option (List NVal × NHeap) := match x with
  | some (false, v) => seqX E ops rest (i + 1) (nput ts o.dst v) h hs ei (tl ++ [tieOf tl 4 o.after.toList]) rd pend nid
  | some (true, v) => xAgain E ops o rest i ts h hs ei tl rd pend nid v (veq 50 v v) (readsAll P (ev ts) o.op v (hs.drop (tieOf tl 4 o.after.toList)))
  | none => xNew E ops o rest i ts h hs ei tl rd pend nid (floats (newOp P (ev ts) o.op))
noncomputable def xGuard (g : Option Bool) : Option (List NVal × NHeap) := match g with
  | none => none
  | some false => seqX E ops rest (i + 1) (nput ts o.dst nundef) h hs ei (tl ++ [tieOf tl 4 o.after.toList]) rd pend nid
  | some true => xGo E ops o rest i ts h hs ei tl rd pend nid (eStep P (ev ts) h o.op)

theorem x_nil : seqX E ops [] i ts h hs ei tl rd pend nid = some (ts, adoptAll h pend) := rfl
theorem x_cons : seqX E ops (o :: rest) i ts h hs ei tl rd pend nid = xGuard E ops o rest i ts h hs ei tl rd pend nid (nwanted ops o ts) := by
  rw [seqX]
  unfold xGuard xGo xNew xChk xDo xAgain xEnd
  cases nwanted ops o ts with
  | none => rfl
  | some b =>
    cases b with
    | false => rfl
    | true =>
      simp only
      cases eStep P (ev ts) h o.op with
      | some p =>
        obtain ⟨b, v⟩ := p
        cases b with
        | false => rfl
        | true =>
          simp only
          have := readsAll_iff (P := P) (ρ := ev ts) (op := o.op) (v := v) (hs.drop (tieOf tl 4 o.after.toList))
          exact ifc (and_congr Iff.rfl this.symm) _ _
      | none =>
        simp only
        cases floats (newOp P (ev ts) o.op) with
        | some p => rfl
        | none =>
          simp only [decide_eq_true_eq]
          rw [doK_eq]
          split
          · cases doOp P (K E) (ev ts) o (adoptAll h pend) with
            | none => rfl
            | some q => exact ifc (and_congr Iff.rfl (looseOk_iff _).symm) _ _
          · rfl
theorem xGuard_true : xGuard E ops o rest i ts h hs ei tl rd pend nid (some true) = xGo E ops o rest i ts h hs ei tl rd pend nid (eStep P (ev ts) h o.op) := rfl
theorem xGuard_false : xGuard E ops o rest i ts h hs ei tl rd pend nid (some false) = seqX E ops rest (i + 1) (nput ts o.dst nundef) h hs ei (tl ++ [tieOf tl 4 o.after.toList]) rd pend nid := rfl
theorem xGo_val (v : NVal) : xGo E ops o rest i ts h hs ei tl rd pend nid (some (false, v)) = seqX E ops rest (i + 1) (nput ts o.dst v) h hs ei (tl ++ [tieOf tl 4 o.after.toList]) rd pend nid := rfl
theorem xGo_read (v : NVal) : xGo E ops o rest i ts h hs ei tl rd pend nid (some (true, v)) = xAgain E ops o rest i ts h hs ei tl rd pend nid v (veq 50 v v) (readsAll P (ev ts) o.op v (hs.drop (tieOf tl 4 o.after.toList))) := rfl
theorem xGo_none : xGo E ops o rest i ts h hs ei tl rd pend nid none = xNew E ops o rest i ts h hs ei tl rd pend nid (floats (newOp P (ev ts) o.op)) := rfl
theorem xAgain_true (v : NVal) : xAgain E ops o rest i ts h hs ei tl rd pend nid v true True = seqX E ops rest (i + 1) (nput ts o.dst v) h hs ei (tl ++ [tieOf tl 4 o.after.toList]) (rd ++ [(i, o, ts, v)]) pend nid := by
  unfold xAgain; rw [if_pos ⟨rfl, trivial⟩]
theorem xNew_some (cs mk) : xNew E ops o rest i ts h hs ei tl rd pend nid (some (cs, mk)) = seqX E ops rest (i + 1) (nput ts o.dst (mk nid)) h hs ei (tl ++ [tieOf tl 4 o.after.toList]) rd (pend ++ [(i, nid, cs)]) (nid + 1) := rfl
theorem xNew_none : xNew E ops o rest i ts h hs ei tl rd pend nid none = xChk E ops o rest i ts h hs ei tl rd pend nid (decide (ei.length ≤ tieOf tl 4 o.after.toList)) (allEdge o.after.toList (pend.map (·.1))) := rfl
theorem xChk_true : xChk E ops o rest i ts h hs ei tl rd pend nid true true = xDo E ops o rest i ts h hs ei tl rd nid (adoptAll h pend).next (doK P (K E) (ev ts) o.op (adoptAll h pend)) := rfl
theorem xDo_some (n v h') : xDo E ops o rest i ts h hs ei tl rd nid n (some (v, h')) = xEnd E ops o rest i ts h hs ei tl rd nid v h' (n ≤ h'.next) (looseOk P h' (loose o.after.toList rd)) := rfl
theorem xEnd_true (v h') : xEnd E ops o rest i ts h hs ei tl rd nid v h' True True = seqX E ops rest (i + 1) (nput ts o.dst v) h' (hs ++ [h]) (ei ++ [i]) (tl ++ [ei.length + 1]) (loose o.after.toList rd) [] nid := by
  unfold xEnd; rw [if_pos ⟨trivial, trivial⟩]
end
theorem x_plain (ops dst op ty pos after rest i ts h hs ei tl rd pend nid) : seqX E ops (⟨dst, op, ty, pos, after, none⟩ :: rest) i ts h hs ei tl rd pend nid = xGo E ops ⟨dst, op, ty, pos, after, none⟩ rest i ts h hs ei tl rd pend nid (eStep P (ev ts) h op) := by
  rw [x_cons]; rfl
theorem x_guard (ops dst op ty pos after j want rest i n F h hs ei tl rd pend nid) : seqX E ops (⟨dst, op, ty, pos, after, some (j, want)⟩ :: rest) i (toL n F) h hs ei tl rd pend nid =
    xGuard E ops ⟨dst, op, ty, pos, after, some (j, want)⟩ rest i (toL n F) h hs ei tl rd pend nid (match (ops[j]?).bind (·.dst) with
    | none => some false
    | some d => match (if d < n then some (F d) else none) with
      | some (.bool b) => some (b == want)
      | some .junk => none
      | _ => some false) := by
  rw [x_cons]
  unfold nwanted
  simp only [toL_get?]
  rfl
theorem tieOf_nil (tl : List Nat) (n : Nat) : tieOf tl n [] = 0 := by cases n <;> rfl
theorem tieOf_zero (tl : List Nat) (l : List Edge) : tieOf tl 0 l = 0 := rfl
theorem tieOf_cons (tl : List Nat) (n : Nat) (e : Edge) (l : List Edge) : tieOf tl (n + 1) (e :: l) = max (if gEdge e then tl.getD e.on 0 else 0) (tieOf tl n l) := rfl
theorem S_drawn' (id ops ts h) : C E (.region id ops true) ts h = if quiet ops.toList = true then drawD E ops ts h (seqRO P ops ops.toList ts h) (rowsIn ops.toList) else drawL E ops ts h (seqX E ops ops.toList 0 ts (reserve (rowsIn ops.toList) h) [] [] [] [] [] h.next) := by
  split
  · exact S_draw _ _ _ _
  · exact S_drawX _ _ _ _
end Go.Proofs.Ytblhpikljhholaa.NICE
