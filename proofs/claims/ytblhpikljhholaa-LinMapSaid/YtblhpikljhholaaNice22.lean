/- A region whose order is drawn: working it out is sound. -/
import Derived.Test.YtblhpikljhholaaNice21
set_option linter.unusedVariables false
set_option linter.unusedSimpArgs false
namespace Go.Proofs.Ytblhpikljhholaa.NICE
open Go Go.RowKit

variable {P : Program}

/-! ### The text of the region -/

theorem maskOf_spec {M : List Nat} {o : Oper} {i : Nat} (h : (maskOf M o).testBit i = true) : ∃ e ∈ o.after, Region.binds .any e = true ∧ (e.on = i ∨ (M.getD e.on 0).testBit i = true) := by
  unfold maskOf at h
  have key : ∀ (l : List Edge) (s : Nat), (l.foldl (fun s e => if Region.binds .any e then s ||| 2 ^ e.on ||| M.getD e.on 0 else s) s).testBit i = true → s.testBit i = true ∨ ∃ e ∈ l, Region.binds .any e = true ∧ (e.on = i ∨ (M.getD e.on 0).testBit i = true) := by
    intro l
    induction l with
    | nil => intro s q; exact .inl q
    | cons x l ih =>
      intro s q
      rw [List.foldl_cons] at q
      rcases ih _ q with r | ⟨e, he, hb⟩
      · by_cases hx : Region.binds .any x = true
        · rw [if_pos hx] at r
          simp only [Nat.testBit_or, Bool.or_eq_true, Nat.testBit_two_pow] at r
          rcases r with (r | r) | r
          · exact .inl r
          · exact .inr ⟨x, by simp, hx, .inl (by simpa using r)⟩
          · exact .inr ⟨x, by simp, hx, .inr r⟩
        · rw [if_neg hx] at r; exact .inl r
      · exact .inr ⟨e, by simp [he], hb⟩
  rcases key _ _ h with r | ⟨e, he, hb⟩
  · simp at r
  · exact ⟨e, by simpa using he, hb⟩

theorem pairsOk_spec {ops : Array Oper} {mj : Nat} {oj : Oper} : ∀ {l : List Oper} {s : Nat}, pairsOk ops mj oj s l = true → ∀ (q : Nat) o, l[q]? = some o → pairOk ops mj (s + q) o oj = true
  | [], s, h, q, o, e => by simp at e
  | x :: l, s, h, q, o, e => by
    simp only [pairsOk, Bool.and_eq_true] at h
    cases q with
    | zero => simp at e; subst e; exact h.1
    | succ q => have := pairsOk_spec h.2 q o (by simpa using e); rw [show s + 1 + q = s + (q + 1) by omega] at this; exact this

theorem drStaticFrom_spec {ops : Array Oper} {M : List Nat} {l : List Oper} : ∀ {r : List Oper} {s : Nat}, drStaticFrom ops M l s r = true → ∀ (q : Nat) o, r[q]? = some o →
    (∀ e ∈ o.after, Region.binds .any e = true → e.on < s + q) ∧ M.getD (s + q) 0 = maskOf M o ∧ pairsOk ops (M.getD (s + q) 0) o 0 (l.take (s + q)) = true
  | [], s, h, q, o, e => by simp at e
  | x :: r, s, h, q, o, e => by
    simp only [drStaticFrom, Bool.and_eq_true] at h
    cases q with
    | zero =>
      simp at e; subst e
      refine ⟨fun d hd hb => ?_, by simpa using h.1.1.2, h.1.2⟩
      have := List.all_eq_true.1 h.1.1.1 d (by simpa using hd)
      simpa [hb] using this
    | succ q => have := drStaticFrom_spec h.2 q o (by simpa using e); rw [show s + 1 + q = s + (q + 1) by omega] at this; exact this

/-! ### The states on the way -/

theorem runE_states {F : CallF} {ops : Array Oper} {M : List Nat} : ∀ {l : List Oper} {i : Nat} {st fin : St}, runE P F ops M i l st = some fin →
    ∃ sts : Nat → St, sts i = st ∧ sts (i + l.length) = fin ∧ ∀ (q : Nat) o, l[q]? = some o → stepE P F ops M (i + q) o (sts (i + q)) = some (sts (i + q + 1))
  | [], i, st, fin, e => by
    simp only [runE] at e; cases e
    exact ⟨fun _ => st, rfl, rfl, fun q o h => by simp at h⟩
  | o :: l, i, st, fin, e => by
    simp only [runE] at e
    cases hs : stepE P F ops M i o st with
    | none => rw [hs] at e; cases e
    | some st1 =>
      rw [hs] at e
      obtain ⟨sts, s0, s1, s2⟩ := runE_states e
      refine ⟨fun q => if q = i then st else sts q, by simp, ?_, fun q o' h => ?_⟩
      · simp only [List.length_cons]; rw [if_neg (by omega), show i + (l.length + 1) = i + 1 + l.length by omega]; exact s1
      · cases q with
        | zero =>
          simp only [List.getElem?_cons_zero, Option.some.injEq] at h
          subst h
          simp only [Nat.add_zero, if_true]
          rw [if_neg (by omega), s0]; exact hs
        | succ q =>
          have := s2 q o' (by simpa using h)
          show stepE P F ops M (i + (q + 1)) o' (if i + (q + 1) = i then st else sts (i + (q + 1))) = some (if i + (q + 1) + 1 = i then st else sts (i + (q + 1) + 1))
          rw [if_neg (by omega), if_neg (by omega), show i + (q + 1) = i + 1 + q by omega]; exact this

/-- the five ways of a step -/
inductive Way (P : Program) (F : CallF) (ops : Array Oper) (M : List Nat) (i : Nat) (o : Oper) (st st' : St) : Prop where
  | skip (w : nwanted ops o st.ts = some false) (e : st' = { st with ts := nput st.ts o.dst nundef, v := nundef, c := .skip })
  | pure (w : nwanted ops o st.ts = some true) (v : NVal) (p : pureOp P (ev st.ts) o.op = some v) (e : st' = { st with ts := nput st.ts o.dst v, v := v, c := .val })
  | read (w : nwanted ops o st.ts = some true) (v : NVal) (p : readOp P (ev st.ts) st.h o.op = some v) (e : st' = { st with ts := nput st.ts o.dst v, v := v, c := .val, reads := st.reads ++ [(i, o, st.ts, v)] })
  | flt (w : nwanted ops o st.ts = some true) (cs : List NVal) (mk : Nat → NVal) (p : newOp P (ev st.ts) o.op = some (.cells cs (.own none), mk)) (e : st' = { st with ts := nput st.ts o.dst (mk st.nid), v := mk st.nid, c := .flt st.nid cs, pend := st.pend ++ [(i, st.nid, cs)], nid := st.nid + 1 })
  | eff (w : nwanted ops o st.ts = some true) (v : NVal) (h' : NHeap) (p : doOp P F (ev st.ts) o (adoptAll st.h (st.pend.filter fun x => (M.getD i 0).testBit x.1)) = some (v, h'))
    (q : st.ei.all (fun j => (M.getD i 0).testBit j) = true) (n : (adoptAll st.h (st.pend.filter fun x => (M.getD i 0).testBit x.1)).next ≤ h'.next)
    (e : st' = { st with ts := nput st.ts o.dst v, h := h', hs := st.hs ++ [h'], ls := st.ls ++ [st.pend.filter fun x => (M.getD i 0).testBit x.1], ei := st.ei ++ [i], pend := st.pend.filter fun x => !(M.getD i 0).testBit x.1, v := v, c := .eff (st.ei.length + 1) })

theorem stepE_way {F : CallF} {ops : Array Oper} {M : List Nat} {i : Nat} {o : Oper} {st st' : St} (h : stepE P F ops M i o st = some st') : Way P F ops M i o st st' := by
  unfold stepE at h
  have efft : nwanted ops o st.ts = some true → (match doOp P F (ev st.ts) o (adoptAll st.h (st.pend.filter fun x => (M.getD i 0).testBit x.1)) with
          | none => none
          | some (v, h') => if st.ei.all (fun j => (M.getD i 0).testBit j) && decide ((adoptAll st.h (st.pend.filter fun x => (M.getD i 0).testBit x.1)).next ≤ h'.next) then
              some { st with ts := nput st.ts o.dst v, h := h', hs := st.hs ++ [h'], ls := st.ls ++ [st.pend.filter fun x => (M.getD i 0).testBit x.1], ei := st.ei ++ [i], pend := st.pend.filter fun x => !(M.getD i 0).testBit x.1, v := v, c := .eff (st.ei.length + 1) } else none) = some st' → Way P F ops M i o st st' := by
    intro w h
    cases hd : doOp P F (ev st.ts) o (adoptAll st.h (st.pend.filter fun x => (M.getD i 0).testBit x.1)) with
    | none => rw [hd] at h; cases h
    | some p =>
      obtain ⟨v, h1⟩ := p
      rw [hd] at h; simp only at h
      split at h
      · rename_i hc
        simp only [Bool.and_eq_true, decide_eq_true_eq] at hc
        cases h
        exact .eff w v h1 hd hc.1 hc.2 rfl
      · cases h
  cases hw : nwanted ops o st.ts with
  | none => rw [hw] at h; cases h
  | some b =>
    rw [hw] at h
    cases b with
    | false => simp only at h; cases h; exact .skip hw rfl
    | true =>
      simp only at h
      cases hp : pureOp P (ev st.ts) o.op with
      | some v => rw [hp] at h; cases h; exact .pure hw v hp rfl
      | none =>
        rw [hp] at h; simp only at h
        cases hr : readOp P (ev st.ts) st.h o.op with
        | some v => rw [hr] at h; cases h; exact .read hw v hr rfl
        | none =>
          rw [hr] at h; simp only at h
          cases hn : newOp P (ev st.ts) o.op with
          | none => rw [hn] at h; exact efft hw h
          | some p =>
            obtain ⟨ob, mk⟩ := p
            rw [hn] at h
            cases ob with
            | cells cs mine =>
              cases mine with
              | own q => cases q with
                | none => simp only at h; cases h; exact .flt hw cs mk hn rfl
                | some q => exact efft hw h
              | ro => exact efft hw h
            | map es => exact efft hw h
            | dead => exact efft hw h

/-- what holds of the state ahead of the i-th operation -/
structure SG (P : Program) (F : CallF) (ops : Array Oper) (M : List Nat) (g : NHeap) (n0 : Nat) (tsAt : Nat → List NVal) (val : Nat → NVal) (cls : Nat → Cls) (i : Nat) (st : St) : Prop where
  hsl : st.hs.length = st.ei.length + 1
  lsl : st.ls.length = st.ei.length
  first : st.hs[0]? = some g
  last : st.hs[st.ei.length]? = some st.h
  ei : ∀ (k j : Nat), st.ei[k]? = some j ↔ j < i ∧ cls j = .eff (k + 1)
  pend : ∀ x ∈ st.pend, x.1 < i ∧ cls x.1 = .flt x.2.1 x.2.2
  ls : ∀ (k : Nat) l x, st.ls[k]? = some l → x ∈ l → x.1 < i ∧ cls x.1 = .flt x.2.1 x.2.2 ∧ ∀ j, st.ei[k]? = some j → (M.getD j 0).testBit x.1 = true
  all : ∀ j id cs, j < i → cls j = .flt id cs → (j, id, cs) ∈ st.pend ∨ ∃ (k : Nat) (l : List Float3), st.ls[k]? = some l ∧ (j, id, cs) ∈ l
  dis : ∀ (k k' : Nat) (l l' : List Float3) x, st.ls[k]? = some l → st.ls[k']? = some l' → x ∈ l → x ∈ l' → k = k'
  disp : ∀ (k : Nat) (l : List Float3) x, st.ls[k]? = some l → x ∈ l → x ∉ st.pend
  nd : ∀ (k : Nat) (l : List Float3), st.ls[k]? = some l → l.Nodup
  ndp : st.pend.Nodup
  nid : n0 ≤ st.nid
  ids : ∀ j id cs, j < i → cls j = .flt id cs → n0 ≤ id ∧ id < st.nid
  uni : ∀ j j' id cs cs', j < i → j' < i → cls j = .flt id cs → cls j' = .flt id cs' → j = j'
  chain : ∀ (k k' j j' : Nat), st.ei[k]? = some j → st.ei[k']? = some j' → k < k' → (M.getD j' 0).testBit j = true
  vals : ∀ (j : Nat) o, j < i → ops[j]? = some o → cls j = .val → pureOp P (ev (tsAt j)) o.op = some (val j) ∨ ((j, o, tsAt j, val j) ∈ st.reads ∧ (st.ei = [] → readOp P (ev (tsAt j)) st.h o.op = some (val j)))
  effs : ∀ (k j : Nat) o, st.ei[k]? = some j → ops[j]? = some o → ∃ hk hk1 l, st.hs[k]? = some hk ∧ st.hs[k + 1]? = some hk1 ∧ st.ls[k]? = some l ∧ doOp P F (ev (tsAt j)) o (adoptAll hk l) = some (val j, hk1) ∧ (adoptAll hk l).next ≤ hk1.next
  flt : ∀ (j : Nat) o id cs, j < i → ops[j]? = some o → cls j = .flt id cs → ∃ mk, newOp P (ev (tsAt j)) o.op = some (.cells cs (.own none), mk) ∧ val j = mk id

theorem get_snoc {α : Type _} {l : List α} {a : α} {k : Nat} {x : α} (h : (l ++ [a])[k]? = some x) : l[k]? = some x ∨ (k = l.length ∧ x = a) := by
  rw [List.getElem?_append] at h
  split at h
  · exact .inl h
  · rename_i hk
    by_cases e : k = l.length
    · subst e; simp at h; exact .inr ⟨rfl, h.symm⟩
    · rw [List.getElem?_eq_none (by simp; omega)] at h; cases h

theorem get_snoc_old {α : Type _} {l : List α} {a : α} {k : Nat} {x : α} (h : l[k]? = some x) : (l ++ [a])[k]? = some x := by
  rw [List.getElem?_append_left (List.getElem?_eq_some_iff.1 h).1]; exact h

variable {F : CallF} {ops : Array Oper} {M : List Nat} {g : NHeap} {n0 : Nat} {tsAt : Nat → List NVal} {val : Nat → NVal} {cls : Nat → Cls} {i : Nat}

theorem lt_succ_or {j i : Nat} (h : j < i + 1) : j < i ∨ j = i := by omega

/-- a step that leaves heap and lists alone -/
theorem SG.quiet {st st' : St} {o : Oper} (G : SG P F ops M g n0 tsAt val cls i st) (ho : ops[i]? = some o)
    (e1 : st'.h = st.h) (e2 : st'.hs = st.hs) (e3 : st'.ls = st.ls) (e4 : st'.ei = st.ei) (e5 : st'.pend = st.pend) (e6 : st'.nid = st.nid) (e7 : ∀ x ∈ st.reads, x ∈ st'.reads)
    (hc : cls i = .skip ∨ (cls i = .val ∧ (pureOp P (ev (tsAt i)) o.op = some (val i) ∨ ((i, o, tsAt i, val i) ∈ st'.reads ∧ (st.ei = [] → readOp P (ev (tsAt i)) st.h o.op = some (val i)))))) :
    SG P F ops M g n0 tsAt val cls (i + 1) st' := by
  have nf : ∀ id cs, cls i ≠ .flt id cs := fun id cs q => by rcases hc with r | ⟨r, _⟩ <;> rw [r] at q <;> cases q
  have ne : ∀ k, cls i ≠ .eff k := fun k q => by rcases hc with r | ⟨r, _⟩ <;> rw [r] at q <;> cases q
  have old : ∀ {j id cs}, j < i + 1 → cls j = .flt id cs → j < i := fun {j id cs} hj hcj => by
    rcases lt_succ_or hj with r | r
    · exact r
    · subst r; exact absurd hcj (nf _ _)
  refine ⟨by rw [e2, e4]; exact G.hsl, by rw [e3, e4]; exact G.lsl, by rw [e2]; exact G.first, by rw [e1, e2, e4]; exact G.last, fun k j => ?_, fun x hx => ?_, fun k l x hl hx => ?_, fun j id cs hj hcj => ?_, ?_, ?_, ?_, by rw [e5]; exact G.ndp, by rw [e6]; exact G.nid, fun j id cs hj hcj => ?_, fun j j' id cs cs' hj hj' hcj hcj' => G.uni j j' id cs cs' (old hj hcj) (old hj' hcj') hcj hcj', ?_, fun j o' hj ho' hcj => ?_, ?_, fun j o' id cs hj ho' hcj => G.flt j o' id cs (old hj hcj) ho' hcj⟩
  · rw [e4, G.ei]
    constructor
    · exact fun q => ⟨by omega, q.2⟩
    · intro q
      rcases lt_succ_or q.1 with r | r
      · exact ⟨r, q.2⟩
      · subst r; exact absurd q.2 (ne _)
  · rw [e5] at hx; have := G.pend x hx; exact ⟨by omega, this.2⟩
  · rw [e3] at hl; rw [e4]; have := G.ls k l x hl hx; exact ⟨by omega, this.2⟩
  · rw [e5, e3]; exact G.all j id cs (old hj hcj) hcj
  · rw [e3]; exact G.dis
  · rw [e3, e5]; exact G.disp
  · rw [e3]; exact G.nd
  · rw [e6]; exact G.ids j id cs (old hj hcj) hcj
  · rw [e4]; exact G.chain
  · rw [e4, e1]
    rcases lt_succ_or hj with r | r
    · rcases G.vals j o' r ho' hcj with s | ⟨s, t⟩
      · exact .inl s
      · exact .inr ⟨e7 _ s, t⟩
    · subst r
      rw [ho] at ho'; cases ho'
      rcases hc with r | ⟨_, r⟩
      · rw [r] at hcj; cases hcj
      · exact r
  · rw [e4, e2, e3]; exact G.effs

theorem SG.step {st st' : St} {o : Oper} (G : SG P F ops M g n0 tsAt val cls i st) (ho : ops[i]? = some o) (ht : tsAt i = st.ts) (hv : val i = st'.v) (hcl : cls i = st'.c) (w : Way P F ops M i o st st') :
    SG P F ops M g n0 tsAt val cls (i + 1) st' := by
  cases w with
  | skip w e => subst e; exact G.quiet ho rfl rfl rfl rfl rfl rfl (fun x hx => hx) (.inl hcl)
  | pure w v p e => subst e; exact G.quiet ho rfl rfl rfl rfl rfl rfl (fun x hx => hx) (.inr ⟨hcl, .inl (by rw [ht, hv]; exact p)⟩)
  | read w v p e => subst e; exact G.quiet ho rfl rfl rfl rfl rfl rfl (fun x hx => by simp [hx]) (.inr ⟨hcl, .inr ⟨by rw [ht, hv]; simp, fun _ => by rw [ht, hv]; exact p⟩⟩)
  | flt w cs mk p e =>
    subst e
    simp only at hv hcl
    have ne : ∀ k, cls i ≠ .eff k := fun k q => by rw [hcl] at q; cases q
    have hnew : ∀ id cs', (i, id, cs') ∉ st.pend := fun id cs' q => by have := (G.pend _ q).1; simp at this
    refine ⟨G.hsl, G.lsl, G.first, G.last, fun k j => ?_, fun x hx => ?_, fun k l x hl hx => ?_, fun j id cs' hj hcj => ?_, G.dis, fun k l x hl hx => ?_, G.nd, ?_, Nat.le_succ_of_le G.nid, fun j id cs' hj hcj => ?_, fun j j' id cs1 cs2 hj hj' hcj hcj' => ?_, G.chain, fun j o' hj ho' hcj => ?_, G.effs, fun j o' id cs' hj ho' hcj => ?_⟩
    · simp only
      rw [G.ei]
      constructor
      · exact fun q => ⟨by omega, q.2⟩
      · intro q
        rcases lt_succ_or q.1 with r | r
        · exact ⟨r, q.2⟩
        · subst r; exact absurd q.2 (ne _)
    · simp only [List.mem_append, List.mem_singleton] at hx
      rcases hx with hx | rfl
      · have := G.pend x hx; exact ⟨by omega, this.2⟩
      · exact ⟨by simp, hcl⟩
    · have := G.ls k l x hl hx; exact ⟨by omega, this.2⟩
    · rcases lt_succ_or hj with r | r
      · rcases G.all j id cs' r hcj with s | s
        · exact .inl (by simp [s])
        · exact .inr s
      · subst r
        rw [hcl] at hcj; cases hcj
        exact .inl (by simp)
    · simp only [List.mem_append, List.mem_singleton]
      intro q
      rcases q with q | rfl
      · exact G.disp k l x hl hx q
      · have := (G.ls k l _ hl hx).1; simp at this
    · simp only
      rw [List.nodup_append]
      refine ⟨G.ndp, by simp, fun a ha b hb => ?_⟩
      simp only [List.mem_singleton] at hb
      rintro rfl
      subst hb
      exact hnew _ _ ha
    · simp only
      rcases lt_succ_or hj with r | r
      · have := G.ids j id cs' r hcj; exact ⟨this.1, by omega⟩
      · subst r; rw [hcl] at hcj; cases hcj; exact ⟨G.nid, by omega⟩
    · rcases lt_succ_or hj with r | r
      · rcases lt_succ_or hj' with r' | r'
        · exact G.uni j j' id cs1 cs2 r r' hcj hcj'
        · subst r'; rw [hcl] at hcj'; cases hcj'
          have := (G.ids j _ cs1 r hcj).2; omega
      · subst r; rw [hcl] at hcj; cases hcj
        rcases lt_succ_or hj' with r' | r'
        · have := (G.ids j' _ cs2 r' hcj').2; omega
        · exact r'.symm
    · rcases lt_succ_or hj with r | r
      · exact G.vals j o' r ho' hcj
      · subst r; rw [hcl] at hcj; cases hcj
    · rcases lt_succ_or hj with r | r
      · exact G.flt j o' id cs' r ho' hcj
      · subst r
        rw [hcl] at hcj; cases hcj
        rw [ho] at ho'; cases ho'
        exact ⟨mk, by rw [ht]; exact p, hv⟩
  | eff w v h' p q n e =>
    subst e
    simp only at hv hcl
    have nf : ∀ id cs, cls i ≠ .flt id cs := fun id cs q => by rw [hcl] at q; cases q
    have old : ∀ {j id cs}, j < i + 1 → cls j = .flt id cs → j < i := fun {j id cs} hj hcj => by
      rcases lt_succ_or hj with r | r
      · exact r
      · subst r; exact absurd hcj (nf _ _)
    refine ⟨by simp [G.hsl], by simp [G.lsl], ?_, ?_, fun k j => ?_, fun x hx => ?_, fun k l x hl hx => ?_, fun j id cs' hj hcj => ?_, fun k k' l l' x hl hl' hx hx' => ?_, fun k l x hl hx => ?_, fun k l hl => ?_, G.ndp.filter _, G.nid, fun j id cs' hj hcj => G.ids j id cs' (old hj hcj) hcj, fun j j' id cs1 cs2 hj hj' hcj hcj' => G.uni j j' id cs1 cs2 (old hj hcj) (old hj' hcj') hcj hcj', fun k k' j j' hk hk' hlt => ?_, fun j o' hj ho' hcj => ?_, fun k j o' hk ho' => ?_, fun j o' id cs' hj ho' hcj => G.flt j o' id cs' (old hj hcj) ho' hcj⟩
    · exact get_snoc_old G.first
    · simp only [List.length_append, List.length_singleton]
      rw [← G.hsl]; simp
    · simp only
      constructor
      · intro r
        rcases get_snoc r with s | ⟨s, t⟩
        · have := (G.ei k j).1 s; exact ⟨by omega, this.2⟩
        · subst s t; exact ⟨by omega, hcl⟩
      · rintro ⟨r, s⟩
        rcases lt_succ_or r with t | t
        · exact get_snoc_old ((G.ei k j).2 ⟨t, s⟩)
        · subst t
          rw [hcl] at s
          have : st.ei.length = k := by injection s with s; omega
          subst this; simp
    · simp only [List.mem_filter] at hx
      have := G.pend x hx.1; exact ⟨by omega, this.2⟩
    · simp only at hl ⊢
      rcases get_snoc hl with s | ⟨s, t⟩
      · have hk := (List.getElem?_eq_some_iff.1 s).1
        have := G.ls k l x s hx
        refine ⟨by omega, this.2.1, fun j hj => ?_⟩
        rcases get_snoc hj with r | ⟨r, _⟩
        · exact this.2.2 j r
        · rw [G.lsl] at hk; omega
      · subst t
        simp only [List.mem_filter] at hx
        have := G.pend x hx.1
        refine ⟨by omega, this.2, fun j hj => ?_⟩
        rcases get_snoc hj with r | ⟨_, r⟩
        · have := (List.getElem?_eq_some_iff.1 r).1; rw [G.lsl] at s; omega
        · subst r; exact hx.2
    · have hj' := old hj hcj
      simp only
      rcases G.all j id cs' hj' hcj with s | ⟨k, l, s, t⟩
      · by_cases hb : (M.getD i 0).testBit j = true
        · exact .inr ⟨st.ls.length, _, by simp; rfl, by simp [s]; simpa using hb⟩
        · exact .inl (by simp [s]; simpa using hb)
      · exact .inr ⟨k, l, get_snoc_old s, t⟩
    · simp only at hl hl'
      rcases get_snoc hl with s | ⟨s, t⟩ <;> rcases get_snoc hl' with s' | ⟨s', t'⟩
      · exact G.dis k k' l l' x s s' hx hx'
      · subst t'; simp only [List.mem_filter] at hx'; exact absurd hx'.1 (G.disp k l x s hx)
      · subst t; simp only [List.mem_filter] at hx; exact absurd hx.1 (G.disp k' l' x s' hx')
      · omega
    · simp only at hl ⊢
      rcases get_snoc hl with s | ⟨s, t⟩
      · intro r; simp only [List.mem_filter] at r; exact G.disp k l x s hx r.1
      · subst t
        simp only [List.mem_filter] at hx ⊢
        intro r
        rw [hx.2] at r; simp at r
    · simp only at hl
      rcases get_snoc hl with s | ⟨s, t⟩
      · exact G.nd k l s
      · subst t; exact G.ndp.filter _
    · simp only at hk hk'
      rcases get_snoc hk with s | ⟨s, t⟩ <;> rcases get_snoc hk' with s' | ⟨s', t'⟩
      · exact G.chain k k' j j' s s' hlt
      · subst t'
        exact List.all_eq_true.1 q j (List.mem_of_getElem? s)
      · have := (List.getElem?_eq_some_iff.1 s').1; omega
      · omega
    · rcases lt_succ_or hj with r | r
      · rcases G.vals j o' r ho' hcj with s | ⟨s, t⟩
        · exact .inl s
        · exact .inr ⟨s, fun hn => by simp at hn⟩
      · subst r; rw [hcl] at hcj; cases hcj
    · simp only at hk ⊢
      rcases get_snoc hk with s | ⟨s, t⟩
      · obtain ⟨hk0, hk1, l, a1, a2, a3, a4⟩ := G.effs k j o' s ho'
        exact ⟨hk0, hk1, l, get_snoc_old a1, get_snoc_old a2, get_snoc_old a3, a4⟩
      · subst s t
        rw [ho] at ho'; cases ho'
        refine ⟨st.h, h', _, get_snoc_old G.last, ?_, ?_, ?_, n⟩
        · rw [← G.hsl]; simp
        · rw [← G.lsl]; simp
        · rw [ht, hv]; exact p

/-! ### The windows of the readings -/

theorem inWin_true {M : List Nat} {i k : Nat} : ∀ {l : List Nat} {q : Nat}, (∀ (s : Nat) j, l[s]? = some j → ((M.getD i 0).testBit j = true → q + s + 1 ≤ k) ∧ ((M.getD j 0).testBit i = true → k < q + s + 1)) → inWin M i k q l = true
  | [], q, h => rfl
  | j :: l, q, h => by
    have h0 := h 0 j (by simp)
    have ih := inWin_true (M := M) (i := i) (k := k) (l := l) (q := q + 1) fun s j' e => by have := h (s + 1) j' (by simpa using e); rw [show q + (s + 1) = q + 1 + s by omega] at this; exact this
    simp only [inWin, ih, Bool.and_true, Bool.and_eq_true, Bool.or_eq_true, Bool.not_eq_true', decide_eq_true_eq]
    constructor
    · cases e : (M.getD i 0).testBit j with
      | false => exact .inl rfl
      | true => exact .inr (by have := h0.1 e; omega)
    · cases e : (M.getD j 0).testBit i with
      | false => exact .inl rfl
      | true => exact .inr (by have := h0.2 e; omega)

theorem readAgain_spec {M : List Nat} {ei : List Nat} {r : Nat × Oper × List NVal × NVal} : ∀ {hs : List NHeap} {s : Nat}, readAgain P M ei r s hs = true → ∀ (k : Nat) h, hs[k]? = some h → inWin M r.1 (s + k) 0 ei = true → readOp P (ev r.2.2.1) h r.2.1.op = some r.2.2.2
  | [], s, e, k, h, hk, _ => by simp at hk
  | x :: hs, s, e, k, h, hk, w => by
    simp only [readAgain, Bool.and_eq_true] at e
    cases k with
    | zero =>
      simp at hk; subst hk
      have e1 := e.1
      simp only [Nat.add_zero] at w
      rw [w] at e1
      simp only [Bool.not_true, Bool.false_or] at e1
      split at e1
      · rename_i v hv; rw [hv, veq_eq 50 e1]
      · cases e1
    | succ k => exact readAgain_spec e.2 k h (by simpa using hk) (by rw [show s + 1 + k = s + (k + 1) by omega]; exact w)

theorem drawnOps_sound (hm : P.follows .mixedOrders = true) {F : CallF} (hF : CallOk P F) {ops : Array Oper} (hst : drStatic ops = true) {ts ts' : List NVal} {h h' : NHeap} (id : Nat)
    (e : drawnOps P F ops ts h = some (ts', h')) : SimC P (.region id ops true) ts h .normal ts' h' := by
  unfold drawnOps at e
  generalize hMdef : masksOf ops.toList = M at e
  generalize hnf : (ops.toList.filter fun o => makesRow o.op).length = nf at e
  have hst' : drStaticFrom ops M ops.toList 0 ops.toList = true := by rw [← hMdef]; exact hst
  have stat : ∀ (j : Nat) o, ops[j]? = some o → _ := fun j o ho => drStaticFrom_spec hst' j o (by simpa using ho)
  simp only [Nat.zero_add] at stat
  simp only at e
  cases hrun : runE P F ops M 0 ops.toList { ts := ts, h := reserve nf h, hs := [reserve nf h], ls := [], ei := [], pend := [], nid := h.next, reads := [], v := nundef, c := .skip } with
  | none => rw [hrun] at e; cases e
  | some fin =>
    rw [hrun] at e
    simp only at e
    split at e
    rotate_left
    · cases e
    rename_i hc
    simp only [Bool.and_eq_true, Bool.or_eq_true, decide_eq_true_eq] at hc
    cases e
    obtain ⟨sts, s0, s1, s2⟩ := runE_states hrun
    simp only [Nat.zero_add, Array.length_toList] at s1 s2
    let tsAt : Nat → List NVal := fun i => (sts i).ts
    let val : Nat → NVal := fun i => (sts (i + 1)).v
    let cls : Nat → Cls := fun i => (sts (i + 1)).c
    have way : ∀ (i : Nat) o, ops[i]? = some o → Way P F ops M i o (sts i) (sts (i + 1)) := fun i o ho => stepE_way (s2 i o (by simpa using ho))
    have G : ∀ i, i ≤ ops.size → SG P F ops M (reserve nf h) h.next tsAt val cls i (sts i) := by
      intro i
      induction i with
      | zero =>
        intro _
        rw [s0]
        refine ⟨rfl, rfl, rfl, rfl, ?_, ?_, ?_, ?_, ?_, ?_, ?_, List.nodup_nil, Nat.le_refl _, ?_, ?_, ?_, ?_, ?_, ?_⟩ <;> simp
      | succ i ih =>
        intro hi
        have hlt : i < ops.size := by omega
        have ho : ops[i]? = some ops[i] := by simp [hlt]
        exact (ih (by omega)).step ho rfl rfl rfl (way i _ ho)
    have Gf := G ops.size (Nat.le_refl _)
    rw [s1] at Gf
    have lt : ∀ {j : Nat} {o : Oper}, ops[j]? = some o → j < ops.size := fun {j o} ho => (Array.getElem?_eq_some_iff.1 ho).1
    let L : Nat → List Float3 := fun k => if k = 0 then [] else if k = fin.ei.length + 1 then fin.pend else fin.ls.getD (k - 1) []
    have hL : ∀ k x, x ∈ L k → (k = fin.ei.length + 1 ∧ x ∈ fin.pend) ∨ ∃ q l, k = q + 1 ∧ q < fin.ei.length ∧ fin.ls[q]? = some l ∧ x ∈ l := by
      intro k x hx
      simp only [L] at hx
      split at hx
      · simp at hx
      · split at hx
        · exact .inl ⟨by assumption, hx⟩
        · rw [List.getD_eq_getElem?_getD] at hx
          cases hl : fin.ls[k - 1]? with
          | none => rw [hl] at hx; simp at hx
          | some l => rw [hl] at hx; exact .inr ⟨k - 1, l, by omega, by have := (List.getElem?_eq_some_iff.1 hl).1; rw [Gf.lsl] at this; exact this, hl, by simpa using hx⟩
    have hLe : ∀ q l, fin.ls[q]? = some l → L (q + 1) = l := by
      intro q l hl
      have := (List.getElem?_eq_some_iff.1 hl).1
      rw [Gf.lsl] at this
      simp only [L]
      rw [if_neg (by omega), if_neg (by omega)]
      simp [List.getD_eq_getElem?_getD, hl]
    let d : Dr := ⟨fun j => M.getD j 0, tsAt, val, cls, fun k => fin.hs.getD k h, fin.ei.length, L⟩
    have hH : ∀ (k : Nat) x, fin.hs[k]? = some x → d.H k = x := fun k x hx => by simp only [d, List.getD_eq_getElem?_getD, hx]; rfl
    have H0 : d.H 0 = reserve nf h := hH 0 _ Gf.first
    have K : DrOk P ops ts h d := by
      refine ⟨fun j o ho => (stat j o ho).1, fun j i o ho hb => ?_, fun i j oi oj hij hoi hoj t ht => ?_, by show (sts 0).ts = ts; rw [s0], fun i o ho => ?_, fun i o ho hc0 => ?_, fun i o ho hc0 => ?_, fun i o ho hc0 k hk hw1 hw2 => ?_, fun i o k ho hck => ?_, fun i j k k' hi hj hck hck' hlt => ?_, fun i j k hi hj hck hck' => ?_, fun k hk1 hk2 => ?_, fun i o idn cs ho hci => ?_, fun i j idn cs cs' hi hj hci hcj => Gf.uni i j idn cs cs' hi hj hci hcj, fun i idn cs hi hci => ?_, fun k i idn cs hm' => ?_, fun k k' x hx hx' => ?_, fun k => ?_⟩
      · exact maskOf_spec (by rw [← (stat j o ho).2.1]; exact hb)
      · have hp := pairsOk_spec (stat j oj hoj).2.2 i oi (by
          rw [List.getElem?_take, if_pos hij]; simpa using hoi)
        rw [Nat.zero_add] at hp
        simp only [pairOk, Bool.or_eq_true, Bool.not_eq_true'] at hp
        rcases hp with hp | hp
        · exfalso
          simp only [Bool.or_eq_false_iff] at hp
          rcases ht with ⟨hd, ht⟩ | ⟨hd, ht⟩
          · rw [hd] at hp
            have := hp.1
            simp only [Bool.or_eq_false_iff] at this
            rcases ht with ht | ht
            · have := this.1; simp [ht] at this
            · have := this.2; rw [ht] at this; simp at this
          · rw [hd] at hp
            have := hp.2; simp [ht] at this
        · exact hp
      · show (sts (i + 1)).ts = nput (sts i).ts o.dst (sts (i + 1)).v
        cases way i o ho with
        | skip w e => rw [e]
        | pure w v p e => rw [e]
        | read w v p e => rw [e]
        | flt w cs mk p e => rw [e]
        | eff w v h' p q n e => rw [e]
      · have hc1 : (sts (i + 1)).c = .skip := hc0
        show nwanted ops o (sts i).ts = some false ∧ (sts (i + 1)).v = nundef
        cases way i o ho with
        | skip w e => exact ⟨w, by rw [e]⟩
        | pure w v p e => rw [e] at hc1; cases hc1
        | read w v p e => rw [e] at hc1; cases hc1
        | flt w cs mk p e => rw [e] at hc1; cases hc1
        | eff w v h' p q n e => rw [e] at hc1; cases hc1
      · have hc1 : (sts (i + 1)).c ≠ .skip := hc0
        show nwanted ops o (sts i).ts = some true
        cases way i o ho with
        | skip w e => rw [e] at hc1; exact absurd rfl hc1
        | pure w v p e => exact w
        | read w v p e => exact w
        | flt w cs mk p e => exact w
        | eff w v h' p q n e => exact w
      · rcases Gf.vals i o (lt ho) ho hc0 with hp | ⟨hr, hz⟩
        · exact SimR.of_pure hp
        · refine SimR.of_read ?_
          have hk' : k ≤ fin.ei.length := hk
          have hkl : k < fin.hs.length := by rw [Gf.hsl]; omega
          have hkx : fin.hs[k]? = some fin.hs[k] := by simp [hkl]
          rw [hH k _ hkx]
          rcases hc.2 with hn | hr2
          · have he : fin.ei = [] := by simpa using hn
            have hk0 : k = 0 := by rw [he] at hk'; simpa using hk'
            subst hk0
            have hl := Gf.last
            rw [he] at hl
            simp only [List.length_nil] at hl
            rw [hl] at hkx
            rw [← Option.some.inj hkx]
            exact hz he
          · have ra := List.all_eq_true.1 hr2 _ hr
            refine readAgain_spec ra k _ hkx ?_
            rw [Nat.zero_add]
            refine inWin_true fun s j hj => ?_
            have hej := (Gf.ei s j).1 hj
            rw [Nat.zero_add]
            exact ⟨fun hb => hw1 j (s + 1) hej.2 hej.1 hb, fun hb => hw2 j (s + 1) hej.2 hej.1 hb⟩
      · have hi := lt ho
        have hk1 : ∃ q, k = q + 1 := by
          have hck' : (sts (i + 1)).c = .eff k := hck
          cases way i o ho with
          | skip w e => rw [e] at hck'; cases hck'
          | pure w v p e => rw [e] at hck'; cases hck'
          | read w v p e => rw [e] at hck'; cases hck'
          | flt w cs mk p e => rw [e] at hck'; cases hck'
          | eff w v h' p q n e => rw [e] at hck'; injection hck' with hck'; exact ⟨_, hck'.symm⟩
        obtain ⟨q, rfl⟩ := hk1
        have hei := (Gf.ei q i).2 ⟨hi, hck⟩
        obtain ⟨hk0, hk1, l, a1, a2, a3, a4, a5⟩ := Gf.effs q i o hei ho
        have hq := (List.getElem?_eq_some_iff.1 hei).1
        refine ⟨by omega, by show q + 1 ≤ fin.ei.length; omega, ?_, ?_⟩
        · rw [show q + 1 - 1 = q by omega, hH q _ a1, hH (q + 1) _ a2]
          show SimO P o (ev (tsAt i)) (adoptAll hk0 (L (q + 1))) (val i) hk1
          rw [hLe q l a3]
          exact doOp_sound hF a4
        · rw [show q + 1 - 1 = q by omega, hH q _ a1, hH (q + 1) _ a2]
          show (adoptAll hk0 (L (q + 1))).next ≤ hk1.next
          rw [hLe q l a3]
          exact a5
      · have one : ∀ {i k : Nat}, i < ops.size → cls i = .eff k → 1 ≤ k := by
          intro i k hi hck
          have ho : ops[i]? = some ops[i] := by simp [hi]
          have hck' : (sts (i + 1)).c = .eff k := hck
          cases way i _ ho with
          | skip w e => rw [e] at hck'; cases hck'
          | pure w v p e => rw [e] at hck'; cases hck'
          | read w v p e => rw [e] at hck'; cases hck'
          | flt w cs mk p e => rw [e] at hck'; cases hck'
          | eff w v h' p q n e => rw [e] at hck'; injection hck' with hck'; omega
        have o1 := one hi hck
        have o2 := one hj hck'
        exact Gf.chain (k - 1) (k' - 1) i j ((Gf.ei _ _).2 ⟨hi, by rw [show k - 1 + 1 = k by omega]; exact hck⟩) ((Gf.ei _ _).2 ⟨hj, by rw [show k' - 1 + 1 = k' by omega]; exact hck'⟩) (by omega)
      · have one : 1 ≤ k := by
          have ho : ops[i]? = some ops[i] := by simp [hi]
          have hck1 : (sts (i + 1)).c = .eff k := hck
          cases way i _ ho with
          | skip w e => rw [e] at hck1; cases hck1
          | pure w v p e => rw [e] at hck1; cases hck1
          | read w v p e => rw [e] at hck1; cases hck1
          | flt w cs mk p e => rw [e] at hck1; cases hck1
          | eff w v h' p q n e => rw [e] at hck1; injection hck1 with hck1; omega
        have r1 := (Gf.ei (k - 1) i).2 ⟨hi, by rw [show k - 1 + 1 = k by omega]; exact hck⟩
        have r2 := (Gf.ei (k - 1) j).2 ⟨hj, by rw [show k - 1 + 1 = k by omega]; exact hck'⟩
        rw [r1] at r2; cases r2; rfl
      · have hk2' : k ≤ fin.ei.length := hk2
        have hlt : k - 1 < fin.ei.length := by omega
        have := (Gf.ei (k - 1) fin.ei[k - 1]).1 (by simp [hlt])
        rw [show k - 1 + 1 = k by omega] at this
        exact ⟨_, this.1, this.2⟩
      · have hi := lt ho
        have r := Gf.ids i idn cs hi hci
        have f := Gf.flt i o idn cs hi ho hci
        refine ⟨r.1, ?_, f⟩
        rw [H0, reserve_next]
        have := hc.1; omega
      · rcases Gf.all i idn cs hi hci with s | ⟨k, l, s, t⟩
        · refine ⟨fin.ei.length + 1, by omega, Nat.le_refl _, ?_⟩
          show (i, idn, cs) ∈ L (fin.ei.length + 1)
          simp only [L]
          rw [if_neg (by omega)]; simp only [if_true]; exact s
        · have hk := (List.getElem?_eq_some_iff.1 s).1
          rw [Gf.lsl] at hk
          refine ⟨k + 1, by omega, by show k + 1 ≤ fin.ei.length + 1; omega, ?_⟩
          show (i, idn, cs) ∈ L (k + 1)
          rw [hLe k l s]; exact t
      · rcases hL k _ hm' with ⟨r, s⟩ | ⟨q, l, r, r2, s, t⟩
        · have := Gf.pend _ s
          refine ⟨this.2, this.1, fun hk => ?_⟩
          have hk' : k ≤ fin.ei.length := hk
          omega
        · have := Gf.ls q l _ s t
          refine ⟨this.2.1, this.1, fun hk j hj hcj => ?_⟩
          subst r
          exact this.2.2 j ((Gf.ei q j).2 ⟨hj, hcj⟩)
      · rcases hL k _ hx with ⟨r, s⟩ | ⟨q, l, r, r2, s, t⟩ <;> rcases hL k' _ hx' with ⟨r', s'⟩ | ⟨q', l', r', r2', s', t'⟩
        · omega
        · exact absurd s (Gf.disp q' l' x s' t')
        · exact absurd s' (Gf.disp q l x s t)
        · have := Gf.dis q q' l l' x s s' t t'; omega
      · show (L k).Nodup
        simp only [L]
        split
        · exact List.nodup_nil
        · split
          · exact Gf.ndp
          · rw [List.getD_eq_getElem?_getD]
            cases hl : fin.ls[k - 1]? with
            | none => simp
            | some l => simpa using Gf.nd _ l hl
    have R := drawn_sound hm K H0 id
    have t1 : d.tsAt ops.size = fin.ts := by show (sts ops.size).ts = _; rw [s1]
    have t2 : d.H d.m = fin.h := hH _ _ Gf.last
    have t3 : d.L (d.m + 1) = fin.pend := by show L (fin.ei.length + 1) = _; simp only [L]; rw [if_neg (by omega)]; simp
    rw [t1, t2, t3] at R
    exact R
end Go.Proofs.Ytblhpikljhholaa.NICE
