/- The reading without fuel: what a call, and code, come to; their equations. -/
import Derived.Test.YtblhpikljhholaaNice27
set_option linter.unusedVariables false
set_option linter.unusedSimpArgs false
namespace Go.Proofs.Ytblhpikljhholaa.NICE
open Go Go.RowKit

variable {P : Program}

def CallLe (F G : CallF) : Prop := ∀ f as h r, F f as h = some r → G f as h = some r
theorem CallLe.refl (F : CallF) : CallLe F F := fun _ _ _ _ e => e
theorem CallLe.trans {F G H : CallF} (a : CallLe F G) (b : CallLe G H) : CallLe F H := fun f as h r e => b _ _ _ _ (a _ _ _ _ e)

theorem doOp_mono {F G : CallF} (hl : CallLe F G) {ρ o h r} (e : doOp P F ρ o h = some r) : doOp P G ρ o h = some r := by
  unfold doOp at e ⊢
  split
  · rename_i c hc; rw [hc] at e; simp only at e
    split
    · rename_i f as hn; rw [hn] at e; exact hl _ _ _ _ e
    · rename_i hn; rw [hn] at e; cases e
  · rename_i hc; rw [hc] at e; exact e

theorem seqOps_mono {F G : CallF} (hl : CallLe F G) {ops : Array Oper} : ∀ {l : List Oper} {ts h r}, seqOps P F ops l ts h = some r → seqOps P G ops l ts h = some r
  | [], ts, h, r, e => e
  | o :: l, ts, h, r, e => by
    unfold seqOps at e ⊢
    cases hw : nwanted ops o ts with
    | none => rw [hw] at e; cases e
    | some b =>
      rw [hw] at e
      cases b with
      | false => exact seqOps_mono hl e
      | true =>
        simp only at e ⊢
        cases hd : doOp P F (ev ts) o h with
        | none => rw [hd] at e; cases e
        | some p => rw [hd] at e; rw [doOp_mono hl hd]; exact seqOps_mono hl e

theorem stepE_mono {F G : CallF} (hl : CallLe F G) {ops M i o st r} (e : stepE P F ops M i o st = some r) : stepE P G ops M i o st = some r := by
  unfold stepE at e ⊢
  have efft : (match doOp P F (ev st.ts) o (adoptAll st.h (st.pend.filter fun x => (M.getD i 0).testBit x.1)) with
          | none => none
          | some (v, h') => if st.ei.all (fun j => (M.getD i 0).testBit j) && decide ((adoptAll st.h (st.pend.filter fun x => (M.getD i 0).testBit x.1)).next ≤ h'.next) then
              some { st with ts := nput st.ts o.dst v, h := h', hs := st.hs ++ [h'], ls := st.ls ++ [st.pend.filter fun x => (M.getD i 0).testBit x.1], ei := st.ei ++ [i], pend := st.pend.filter fun x => !(M.getD i 0).testBit x.1, v := v, c := .eff (st.ei.length + 1) } else none) = some r →
      (match doOp P G (ev st.ts) o (adoptAll st.h (st.pend.filter fun x => (M.getD i 0).testBit x.1)) with
          | none => none
          | some (v, h') => if st.ei.all (fun j => (M.getD i 0).testBit j) && decide ((adoptAll st.h (st.pend.filter fun x => (M.getD i 0).testBit x.1)).next ≤ h'.next) then
              some { st with ts := nput st.ts o.dst v, h := h', hs := st.hs ++ [h'], ls := st.ls ++ [st.pend.filter fun x => (M.getD i 0).testBit x.1], ei := st.ei ++ [i], pend := st.pend.filter fun x => !(M.getD i 0).testBit x.1, v := v, c := .eff (st.ei.length + 1) } else none) = some r := by
    intro e
    cases hd : doOp P F (ev st.ts) o (adoptAll st.h (st.pend.filter fun x => (M.getD i 0).testBit x.1)) with
    | none => rw [hd] at e; cases e
    | some p => rw [hd] at e; rw [doOp_mono hl hd]; exact e
  cases hw : nwanted ops o st.ts with
  | none => rw [hw] at e; cases e
  | some b =>
    rw [hw] at e
    cases b with
    | false => exact e
    | true =>
      simp only at e ⊢
      cases hp : pureOp P (ev st.ts) o.op with
      | some v => rw [hp] at e; exact e
      | none =>
        rw [hp] at e; simp only at e ⊢
        cases hr : readOp P (ev st.ts) st.h o.op with
        | some v => rw [hr] at e; exact e
        | none =>
          rw [hr] at e; simp only at e ⊢
          cases hn : newOp P (ev st.ts) o.op with
          | none => rw [hn] at e; exact efft e
          | some p =>
            obtain ⟨ob, mk⟩ := p
            rw [hn] at e
            cases ob with
            | cells cs mine =>
              cases mine with
              | own q => cases q with
                | none => exact e
                | some q => exact efft e
              | ro => exact efft e
            | map es => exact efft e
            | dead => exact efft e

theorem runE_mono {F G : CallF} (hl : CallLe F G) {ops M} : ∀ {l : List Oper} {i st r}, runE P F ops M i l st = some r → runE P G ops M i l st = some r
  | [], i, st, r, e => e
  | o :: l, i, st, r, e => by
    unfold runE at e ⊢
    cases hs : stepE P F ops M i o st with
    | none => rw [hs] at e; cases e
    | some st' => rw [hs] at e; rw [stepE_mono hl hs]; exact runE_mono hl e

theorem drawnOps_mono {F G : CallF} (hl : CallLe F G) {ops ts h r} (e : drawnOps P F ops ts h = some r) : drawnOps P G ops ts h = some r := by
  unfold drawnOps at e ⊢
  simp only at e ⊢
  split at e
  · cases e
  · rename_i st hs
    rw [runE_mono hl hs]; exact e

theorem evC_mono {F G : CallF} (hl : CallLe F G) : ∀ {n m : Nat} {c : Code} {ts h r}, n ≤ m → evC P (drawnOps P) F n c ts h = some r → evC P (drawnOps P) G m c ts h = some r
  | 0, m, c, ts, h, r, hn, e => by cases e
  | n + 1, 0, c, ts, h, r, hn, e => by omega
  | n + 1, m + 1, c, ts, h, r, hn, e => by
    have ih : ∀ {c ts h r}, evC P (drawnOps P) F n c ts h = some r → evC P (drawnOps P) G m c ts h = some r := evC_mono hl (by omega)
    unfold evC at e ⊢
    cases c with
    | region id ops draw =>
      cases draw with
      | true =>
        simp only [if_true] at e ⊢
        cases hx : drawnOps P F ops ts h with
        | none => rw [hx] at e; cases e
        | some p => rw [hx] at e; rw [drawnOps_mono hl hx]; exact e
      | false =>
        simp only [Bool.false_eq_true, if_false] at e ⊢
        cases hx : seqOps P F ops ops.toList ts h with
        | none => rw [hx] at e; cases e
        | some p => rw [hx] at e; rw [seqOps_mono hl hx]; exact e
    | seq a b =>
      simp only at e ⊢
      cases hx : evC P (drawnOps P) F n a ts h with
      | none => rw [hx] at e; cases e
      | some p =>
        obtain ⟨ex, ts1, h1⟩ := p
        rw [hx] at e; rw [ih hx]
        cases ex with
        | normal => exact ih e
        | _ => exact e
    | cond x a b =>
      simp only at e ⊢
      cases hx : ev ts x with
      | none => rw [hx] at e; cases e
      | some u =>
        rw [hx] at e
        cases u with
        | bool t => cases t <;> exact ih e
        | _ => cases e
    | block i a =>
      simp only at e ⊢
      cases hx : evC P (drawnOps P) F n a ts h with
      | none => rw [hx] at e; cases e
      | some p => rw [hx] at e; rw [ih hx]; exact e
    | loop a =>
      simp only at e ⊢
      cases hx : evC P (drawnOps P) F n a ts h with
      | none => rw [hx] at e; cases e
      | some p =>
        obtain ⟨ex, ts1, h1⟩ := p
        rw [hx] at e; rw [ih hx]
        cases ex with
        | normal => exact ih e
        | _ => exact e
    | _ => exact e

variable (E : Env P drStatic)

theorem evF_mono {m m' : Nat} (hm : m ≤ m') : ∀ {n n' : Nat}, n ≤ n' → CallLe (evF P (drawnOps P) E m n) (evF P (drawnOps P) E m' n')
  | 0, n', _ => fun f as h r e => by cases e
  | n + 1, 0, hn => by omega
  | n + 1, n' + 1, hn => fun f as h r e => by
    have ih := evF_mono hm (n := n) (n' := n') (by omega)
    unfold evF at e ⊢
    cases hk : E.known f as h with
    | some q => rw [hk] at e; exact e
    | none =>
      rw [hk] at e; simp only at e ⊢
      cases hg : E.get f with
      | none => rw [hg] at e; cases e
      | some p =>
        obtain ⟨c, nt, rs⟩ := p
        rw [hg] at e; simp only at e ⊢
        cases hx : evC P (drawnOps P) (evF P (drawnOps P) E m n) m c (as ++ List.replicate (nt - as.length) nundef) h with
        | none => rw [hx] at e; cases e
        | some q => rw [hx] at e; rw [evC_mono ih hm hx]; exact e

/-- so many rounds, and so deep -/
def Gn (i : Nat) : CallF := evF P (drawnOps P) E i i
theorem Gn_mono {i j : Nat} (h : i ≤ j) : CallLe (Gn E i) (Gn E j) := evF_mono E h h

open Classical in
/-- what a call comes to -/
noncomputable def K : CallF := fun f as h => if hx : ∃ r, ∃ i, Gn E i f as h = some r then some hx.choose else none

theorem K_iff {f as h r} : K E f as h = some r ↔ ∃ i, Gn E i f as h = some r := by
  unfold K
  constructor
  · intro e
    split at e
    · rename_i hx; cases e; exact hx.choose_spec
    · cases e
  · rintro ⟨i, hi⟩
    have hx : ∃ r, ∃ i, Gn E i f as h = some r := ⟨r, i, hi⟩
    rw [dif_pos hx]
    obtain ⟨j, hj⟩ := hx.choose_spec
    have a := Gn_mono E (Nat.le_max_left i j) _ _ _ _ hi
    have b := Gn_mono E (Nat.le_max_right i j) _ _ _ _ hj
    rw [a] at b; exact congrArg some (Option.some.inj b).symm

theorem Gn_le (i : Nat) : CallLe (Gn E i) (K E) := fun f as h r e => (K_iff E).2 ⟨i, e⟩

theorem doOp_K {ρ o h r} (e : doOp P (K E) ρ o h = some r) : ∃ i, doOp P (Gn E i) ρ o h = some r := by
  unfold doOp at e ⊢
  split at e
  · rename_i c hc
    split at e
    · rename_i f as hn
      obtain ⟨i, hi⟩ := (K_iff E).1 e
      exact ⟨i, hi⟩
    · cases e
  · rename_i hc; exact ⟨0, e⟩

theorem seqOps_K {ops : Array Oper} : ∀ {l : List Oper} {ts h r}, seqOps P (K E) ops l ts h = some r → ∃ i, seqOps P (Gn E i) ops l ts h = some r
  | [], ts, h, r, e => ⟨0, e⟩
  | o :: l, ts, h, r, e => by
    unfold seqOps at e ⊢
    cases hw : nwanted ops o ts with
    | none => rw [hw] at e; cases e
    | some b =>
      rw [hw] at e
      cases b with
      | false => exact seqOps_K e
      | true =>
        simp only at e ⊢
        cases hd : doOp P (K E) (ev ts) o h with
        | none => rw [hd] at e; cases e
        | some p =>
          rw [hd] at e
          obtain ⟨i, hi⟩ := doOp_K E hd
          obtain ⟨j, hj⟩ := seqOps_K e
          refine ⟨max i j, ?_⟩
          rw [doOp_mono (Gn_mono E (Nat.le_max_left i j)) hi]
          exact seqOps_mono (Gn_mono E (Nat.le_max_right i j)) hj

theorem stepE_K {ops M i o st r} (e : stepE P (K E) ops M i o st = some r) : ∃ k, stepE P (Gn E k) ops M i o st = some r := by
  unfold stepE at e ⊢
  have efft : (match doOp P (K E) (ev st.ts) o (adoptAll st.h (st.pend.filter fun x => (M.getD i 0).testBit x.1)) with
          | none => none
          | some (v, h') => if st.ei.all (fun j => (M.getD i 0).testBit j) && decide ((adoptAll st.h (st.pend.filter fun x => (M.getD i 0).testBit x.1)).next ≤ h'.next) then
              some { st with ts := nput st.ts o.dst v, h := h', hs := st.hs ++ [h'], ls := st.ls ++ [st.pend.filter fun x => (M.getD i 0).testBit x.1], ei := st.ei ++ [i], pend := st.pend.filter fun x => !(M.getD i 0).testBit x.1, v := v, c := .eff (st.ei.length + 1) } else none) = some r →
      ∃ k, (match doOp P (Gn E k) (ev st.ts) o (adoptAll st.h (st.pend.filter fun x => (M.getD i 0).testBit x.1)) with
          | none => none
          | some (v, h') => if st.ei.all (fun j => (M.getD i 0).testBit j) && decide ((adoptAll st.h (st.pend.filter fun x => (M.getD i 0).testBit x.1)).next ≤ h'.next) then
              some { st with ts := nput st.ts o.dst v, h := h', hs := st.hs ++ [h'], ls := st.ls ++ [st.pend.filter fun x => (M.getD i 0).testBit x.1], ei := st.ei ++ [i], pend := st.pend.filter fun x => !(M.getD i 0).testBit x.1, v := v, c := .eff (st.ei.length + 1) } else none) = some r := by
    intro e
    cases hd : doOp P (K E) (ev st.ts) o (adoptAll st.h (st.pend.filter fun x => (M.getD i 0).testBit x.1)) with
    | none => rw [hd] at e; cases e
    | some p =>
      obtain ⟨k, hk⟩ := doOp_K E hd
      exact ⟨k, by rw [hk]; rw [hd] at e; exact e⟩
  cases hw : nwanted ops o st.ts with
  | none => rw [hw] at e; cases e
  | some b =>
    rw [hw] at e
    cases b with
    | false => exact ⟨0, e⟩
    | true =>
      simp only at e ⊢
      cases hp : pureOp P (ev st.ts) o.op with
      | some v => rw [hp] at e; exact ⟨0, e⟩
      | none =>
        rw [hp] at e; simp only at e ⊢
        cases hr : readOp P (ev st.ts) st.h o.op with
        | some v => rw [hr] at e; exact ⟨0, e⟩
        | none =>
          rw [hr] at e; simp only at e ⊢
          cases hn : newOp P (ev st.ts) o.op with
          | none => rw [hn] at e; exact efft e
          | some p =>
            obtain ⟨ob, mk⟩ := p
            rw [hn] at e
            cases ob with
            | cells cs mine =>
              cases mine with
              | own q => cases q with
                | none => exact ⟨0, e⟩
                | some q => exact efft e
              | ro => exact efft e
            | map es => exact efft e
            | dead => exact efft e

theorem runE_K {ops M} : ∀ {l : List Oper} {i st r}, runE P (K E) ops M i l st = some r → ∃ k, runE P (Gn E k) ops M i l st = some r
  | [], i, st, r, e => ⟨0, e⟩
  | o :: l, i, st, r, e => by
    unfold runE at e ⊢
    cases hs : stepE P (K E) ops M i o st with
    | none => rw [hs] at e; cases e
    | some st' =>
      rw [hs] at e
      obtain ⟨k, hk⟩ := stepE_K E hs
      obtain ⟨j, hj⟩ := runE_K e
      refine ⟨max k j, ?_⟩
      rw [stepE_mono (Gn_mono E (Nat.le_max_left k j)) hk]
      exact runE_mono (Gn_mono E (Nat.le_max_right k j)) hj

theorem drawnOps_K {ops ts h r} (e : drawnOps P (K E) ops ts h = some r) : ∃ k, drawnOps P (Gn E k) ops ts h = some r := by
  unfold drawnOps at e ⊢
  simp only at e ⊢
  split at e
  · cases e
  · rename_i st hs
    obtain ⟨k, hk⟩ := runE_K E hs
    exact ⟨k, by rw [hk]; exact e⟩

theorem evC_K : ∀ {n : Nat} {c : Code} {ts h r}, evC P (drawnOps P) (K E) n c ts h = some r → ∃ i, evC P (drawnOps P) (Gn E i) i c ts h = some r
  | 0, c, ts, h, r, e => by cases e
  | n + 1, c, ts, h, r, e => by
    have up : ∀ {i j : Nat} {c ts h r}, i ≤ j → evC P (drawnOps P) (Gn E i) i c ts h = some r → evC P (drawnOps P) (Gn E j) j c ts h = some r := fun hij q => evC_mono (Gn_mono E hij) hij q
    have ih : ∀ {c ts h r}, evC P (drawnOps P) (K E) n c ts h = some r → ∃ i, ∀ j, i ≤ j → evC P (drawnOps P) (Gn E (j + 1)) j c ts h = some r := fun q => by
      obtain ⟨i, hi⟩ := evC_K q
      exact ⟨i, fun j hj => evC_mono (Gn_mono E (by omega)) hj hi⟩
    have one : ∀ {i : Nat} {c ts h r}, evC P (drawnOps P) (Gn E (i + 1)) (i + 1) c ts h = some r → ∃ i, evC P (drawnOps P) (Gn E i) i c ts h = some r := fun q => ⟨_, q⟩
    unfold evC at e
    cases c with
    | region id ops draw =>
      cases draw with
      | true =>
        simp only [if_true] at e
        cases hx : drawnOps P (K E) ops ts h with
        | none => rw [hx] at e; cases e
        | some p =>
          rw [hx] at e
          obtain ⟨k, hk⟩ := drawnOps_K E hx
          refine ⟨k + 1, ?_⟩
          unfold evC; simp only [if_true]
          rw [drawnOps_mono (Gn_mono E (Nat.le_succ k)) hk]; exact e
      | false =>
        simp only [Bool.false_eq_true, if_false] at e
        cases hx : seqOps P (K E) ops ops.toList ts h with
        | none => rw [hx] at e; cases e
        | some p =>
          rw [hx] at e
          obtain ⟨k, hk⟩ := seqOps_K E hx
          refine ⟨k + 1, ?_⟩
          unfold evC; simp only [Bool.false_eq_true, if_false]
          rw [seqOps_mono (Gn_mono E (Nat.le_succ k)) hk]; exact e
    | seq a b =>
      simp only at e
      cases hx : evC P (drawnOps P) (K E) n a ts h with
      | none => rw [hx] at e; cases e
      | some p =>
        obtain ⟨ex, ts1, h1⟩ := p
        rw [hx] at e
        obtain ⟨i, hi⟩ := ih hx
        cases ex with
        | normal =>
          obtain ⟨j, hj⟩ := ih e
          refine ⟨max i j + 1, ?_⟩
          unfold evC; simp only
          rw [hi (max i j) (Nat.le_max_left _ _)]; exact hj _ (Nat.le_max_right _ _)
        | exit k => exact ⟨i + 1, by unfold evC; simp only; rw [hi i (Nat.le_refl _)]; exact e⟩
        | ret => exact ⟨i + 1, by unfold evC; simp only; rw [hi i (Nat.le_refl _)]; exact e⟩
    | cond x a b =>
      simp only at e
      cases hx : ev ts x with
      | none => rw [hx] at e; cases e
      | some u =>
        rw [hx] at e
        cases u with
        | bool t =>
          cases t with
          | true => obtain ⟨i, hi⟩ := ih e; exact ⟨i + 1, by unfold evC; simp only; rw [hx]; exact hi i (Nat.le_refl _)⟩
          | false => obtain ⟨i, hi⟩ := ih e; exact ⟨i + 1, by unfold evC; simp only; rw [hx]; exact hi i (Nat.le_refl _)⟩
        | _ => cases e
    | block k a =>
      simp only at e
      cases hx : evC P (drawnOps P) (K E) n a ts h with
      | none => rw [hx] at e; cases e
      | some p =>
        rw [hx] at e
        obtain ⟨i, hi⟩ := ih hx
        exact ⟨i + 1, by unfold evC; simp only; rw [hi i (Nat.le_refl _)]; exact e⟩
    | loop a =>
      simp only at e
      cases hx : evC P (drawnOps P) (K E) n a ts h with
      | none => rw [hx] at e; cases e
      | some p =>
        obtain ⟨ex, ts1, h1⟩ := p
        rw [hx] at e
        obtain ⟨i, hi⟩ := ih hx
        cases ex with
        | normal =>
          obtain ⟨j, hj⟩ := ih e
          refine ⟨max i j + 1, ?_⟩
          unfold evC; simp only
          rw [hi (max i j) (Nat.le_max_left _ _)]; exact hj _ (Nat.le_max_right _ _)
        | exit k => exact ⟨i + 1, by unfold evC; simp only; rw [hi i (Nat.le_refl _)]; exact e⟩
        | ret => exact ⟨i + 1, by unfold evC; simp only; rw [hi i (Nat.le_refl _)]; exact e⟩
    | skip => exact ⟨1, e⟩
    | ret => exact ⟨1, e⟩
    | exit i => exact ⟨1, e⟩
    | rangeFunc _ _ _ _ => cases e
    | scope _ => cases e
    | label _ => cases e
    | goto _ => cases e
    | refuse _ => cases e

/-! ### Code without fuel -/

open Classical in
noncomputable def C (c : Code) (ts : List NVal) (h : NHeap) : Out := if hx : ∃ r, ∃ n, evC P (drawnOps P) (K E) n c ts h = some r then some hx.choose else none

variable {E}

theorem C_iff {c ts h r} : C E c ts h = some r ↔ ∃ n, evC P (drawnOps P) (K E) n c ts h = some r := by
  unfold C
  constructor
  · intro e
    split at e
    · rename_i hx; cases e; exact hx.choose_spec
    · cases e
  · rintro ⟨i, hi⟩
    have hx : ∃ r, ∃ i, evC P (drawnOps P) (K E) i c ts h = some r := ⟨r, i, hi⟩
    rw [dif_pos hx]
    obtain ⟨j, hj⟩ := hx.choose_spec
    have a := evC_mono (CallLe.refl _) (Nat.le_max_left i j) hi
    have b := evC_mono (CallLe.refl _) (Nat.le_max_right i j) hj
    rw [a] at b; exact congrArg some (Option.some.inj b).symm

theorem opt_ext {α : Type} {x y : Option α} (h : ∀ r, x = some r ↔ y = some r) : x = y := by
  cases x with
  | none => cases y with
    | none => rfl
    | some b => exact absurd ((h b).2 rfl) (by simp)
  | some a => exact ((h a).1 rfl).symm

/-- it is decided in one round -/
theorem C_of_next {c ts h} {o : Out} (ho : ∀ n, evC P (drawnOps P) (K E) (n + 1) c ts h = o) : C E c ts h = o := opt_ext fun r => by
  rw [C_iff]
  constructor
  · rintro ⟨n, e⟩
    cases n with
    | zero => cases e
    | succ n => rw [ho] at e; exact e
  · intro e; exact ⟨1, by rw [ho]; exact e⟩

theorem C_skip (ts h) : C E .skip ts h = some (.normal, ts, h) := C_of_next fun n => by unfold evC; rfl
theorem C_ret (ts h) : C E .ret ts h = some (.ret, ts, h) := C_of_next fun n => by unfold evC; rfl
theorem C_exit (i ts h) : C E (.exit i) ts h = some (.exit i, ts, h) := C_of_next fun n => by unfold evC; rfl

def normal : Option (List NVal × NHeap) → Out
  | some (ts, h) => some (.normal, ts, h)
  | none => none
def thenC (r : Out) (k : List NVal → NHeap → Out) : Out := match r with
  | some (.normal, ts, h) => k ts h
  | r => r
def ifC (b : Option NVal) (x y : Out) : Out := match b with
  | some (.bool true) => x
  | some (.bool false) => y
  | _ => none
def blockC (i : Nat) (r : Out) : Out := match r with
  | some (.exit j, ts, h) => if j = i then some (.normal, ts, h) else some (.exit j, ts, h)
  | r => r

theorem C_draw (id ops ts h) : C E (.region id ops true) ts h = normal (drawnOps P (K E) ops ts h) := C_of_next fun n => by
  unfold evC; simp only [if_true]; cases drawnOps P (K E) ops ts h <;> rfl
theorem C_seqs (id ops ts h) : C E (.region id ops false) ts h = normal (seqOps P (K E) ops ops.toList ts h) := C_of_next fun n => by
  unfold evC; simp only [Bool.false_eq_true, if_false]; cases seqOps P (K E) ops ops.toList ts h <;> rfl

theorem C_iff_next {c ts h} {F : (Code → List NVal → NHeap → Out) → Out} (hF : ∀ n, evC P (drawnOps P) (K E) (n + 1) c ts h = F (evC P (drawnOps P) (K E) n))
    (mono : ∀ G G' : Code → List NVal → NHeap → Out, (∀ c ts h r, G c ts h = some r → G' c ts h = some r) → ∀ r, F G = some r → F G' = some r)
    (cont : ∀ r, F (C E) = some r → ∃ n, F (evC P (drawnOps P) (K E) n) = some r) : C E c ts h = F (C E) := opt_ext fun r => by
  rw [C_iff]
  constructor
  · rintro ⟨n, e⟩
    cases n with
    | zero => cases e
    | succ n => rw [hF] at e; exact mono _ _ (fun c ts h r q => C_iff.2 ⟨n, q⟩) r e
  · intro e
    obtain ⟨n, hn⟩ := cont r e
    exact ⟨n + 1, by rw [hF]; exact hn⟩

theorem C_seq (a b ts h) : C E (.seq a b) ts h = thenC (C E a ts h) (C E b) := by
  refine C_iff_next (F := fun G => thenC (G a ts h) (G b)) (fun n => by rw [evC]; unfold thenC; rfl) ?_ ?_
  · intro G G' hG r e
    simp only [thenC] at e ⊢
    cases hx : G a ts h with
    | none => rw [hx] at e; cases e
    | some p =>
      obtain ⟨ex, t1, h1⟩ := p
      rw [hx] at e; rw [hG _ _ _ _ hx]
      cases ex with
      | normal => exact hG _ _ _ _ e
      | _ => exact e
  · intro r e
    simp only [thenC] at e ⊢
    cases hx : C E a ts h with
    | none => rw [hx] at e; cases e
    | some p =>
      obtain ⟨ex, t1, h1⟩ := p
      rw [hx] at e
      obtain ⟨n, hn⟩ := C_iff.1 hx
      cases ex with
      | normal =>
        obtain ⟨m, hm⟩ := C_iff.1 e
        refine ⟨max n m, ?_⟩
        rw [evC_mono (CallLe.refl _) (Nat.le_max_left n m) hn]; exact evC_mono (CallLe.refl _) (Nat.le_max_right n m) hm
      | _ => exact ⟨n, by rw [hn]; exact e⟩

theorem C_loop (a ts h) : C E (.loop a) ts h = thenC (C E a ts h) (C E (.loop a)) := by
  refine C_iff_next (F := fun G => thenC (G a ts h) (G (.loop a))) (fun n => by rw [evC]; unfold thenC; rfl) ?_ ?_
  · intro G G' hG r e
    simp only [thenC] at e ⊢
    cases hx : G a ts h with
    | none => rw [hx] at e; cases e
    | some p =>
      obtain ⟨ex, t1, h1⟩ := p
      rw [hx] at e; rw [hG _ _ _ _ hx]
      cases ex with
      | normal => exact hG _ _ _ _ e
      | _ => exact e
  · intro r e
    simp only [thenC] at e ⊢
    cases hx : C E a ts h with
    | none => rw [hx] at e; cases e
    | some p =>
      obtain ⟨ex, t1, h1⟩ := p
      rw [hx] at e
      obtain ⟨n, hn⟩ := C_iff.1 hx
      cases ex with
      | normal =>
        obtain ⟨m, hm⟩ := C_iff.1 e
        refine ⟨max n m, ?_⟩
        rw [evC_mono (CallLe.refl _) (Nat.le_max_left n m) hn]; exact evC_mono (CallLe.refl _) (Nat.le_max_right n m) hm
      | _ => exact ⟨n, by rw [hn]; exact e⟩

theorem C_cond (x a b ts h) : C E (.cond x a b) ts h = ifC (ev ts x) (C E a ts h) (C E b ts h) := by
  refine C_iff_next (F := fun G => ifC (ev ts x) (G a ts h) (G b ts h)) (fun n => by rw [evC]; unfold ifC; rfl) ?_ ?_
  · intro G G' hG r e
    cases hx : ev ts x with
    | none => rw [hx] at e; cases e
    | some u =>
      rw [hx] at e
      cases u with
      | bool t => cases t <;> exact hG _ _ _ _ e
      | _ => cases e
  · intro r e
    cases hx : ev ts x with
    | none => rw [hx] at e; cases e
    | some u =>
      rw [hx] at e
      cases u with
      | bool t => cases t <;> exact C_iff.1 e
      | _ => cases e

theorem C_block (i a ts h) : C E (.block i a) ts h = blockC i (C E a ts h) := by
  refine C_iff_next (F := fun G => blockC i (G a ts h)) (fun n => by rw [evC]; unfold blockC; rfl) ?_ ?_
  · intro G G' hG r e
    simp only [blockC] at e ⊢
    cases hx : G a ts h with
    | none => rw [hx] at e; cases e
    | some p => rw [hx] at e; rw [hG _ _ _ _ hx]; exact e
  · intro r e
    simp only [blockC] at e ⊢
    cases hx : C E a ts h with
    | none => rw [hx] at e; cases e
    | some p =>
      rw [hx] at e
      obtain ⟨n, hn⟩ := C_iff.1 hx
      exact ⟨n, by rw [hn]; exact e⟩

/-- what a body's end hands back -/
def outF (P : Program) (rs : List ResultVar) (r : Out) : Option (NVal × NHeap) := match r with
  | some (.exit _, _, _) => none
  | none => none
  | some (_, ts', h') => match nresults P ts' h' rs with
    | none => none
    | some vs => some (oneOr vs, h')

theorem K_known {f as h r} (hk : E.known f as h = some r) : K E f as h = some r := (K_iff E).2 ⟨1, by unfold Gn evF; rw [hk]⟩

theorem K_body {f as h c nt rs} (hk : E.known f as h = none) (hg : E.get f = some (c, nt, rs)) : K E f as h = outF P rs (C E c (as ++ List.replicate (nt - as.length) nundef) h) := opt_ext fun r => by
  rw [K_iff]
  constructor
  · rintro ⟨i, e⟩
    cases i with
    | zero => cases e
    | succ i =>
      unfold Gn evF at e
      rw [hk, hg] at e
      simp only at e
      cases hx : evC P (drawnOps P) (evF P (drawnOps P) E (i + 1) i) (i + 1) c (as ++ List.replicate (nt - as.length) nundef) h with
      | none => rw [hx] at e; cases e
      | some q =>
        rw [hx] at e
        have hle : CallLe (evF P (drawnOps P) E (i + 1) i) (K E) := (evF_mono E (Nat.le_refl _) (Nat.le_succ i)).trans (Gn_le E (i + 1))
        rw [C_iff.2 ⟨_, evC_mono hle (Nat.le_refl _) hx⟩]
        exact e
  · intro e
    cases hx : C E c (as ++ List.replicate (nt - as.length) nundef) h with
    | none => rw [hx] at e; cases e
    | some q =>
      rw [hx] at e
      obtain ⟨n, hn⟩ := C_iff.1 hx
      obtain ⟨i, hi⟩ := evC_K E hn
      refine ⟨i + 1, ?_⟩
      unfold Gn evF
      rw [hk, hg]; simp only
      have hle : CallLe (Gn E i) (evF P (drawnOps P) E (i + 1) i) := evF_mono E (Nat.le_succ i) (Nat.le_refl _)
      rw [evC_mono hle (Nat.le_succ i) hi]
      exact e

theorem K_ok (hm : P.follows .mixedOrders = true) : CallOk P (K E) := fun f as h v h' e => by
  obtain ⟨i, hi⟩ := (K_iff E).1 e
  exact evF_sound (drawOk hm) E i i f as h v h' hi

theorem K_sim (hm : P.follows .mixedOrders = true) {f as h v h'} (hk : E.known f as h = none) (e : K E f as h = some (v, h')) : SimF P f as h v h' := by
  obtain ⟨i, hi⟩ := (K_iff E).1 e
  cases i with
  | zero => cases hi
  | succ i => exact (evF_step (drawOk hm) E (i + 1) (evF_sound (drawOk hm) E (i + 1) i) hi hk).2
end Go.Proofs.Ytblhpikljhholaa.NICE
