/- Every operation that needs no memory, in one sentence. -/
import Derived.Test.YtblhpikljhholaaNice6
set_option linter.unusedVariables false
set_option linter.unusedSimpArgs false
namespace Go.Proofs.Ytblhpikljhholaa.NICE
open Go Go.RowKit

variable {P : Program} {ι : Inj}

theorem evs_sound {ρ : Operand → Option NVal} {re : Operand → Value} : ∀ {l : List Operand} {m : List NVal}, (∀ x ∈ l, ∀ u, ρ x = some u → VR ι u (re x)) → evs ρ l = some m → VRs ι m (l.map re)
  | [], m, hr, h => by simp only [evs] at h; cases h; exact .nil
  | x :: l, m, hr, h => by
    unfold evs at h
    cases hx : ρ x with
    | none => rw [hx] at h; cases h
    | some v => cases hl : evs ρ l with
      | none => rw [hx, hl] at h; cases h
      | some r => rw [hx, hl] at h; cases h; exact .cons (hr x (by simp) v hx) (evs_sound (fun y hy => hr y (by simp [hy])) hl)

theorem evParts_sound {ρ : Operand → Option NVal} {re : Operand → Value} : ∀ {l : List (Nat × Operand)} {m : List (Nat × NVal)}, (∀ x ∈ l, ∀ u, ρ x.2 = some u → VR ι u (re x.2)) → evParts ρ l = some m →
    All2 (fun a b => a.1 = b.1 ∧ VR ι a.2 b.2) m (l.map fun p => (p.1, re p.2))
  | [], m, hr, h => by simp only [evParts] at h; cases h; exact .nil
  | (i, x) :: l, m, hr, h => by
    unfold evParts at h
    cases hx : ρ x with
    | none => rw [hx] at h; cases h
    | some v => cases hl : evParts ρ l with
      | none => rw [hx, hl] at h; cases h
      | some r => rw [hx, hl] at h; cases h; exact .cons ⟨rfl, hr (i, x) (by simp) v hx⟩ (evParts_sound (fun y hy => hr y (by simp [hy])) hl)

theorem evOpt_sound {ρ : Operand → Option NVal} {re : Operand → Value} {o : Option Operand} {u : Option NVal} (hr : ∀ x, o = some x → ∀ u, ρ x = some u → VR ι u (re x)) (h : evOpt ρ o = some u) : OptVR ι u (o.map re) := by
  cases o with
  | none => simp only [evOpt] at h; cases h; exact .none
  | some x =>
    simp only [evOpt] at h
    cases hx : ρ x with
    | none => rw [hx] at h; cases h
    | some v => rw [hx] at h; cases h; exact .some (hr x rfl v hx)

theorem min_sound : ∀ {l : List NVal} {k : IntKind} {n : Int} {v : NVal} {rl : List Value}, nmin (.int k n) l = some v → VRs ι l rl → ∃ k' n', v = .int k' n' ∧ ∀ w, (rl.foldlM Builtin.min2 (.int k n)).run P w = .ok (.int k' n') w
  | [], k, n, v, rl, h, hl => by cases hl; simp only [nmin] at h; cases h; exact ⟨_, _, rfl, fun w => rfl⟩
  | u :: l, k, n, v, rl, h, hl => by
    cases hl with | cons hu hr =>
    cases u <;> simp only [nmin] at h <;> try (cases h; done)
    rename_i k1 n1
    have := hu.int_inv; subst this
    obtain ⟨k', n', h1, h2⟩ := min_sound h hr
    exact ⟨k', n', h1, fun w => by simp only [List.foldlM_cons, Sem.run_bind, Builtin.min2, Sem.run_pure, Result.andThen_ok]; exact h2 w⟩

theorem max_sound : ∀ {l : List NVal} {k : IntKind} {n : Int} {v : NVal} {rl : List Value}, nmax (.int k n) l = some v → VRs ι l rl → ∃ k' n', v = .int k' n' ∧ ∀ w, (rl.foldlM Builtin.max2 (.int k n)).run P w = .ok (.int k' n') w
  | [], k, n, v, rl, h, hl => by cases hl; simp only [nmax] at h; cases h; exact ⟨_, _, rfl, fun w => rfl⟩
  | u :: l, k, n, v, rl, h, hl => by
    cases hl with | cons hu hr =>
    cases u <;> simp only [nmax] at h <;> try (cases h; done)
    rename_i k1 n1
    have := hu.int_inv; subst this
    obtain ⟨k', n', h1, h2⟩ := max_sound h hr
    exact ⟨k', n', h1, fun w => by simp only [List.foldlM_cons, Sem.run_bind, Builtin.max2, Sem.run_pure, Result.andThen_ok]; exact h2 w⟩

theorem assert_sound {x v : NVal} {d : TypeId} {ok : Bool} (h : nassert P x d ok = some v) {rx : Value} (hx : VR ι x rx) (st : TypeId) :
    ∃ rv, VR ι v rv ∧ ∀ w, (Instr.typeAssert rx st d ok).run P w = .ok rv w := by
  unfold nassert at h
  cases hu : P.underlying d with
  | none => rw [hu] at h; cases h
  | some ty =>
    have hni : (∀ ms, ty ≠ .interface ms) := by intro ms e; subst e; rw [hu] at h; cases h
    have h' : nassert' P x d ok = some v := by
      rw [hu] at h; cases ty <;> first | exact h | exact absurd rfl (hni _)
    unfold nassert' at h'
    have zero : ok = true → (match zeroOf P d with | some z => some (NVal.tuple [z, .bool false]) | none => none) = some v →
        ∃ rz, VR ι v (.tuple #[rz, .bool false]) ∧ ∀ w, (zeroValue d).run P w = .ok rz w := by
      intro _ hz
      cases hzz : zeroOf P d with
      | none => rw [hzz] at hz; cases hz
      | some z =>
        rw [hzz] at hz; cases hz
        obtain ⟨i, rz, hi, hiz, hv⟩ := zeroOf_sound (ι := ι) hzz
        exact ⟨rz, .tuple' (.cons hv (.cons (.bool _) .nil)), run_zeroValue' hi hiz⟩
    split at h'
    · rename_i t u
      cases hx with | iface hx =>
      rename_i ru
      by_cases ht : t = d
      · rw [if_pos ht] at h'; cases h'
        cases ok
        · refine ⟨ru, hx, fun w => ?_⟩
          cases ty <;> first | exact absurd rfl (hni _) | simp [Instr.typeAssert, run_underlying hu, ht]
        · refine ⟨.tuple #[ru, .bool true], .tuple' (.cons hx (.cons (.bool _) .nil)), fun w => ?_⟩
          cases ty <;> first | exact absurd rfl (hni _) | simp [Instr.typeAssert, run_underlying hu, ht]
      · rw [if_neg ht] at h'
        cases ok
        · cases h'
        · obtain ⟨rz, h1, h2⟩ := zero rfl h'
          refine ⟨_, h1, fun w => ?_⟩
          cases ty <;> first | exact absurd rfl (hni _) | simp [Instr.typeAssert, run_underlying hu, ht, h2]
    · cases hx
      cases ok
      · cases h'
      · obtain ⟨rz, h1, h2⟩ := zero rfl h'
        refine ⟨_, h1, fun w => ?_⟩
        cases ty <;> first | exact absurd rfl (hni _) | simp [Instr.typeAssert, run_underlying hu, h2]
    · cases h'

theorem pure_sound {o : Oper} {ρ : Operand → Option NVal} {re : Operand → Value} (hr : ∀ x ∈ o.op.operands, ∀ u, ρ x = some u → VR ι u (re x)) {v : NVal} (h : pureOp P ρ o.op = some v) :
    ∃ rv, VR ι v rv ∧ ∀ w, (execOp re o).run P w = .ok (.value rv) w := by
  obtain ⟨dst, op, ty, pos, after, guard⟩ := o
  simp only at h hr
  have lift : ∀ {s : Sem Value}, (∃ rv, VR ι v rv ∧ ∀ w, s.run P w = .ok rv w) → ∃ rv, VR ι v rv ∧ ∀ w, (do pure (.value (← s)) : Sem Next).run P w = .ok (.value rv) w := by
    rintro s ⟨rv, h1, h2⟩
    exact ⟨rv, h1, fun w => by simp [h2 w]⟩
  cases op <;> simp only [pureOp] at h <;> try (cases h; done)
  case move x => exact ⟨re x, hr x (by simp [Op.operands]) v h, fun w => rfl⟩
  case assign x => exact ⟨re x, hr x (by simp [Op.operands]) v h, fun w => rfl⟩
  case pick c a b =>
    cases hc : ρ c with
    | none => rw [hc] at h; cases h
    | some cv => cases ha : ρ a with
      | none => rw [hc, ha] at h; cases cv <;> cases h
      | some av => cases hb : ρ b with
        | none => rw [hc, ha, hb] at h; cases cv <;> cases h
        | some bv =>
          rw [hc, ha, hb] at h
          cases cv <;> simp only at h <;> try (cases h; done)
          rename_i t; cases h
          have h1 := (hr c (by simp [Op.operands]) _ hc).bool_inv
          have h2 := hr a (by simp [Op.operands]) _ ha
          have h3 := hr b (by simp [Op.operands]) _ hb
          refine ⟨if t then re a else re b, by cases t <;> simpa, fun w => by simp [execOp, h1, asBool]⟩
  case build t ps =>
    cases hp : evParts ρ ps.toList with
    | none => rw [hp] at h; cases h
    | some l =>
      rw [hp] at h
      refine lift (build_sound h ?_)
      have := evParts_sound (ι := ι) (re := re) (fun x hx u hu => hr x.2 (by simp only [Op.operands]; exact List.mem_toArray.2 (List.mem_map_of_mem hx)) u hu) hp
      simpa using this
  case nilCheck x =>
    cases hx : ρ x with
    | none => rw [hx] at h; cases h
    | some u =>
      rw [hx] at h
      have hv := hr x (by simp [Op.operands]) u hx
      split at h
      · rename_i a heq; cases heq; cases h
        obtain ⟨b, o⟩ := a
        obtain ⟨rb, s, m, hι, e⟩ := hv.ptr_inv
        exact ⟨re x, hv, fun w => by simp [execOp, e]⟩
      · rename_i f a b heq; cases heq; cases h
        obtain ⟨rf, rc, e, _, _⟩ := hv.func_inv
        exact ⟨re x, hv, fun w => by simp [execOp, e]⟩
      · cases h
  case binOp op t x y yt =>
    cases hx : ρ x with
    | none => rw [hx] at h; cases h
    | some u => cases hy : ρ y with
      | none => rw [hx, hy] at h; cases h
      | some u' =>
        rw [hx, hy] at h
        exact lift (bin_sound h (hr x (by simp [Op.operands]) u hx) (hr y (by simp [Op.operands]) u' hy) x y)
  case unOp op t x =>
    cases hx : ρ x with
    | none => rw [hx] at h; cases h
    | some u => rw [hx] at h; exact lift (un_sound h (hr x (by simp [Op.operands]) u hx))
  case convert s d x =>
    cases hx : ρ x with
    | none => rw [hx] at h; cases h
    | some u => rw [hx] at h; exact lift (conv_sound h (hr x (by simp [Op.operands]) u hx))
  case makeInterface t x =>
    cases hx : ρ x with
    | none => rw [hx] at h; cases h
    | some u => cases hu : P.underlying t with
      | none => rw [hx, hu] at h; cases h
      | some d =>
        rw [hx, hu] at h
        have hni : ∀ ms, d ≠ .interface ms := by intro ms e; subst e; cases h
        have hv : v = .iface t u := by cases d <;> first | (cases h; rfl) | exact absurd rfl (hni _)
        subst hv
        refine ⟨.iface t (re x), .iface (hr x (by simp [Op.operands]) u hx), fun w => ?_⟩
        cases d <;> first | exact absurd rfl (hni _) | simp [execOp, Instr.makeInterface, run_underlying hu]
  case makeFunc fn first captured =>
    cases ha : evs ρ first.toList with
    | none => rw [ha] at h; cases h
    | some a => cases hb : evs ρ captured.toList with
      | none => rw [ha, hb] at h; cases h
      | some b =>
        rw [ha, hb] at h; cases h
        have h1 := evs_sound (ι := ι) (re := re) (fun x hx u hu => hr x (by simp [Op.operands]; exact .inl (by simpa using hx)) u hu) ha
        have h2 := evs_sound (ι := ι) (re := re) (fun x hx u hu => hr x (by simp [Op.operands]; exact .inr (by simpa using hx)) u hu) hb
        exact ⟨.func fn (first.map re) (captured.map re), .func' (by simpa using h1) (by simpa using h2), fun w => rfl⟩
  case slice t x lo hi mx =>
    cases mx with
    | some mo =>
      cases hm : ρ mo with
      | none => simp only [evOpt, hm] at h; cases h
      | some m => cases hx : ρ x with
        | none => simp only [evOpt, hm, hx] at h; cases h
        | some u => cases hl : evOpt ρ lo with
          | none => rw [hl] at h; simp only [evOpt, hm, hx] at h; cases h
          | some l => cases hh : evOpt ρ hi with
            | none => rw [hl, hh] at h; simp only [evOpt, hm, hx] at h; cases l <;> cases h
            | some hg =>
              have h1 := evOpt_sound (ι := ι) (re := re) (fun y e u hu => hr y (by subst e; simp [Op.operands]) u hu) hl
              have h2 := evOpt_sound (ι := ι) (re := re) (fun y e u hu => hr y (by subst e; simp [Op.operands]) u hu) hh
              rw [hl, hh] at h; simp only [evOpt, hm, hx] at h
              cases l with
              | none => cases hg <;> cases h
              | some l => cases hg with
                | none => cases h
                | some hg =>
                  simp only at h
                  have h3 := hr mo (by simp [Op.operands]) m hm
                  cases lo with
                  | none => cases h1
                  | some lo => cases hi with
                    | none => cases h2
                    | some hi =>
                      cases h1 with | some h1 =>
                      cases h2 with | some h2 =>
                      exact lift (slice3_sound h (hr x (by simp [Op.operands]) u hx) h1 h2 h3)
    | none => cases hx : ρ x with
      | none => rw [hx] at h; cases h
      | some u => cases hl : evOpt ρ lo with
        | none => rw [hx, hl] at h; cases h
        | some l => cases hh : evOpt ρ hi with
          | none => rw [hx, hl, hh] at h; cases h
          | some hg =>
            rw [hx, hl, hh] at h
            have h1 := evOpt_sound (ι := ι) (re := re) (fun y e u hu => hr y (by subst e; simp [Op.operands]) u hu) hl
            have h2 := evOpt_sound (ι := ι) (re := re) (fun y e u hu => hr y (by subst e; simp [Op.operands]) u hu) hh
            exact lift (slice_sound h (hr x (by simp [Op.operands]) u hx) h1 h2)
  case fieldAddr s x f =>
    cases hx : ρ x with
    | none => rw [hx] at h; cases h
    | some u => rw [hx] at h; exact lift (fieldAddr_sound h (hr x (by simp [Op.operands]) u hx))
  case field t x f =>
    cases hx : ρ x with
    | none => rw [hx] at h; cases h
    | some u => rw [hx] at h; exact lift (field_sound h (hr x (by simp [Op.operands]) u hx))
  case indexAddr t x ix =>
    cases hx : ρ x with
    | none => rw [hx] at h; cases h
    | some u => cases hy : ρ ix with
      | none => rw [hx, hy] at h; cases h
      | some u' => rw [hx, hy] at h; exact lift (indexAddr_sound h (hr x (by simp [Op.operands]) u hx) (hr ix (by simp [Op.operands]) u' hy))
  case index t x ix =>
    cases hx : ρ x with
    | none => rw [hx] at h; cases h
    | some u => cases hy : ρ ix with
      | none => rw [hx, hy] at h; cases h
      | some u' => rw [hx, hy] at h; exact lift (index_sound h (hr x (by simp [Op.operands]) u hx) (hr ix (by simp [Op.operands]) u' hy))
  case extract x i =>
    cases hx : ρ x with
    | none => rw [hx] at h; cases h
    | some u =>
      rw [hx] at h
      cases u <;> simp only at h <;> try (cases h; done)
      rename_i vs
      obtain ⟨ds, e, hd⟩ := (hr x (by simp [Op.operands]) _ hx).tuple_inv
      obtain ⟨b, hb, hbv⟩ := hd.get h
      rw [Array.getElem?_toList] at hb
      exact ⟨b, hbv, fun w => by simp [execOp, e, Instr.extract, hb]⟩
  case typeAssert x st d ok =>
    cases hx : ρ x with
    | none => rw [hx] at h; cases h
    | some u => rw [hx] at h; exact lift (assert_sound h (hr x (by simp [Op.operands]) u hx) st)
  case call c =>
    obtain ⟨callee, args, argTypes⟩ := c
    cases callee with
    | value f => cases h
    | invoke r m => cases h
    | builtin b =>
      have hargs : ∀ x ∈ args.toList, ∀ u, ρ x = some u → VR ι u (re x) := fun x hx u hu => hr x (by simp [Op.operands, Call.operands]; simpa using hx) u hu
      have exec : ∀ {s : Sem Value}, (∀ cs, builtin b argTypes ty cs (args.map re) = do pure (.value (← s))) → (∃ rv, VR ι v rv ∧ ∀ w, s.run P w = .ok rv w) →
          ∃ rv, VR ι v rv ∧ ∀ w, (execOp re { dst := dst, op := .call { callee := .builtin b, args := args, argTypes := argTypes }, type := ty, pos := pos, after := after, guard := guard }).run P w = .ok (.value rv) w := by
        rintro s hb ⟨rv, h1, h2⟩
        refine ⟨rv, h1, fun w => ?_⟩
        simp only [execOp, resolve, invoke, Sem.run_bind, Sem.run_pure, Result.andThen_ok]
        rw [hb]; simp [h2 w]
      cases b <;> simp only at h <;> try (cases h; done)
      · -- cap
        refine exec (fun _ => rfl) ?_
        cases hl : args.toList with
        | nil => rw [hl] at h; cases h
        | cons x rest => cases rest with
          | cons _ _ => rw [hl] at h; cases h
          | nil => cases ht : argTypes.toList with
            | nil => rw [hl, ht] at h; cases h
            | cons t ts =>
              rw [hl, ht] at h; simp only at h
              have ea : args = #[x] := by rw [← Array.toArray_toList (xs := args), hl]
              have et : argTypes[0]? = some t := by rw [← Array.getElem?_toList, ht]; rfl
              subst ea
              cases hx : ρ x with
              | none => rw [hx] at h; cases h
              | some u => cases hu : P.underlying t with
                | none => rw [hx, hu] at h; split at h <;> first | (cases h; done) | (rename_i e _; cases e; done) | (rename_i e; cases e; done)
                | some d =>
                  rw [hx, hu] at h
                  have hv := hargs x (by simp) u hx
                  split at h
                  · rename_i a n c e heq1 heq2; cases heq1; cases heq2; cases h
                    cases hh : re x <;> rw [hh] at hv <;> cases hv
                    · exact ⟨_, .int _ _, fun w => by simp [Builtin.cap_, et, run_underlying hu, hh, goInt]⟩
                    · subst_vars; exact ⟨_, .int _ _, fun w => by simp [Builtin.cap_, et, run_underlying hu, hh, goInt]⟩
                  · cases h
      · -- len
        refine exec (fun _ => rfl) ?_
        cases hl : args.toList with
        | nil => rw [hl] at h; cases h
        | cons x rest => cases rest with
          | cons _ _ => rw [hl] at h; cases h
          | nil => cases ht : argTypes.toList with
            | nil => rw [hl, ht] at h; cases h
            | cons t ts =>
              rw [hl, ht] at h; simp only at h
              have ea : args = #[x] := by rw [← Array.toArray_toList (xs := args), hl]
              have et : argTypes[0]? = some t := by rw [← Array.getElem?_toList, ht]; rfl
              subst ea
              cases hx : ρ x with
              | none => rw [hx] at h; cases h
              | some u => cases hu : P.underlying t with
                | none => rw [hx, hu] at h; split at h <;> first | (cases h; done) | (rename_i e _; cases e; done) | (rename_i e; cases e; done)
                | some d =>
                  rw [hx, hu] at h
                  have hv := hargs x (by simp) u hx
                  split at h
                  · rename_i s heq1 heq2; cases heq1; cases heq2; cases h
                    obtain ⟨bs, e, rfl⟩ := hv.str_inv
                    refine ⟨_, .int _ _, fun w => ?_⟩
                    simp [Builtin.len_, et, run_underlying hu, e, goInt]
                  · rename_i a n c xx e heq1 heq2; cases heq1; cases heq2; cases h
                    cases hh : re x <;> rw [hh] at hv <;> cases hv <;> exact ⟨_, .int _ _, fun w => by simp [Builtin.len_, et, run_underlying hu, hh, goInt]⟩
                  · cases h
      · -- max
        refine exec (fun _ => rfl) ?_
        cases he : evs ρ args.toList with
        | none => rw [he] at h; cases h
        | some l =>
          rw [he] at h
          have hl := evs_sound hargs he
          cases l with
          | nil => cases h
          | cons u l =>
            cases u <;> simp only at h <;> try (cases h; done)
            rename_i k n
            generalize hrl : args.toList.map re = rl at hl
            cases hl with | cons hu hr' =>
            have := hu.int_inv; subst this
            obtain ⟨k', n', h1, h2⟩ := max_sound (P := P) h hr'
            subst h1
            refine ⟨_, .int _ _, fun w => ?_⟩
            simp only [Builtin.max_, Array.toList_map, hrl]
            exact h2 w
      · -- min
        refine exec (fun _ => rfl) ?_
        cases he : evs ρ args.toList with
        | none => rw [he] at h; cases h
        | some l =>
          rw [he] at h
          have hl := evs_sound hargs he
          cases l with
          | nil => cases h
          | cons u l =>
            cases u <;> simp only at h <;> try (cases h; done)
            rename_i k n
            generalize hrl : args.toList.map re = rl at hl
            cases hl with | cons hu hr' =>
            have := hu.int_inv; subst this
            obtain ⟨k', n', h1, h2⟩ := min_sound (P := P) h hr'
            subst h1
            refine ⟨_, .int _ _, fun w => ?_⟩
            simp only [Builtin.min_, Array.toList_map, hrl]
            exact h2 w
end Go.Proofs.Ytblhpikljhholaa.NICE
