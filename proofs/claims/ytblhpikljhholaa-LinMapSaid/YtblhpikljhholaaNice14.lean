/- One operation, a call, a region in the order of the text. -/
import Derived.Test.YtblhpikljhholaaNice13
set_option linter.unusedVariables false
set_option linter.unusedSimpArgs false
namespace Go.Proofs.Ytblhpikljhholaa.NICE
open Go Go.RowKit

/-- a call of a function comes to this value over this heap -/
def SimF (P : Program) (f : FuncId) (args : List NVal) (h : NHeap) (v : NVal) (h' : NHeap) : Prop :=
  ∀ (w0 : World) (ι : Inj) (w : World) (ra : Array Value) (R : Ending → World → Prop), Inv w0 ι h w → VRs ι args ra.toList →
    (∀ ι' w' rv, VR ι' v rv → Inv w0 ι' h' w' → Step ι h w ι' h' w' → R (.returned rv) w') → Calls P f ra w R

/-- operands as they are read, at both sides -/
def RelOn (ι : Inj) (ρ : Operand → Option NVal) (re : Operand → Value) (l : Array Operand) : Prop := ∀ x ∈ l, ∀ u, ρ x = some u → VR ι u (re x)

theorem RelOn.mono {ι ι' : Inj} (hι : ι.le ι') {ρ re l} (h : RelOn ι ρ re l) : RelOn ι' ρ re l := fun x hx u hu => (h x hx u hu).mono hι

/-- an operation comes to this value over this heap -/
def SimO (P : Program) (o : Oper) (ρ : Operand → Option NVal) (h : NHeap) (v : NVal) (h' : NHeap) : Prop :=
  ∀ (w0 : World) (ι : Inj) (w : World) (a : Act) (K : Act → World → Prop) (Q : Exit → Act → World → Prop), Inv w0 ι h w → RelOn ι ρ a.eval o.op.operands →
    (∀ ι' w' rv, VR ι' v rv → Inv w0 ι' h' w' → Step ι h w ι' h' w' → K (a.put o.dst rv) w') → o.wp P a w K Q

/-- an operation that leaves memory alone comes to this value -/
def SimR (P : Program) (o : Oper) (ρ : Operand → Option NVal) (h : NHeap) (v : NVal) : Prop :=
  ∀ (w0 : World) (ι : Inj) (w : World) (re : Operand → Value), Inv w0 ι h w → RelOn ι ρ re o.op.operands → ∃ rv, VR ι v rv ∧ (execOp re o).run P w = .ok (.value rv) w

variable {P : Program}

theorem SimR.of_pure {o : Oper} {ρ : Operand → Option NVal} {h : NHeap} {v : NVal} (e : pureOp P ρ o.op = some v) : SimR P o ρ h v := fun w0 ι w re I hr => by
  obtain ⟨rv, h1, h2⟩ := pure_sound hr e; exact ⟨rv, h1, h2 w⟩

theorem SimR.of_read {o : Oper} {ρ : Operand → Option NVal} {h : NHeap} {v : NVal} (e : readOp P ρ h o.op = some v) : SimR P o ρ h v := fun w0 ι w re I hr => read_sound I hr e

theorem SimR.simO {o : Oper} {ρ : Operand → Option NVal} {h : NHeap} {v : NVal} (s : SimR P o ρ h v) : SimO P o ρ h v h := fun w0 ι w a K Q I hr hK => by
  obtain ⟨rv, h1, h2⟩ := s w0 ι w a.eval I hr
  unfold Oper.wp
  rw [h2]
  exact hK ι w rv h1 I (Step.refl _ _ _)

theorem SimO.of_new {o : Oper} {ρ : Operand → Option NVal} {h : NHeap} {ob : NObj} {mk : Nat → NVal} (e : newOp P ρ o.op = some (ob, mk)) : SimO P o ρ h (mk h.next) (h.alloc ob) := fun w0 ι w a K Q I hr hK => by
  obtain ⟨ι', w', rv, h1, h2, h3, h4, _⟩ := new_sound I hr e
  unfold Oper.wp
  rw [h1]
  exact hK ι' w' rv h2 h3 h4

theorem SimO.of_eff {o : Oper} {ρ : Operand → Option NVal} {h h' : NHeap} {v : NVal} (e : effOp P ρ h o.op = some (v, h')) : SimO P o ρ h v h' := fun w0 ι w a K Q I hr hK => by
  obtain ⟨ι', w', nx, rv, h1, hn, h2, h3, h4⟩ := eff_sound I hr e
  unfold Oper.wp
  rw [h1]
  rcases hn with rfl | ⟨rfl, rfl⟩
  · exact hK ι' w' rv h2 h3 h4
  · exact hK ι' w' undef h2 h3 h4

/-! ### Calls -/

/-- what is called, and with what -/
def ncall (P : Program) (ρ : Operand → Option NVal) (h : NHeap) (c : Call) : Option (FuncId × List NVal) :=
  match c.callee with
  | .value f => (match ρ f with
    | some (.func (.func g) first cap) => (match evs ρ c.args.toList with | some as => some (g, first ++ as ++ cap) | none => none)
    | _ => none)
  | .invoke r name => (match ρ r with
    | some (.iface t v) => (match evs ρ c.args.toList, P.info? t with
      | some as, some i => (match i.methods.find? (·.name == name) with
        | some m => if m.path.isEmpty then (match m.func, P.underlying t with
          | some (f, true), some (.pointer _) => some (f, v :: as)
          | some (f, false), some (.pointer e) => (match v with
            | .ptr (some a) => (match nload P e a h with | some u => some (f, u :: as) | none => none)
            | _ => none)
          | _, _ => none) else none
        | none => none)
      | _, _ => none)
    | _ => none)
  | .builtin _ => none

/-- it is a function with a body that the model enters -/
def Enters (P : Program) (f : FuncId) : Prop := ∀ args w, (callFunc f args).run P w = .ok (.enter f args) w

theorem run_nilchk (ts : Array TypeId) (t : TypeId) (a : Addr) (x y : ByteArray) (w : World) : (Builtin.ssaWrapNilChk_ ts t #[.pointer (some a), .string x, .string y]).run P w = .ok (.pointer (some a)) w := rfl

/-- a call of this function comes to this value over this heap: it is entered, or it answers at once -/
def Does (P : Program) (f : FuncId) (as : List NVal) (h : NHeap) (v : NVal) (h' : NHeap) : Prop :=
  (Enters P f ∧ SimF P f as h v h') ∨ (h' = h ∧ ∀ (w0 : World) (ι : Inj) (w : World) (ra : Array Value), Inv w0 ι h w → VRs ι as ra.toList → ∃ rv, VR ι v rv ∧ (callFunc f ra).run P w = .ok (.value rv) w)

theorem call_sound {o : Oper} {c : Call} (ho : o.op = .call c) {ρ : Operand → Option NVal} {h h' : NHeap} {f : FuncId} {as : List NVal} {v : NVal} (e : ncall P ρ h c = some (f, as)) (hd : Does P f as h v h') : SimO P o ρ h v h' := by
  intro w0 ι w a K Q I hr hK
  have enter : ∀ ra : Array Value, VRs ι as ra.toList → (execOp a.eval o).run P w = (callFunc f ra).run P w → o.wp P a w K Q := by
    intro ra hra hx
    unfold Oper.wp
    rw [hx]
    rcases hd with ⟨hf, hs⟩ | ⟨rfl, hg⟩
    · rw [hf ra w]
      exact hs w0 ι w ra _ I hra fun ι' w' rv h1 h2 h3 => hK ι' w' rv h1 h2 h3
    · obtain ⟨rv, h1, h2⟩ := hg w0 ι w ra I hra
      rw [h2]
      exact hK ι w rv h1 I (Step.refl _ _ _)
  obtain ⟨callee, args, argTypes⟩ := c
  have hargs : ∀ l, evs ρ args.toList = some l → VRs ι l (args.map a.eval).toList := by
    intro l hl
    have := evs_sound (ι := ι) (re := a.eval) (fun x hx u hu => hr x (by rw [ho]; simp only [Op.operands, Call.operands]; simp; exact .inr (by simpa using hx)) u hu) hl
    simpa using this
  unfold ncall at e
  cases callee with
  | builtin b => cases e
  | value g =>
    simp only at e
    cases hg : ρ g with
    | none => rw [hg] at e; cases e
    | some u =>
      rw [hg] at e
      cases u with
      | func fn first cap => cases fn with
        | func g' =>
          simp only at e
          cases hl : evs ρ args.toList with
          | none => rw [hl] at e; cases e
          | some l =>
            rw [hl] at e; cases e
            obtain ⟨rf, rc, e1, r1, r2⟩ := (hr g (by rw [ho]; simp [Op.operands, Call.operands]) _ hg).func_inv
            refine enter (rf ++ args.map a.eval ++ rc) ?_ ?_
            · simp only [Array.toList_append]; exact (r1.append (hargs l hl)).append r2
            · obtain ⟨dst, op, ty, pos, after, guard⟩ := o
              simp only at ho; subst ho
              simp only [execOp, resolve, e1, Deferred.ofValue, Sem.run_bind, Sem.run_pure, Result.andThen_ok, invoke]
        | _ => cases e
      | _ => cases e
  | invoke r name =>
    simp only at e
    cases hrr : ρ r with
    | none => rw [hrr] at e; cases e
    | some u =>
      rw [hrr] at e
      cases u with
      | iface t x =>
        simp only at e
        cases hl : evs ρ args.toList with
        | none => rw [hl] at e; cases e
        | some l => cases hi : P.info? t with
          | none => rw [hl, hi] at e; cases e
          | some i =>
            rw [hl, hi] at e; simp only at e
            cases hm : i.methods.find? (·.name == name) with
            | none => rw [hm] at e; cases e
            | some m =>
              rw [hm] at e; simp only at e
              split at e
              · rename_i hp
                have hpath : m.path.toList = [] := by simpa using hp
                have hvx := hr r (by rw [ho]; simp [Op.operands, Call.operands]) _ hrr
                generalize hrv : a.eval r = rr at hvx
                cases hvx with
                | iface hx =>
                  rename_i rx
                  -- the method is found
                  have go : ∀ f' pr recv, m.func = some (f', pr) → (receiverAt t (.val rx) pr (some ((name.splitOn ".").getLastD name))).run P w = .ok recv w →
                      (execOp a.eval o).run P w = (callFunc f' (#[recv] ++ args.map a.eval)).run P w := by
                    intro f' pr recv hmf hrec
                    obtain ⟨dst, op, ty, pos, after, guard⟩ := o
                    simp only at ho; subst ho
                    have hmeth : ∀ n, (method (n + 1) t rx name).run P w = .ok (f', recv) w := by
                      intro n
                      unfold method
                      simp only [Sem.run_bind, typeInfo, run_program, Result.andThen_ok, hi, Sem.run_pure, hm, hpath, follow]
                      rw [hmf]
                      simp only [hp, if_true, Sem.run_bind, Sem.run_pure]
                      rw [hrec]; rfl
                    have hdep : P.types.size + Made.depth = (P.types.size + Made.depth - 1) + 1 := by
                      have : 0 < Made.depth := by decide
                      omega
                    simp only [execOp, resolve, invoke, Sem.run_bind, Sem.run_pure, Result.andThen_ok, hrv]
                    have hext : (#[Value.iface t rx] ++ args.map a.eval).extract 1 = args.map a.eval := by
                      apply Array.ext'; simp; exact List.take_of_length_le (by simp)
                    have h0 : (#[Value.iface t rx] ++ args.map a.eval)[0]? = some (Value.iface t rx) := by rw [Array.getElem?_append_left (by simp)]; rfl
                    rw [h0, hext]
                    simp only [callMethod, Sem.run_bind, run_program, Result.andThen_ok]
                    rw [hdep, hmeth]
                    rfl
                  cases hmf : m.func with
                  | none => rw [hmf] at e; cases e
                  | some fp =>
                    obtain ⟨f', pr⟩ := fp
                    rw [hmf] at e
                    cases hu : P.underlying t with
                    | none => rw [hu] at e; cases pr <;> cases e
                    | some td =>
                      rw [hu] at e
                      cases pr with
                      | true =>
                        cases td with
                        | pointer el =>
                          cases e
                          refine enter (#[rx] ++ args.map a.eval) ?_ (go _ _ rx hmf ?_)
                          · simp only [Array.toList_append]; exact .cons hx (hargs l hl)
                          · simp [receiverAt, run_underlying hu, Place.get]
                        | _ => cases e
                      | false =>
                        cases td with
                        | pointer el =>
                          simp only at e
                          cases x with
                          | ptr ap => cases ap with
                            | none => cases e
                            | some ap =>
                              obtain ⟨b, off⟩ := ap
                              simp only at e
                              cases hld : nload P el (b, off) h with
                              | none => rw [hld] at e; cases e
                              | some u =>
                                rw [hld] at e; cases e
                                obtain ⟨ru, hru, hrl⟩ := load_sound (P := P) I hld hx
                                obtain ⟨rb, s, mm, hι, e2⟩ := hx.ptr_inv
                                refine enter (#[ru] ++ args.map a.eval) ?_ (go _ _ ru hmf ?_)
                                · simp only [Array.toList_append]; exact .cons hru (hargs l hl)
                                · subst e2
                                  have hlv : (loadVar el ⟨rb, s + off, none⟩).run P w = .ok ru w := by
                                    simpa [Instr.loadAt, Instr.sureAddr] using hrl
                                  simp only [receiverAt, Sem.run_bind, run_underlying hu, Result.andThen_ok, Place.get, Sem.run_pure, run_nilchk, asAddr, hlv, strVal]
                          | _ => cases e
                        | _ => cases e
              · cases e
      | _ => cases e
end Go.Proofs.Ytblhpikljhholaa.NICE
