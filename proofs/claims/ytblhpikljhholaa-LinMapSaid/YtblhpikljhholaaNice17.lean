/- A region whose order is drawn: what has to be known of it. -/
import Derived.Test.YtblhpikljhholaaNice16
set_option linter.unusedVariables false
set_option linter.unusedSimpArgs false
namespace Go.Proofs.Ytblhpikljhholaa.NICE
open Go Go.RowKit

variable {P : Program}

/-- a new row of cells, wherever it comes to lie -/
theorem new_raw {ι : Inj} {o : Oper} {ρ : Operand → Option NVal} {re : Operand → Value} (hr : RelOn ι ρ re o.op.operands) {cs : List NVal} {mk : Nat → NVal} (hv : newOp P ρ o.op = some (.cells cs (.own none), mk)) :
    ∃ (c : Array Value) (e : TypeId) (rv : Nat → Value), (∀ w : World, (execOp re o).run P w = .ok (.value (rv w.heap.size)) (w.alloc (.cells c e))) ∧ VRs ι cs c.toList ∧
      ∀ (ι' : Inj) (b rb : Nat), ι' b = some (rb, 0, c.size) → VR ι' (mk b) (rv rb) := by
  obtain ⟨dst, op, ty, pos, after, guard⟩ := o
  simp only at hv hr
  cases op <;> simp only [newOp] at hv <;> try (cases hv; done)
  case alloc t =>
    cases hz : zeroOf P t with
    | none => rw [hz] at hv; cases hv
    | some z =>
      rw [hz] at hv; cases hv
      obtain ⟨i, rz, hi, hiz, hzr⟩ := zeroOf_sound (ι := ι) hz
      refine ⟨rz.cells, t, fun n => .pointer (some ⟨n, 0, none⟩), fun w => ?_, hzr.cells, fun ι' b rb e => VR.ptr (s := 0) e⟩
      simp [execOp, Instr.alloc, run_zeroValue' hi hiz, newVar, newRow]
  case box t x =>
    cases hx : ρ x with
    | none => rw [hx] at hv; cases hv
    | some v =>
      rw [hx] at hv; cases hv
      have hvx := hr x (by simp [Op.operands]) v hx
      refine ⟨(re x).cells, t, fun n => .pointer (some ⟨n, 0, none⟩), fun w => ?_, hvx.cells, fun ι' b rb e => VR.ptr (s := 0) e⟩
      simp [execOp, Instr.box, newVar, newRow]
  case buildSlice t len ps =>
    cases hu : P.underlying t with
    | none => rw [hu] at hv; cases hv
    | some d =>
      rw [hu] at hv
      cases d with
      | slice e =>
        simp only at hv
        cases hn : szOf P e with
        | none => rw [hn] at hv; cases hv
        | some n => cases hp : evParts ρ ps.toList with
          | none => rw [hn, hp] at hv; cases hv
          | some l =>
            rw [hn, hp] at hv; simp only at hv
            split at hv
            · rename_i hc
              cases hz : zeroOf P e with
              | none => rw [hz] at hv; cases hv
              | some z =>
                rw [hz] at hv; simp only at hv
                split at hv
                · rename_i hzl
                  cases hf : nfill (fun i => some (i * n, n)) (repeatCells z.cells len) l with
                  | none => rw [hf] at hv; cases hv
                  | some cs' =>
                    rw [hf] at hv; cases hv
                    obtain ⟨i, rz, hi, hiz, hzr⟩ := zeroOf_sound (ι := ι) hz
                    have hparts := evParts_sound (ι := ι) (re := re) (fun x hx u hu => hr x.2 (by simp only [Op.operands]; exact List.mem_toArray.2 (List.mem_map_of_mem hx)) u hu) hp
                    have hrl := repeat_rel hzr (by omega) len (k := len * n) (by rw [hzl])
                    obtain ⟨ds', f1, f2⟩ := fill_sound hf hrl hparts
                    refine ⟨ds', e, fun n => .slice (some ⟨n, 0, none⟩) len len, fun w => ?_, f2, fun ι' b rb q => VR.slice (s := 0) (o := 0) q (Nat.le_refl _) rfl⟩
                    have hm : (ps.map fun (i, x) => (i, re x)).toList = ps.toList.map fun p => (p.1, re p.2) := by simp
                    simp only [execOp, Instr.buildSlice, Sem.run_bind, run_underlying hu, Result.andThen_ok, run_sizeOf' hn]
                    rw [if_neg (by omega)]
                    by_cases hl0 : len * n = 0
                    · have hlen0 : len = 0 := by
                        rcases Nat.mul_eq_zero.1 hl0 with q | q
                        · exact q
                        · omega
                      subst hlen0
                      have f1' : Instr.fill (fun i => some (i * n, n)) #[] (ps.map fun (i, x) => (i, re x)).toList = some ds' := by
                        have e0 : (Array.range (0 * n)).map (fun i => rz.cells[i % rz.cells.size]!) = #[] := by apply Array.ext'; simp
                        rw [hm, ← e0]; exact f1
                      have e0 : ∀ f : Nat → Value, (Array.range 0).map f = #[] := fun f => by apply Array.ext'; simp
                      simp only [Nat.zero_mul, if_true, Sem.run_pure, Result.andThen_ok, e0, f1']
                      simp [newRow]
                    · have f1' : Instr.fill (fun i => some (i * n, n)) ((Array.range (len * n)).map fun i => rz.cells[i % rz.cells.size]!) (ps.map fun (i, x) => (i, re x)).toList = some ds' := by
                        rw [hm]; exact f1
                      simp only [hl0, if_false, Sem.run_bind, Sem.run_pure, run_zeroValue' hi hiz, Result.andThen_ok, f1']
                      simp [newRow]
                · cases hv
            · cases hv
      | _ => cases hv
  case makeSlice t l c =>
    cases hu : P.underlying t with
    | none => rw [hu] at hv; cases hv
    | some d => cases hl : ρ l with
      | none => rw [hu, hl] at hv; cases d <;> cases hv
      | some lv => cases hc : ρ c with
        | none => rw [hu, hl, hc] at hv; cases d <;> cases lv <;> cases hv
        | some cv =>
          rw [hu, hl, hc] at hv
          cases d with
          | slice e =>
            cases lv with
            | int k1 l1 =>
              cases cv with
              | int k2 c1 =>
                simp only at hv
                cases hn : szOf P e with
                | none => rw [hn] at hv; cases hv
                | some n => cases hb : bytesOf P e with
                  | none => rw [hn, hb] at hv; cases hv
                  | some by_ => cases hz : zeroOf P e with
                    | none => rw [hn, hb, hz] at hv; cases hv
                    | some z =>
                      rw [hn, hb, hz] at hv; simp only at hv
                      split at hv
                      · rename_i hcond
                        obtain ⟨c0, c1', c2, c3, c4, c5⟩ := hcond
                        cases hv
                        obtain ⟨i, rz, hi, hiz, hzr⟩ := zeroOf_sound (ι := ι) hz
                        have hn' : i.size = n := by simp only [szOf, hi] at hn; cases hn; rfl
                        have hb' : i.bytes = by_ := by simp only [bytesOf, hi] at hb; cases hb; rfl
                        have el := (hr l (by simp [Op.operands]) _ hl).int_inv
                        have ec := (hr c (by simp [Op.operands]) _ hc).int_inv
                        have w1 : IntKind.i64.wrap l1 = l1 := IntWalk.i64_in _ (by omega)
                        have w2 : IntKind.i64.wrap c1 = c1 := IntWalk.i64_in _ (by omega)
                        have hrl := repeat_rel hzr (by omega) c1.toNat (k := c1.toNat * n) (by rw [c4])
                        refine ⟨_, e, fun n => .slice (some ⟨n, 0, none⟩) l1.toNat c1.toNat, fun w => ?_, hrl, fun ι' b rb q => VR.slice (s := 0) (o := 0) q (by omega) rfl⟩
                        have ht : (decide (c1 < 0) || decide ((by_ : Int) * c1 > 2 ^ 48)) = false := by
                          have : (by_ : Int) * c1 ≤ 1099511627776 := by rw [Int.mul_comm]; exact c2
                          simp; omega
                        have hl0 : decide (l1 < 0) = false := by simp; omega
                        have hlc : decide (l1 > c1) = false := by simp; omega
                        simp only [execOp, Instr.makeSlice, Sem.run_bind, run_underlying hu, Result.andThen_ok, el, ec, asInt, asIntOf, Sem.run_pure, typeInfo, run_program, hi, w1, w2, hb', ht, hl0, hlc, Bool.or_self, Bool.false_eq_true, if_false, run_askRoom, sizeOf, hn']
                        by_cases hc0 : c1.toNat * n = 0
                        · rw [if_pos hc0]
                          have e0 : ∀ f : Nat → Value, (Array.range (c1.toNat * n)).map f = #[] := fun f => by apply Array.ext'; simp [hc0]
                          simp only [Sem.run_pure, Result.andThen_ok, e0]
                          simp [newRow]
                        · rw [if_neg hc0]
                          simp only [Sem.run_bind, Sem.run_pure, run_zeroValue' hi hiz, Result.andThen_ok]
                          simp [newRow]
                      · cases hv
              | _ => cases hv
            | _ => cases hv
          | _ => cases hv
  case makeMap t r => cases r <;> cases hv

/-! ### What is known of such a region, worked out in the order of the text -/

inductive Cls where
  | skip
  | val
  | eff (k : Nat)
  /-- a row of cells of its own, under a number kept for it -/
  | flt (id : Nat) (cs : List NVal)

abbrev Float3 := Nat × Nat × List NVal

def adoptAll (h : NHeap) (l : List Float3) : NHeap := l.foldl (fun h x => h.set x.2.1 (.cells x.2.2 (.own none))) h

/-- the temporaries that an operation reads -/
def looks (ops : Array Oper) (o : Oper) : List Tmp :=
  (o.op.operands.toList.filterMap fun | .tmp t => some t | _ => none) ++ (match o.guard with | some (j, _) => ((ops[j]?).bind (·.dst)).toList | none => [])

structure Dr where
  M : Nat → Nat
  tsAt : Nat → List NVal
  val : Nat → NVal
  cls : Nat → Cls
  H : Nat → NHeap
  m : Nat
  L : Nat → List Float3

structure DrOk (P : Program) (ops : Array Oper) (ts0 : List NVal) (h0 : NHeap) (d : Dr) : Prop where
  edges : ∀ (j : Nat) o, ops[j]? = some o → ∀ e ∈ o.after, Region.binds .any e = true → e.on < j
  masks : ∀ (j i : Nat) o, ops[j]? = some o → (d.M j).testBit i = true → ∃ e ∈ o.after, Region.binds .any e = true ∧ (e.on = i ∨ (d.M e.on).testBit i = true)
  temps : ∀ (i j : Nat) oi oj, i < j → ops[i]? = some oi → ops[j]? = some oj → ∀ t, (oi.dst = some t ∧ (t ∈ looks ops oj ∨ oj.dst = some t)) ∨ (oj.dst = some t ∧ t ∈ looks ops oi) → (d.M j).testBit i = true
  start : d.tsAt 0 = ts0
  next : ∀ (i : Nat) o, ops[i]? = some o → d.tsAt (i + 1) = nput (d.tsAt i) o.dst (d.val i)
  skip : ∀ (i : Nat) o, ops[i]? = some o → d.cls i = .skip → nwanted ops o (d.tsAt i) = some false ∧ d.val i = nundef
  run : ∀ (i : Nat) o, ops[i]? = some o → d.cls i ≠ .skip → nwanted ops o (d.tsAt i) = some true
  vals : ∀ (i : Nat) o, ops[i]? = some o → d.cls i = .val → ∀ k, k ≤ d.m → (∀ j k', d.cls j = .eff k' → j < ops.size → (d.M i).testBit j = true → k' ≤ k) → (∀ j k', d.cls j = .eff k' → j < ops.size → (d.M j).testBit i = true → k < k') →
    SimR P o (ev (d.tsAt i)) (d.H k) (d.val i)
  effs : ∀ (i : Nat) o k, ops[i]? = some o → d.cls i = .eff k → 1 ≤ k ∧ k ≤ d.m ∧ SimO P o (ev (d.tsAt i)) (adoptAll (d.H (k - 1)) (d.L k)) (d.val i) (d.H k) ∧ (adoptAll (d.H (k - 1)) (d.L k)).next ≤ (d.H k).next
  chain : ∀ (i j k k' : Nat), i < ops.size → j < ops.size → d.cls i = .eff k → d.cls j = .eff k' → k < k' → (d.M j).testBit i = true
  uniq : ∀ (i j k : Nat), i < ops.size → j < ops.size → d.cls i = .eff k → d.cls j = .eff k → i = j
  all : ∀ k, 1 ≤ k → k ≤ d.m → ∃ i, i < ops.size ∧ d.cls i = .eff k
  flts : ∀ (i : Nat) o id cs, ops[i]? = some o → d.cls i = .flt id cs → h0.next ≤ id ∧ id < (d.H 0).next ∧ ∃ mk, newOp P (ev (d.tsAt i)) o.op = some (.cells cs (.own none), mk) ∧ d.val i = mk id
  fid : ∀ (i j : Nat) id cs cs', i < ops.size → j < ops.size → d.cls i = .flt id cs → d.cls j = .flt id cs' → i = j
  fL : ∀ (i : Nat) id cs, i < ops.size → d.cls i = .flt id cs → ∃ k, 1 ≤ k ∧ k ≤ d.m + 1 ∧ (i, id, cs) ∈ d.L k
  Lok : ∀ k (i : Nat) id cs, (i, id, cs) ∈ d.L k → d.cls i = .flt id cs ∧ i < ops.size ∧ (k ≤ d.m → ∀ j, j < ops.size → d.cls j = .eff k → (d.M j).testBit i = true)
  Lun : ∀ k k' x, x ∈ d.L k → x ∈ d.L k' → k = k'
  Lnd : ∀ k, (d.L k).Nodup
end Go.Proofs.Ytblhpikljhholaa.NICE
