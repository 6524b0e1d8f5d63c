/- Stores; new blocks. -/
import Derived.Test.YtblhpikljhholaaNice9
import Derived.IntWalk
set_option linter.unusedVariables false
set_option linter.unusedSimpArgs false
namespace Go.Proofs.Ytblhpikljhholaa.NICE
open Go Go.RowKit

variable {P : Program} {w0 w : World} {ι : Inj} {h : NHeap}

theorem run_storeCells_fz (P : Program) (g o : Nat) (t : TypeId) (fz : Nat × Nat) : ∀ (vs : List Value) (i : Nat) (cur : Array Value) (w : World), w.heap[g]? = some (.cells cur t fz) → (∀ k, k < cur.size → ¬ (fz.1 ≤ k ∧ k < fz.2)) →
    o + i + vs.length ≤ cur.size → (∀ v ∈ vs, v.oneCell' = true) →
    (storeCells ⟨g, o, none⟩ vs i).run P w = .ok () (w.setRow g (cur.toList.take (o + i) ++ vs ++ cur.toList.drop (o + i + vs.length)).toArray)
  | [], i, cur, w, hg, _, _, _ => by
    simp only [storeCells, List.append_nil, List.length_nil, Nat.add_zero, List.take_append_drop, Array.toArray_toList]
    rw [setRow_self w g cur t fz hg]
    rfl
  | v :: rest, i, cur, w, hg, hf, hl, h1 => by
    have hi : o + i < cur.size := by simp at hl; omega
    have hcell : w.cell? ⟨g, o + i, none⟩ = some cur[o + i] := by simp [World.cell?, hg, hi]
    have hfro : w.frozen? ⟨g, o + i, none⟩ = false := by
      have := hf (o + i) hi
      simp only [World.frozen?, hg]
      by_cases q : fz.1 ≤ o + i
      · have : ¬ (o + i < fz.2) := fun r => this ⟨q, r⟩
        simp [q, this]
      · simp [q]
    have hst : (store ((⟨g, o, none⟩ : Addr).add i) v).run P w = .ok () (w.setRow g (cur.setIfInBounds (o + i) v)) := by
      rw [add_at, run_store P w _ v _ (h1 v (by simp)), hcell]
      simp [hfro, setCell_eq_setRow w g (o + i) cur t fz v hg]
    have ih := run_storeCells_fz P g o t fz rest (i + 1) (cur.setIfInBounds (o + i) v) (w.setRow g (cur.setIfInBounds (o + i) v)) (setRow_heap w g cur _ t _ hg) (by simpa using hf) (by simp at hl ⊢; omega) (fun x hx => h1 x (by simp [hx]))
    simp only [storeCells, Sem.run_bind, hst, Result.andThen_ok, ih, setRow_setRow]
    congr 3
    have e := list_seg_step cur.toList (o + i) v rest (by simp at hl ⊢; omega)
    simpa [Array.toList_setIfInBounds, Nat.add_assoc] using e

theorem allOne_sound : ∀ {cs : List NVal} {rs : List Value}, allOne cs = true → VRs ι cs rs → ∀ v ∈ rs, v.oneCell' = true
  | _, _, _, .nil => by simp
  | u :: cs, r :: rs, ha, .cons hu hr => by
    simp only [allOne, Bool.and_eq_true] at ha
    intro v hv
    rcases List.mem_cons.1 hv with rfl | hv
    · exact hu.one ha.1
    · exact allOne_sound ha.2 hr v hv

/-- a stretch of cells written over, at both sides -/
theorem seg_rel {cs vs : List NVal} {us : List Value} {c : Array Value} {s o : Nat} (hc : ∀ (i : Nat) v, cs[i]? = some v → ∃ r, c[s + i]? = some r ∧ VR ι v r) (hu : VRs ι vs us) (hl : o + vs.length ≤ cs.length)
    (hs : s + cs.length ≤ c.size) : ∀ (i : Nat) v, (setRange cs o vs)[i]? = some v → ∃ r, (c.toList.take (s + o) ++ us ++ c.toList.drop (s + o + us.length)).toArray[s + i]? = some r ∧ VR ι v r := by
  intro i v hi
  have hlen := hu.length
  unfold setRange at hi
  have lt : (cs.take o).length = o := by simp; omega
  have lt' : (c.toList.take (s + o)).length = s + o := by simp; omega
  rw [List.getElem?_toArray]
  by_cases h1 : i < o
  · rw [List.getElem?_append_left (by simp; omega), List.getElem?_append_left (by omega), List.getElem?_take, if_pos h1] at hi
    obtain ⟨r, hr, hv⟩ := hc i v hi
    refine ⟨r, ?_, hv⟩
    rw [List.getElem?_append_left (by simp; omega), List.getElem?_append_left (by omega), List.getElem?_take, if_pos (by omega)]
    simpa using hr
  · by_cases h2 : i < o + vs.length
    · rw [List.getElem?_append_left (by simp; omega), List.getElem?_append_right (by omega), lt] at hi
      obtain ⟨r, hr, hv⟩ := hu.get hi
      refine ⟨r, ?_, hv⟩
      rw [List.getElem?_append_left (by simp; omega), List.getElem?_append_right (by omega), lt']
      rw [show s + i - (s + o) = i - o by omega]; exact hr
    · rw [List.getElem?_append_right (by simp; omega)] at hi
      simp only [List.length_append, lt, List.getElem?_drop] at hi
      rw [show o + vs.length + (i - (o + vs.length)) = i by omega] at hi
      obtain ⟨r, hr, hv⟩ := hc i v hi
      refine ⟨r, ?_, hv⟩
      rw [List.getElem?_append_right (by simp; omega)]
      simp only [List.length_append, lt', List.getElem?_drop]
      rw [show s + o + us.length + (s + i - (s + o + us.length)) = s + i by omega]
      simpa using hr

theorem setRange_length {cs vs : List NVal} {o : Nat} (hl : o + vs.length ≤ cs.length) : (setRange cs o vs).length = cs.length := by
  unfold setRange; simp; omega

theorem seg_size {us : List Value} {c : Array Value} {k : Nat} (hl : k + us.length ≤ c.size) : (c.toList.take k ++ us ++ c.toList.drop (k + us.length)).toArray.size = c.size := by
  simp; omega

theorem seg_one {us : List Value} {c : Array Value} {k n : Nat} (h : ∀ v ∈ us, v.oneCell' = true) (i : Nat) (r : Value) (hr : (c.toList.take k ++ us ++ c.toList.drop n).toArray[i]? = some r) (hn : n = k + us.length := by rfl) (hk : k ≤ c.size := by omega) :
    c[i]? = some r ∨ r.oneCell' = true := by
  subst hn
  rw [List.getElem?_toArray] at hr
  by_cases h1 : i < k
  · rw [List.append_assoc, List.getElem?_append_left (by simp; omega), List.getElem?_take, if_pos h1] at hr
    exact .inl (by simpa using hr)
  · by_cases h2 : i < k + us.length
    · rw [List.append_assoc, List.getElem?_append_right (by simp; omega), List.getElem?_append_left (by simp; omega)] at hr
      exact .inr (h _ (List.mem_of_getElem? hr))
    · rw [List.getElem?_append_right (by simp; omega), List.getElem?_drop] at hr
      refine .inl ?_
      simp only [List.length_append, List.length_take, Array.length_toList] at hr
      rw [show k + us.length + (i - (min k c.size + us.length)) = i by omega] at hr
      simpa using hr

/-- a stretch of a block of one's own is written -/
theorem Inv.write (I : Inv w0 ι h w) {b : Nat} {cs vs : List NVal} {us : List Value} {t : Option (TypeId × Nat)} (hb : h.get b = some (.cells cs (.own t))) {rb s m o : Nat} (hι : ι b = some (rb, s, m)) (hu : VRs ι vs us) (h1 : allOne vs = true) (hl : o + vs.length ≤ cs.length) :
    ∃ w', (storeCells ⟨rb, s + o, none⟩ us 0).run P w = .ok () w' ∧ Inv w0 ι (h.set b (.cells (setRange cs o vs) (.own t))) w' ∧ Step ι h w ι (h.set b (.cells (setRange cs o vs) (.own t))) w' := by
  obtain ⟨rb1, s1, m1, c, e, fz, q1, q2, q3, q4, q5, q6, q7⟩ := I.cells b cs hb
  rw [hι] at q1; cases q1
  have hlen := hu.length
  have hrun := run_storeCells_fz P rb (s + o) e fz us 0 c w q3 q6 (by omega) (allOne_sound h1 hu)
  simp only [Nat.add_zero] at hrun
  obtain ⟨I', S'⟩ := I.setRow (cs' := setRange cs o vs) (c' := (c.toList.take (s + o) ++ us ++ c.toList.drop (s + o + us.length)).toArray) hb hι q3 (seg_size (by omega)) (fun i r hr => seg_one (allOne_sound h1 hu) i r hr) (by rw [setRange_length hl]; exact q5)
    (seg_rel q7 hu hl (by omega))
  exact ⟨_, hrun, I', S'⟩

theorem store_sound (I : Inv w0 ι h w) {t : TypeId} {b o : Nat} {v : NVal} {h' : NHeap} (hs : nstore P t (b, o) v h = some h') {rx rv : Value} (hx : VR ι (.ptr (some (b, o))) rx) (hv : VR ι v rv) :
    ∃ w', (Instr.storeAt t rx rv).run P w = .ok () w' ∧ Inv w0 ι h' w' ∧ Step ι h w ι h' w' := by
  obtain ⟨rb, s, m, hι, rfl⟩ := hx.ptr_inv
  unfold nstore at hs
  cases hn : szOf P t with
  | none => simp only [hn] at hs; cases hs
  | some n => cases hg : h.get b with
    | none => simp only [hn, hg] at hs; cases hs
    | some ob =>
      simp only [hn, hg] at hs
      cases ob with
      | map es => cases hs
      | dead => cases hs
      | cells cs mine =>
        cases mine with
        | ro => cases hs
        | own q =>
          simp only at hs
          split at hs
          · rename_i hc; obtain ⟨c1, c2, c3⟩ := hc; cases hs
            have hvc := hv.cells
            obtain ⟨w', r1, r2, r3⟩ := I.write (P := P) hg hι hvc c3 (o := o) (by omega)
            refine ⟨w', ?_, r2, r3⟩
            have hsz : rv.cells.size = n := by have := hvc.length; simp at this; omega
            simp only [Instr.storeAt, Instr.sureAddr, Sem.run_bind, Sem.run_pure, Result.andThen_ok, storeVar, run_sizeOf' hn]
            rw [if_neg (by omega)]
            simpa using r1
          · cases hs

/-! ### New blocks -/

theorem repeat_length {z : List NVal} : ∀ n, (repeatCells z n).length = n * z.length
  | 0 => by simp [repeatCells]
  | n + 1 => by simp [repeatCells, repeat_length n]; rw [Nat.add_mul]; omega

theorem repeat_get {z : List NVal} (hz : 0 < z.length) : ∀ (n i : Nat), i < n * z.length → (repeatCells z n)[i]? = z[i % z.length]?
  | 0, i, h => by simp at h
  | n + 1, i, h => by
    rw [Nat.add_mul] at h
    unfold repeatCells
    by_cases hi : i < z.length
    · rw [List.getElem?_append_left hi, Nat.mod_eq_of_lt hi]
    · rw [List.getElem?_append_right (by omega), repeat_get hz n _ (by omega)]
      congr 1
      rw [Nat.mod_eq_sub_mod (by omega : i ≥ z.length)]

theorem repeat_rel {z : NVal} {rz : Value} (hz : VR ι z rz) (h0 : 0 < z.cells.length) (n : Nat) {k : Nat} (hk : k = n * z.cells.length) :
    VRs ι (repeatCells z.cells n) ((Array.range k).map fun i => rz.cells[i % rz.cells.size]!).toList := by
  subst hk
  have hl := hz.cells.length
  have hlc : z.cells.length = rz.cells.size := by simpa using hl
  refine .of_get (by simp [repeat_length]) fun i a b ha hb => ?_
  have hi : i < n * z.cells.length := by
    have := (List.getElem?_eq_some_iff.1 ha).1; rwa [repeat_length] at this
  rw [repeat_get h0 n i hi] at ha
  obtain ⟨r, hr, hv⟩ := hz.cells.get ha
  have hlt : i % z.cells.length < rz.cells.size := by rw [← hlc]; exact Nat.mod_lt _ h0
  have e : b = rz.cells[i % rz.cells.size]! := by
    have hb' : ∃ a, (List.range (n * z.cells.length))[i]? = some a ∧ rz.cells[a % rz.cells.size]! = b := by simpa using hb
    obtain ⟨a', ha', e'⟩ := hb'
    rw [List.getElem?_range hi] at ha'
    cases ha'; exact e'.symm
  rw [e, ← hlc, getElem!_pos rz.cells _ hlt]
  rw [Array.getElem?_toList, getElem?_pos rz.cells _ hlt] at hr
  cases hr; exact hv

theorem get_of_VRs {cs : List NVal} {c : Array Value} (hc : VRs ι cs c.toList) : ∀ (i : Nat) v, cs[i]? = some v → ∃ r, c[i]? = some r ∧ VR ι v r := fun i v hi => by
  obtain ⟨r, hr, hv⟩ := hc.get hi; exact ⟨r, by simpa using hr, hv⟩

theorem new_cells (I : Inv w0 ι h w) {cs : List NVal} {c : Array Value} {e : TypeId} {w' : World} (p : Pushed w (.cells c e) w') (hc : VRs ι cs c.toList) {t : Option (TypeId × Nat)} (ht : t = none ∨ t = some (e, c.size)) :
    Inv w0 (ι.upd h.next (w.heap.size, 0, c.size)) (h.alloc (.cells cs (.own t))) w' ∧ Step ι h w (ι.upd h.next (w.heap.size, 0, c.size)) (h.alloc (.cells cs (.own t))) w' :=
  I.push p c.size (fun cs' t' e' => by cases e'; exact ⟨c, e, (0, 0), rfl, Nat.le_refl _, by have := hc.length; simp at this; omega, by simp, get_of_VRs hc⟩) (fun _ q => by cases q) (fun _ q => by cases q) (fun cs' T k q => by cases q; rcases ht with ht | ht <;> cases ht; exact ⟨c, rfl, rfl, .inr rfl, fun h0 i r hr => by rw [Array.getElem?_eq_none (by omega)] at hr; cases hr⟩)

theorem new_sound (I : Inv w0 ι h w) {o : Oper} {ρ : Operand → Option NVal} {re : Operand → Value} (hr : ∀ x ∈ o.op.operands, ∀ u, ρ x = some u → VR ι u (re x)) {ob : NObj} {mk : Nat → NVal} (hv : newOp P ρ o.op = some (ob, mk)) :
    ∃ ι' w' rv, (execOp re o).run P w = .ok (.value rv) w' ∧ VR ι' (mk h.next) rv ∧ Inv w0 ι' (h.alloc ob) w' ∧ Step ι h w ι' (h.alloc ob) w' ∧
      (∃ m, ι' = ι.upd h.next (w.heap.size, 0, m)) ∧ ob.owned = true ∧ ∃ o', Pushed w o' w' := by
  obtain ⟨dst, op, ty, pos, after, guard⟩ := o
  simp only at hv hr
  cases op <;> simp only [newOp] at hv <;> try (cases hv; done)
  case alloc t =>
    cases hz : zeroOf P t with
    | none => rw [hz] at hv; cases hv
    | some z =>
      rw [hz] at hv; cases hv
      obtain ⟨i, rz, hi, hiz, hzr⟩ := zeroOf_sound (ι := ι) hz
      obtain ⟨I', S'⟩ := new_cells I (Pushed.alloc w (.cells rz.cells t)) hzr.cells (.inl rfl)
      refine ⟨_, _, .pointer (some ⟨w.heap.size, 0, none⟩), ?_, .ptr (by simp; rfl), I', S', ⟨_, rfl⟩, rfl, _, Pushed.alloc _ _⟩
      simp [execOp, Instr.alloc, run_zeroValue' hi hiz, newVar, newRow]
  case box t x =>
    cases hx : ρ x with
    | none => rw [hx] at hv; cases hv
    | some v =>
      rw [hx] at hv; cases hv
      have hvx := hr x (by simp [Op.operands]) v hx
      obtain ⟨I', S'⟩ := new_cells I (Pushed.alloc w (.cells (re x).cells t)) hvx.cells (.inl rfl)
      refine ⟨_, _, .pointer (some ⟨w.heap.size, 0, none⟩), ?_, .ptr (by simp; rfl), I', S', ⟨_, rfl⟩, rfl, _, Pushed.alloc _ _⟩
      simp [execOp, Instr.box, newVar, newRow]
  case buildSlice t len ps =>
    cases hu : P.underlying t with
    | none => rw [hu] at hv; cases hv
    | some d =>
      rw [hu] at hv
      cases d with
      | slice e =>
        simp only at hv
        cases hn : szOf P e with
        | none => rw [hn] at hv; cases hv
        | some n => cases hp : evParts ρ ps.toList with
          | none => rw [hn, hp] at hv; cases hv
          | some l =>
            rw [hn, hp] at hv; simp only at hv
            split at hv
            · rename_i hc
              cases hz : zeroOf P e with
              | none => rw [hz] at hv; cases hv
              | some z =>
                rw [hz] at hv; simp only at hv
                split at hv
                · rename_i hzl
                  cases hf : nfill (fun i => some (i * n, n)) (repeatCells z.cells len) l with
                  | none => rw [hf] at hv; cases hv
                  | some cs =>
                    rw [hf] at hv; cases hv
                    obtain ⟨i, rz, hi, hiz, hzr⟩ := zeroOf_sound (ι := ι) hz
                    have hparts := evParts_sound (ι := ι) (re := re) (fun x hx u hu => hr x.2 (by simp only [Op.operands]; exact List.mem_toArray.2 (List.mem_map_of_mem hx)) u hu) hp
                    have hrl := repeat_rel hzr (by omega) len (k := len * n) (by rw [hzl])
                    obtain ⟨ds', f1, f2⟩ := fill_sound hf hrl hparts
                    obtain ⟨I', S'⟩ := new_cells I (Pushed.alloc w (.cells ds' e)) f2 (.inl rfl)
                    refine ⟨_, _, .slice (some ⟨w.heap.size, 0, none⟩) len len, ?_, .slice (by simp; rfl) (Nat.le_refl _) rfl, I', S', ⟨_, rfl⟩, rfl, _, Pushed.alloc _ _⟩
                    have hm : (ps.map fun (i, x) => (i, re x)).toList = ps.toList.map fun p => (p.1, re p.2) := by simp
                    simp only [execOp, Instr.buildSlice, Sem.run_bind, run_underlying hu, Result.andThen_ok, run_sizeOf' hn]
                    rw [if_neg (by omega)]
                    by_cases hl0 : len * n = 0
                    · have hlen0 : len = 0 := by
                        rcases Nat.mul_eq_zero.1 hl0 with q | q
                        · exact q
                        · omega
                      subst hlen0
                      have f1' : Instr.fill (fun i => some (i * n, n)) #[] (ps.map fun (i, x) => (i, re x)).toList = some ds' := by
                        have e0 : (Array.range (0 * n)).map (fun i => rz.cells[i % rz.cells.size]!) = #[] := by apply Array.ext'; simp
                        rw [hm, ← e0]; exact f1
                      have e0 : ∀ f : Nat → Value, (Array.range 0).map f = #[] := fun f => by apply Array.ext'; simp
                      simp only [Nat.zero_mul, if_true, Sem.run_pure, Result.andThen_ok, e0, f1']
                      simp [newRow]
                    · have f1' : Instr.fill (fun i => some (i * n, n)) ((Array.range (len * n)).map fun i => rz.cells[i % rz.cells.size]!) (ps.map fun (i, x) => (i, re x)).toList = some ds' := by
                        rw [hm]; exact f1
                      simp only [hl0, if_false, Sem.run_bind, Sem.run_pure, run_zeroValue' hi hiz, Result.andThen_ok, f1']
                      simp [newRow]
                · cases hv
            · cases hv
      | _ => cases hv
  case makeSlice t l c =>
    cases hu : P.underlying t with
    | none => rw [hu] at hv; cases hv
    | some d => cases hl : ρ l with
      | none => rw [hu, hl] at hv; cases d <;> cases hv
      | some lv => cases hc : ρ c with
        | none => rw [hu, hl, hc] at hv; cases d <;> cases lv <;> cases hv
        | some cv =>
          rw [hu, hl, hc] at hv
          cases d with
          | slice e =>
            cases lv with
            | int k1 l1 =>
              cases cv with
              | int k2 c1 =>
                simp only at hv
                cases hn : szOf P e with
                | none => rw [hn] at hv; cases hv
                | some n => cases hb : bytesOf P e with
                  | none => rw [hn, hb] at hv; cases hv
                  | some by_ => cases hz : zeroOf P e with
                    | none => rw [hn, hb, hz] at hv; cases hv
                    | some z =>
                      rw [hn, hb, hz] at hv; simp only at hv
                      split at hv
                      · rename_i hcond
                        obtain ⟨c0, c1', c2, c3, c4, c5⟩ := hcond
                        cases hv
                        obtain ⟨i, rz, hi, hiz, hzr⟩ := zeroOf_sound (ι := ι) hz
                        have hn' : i.size = n := by simp only [szOf, hi] at hn; cases hn; rfl
                        have hb' : i.bytes = by_ := by simp only [bytesOf, hi] at hb; cases hb; rfl
                        have el := (hr l (by simp [Op.operands]) _ hl).int_inv
                        have ec := (hr c (by simp [Op.operands]) _ hc).int_inv
                        have w1 : IntKind.i64.wrap l1 = l1 := IntWalk.i64_in _ (by omega)
                        have w2 : IntKind.i64.wrap c1 = c1 := IntWalk.i64_in _ (by omega)
                        have hrl := repeat_rel hzr (by omega) c1.toNat (k := c1.toNat * n) (by rw [c4])
                        obtain ⟨I', S'⟩ := new_cells I (Pushed.alloc w (.cells ((Array.range (c1.toNat * n)).map fun i => rz.cells[i % rz.cells.size]!) e)) hrl (.inl rfl)
                        refine ⟨_, _, .slice (some ⟨w.heap.size, 0, none⟩) l1.toNat c1.toNat, ?_, .slice (by simp; rfl) (by omega) rfl, I', S', ⟨_, rfl⟩, rfl, _, Pushed.alloc _ _⟩
                        have ht : (decide (c1 < 0) || decide ((by_ : Int) * c1 > 2 ^ 48)) = false := by
                          have : (by_ : Int) * c1 ≤ 1099511627776 := by rw [Int.mul_comm]; exact c2
                          simp; omega
                        have hl0 : decide (l1 < 0) = false := by simp; omega
                        have hlc : decide (l1 > c1) = false := by simp; omega
                        simp only [execOp, Instr.makeSlice, Sem.run_bind, run_underlying hu, Result.andThen_ok, el, ec, asInt, asIntOf, Sem.run_pure, typeInfo, run_program, hi, w1, w2, hb', ht, hl0, hlc, Bool.or_self, Bool.false_eq_true, if_false, run_askRoom, sizeOf, hn']
                        by_cases hc0 : c1.toNat * n = 0
                        · rw [if_pos hc0]
                          have e0 : ∀ f : Nat → Value, (Array.range (c1.toNat * n)).map f = #[] := fun f => by apply Array.ext'; simp [hc0]
                          simp only [Sem.run_pure, Result.andThen_ok, e0]
                          simp [newRow]
                        · rw [if_neg hc0]
                          simp only [Sem.run_bind, Sem.run_pure, run_zeroValue' hi hiz, Result.andThen_ok]
                          simp [newRow]
                      · cases hv
              | _ => cases hv
            | _ => cases hv
          | _ => cases hv
  case makeMap t r =>
    cases r with
    | some x => cases hv
    | none =>
      cases hv
      obtain ⟨I', S'⟩ := I.push (o := .map []) (Pushed.alloc w (.map #[] 0)) 0 (fun _ _ q => by cases q) (fun _ q => by cases q) (fun es q => by cases q; exact ⟨rfl, 0, rfl⟩) (fun _ _ _ q => by cases q)
      exact ⟨_, _, .map (some w.heap.size), by simp [execOp, Instr.makeMap], VR.map (s := 0) (m := 0) (by simp), I', S', ⟨_, rfl⟩, rfl, _, Pushed.alloc _ _⟩
end Go.Proofs.Ytblhpikljhholaa.NICE
