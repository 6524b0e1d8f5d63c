/- Every operation that needs no memory: ours against the model's. -/
import Derived.Test.YtblhpikljhholaaNice5
set_option linter.unusedVariables false
set_option linter.unusedSimpArgs false
namespace Go.Proofs.Ytblhpikljhholaa.NICE
open Go Go.RowKit

variable {P : Program} {ι : Inj}

theorem VR.ptr_inv {b o : Nat} {r : Value} (h : VR ι (.ptr (some (b, o))) r) : ∃ rb s m, ι b = some (rb, s, m) ∧ r = .pointer (some ⟨rb, s + o, none⟩) := by
  cases h with | ptr hh => exact ⟨_, _, _, hh, rfl⟩

theorem indexAddr_sound {t : TypeId} {x ix v : NVal} (h : nindexAddr P t x ix = some v) {rx rix : Value} (hx : VR ι x rx) (hi : VR ι ix rix) :
    ∃ rv, VR ι v rv ∧ ∀ w, (Instr.indexAt t rx rix).run P w = .ok rv w := by
  unfold nindexAddr at h
  split at h
  · rename_i k i
    have := hi.int_inv; subst this
    split at h
    · rename_i e b o len c xx hu
      cases hs : szOf P e with
      | none => rw [hs] at h; cases h
      | some sz =>
        rw [hs] at h; simp only at h
        split at h
        · rename_i hb; cases h
          have go : ∀ {rb s m rcap}, ι b = some (rb, s, m) → ∃ rv, VR ι (.ptr (some (b, o + i.toNat * sz))) rv ∧ ∀ w, (Instr.indexAt t (.slice (some ⟨rb, s + o, none⟩) len rcap) (.int k i)).run P w = .ok rv w := by
            intro rb s m rcap hι
            refine ⟨.pointer (some ⟨rb, s + (o + i.toNat * sz), none⟩), .ptr hι, fun w => ?_⟩
            simp [Instr.indexAt, asIntOf, run_underlying hu, hb.1, hb.2, run_sizeOf' hs, add_at, Nat.add_assoc]
          cases hx with
          | slice hι => exact go hι
          | sliceMore hι => exact go hι
          | sliceEmpty => exact absurd hb.2 (by have := hb.1; simp; omega)
        · cases h
    · rename_i n e b o hu
      cases hs : szOf P e with
      | none => rw [hs] at h; cases h
      | some sz =>
        rw [hs] at h; simp only at h
        split at h
        · rename_i hb; cases h
          obtain ⟨rb, s, m, hι, rfl⟩ := hx.ptr_inv
          refine ⟨.pointer (some ⟨rb, s + (o + i.toNat * sz), none⟩), .ptr hι, fun w => ?_⟩
          simp [Instr.indexAt, Instr.sureAddr, asIntOf, run_underlying hu, hb.1, hb.2, run_sizeOf' hs, add_at, Nat.add_assoc]
        · cases h
    · cases h
  · cases h

theorem index_sound {t : TypeId} {x ix v : NVal} (h : nindex P t x ix = some v) {rx rix : Value} (hx : VR ι x rx) (hi : VR ι ix rix) :
    ∃ rv, VR ι v rv ∧ ∀ w, (Instr.index t rx rix).run P w = .ok rv w := by
  unfold nindex at h
  split at h
  · rename_i k i
    have := hi.int_inv; subst this
    split at h
    · rename_i s hu
      obtain ⟨b, rfl, rfl⟩ := hx.str_inv
      split at h
      · rename_i h0
        cases hb : b.data.toList[i.toNat]? with
        | none => rw [hb] at h; cases h
        | some c =>
          rw [hb] at h; cases h
          refine ⟨_, .int _ _, fun w => ?_⟩
          have hb' : b[i.toNat]? = some c := by
            rw [Array.getElem?_toList] at hb
            have hlt : i.toNat < b.data.size := (Array.getElem?_eq_some_iff.1 hb).1
            have hlt' : i.toNat < b.size := hlt
            rw [getElem?_pos b i.toNat hlt']
            rw [getElem?_pos b.data i.toNat hlt] at hb
            exact hb
          simp [Instr.index, asIntOf, run_underlying hu, h0, hb']
      · cases h
    · rename_i n e cs hu
      obtain ⟨ds, rfl, hds⟩ := hx.agg_inv
      cases hs : szOf P e with
      | none => rw [hs] at h; cases h
      | some sz =>
        rw [hs] at h; simp only at h
        split at h
        · rename_i hb
          obtain ⟨rv, h1, h2⟩ := part_sound h hds
          exact ⟨rv, h1, fun w => by simp [Instr.index, asIntOf, run_underlying hu, hb.1, hb.2, run_sizeOf' hs, h2]⟩
        · cases h
    · cases h
  · cases h

theorem fieldAddr_sound {s : TypeId} {x v : NVal} {f : Nat} (h : nfieldAddr P s x f = some v) {rx : Value} (hx : VR ι x rx) :
    ∃ rv, VR ι v rv ∧ ∀ w, (Instr.fieldAt s rx f).run P w = .ok rv w := by
  unfold nfieldAddr at h
  split at h
  · rename_i fs b o hu
    cases hf : fs[f]? with
    | none => rw [hf] at h; cases h
    | some fd => cases hs : szOf P fd.type with
      | none => rw [hf] at h; simp only at h; rw [hs] at h; cases h
      | some n =>
        rw [hf] at h; simp only at h; rw [hs] at h; simp only at h
        split at h
        · cases h
        · rename_i hn; cases h
          obtain ⟨rb, st, m, hι, rfl⟩ := hx.ptr_inv
          refine ⟨.pointer (some ⟨rb, st + (o + fd.offset), none⟩), .ptr hι, fun w => ?_⟩
          simp [Instr.fieldAt, run_underlying hu, hf, Instr.sureAddr, fieldPlace, run_sizeOf' hs, hn, add_at, Nat.add_assoc]
  · cases h

theorem field_sound {t : TypeId} {x v : NVal} {f : Nat} (h : nfield P t x f = some v) {rx : Value} (hx : VR ι x rx) :
    ∃ rv, VR ι v rv ∧ ∀ w, (Instr.field t rx f).run P w = .ok rv w := by
  unfold nfield at h
  split at h
  · rename_i fs cs hu
    obtain ⟨ds, rfl, hds⟩ := hx.agg_inv
    cases hf : fs[f]? with
    | none => rw [hf] at h; cases h
    | some fd =>
      rw [hf] at h; simp only at h
      obtain ⟨rv, h1, h2⟩ := part_sound h hds
      exact ⟨rv, h1, fun w => by simp [Instr.field, run_underlying hu, hf, asAgg, h2]⟩
  · cases h

/-! ### Aggregates -/

theorem foldl_setRange (ds : Array Value) (off : Nat) : ∀ (vs : List Value) (k : Nat), off + k + vs.length ≤ ds.size →
    ((vs.zipIdx k).foldl (fun (cs : Array Value) (p : Value × Nat) => cs.setIfInBounds (off + p.2) p.1) ds).toList = ds.toList.take (off + k) ++ vs ++ ds.toList.drop (off + k + vs.length)
  | [], k, h => by simp
  | v :: vs, k, h => by
    simp only [List.zipIdx_cons, List.foldl_cons]
    have ih := foldl_setRange (ds.setIfInBounds (off + k) v) off vs (k + 1) (by simp at h ⊢; omega)
    rw [ih]
    have := list_seg_step ds.toList (off + k) v vs (by simp at h ⊢; omega)
    simpa [Array.toList_setIfInBounds, Nat.add_assoc] using this

theorem setRange_sound {cs vs : List NVal} {ds us : List Value} {off : Nat} (hd : VRs ι cs ds) (hu : VRs ι vs us) : VRs ι (setRange cs off vs) (ds.take off ++ us ++ ds.drop (off + us.length)) := by
  unfold setRange
  rw [hu.length]
  exact (hd.take.append hu).append hd.drop

theorem fill_sound {place : Nat → Option (Nat × Nat)} : ∀ {ps : List (Nat × NVal)} {rps : List (Nat × Value)} {cs cs' : List NVal} {ds : Array Value},
    nfill place cs ps = some cs' → VRs ι cs ds.toList → All2 (fun a b => a.1 = b.1 ∧ VR ι a.2 b.2) ps rps → ∃ ds' : Array Value, Instr.fill place ds rps = some ds' ∧ VRs ι cs' ds'.toList
  | [], rps, cs, cs', ds, h, hd, hp => by
    cases hp; simp only [nfill] at h; cases h; exact ⟨ds, rfl, hd⟩
  | (i, v) :: ps, rps, cs, cs', ds, h, hd, hp => by
    cases hp with
    | cons hv hrest =>
      rename_i rp rps
      obtain ⟨ri, rv⟩ := rp
      obtain ⟨rfl, hv⟩ := hv
      unfold nfill at h
      cases hpl : place i with
      | none => rw [hpl] at h; cases h
      | some p =>
        obtain ⟨off, size⟩ := p
        rw [hpl] at h; simp only at h
        split at h
        · cases h
        · rename_i hsz
          have hc := hv.cells
          have hlen : v.cells.length = rv.cells.size := by simpa using hc.length
          have hdl : cs.length = ds.size := by simpa using hd.length
          have hfold := foldl_setRange ds off rv.cells.toList 0 (by simp only [Array.length_toList]; omega)
          obtain ⟨ds', h1, h2⟩ := fill_sound (ds := (rv.cells.zipIdx.foldl (fun cs (c, j) => cs.setIfInBounds (off + j) c) ds)) h (by
            have e : (rv.cells.zipIdx.foldl (fun (cs : Array Value) (p : Value × Nat) => cs.setIfInBounds (off + p.2) p.1) ds).toList = ds.toList.take off ++ rv.cells.toList ++ ds.toList.drop (off + rv.cells.toList.length) := by
              rw [← Array.foldl_toList]
              simpa [Array.toList_zipIdx] using hfold
            show VRs ι _ (rv.cells.zipIdx.foldl (fun (cs : Array Value) (p : Value × Nat) => cs.setIfInBounds (off + p.2) p.1) ds).toList
            rw [e]; exact setRange_sound hd hc) hrest
          refine ⟨ds', ?_, h2⟩
          unfold Instr.fill
          rw [hpl]; simp only
          rw [if_neg (by
            rw [Bool.or_eq_true, decide_eq_true_iff, decide_eq_true_iff]
            omega)]
          exact h1

theorem fieldPlaces_sound : ∀ {l : List Field} {ps : List (Nat × Nat)}, fieldPlaces P l = some ps → ∀ w, (l.mapM (m := Sem) fun (f : Field) => do pure (f.offset, ← sizeOf f.type)).run P w = .ok ps w
  | [], ps, h => by intro w; simp only [fieldPlaces] at h; cases h; simp
  | f :: l, ps, h => by
    intro w
    unfold fieldPlaces at h
    cases hs : szOf P f.type with
    | none => rw [hs] at h; cases h
    | some n => cases hr : fieldPlaces P l with
      | none => rw [hs, hr] at h; cases h
      | some r =>
        rw [hs, hr] at h; cases h
        have ih := fieldPlaces_sound hr w
        simp only [List.mapM_cons, Sem.run_bind, run_sizeOf' hs, Result.andThen_ok, Sem.run_pure, ih]

theorem run_zeroValue' {t : TypeId} {i : TypeInfo} {z : Value} (hi : P.info? t = some i) (hz : i.zero = some z) (w : World) : (zeroValue t).run P w = .ok z w := by
  simp [zeroValue, typeInfo, hi, hz]

theorem build_sound {t : TypeId} {ps : List (Nat × NVal)} {v : NVal} (h : nbuild P t ps = some v) {rps : Array (Nat × Value)} (hp : All2 (fun a b => a.1 = b.1 ∧ VR ι a.2 b.2) ps rps.toList) :
    ∃ rv, VR ι v rv ∧ ∀ w, (Instr.build t rps).run P w = .ok rv w := by
  unfold nbuild at h
  cases hz : zeroOf P t with
  | none => rw [hz] at h; cases h
  | some z =>
    rw [hz] at h; simp only at h
    obtain ⟨i, rz, hi, hzz, hzr⟩ := zeroOf_sound (ι := ι) hz
    have hzc := hzr.cells
    split at h
    · rename_i fs hu
      cases hf : fieldPlaces P fs.toList with
      | none => rw [hf] at h; cases h
      | some pl => cases hn : nfill (fun i => pl[i]?) z.cells ps with
        | none => rw [hf] at h; simp only at h; rw [hn] at h; cases h
        | some cs =>
          rw [hf] at h; simp only at h; rw [hn] at h; cases h
          obtain ⟨ds', h1, h2⟩ := fill_sound hn hzc hp
          refine ⟨.agg ds', .agg' h2, fun w => ?_⟩
          have hm : (fs.mapM (m := Sem) fun (f : Field) => do pure (f.offset, ← sizeOf f.type)).run P w = .ok pl.toArray w := by
            have := fieldPlaces_sound hf w
            simp only [Array.mapM_eq_mapM_toList, Sem.run_map, this, Result.andThen_ok]
          simp only [Instr.build, Sem.run_bind, run_zeroValue' hi hzz, Result.andThen_ok, run_underlying hu, hm]
          simp [h1]
    · rename_i n e hu
      cases hs : szOf P e with
      | none => rw [hs] at h; cases h
      | some sz => cases hn : nfill (fun i => some (i * sz, sz)) z.cells ps with
        | none => rw [hs] at h; simp only at h; rw [hn] at h; cases h
        | some cs =>
          rw [hs] at h; simp only at h; rw [hn] at h; cases h
          obtain ⟨ds', h1, h2⟩ := fill_sound hn hzc hp
          exact ⟨.agg ds', .agg' h2, fun w => by simp [Instr.build, run_zeroValue' hi hzz, run_underlying hu, run_sizeOf' hs, h1]⟩
    · cases h
end Go.Proofs.Ytblhpikljhholaa.NICE
