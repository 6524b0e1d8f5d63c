/- Slices, indexes, fields, aggregates; then every operation that needs no memory. -/
import Derived.Test.YtamcodigpocecaaGreatNice4
set_option linter.unusedVariables false
set_option linter.unusedSimpArgs false
set_option linter.unusedSectionVars false
namespace Go.Proofs.YtamcodigpocecaaGreat.NICE
open Go Go.RowKit
variable [Syms]

variable {P : Program} {ι : Inj}

inductive OptVR (ι : Inj) : Option NVal → Option Value → Prop
  | none : OptVR ι none none
  | some {u r} (h : VR ι u r) : OptVR ι (some u) (some r)

theorem add_at (rb o n : Nat) : (⟨rb, o, none⟩ : Addr).add n = ⟨rb, o + n, none⟩ := by
  unfold Addr.add; split
  · rename_i h; subst h; rfl
  · rfl

theorem bound_sound {y y' d k : Nat} {u : NVal} {r : Value} (h : nbound y (some u) d = some k) (hr : VR ι u r) (hy : y ≤ y') (code : BoundsCode) (w : World) :
    (Instr.sliceBound r y' code).run P w = .ok k w ∧ k ≤ y := by
  cases u <;> simp only [nbound] at h <;> try (cases h; done)
  split at h
  · rename_i hi; cases h
    rw [hr.int_inv]
    refine ⟨?_, by omega⟩
    have h2 := hi.2
    simp [Instr.sliceBound, asIntOf, hi.1]
    omega
  · cases h

theorem bounds_sound {isSlice : Bool} {len cap rcap h l : Nat} {hi lo : Option NVal} {rhi rlo : Option Value} (hh : nbound cap hi len = some h) (hl : nbound h lo 0 = some l)
    (hhi : OptVR ι hi rhi) (hlo : OptVR ι lo rlo) (hc : cap ≤ rcap) (w : World) :
    (Instr.sliceBounds isSlice len rcap rlo rhi none).run P w = .ok (l, h, rcap) w ∧ l ≤ h ∧ (h ≤ cap ∨ h = len) := by
  have h1 : (match rhi with | some v => Instr.sliceBound v rcap (if isSlice then .sliceAcap else .sliceAlen) | none => (pure len : Sem Nat)).run P w = .ok h w ∧ (h ≤ cap ∨ h = len) := by
    cases hhi with
    | none => simp only [nbound] at hh; cases hh; exact ⟨rfl, .inr rfl⟩
    | some hr => obtain ⟨e, k⟩ := bound_sound (P := P) hh hr hc (if isSlice then .sliceAcap else .sliceAlen) w; exact ⟨e, .inl k⟩
  have h2 : (match rlo with | some v => Instr.sliceBound v h .sliceB | none => (pure 0 : Sem Nat)).run P w = .ok l w ∧ l ≤ h := by
    cases hlo with
    | none => simp only [nbound] at hl; cases hl; exact ⟨rfl, Nat.zero_le _⟩
    | some hr => obtain ⟨e, k⟩ := bound_sound (P := P) hl hr (Nat.le_refl _) .sliceB w; exact ⟨e, k⟩
  refine ⟨?_, h2.2, h1.2⟩
  unfold Instr.sliceBounds
  cases hhi with
  | none =>
    simp only [nbound] at hh; cases hh
    simp only [Sem.run_bind, Sem.run_pure, Result.andThen_ok, Option.isSome_none, Bool.false_eq_true, if_false]
    cases hlo with
    | none => simp only [nbound] at hl; cases hl; rfl
    | some hr => simp only at h2; simp only [Sem.run_bind, h2.1, Result.andThen_ok, Sem.run_pure]
  | some hr' =>
    simp only at h1
    simp only [Sem.run_bind, Sem.run_pure, Result.andThen_ok, Option.isSome_none, Bool.false_eq_true, if_false, h1.1]
    cases hlo with
    | none => simp only [nbound] at hl; cases hl; rfl
    | some hr => simp only at h2; simp only [Sem.run_bind, h2.1, Result.andThen_ok, Sem.run_pure]

theorem slice_sound {t : TypeId} {x v : NVal} {lo hi : Option NVal} (h : nslice P t x lo hi = some v) {rx : Value} (hx : VR ι x rx) {rlo rhi : Option Value} (hlo : OptVR ι lo rlo) (hhi : OptVR ι hi rhi) :
    ∃ rv, VR ι v rv ∧ ∀ w, (Instr.sliceAt t rx rlo rhi none).run P w = .ok rv w := by
  unfold nslice at h
  split at h
  · rename_i s hu
    obtain ⟨b, rfl, rfl⟩ := hx.str_inv
    cases hh : nbound b.data.toList.length hi b.data.toList.length with
    | none => rw [hh] at h; cases h
    | some k => cases hl : nbound k lo 0 with
      | none => rw [hh] at h; simp only at h; rw [hl] at h; cases h
      | some l =>
        rw [hh] at h; simp only at h; rw [hl] at h; cases h
        have hsz : b.data.toList.length = b.size := by simp
        refine ⟨.string (b.extract l k), ?_, fun w => ?_⟩
        · have := VR.str (ι := ι) (b.extract l k)
          have e : (b.extract l k).data.toList = (b.data.toList.drop l).take (k - l) := by
            simp [List.drop_take, List.extract_eq_take_drop]
          rw [e] at this; exact this
        · rw [hsz] at hh
          obtain ⟨e, hle, hor⟩ := bounds_sound (P := P) (isSlice := false) hh hl hhi hlo (Nat.le_refl _) w
          simp [Instr.sliceAt, Instr.slice, run_underlying hu, e]
  · rename_i e a len cap xx hu
    cases hh : nbound cap hi len with
    | none => rw [hh] at h; cases h
    | some k => cases hl : nbound k lo 0 with
      | none => rw [hh] at h; simp only at h; rw [hl] at h; cases h
      | some l => cases hs : szOf P e with
        | none => rw [hh] at h; simp only at h; rw [hl, hs] at h; cases h
        | some sz =>
          rw [hh] at h; simp only at h; rw [hl, hs] at h; simp only at h
          have run : ∀ {a' len' rcap}, rx = .slice a' len' rcap → len' = len → cap ≤ rcap →
              (∀ w, (Instr.sliceAt t rx rlo rhi none).run P w = .ok (.slice (if rcap = l then a' else a'.map (·.add (l * sz))) (k - l) (rcap - l)) w) ∧ l ≤ k ∧ (k ≤ cap ∨ k = len) := by
            intro a' len' rcap hrx hlen hc
            subst hrx; subst hlen
            have hb := fun w => bounds_sound (P := P) (isSlice := true) hh hl hhi hlo hc w
            refine ⟨fun w => ?_, (hb default).2⟩
            simp [Instr.sliceAt, Instr.slice, run_underlying hu, (hb w).1, run_sizeOf' hs]
          cases hx with
          | sliceNil =>
            cases h
            obtain ⟨r, h1, h2⟩ := run rfl rfl (Nat.le_refl _)
            refine ⟨.slice none 0 0, .sliceNil, fun w => ?_⟩
            rw [r w]
            have hk : k = 0 := by omega
            subst hk
            simp
          | slice hι hlen hc =>
            rename_i b o rb s m rcap
            subst hc
            cases h
            obtain ⟨r, h1, h2⟩ := run rfl rfl (Nat.le_refl _)
            refine ⟨_, ?_, r⟩
            have e1 : (if rcap = l then some (⟨rb, s + o, none⟩ : Addr) else Option.map (fun x : Addr => x.add (l * sz)) (some ⟨rb, s + o, none⟩)) = some ⟨rb, s + (if rcap = l then o else o + l * sz), none⟩ := by
              split
              · rfl
              · simp [add_at, Nat.add_assoc]
            rw [e1]
            exact .slice hι (by omega) rfl
          | sliceMore hι hlen hc hm =>
            rename_i b o rb s m rcap z
            simp only at h
            obtain ⟨r, h1, h2⟩ := run rfl rfl hc
            by_cases hz : z = sz
            · rw [if_pos hz] at h
              subst hz
              by_cases hlt : l < max cap len
              · rw [if_pos hlt] at h; cases h
                refine ⟨_, ?_, r⟩
                rw [if_neg (by omega)]
                simp only [Option.map_some, add_at]
                rw [show s + o + l * z = s + (o + l * z) by omega]
                refine .sliceMore hι (by omega) (by omega) ?_
                have : l * z + (rcap - l) * z = rcap * z := by rw [← Nat.add_mul]; congr 1; omega
                omega
              · rw [if_neg hlt] at h; cases h
                refine ⟨_, ?_, r⟩
                have hk : k - l = 0 := by omega
                rw [hk]
                split
                · exact .sliceEmpty
                · exact .sliceEmpty
            · rw [if_neg hz] at h; cases h
          | sliceEmpty =>
            rename_i b o a' rcap z
            simp only at h
            obtain ⟨r, h1, h2⟩ := run rfl rfl (Nat.zero_le _)
            by_cases hz : z = sz
            · rw [if_pos hz, if_neg (by omega)] at h; cases h
              refine ⟨_, ?_, r⟩
              have hk : k - l = 0 := by omega
              rw [hk]
              split
              · exact .sliceEmpty
              · exact .sliceEmpty
            · rw [if_neg hz] at h; cases h
  · rename_i n e b o hu
    cases hh : nbound n hi n with
    | none => rw [hh] at h; cases h
    | some k => cases hl : nbound k lo 0 with
      | none => rw [hh] at h; simp only at h; rw [hl] at h; cases h
      | some l => cases hs : szOf P e with
        | none => rw [hh] at h; simp only at h; rw [hl, hs] at h; cases h
        | some sz =>
          rw [hh] at h; simp only at h; rw [hl, hs] at h; cases h
          cases hx with | ptr hι =>
          rename_i rb s m
          have hb := fun w => bounds_sound (P := P) (isSlice := false) hh hl hhi hlo (Nat.le_refl _) w
          obtain ⟨h1, h2⟩ := (hb default).2
          refine ⟨.slice (some ⟨rb, s + (if n = l then o else o + l * sz), none⟩) (k - l) (n - l), .slice hι (by omega) rfl, fun w => ?_⟩
          simp only [Instr.sliceAt, Sem.run_bind, run_underlying hu, Result.andThen_ok, Instr.sureAddr, Sem.run_pure, (hb w).1, run_sizeOf' hs]
          split
          · rfl
          · simp [add_at, Nat.add_assoc]
  · cases h
end Go.Proofs.YtamcodigpocecaaGreat.NICE
