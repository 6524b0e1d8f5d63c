/- Slices, indexes, fields, aggregates; then every operation that needs no memory. -/
import Derived.Test.YtblhpikljhholaaNice4
set_option linter.unusedVariables false
set_option linter.unusedSimpArgs false
namespace Go.Proofs.Ytblhpikljhholaa.NICE
open Go Go.RowKit

variable {P : Program} {ι : Inj}

inductive OptVR (ι : Inj) : Option NVal → Option Value → Prop
  | none : OptVR ι none none
  | some {u r} (h : VR ι u r) : OptVR ι (some u) (some r)

theorem add_at (rb o n : Nat) : (⟨rb, o, none⟩ : Addr).add n = ⟨rb, o + n, none⟩ := by
  unfold Addr.add; split
  · rename_i h; subst h; rfl
  · rfl

theorem bound_sound {y y' d k : Nat} {u : NVal} {r : Value} (h : nbound y (some u) d = some k) (hr : VR ι u r) (hy : y ≤ y') (code : BoundsCode) (w : World) :
    (Instr.sliceBound r y' code).run P w = .ok k w ∧ k ≤ y := by
  cases u <;> simp only [nbound] at h <;> try (cases h; done)
  split at h
  · rename_i hi; cases h
    rw [hr.int_inv]
    refine ⟨?_, by omega⟩
    have h2 := hi.2
    simp [Instr.sliceBound, asIntOf, hi.1]
    omega
  · cases h

theorem bounds_sound {isSlice : Bool} {len cap rcap h l : Nat} {hi lo : Option NVal} {rhi rlo : Option Value} (hh : nbound cap hi len = some h) (hl : nbound h lo 0 = some l)
    (hhi : OptVR ι hi rhi) (hlo : OptVR ι lo rlo) (hc : cap ≤ rcap) (w : World) :
    (Instr.sliceBounds isSlice len rcap rlo rhi none).run P w = .ok (l, h, rcap) w ∧ l ≤ h ∧ (h ≤ cap ∨ h = len) := by
  have h1 : (match rhi with | some v => Instr.sliceBound v rcap (if isSlice then .sliceAcap else .sliceAlen) | none => (pure len : Sem Nat)).run P w = .ok h w ∧ (h ≤ cap ∨ h = len) := by
    cases hhi with
    | none => simp only [nbound] at hh; cases hh; exact ⟨rfl, .inr rfl⟩
    | some hr => obtain ⟨e, k⟩ := bound_sound (P := P) hh hr hc (if isSlice then .sliceAcap else .sliceAlen) w; exact ⟨e, .inl k⟩
  have h2 : (match rlo with | some v => Instr.sliceBound v h .sliceB | none => (pure 0 : Sem Nat)).run P w = .ok l w ∧ l ≤ h := by
    cases hlo with
    | none => simp only [nbound] at hl; cases hl; exact ⟨rfl, Nat.zero_le _⟩
    | some hr => obtain ⟨e, k⟩ := bound_sound (P := P) hl hr (Nat.le_refl _) .sliceB w; exact ⟨e, k⟩
  refine ⟨?_, h2.2, h1.2⟩
  unfold Instr.sliceBounds
  cases hhi with
  | none =>
    simp only [nbound] at hh; cases hh
    simp only [Sem.run_bind, Sem.run_pure, Result.andThen_ok, Option.isSome_none, Bool.false_eq_true, if_false]
    cases hlo with
    | none => simp only [nbound] at hl; cases hl; rfl
    | some hr => simp only at h2; simp only [Sem.run_bind, h2.1, Result.andThen_ok, Sem.run_pure]
  | some hr' =>
    simp only at h1
    simp only [Sem.run_bind, Sem.run_pure, Result.andThen_ok, Option.isSome_none, Bool.false_eq_true, if_false, h1.1]
    cases hlo with
    | none => simp only [nbound] at hl; cases hl; rfl
    | some hr => simp only at h2; simp only [Sem.run_bind, h2.1, Result.andThen_ok, Sem.run_pure]

theorem slice_sound {t : TypeId} {x v : NVal} {lo hi : Option NVal} (h : nslice P t x lo hi = some v) {rx : Value} (hx : VR ι x rx) {rlo rhi : Option Value} (hlo : OptVR ι lo rlo) (hhi : OptVR ι hi rhi) :
    ∃ rv, VR ι v rv ∧ ∀ w, (Instr.sliceAt t rx rlo rhi none).run P w = .ok rv w := by
  unfold nslice at h
  split at h
  · rename_i s hu
    obtain ⟨b, rfl, rfl⟩ := hx.str_inv
    cases hh : nbound b.data.toList.length hi b.data.toList.length with
    | none => rw [hh] at h; cases h
    | some k => cases hl : nbound k lo 0 with
      | none => rw [hh] at h; simp only at h; rw [hl] at h; cases h
      | some l =>
        rw [hh] at h; simp only at h; rw [hl] at h; cases h
        have hsz : b.data.toList.length = b.size := by simp
        refine ⟨.string (b.extract l k), ?_, fun w => ?_⟩
        · have := VR.str (ι := ι) (b.extract l k)
          have e : (b.extract l k).data.toList = (b.data.toList.drop l).take (k - l) := by
            simp [List.drop_take, List.extract_eq_take_drop]
          rw [e] at this; exact this
        · rw [hsz] at hh
          obtain ⟨e, hle, hor⟩ := bounds_sound (P := P) (isSlice := false) hh hl hhi hlo (Nat.le_refl _) w
          simp [Instr.sliceAt, Instr.slice, run_underlying hu, e]
  · rename_i e a len cap xx hu
    cases hh : nbound cap hi len with
    | none => rw [hh] at h; cases h
    | some k => cases hl : nbound k lo 0 with
      | none => rw [hh] at h; simp only at h; rw [hl] at h; cases h
      | some l => cases hs : szOf P e with
        | none => rw [hh] at h; simp only at h; rw [hl, hs] at h; cases h
        | some sz =>
          rw [hh] at h; simp only at h; rw [hl, hs] at h; simp only at h
          have run : ∀ {a' len' rcap}, rx = .slice a' len' rcap → len' = len → cap ≤ rcap →
              (∀ w, (Instr.sliceAt t rx rlo rhi none).run P w = .ok (.slice (if rcap = l then a' else a'.map (·.add (l * sz))) (k - l) (rcap - l)) w) ∧ l ≤ k ∧ (k ≤ cap ∨ k = len) := by
            intro a' len' rcap hrx hlen hc
            subst hrx; subst hlen
            have hb := fun w => bounds_sound (P := P) (isSlice := true) hh hl hhi hlo hc w
            refine ⟨fun w => ?_, (hb default).2⟩
            simp [Instr.sliceAt, Instr.slice, run_underlying hu, (hb w).1, run_sizeOf' hs]
          cases hx with
          | sliceNil =>
            cases h
            obtain ⟨r, h1, h2⟩ := run rfl rfl (Nat.le_refl _)
            refine ⟨.slice none 0 0, .sliceNil, fun w => ?_⟩
            rw [r w]
            have hk : k = 0 := by omega
            subst hk
            simp
          | slice hι hlen hc =>
            rename_i b o rb s m rcap
            subst hc
            cases h
            obtain ⟨r, h1, h2⟩ := run rfl rfl (Nat.le_refl _)
            refine ⟨_, ?_, r⟩
            have e1 : (if rcap = l then some (⟨rb, s + o, none⟩ : Addr) else Option.map (fun x : Addr => x.add (l * sz)) (some ⟨rb, s + o, none⟩)) = some ⟨rb, s + (if rcap = l then o else o + l * sz), none⟩ := by
              split
              · rfl
              · simp [add_at, Nat.add_assoc]
            rw [e1]
            exact .slice hι (by omega) rfl
          | sliceMore hι hlen hc hm =>
            rename_i b o rb s m rcap z
            simp only at h
            obtain ⟨r, h1, h2⟩ := run rfl rfl hc
            by_cases hz : z = sz
            · rw [if_pos hz] at h
              subst hz
              by_cases hlt : l < max cap len
              · rw [if_pos hlt] at h; cases h
                refine ⟨_, ?_, r⟩
                rw [if_neg (by omega)]
                simp only [Option.map_some, add_at]
                rw [show s + o + l * z = s + (o + l * z) by omega]
                refine .sliceMore hι (by omega) (by omega) ?_
                have : l * z + (rcap - l) * z = rcap * z := by rw [← Nat.add_mul]; congr 1; omega
                omega
              · rw [if_neg hlt] at h; cases h
                refine ⟨_, ?_, r⟩
                have hk : k - l = 0 := by omega
                rw [hk]
                split
                · exact .sliceEmpty
                · exact .sliceEmpty
            · rw [if_neg hz] at h; cases h
          | sliceEmpty =>
            rename_i b o a' rcap z
            simp only at h
            obtain ⟨r, h1, h2⟩ := run rfl rfl (Nat.zero_le _)
            by_cases hz : z = sz
            · rw [if_pos hz, if_neg (by omega)] at h; cases h
              refine ⟨_, ?_, r⟩
              have hk : k - l = 0 := by omega
              rw [hk]
              split
              · exact .sliceEmpty
              · exact .sliceEmpty
            · rw [if_neg hz] at h; cases h
  · rename_i n e b o hu
    cases hh : nbound n hi n with
    | none => rw [hh] at h; cases h
    | some k => cases hl : nbound k lo 0 with
      | none => rw [hh] at h; simp only at h; rw [hl] at h; cases h
      | some l => cases hs : szOf P e with
        | none => rw [hh] at h; simp only at h; rw [hl, hs] at h; cases h
        | some sz =>
          rw [hh] at h; simp only at h; rw [hl, hs] at h; cases h
          cases hx with | ptr hι =>
          rename_i rb s m
          have hb := fun w => bounds_sound (P := P) (isSlice := false) hh hl hhi hlo (Nat.le_refl _) w
          obtain ⟨h1, h2⟩ := (hb default).2
          refine ⟨.slice (some ⟨rb, s + (if n = l then o else o + l * sz), none⟩) (k - l) (n - l), .slice hι (by omega) rfl, fun w => ?_⟩
          simp only [Instr.sliceAt, Sem.run_bind, run_underlying hu, Result.andThen_ok, Instr.sureAddr, Sem.run_pure, (hb w).1, run_sizeOf' hs]
          split
          · rfl
          · simp [add_at, Nat.add_assoc]
  · cases h
theorem slice3_sound {t : TypeId} {x v lo hi mx : NVal} (h : nslice3 P t x lo hi mx = some v) {rx rlo rhi rmx : Value} (hx : VR ι x rx) (hlo : VR ι lo rlo) (hhi : VR ι hi rhi) (hmx : VR ι mx rmx) :
    ∃ rv, VR ι v rv ∧ ∀ w, (Instr.sliceAt t rx (some rlo) (some rhi) (some rmx)).run P w = .ok rv w := by
  unfold nslice3 at h
  split at h
  · rename_i e b o len cap xx k1 l k2 hh k3 m hu
    cases hs : szOf P e with
    | none => rw [hs] at h; cases h
    | some sz =>
      rw [hs] at h; simp only at h
      split at h
      · rename_i hc
        obtain ⟨c0, c1, c2, c3, c4⟩ := hc
        cases h
        have el := hlo.int_inv; subst el
        have eh := hhi.int_inv; subst eh
        have em := hmx.int_inv; subst em
        have bd : ∀ (k : IntKind) (i : Int) (y rc : Nat) (z : BoundsCode), 0 ≤ i → i ≤ (y : Int) → y ≤ rc → ∀ w, (Instr.sliceBound (.int k i) rc z).run P w = .ok i.toNat w := fun k i y rc z i0 i1 hy w =>
          (bound_sound (P := P) (y := y) (u := .int k i) (k := i.toNat) (ι := ι) (show nbound y (some (.int k i)) 0 = some i.toNat by simp only [nbound]; rw [if_pos ⟨i0, i1⟩]) (.int k i) hy z w).1
        have run : ∀ {a' rcap}, rx = .slice (some a') len rcap → max cap len ≤ rcap →
            ∀ w, (Instr.sliceAt t rx (some (.int k1 l)) (some (.int k2 hh)) (some (.int k3 m))).run P w = .ok (.slice (if m.toNat = l.toNat then some a' else some (a'.add (l.toNat * sz))) (hh.toNat - l.toNat) (m.toNat - l.toNat)) w := by
          intro a' rcap hrx hcap w
          subst hrx
          have b1 := fun z => bd k3 m (max cap len) rcap z (by omega) c3 hcap w
          have b2 := fun z => bd k2 hh m.toNat m.toNat z (by omega) (by omega) (Nat.le_refl _) w
          have b3 := fun z => bd k1 l hh.toNat hh.toNat z (by omega) (by omega) (Nat.le_refl _) w
          simp [Instr.sliceAt, Instr.slice, Instr.sliceBounds, run_underlying hu, run_sizeOf' hs, b1, b2, b3]
        have fin : ∀ {rb s mm : Nat}, ι b = some (rb, s, mm) → VR ι (.slice (some (b, if m = l then o else o + l.toNat * sz)) (hh - l).toNat (m - l).toNat none) (.slice (if m.toNat = l.toNat then some ⟨rb, s + o, none⟩ else some ((⟨rb, s + o, none⟩ : Addr).add (l.toNat * sz))) (hh.toNat - l.toNat) (m.toNat - l.toNat)) := by
          intro rb s mm hι
          have e1 : (if m.toNat = l.toNat then some ⟨rb, s + o, none⟩ else some ((⟨rb, s + o, none⟩ : Addr).add (l.toNat * sz))) = some ⟨rb, s + (if m = l then o else o + l.toNat * sz), none⟩ := by
            by_cases q : m = l
            · subst q; simp
            · rw [if_neg (by omega), if_neg q, add_at, Nat.add_assoc]
          rw [e1, show (hh - l).toNat = hh.toNat - l.toNat by omega, show (m - l).toNat = m.toNat - l.toNat by omega]
          exact .slice hι (by omega) rfl
        cases hx with
        | slice hι hl hcc => subst hcc; exact ⟨_, fin hι, run rfl (by omega)⟩
        | sliceMore hι hl hcc hm => exact ⟨_, fin hι, run rfl (by omega)⟩
        | sliceEmpty => simp at c4
      · cases h
  · cases h
end Go.Proofs.Ytblhpikljhholaa.NICE
