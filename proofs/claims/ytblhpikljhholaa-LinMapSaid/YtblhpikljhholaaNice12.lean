/- Every operation that changes memory. -/
import Derived.Test.YtblhpikljhholaaNice11
set_option linter.unusedVariables false
set_option linter.unusedSimpArgs false
namespace Go.Proofs.Ytblhpikljhholaa.NICE
open Go Go.RowKit

variable {P : Program} {w0 w : World} {ι : Inj} {h : NHeap}

/-- what is appended: the model's 'append' comes to appendCore over it -/
theorem appended_sound (I : Inv w0 ι h w) {st xt ty e : TypeId} {sz n : Nat} {x z : NVal} {cs : List NVal} {i : TypeInfo} {rz : Value} (hst : P.underlying st = some (.slice e)) (hs : szOf P e = some sz) (hi : P.info? e = some i) (hiz : i.zero = some rz)
    (hz : zeroOf P e = some z) (hzr : VR ι z rz) (hzl : z.cells.length = sz) (h0 : 0 < sz) (ha : appended P e sz xt x h = some (n, cs)) (hby : n * i.bytes ≤ 1099511627776) {rx : Value} (hx : VR ι x rx) :
    ∃ zeros A us, VRs ι cs us ∧ (∀ w2 : World, (∀ a, w2.cell? a = w.cell? a) → A.run P w2 = .ok us.toArray w2) ∧
      ∀ base sLen sCap, (Builtin.append_ #[st, xt] ty #[.slice base sLen sCap, rx]).run P w = (appendCore e sz zeros n base sLen sCap rx A).run P w := by
  unfold appended at ha
  cases hu : P.underlying xt with
  | none => rw [hu] at ha; cases ha
  | some d =>
    rw [hu] at ha
    by_cases hd : ∃ k, d = .int k
    · obtain ⟨k, rfl⟩ := hd
      simp only [hz] at ha
      cases x with
      | int k' l =>
        simp only at ha
        split at ha
        · rename_i hc; obtain ⟨c1, c2, c3⟩ := hc; cases ha
          have := hx.int_inv; subst this
          have his : i.size = sz := by simp only [szOf, hi] at hs; cases hs; rfl
          refine ⟨true, _, (Builtin.zeroCells rz.cells l.toNat).toList, zeroCells_rel hzr hzl h0 _, ?_, fun base sLen sCap => append_eq_zeros hst hi his hu c1 c2 hby w⟩
          intro w2 _
          by_cases hl0 : l.toNat * sz = 0
          · rw [if_pos hl0]
            have : l.toNat = 0 := by
              rcases Nat.mul_eq_zero.1 hl0 with q | q
              · exact q
              · omega
            simp [this, Builtin.zeroCells]
          · rw [if_neg hl0]
            simp [run_zeroValue' hi hiz]
        · cases ha
      | _ => cases ha
    · have hd' : ∀ k, d ≠ .int k := fun k q => hd ⟨k, q⟩
      have ha' : (match nlenOf x with
        | some n => (match srcCells sz n h x with | some cs => some (n, cs) | none => none)
        | none => none) = some (n, cs) := by
        cases d <;> first | exact absurd rfl (hd' _) | exact ha
      cases hn : nlenOf x with
      | none => rw [hn] at ha'; cases ha'
      | some n' => cases hc : srcCells sz n' h x with
        | none => rw [hn] at ha'; simp only at ha'; rw [hc] at ha'; cases ha'
        | some cs' =>
          rw [hn] at ha'; simp only at ha'; rw [hc] at ha'; cases ha'
          obtain ⟨rs, r1, r2⟩ := src_sound (P := P) I hc hx
          exact ⟨false, _, rs, r1, r2, fun base sLen sCap => append_eq_src hst hs hu hd' (lenOf_sound hn hx) w⟩

theorem Inv.kill (I : Inv w0 ι h w) {b : Nat} (hb : b < h.next) : Inv w0 ι (h.set b .dead) w ∧ Step ι h w ι (h.set b .dead) w := by
  have get : ∀ {b' ob'}, (h.set b .dead).get b' = some ob' → ob' = .dead ∨ h.get b' = some ob' := by
    intro b' ob' q
    rw [NHeap.get_set] at q
    split at q
    · cases q; exact .inl rfl
    · exact .inr q
  refine ⟨⟨I.below, fun b' x q => by simpa using I.fresh b' x q, ?_, ?_, ?_, ?_, ?_⟩, ⟨ι.le_refl, fun _ _ q => .inl q, Nat.le_refl _, fun _ _ _ => rfl, ?_, by simp⟩⟩
  · intro b' cs t q
    rcases get q with q' | q'
    · cases q'
    · exact I.cells b' cs q'
  · intro b' cs T k q
    rcases get q with q' | q'
    · cases q'
    · exact I.typed b' cs T k q'
  · intro b' cs q
    rcases get q with q' | q'
    · cases q'
    · exact I.ro b' cs q'
  · intro b' es q
    rcases get q with q' | q'
    · cases q'
    · exact I.maps b' es q'
  · intro b1 b2 o1 o2 rb s1 s2 m1 m2 g1 w1 g2 w2 i1 i2
    rcases get g1 with p1 | p1
    · subst p1; simp [NObj.owned] at w1
    · rcases get g2 with p2 | p2
      · subst p2; simp [NObj.owned] at w2
      · exact I.inj b1 b2 o1 o2 rb s1 s2 m1 m2 p1 w1 p2 w2 i1 i2
  · rintro k ⟨b', ob', s', m', g, ho, hi⟩
    rcases get g with p | p
    · subst p; simp [NObj.owned] at ho
    · exact .inl ⟨b', ob', s', m', p, ho, hi⟩

theorem allOne_append : ∀ l m : List NVal, allOne (l ++ m) = (allOne l && allOne m)
  | [], m => by simp [allOne]
  | a :: l, m => by simp [allOne, allOne_append l m, Bool.and_assoc]
theorem allOne_repeat {z : List NVal} (hz : allOne z = true) : ∀ n, allOne (repeatCells z n) = true
  | 0 => rfl
  | n + 1 => by simp [repeatCells, allOne_append, hz, allOne_repeat hz n]

theorem append_sound (I : Inv w0 ι h w) {st xt ty : TypeId} {s x v : NVal} {h' : NHeap} (ha : nappend P st xt s x h = some (v, h')) {rs rx : Value} (hs : VR ι s rs) (hx : VR ι x rx) :
    ∃ ι' w' rv, (Builtin.append_ #[st, xt] ty #[rs, rx]).run P w = .ok rv w' ∧ VR ι' v rv ∧ Inv w0 ι' h' w' ∧ Step ι h w ι' h' w' := by
  unfold nappend at ha
  cases hu : P.underlying st with
  | none => rw [hu] at ha; cases ha
  | some d =>
    rw [hu] at ha
    cases d with
    | slice e =>
      cases s with
      | slice base len cap xx =>
        simp only at ha
        cases hn : szOf P e with
        | none => rw [hn] at ha; cases ha
        | some sz => cases hb : bytesOf P e with
          | none => rw [hn, hb] at ha; cases ha
          | some by_ => cases hz : zeroOf P e with
            | none => rw [hn, hb, hz] at ha; cases ha
            | some z =>
              rw [hn, hb, hz] at ha; simp only at ha
              split at ha
              · rename_i hc0; obtain ⟨hzl, hz0, hzo⟩ := hc0
                cases hap : appended P e sz xt x h with
                | none => rw [hap] at ha; cases ha
                | some p =>
                  obtain ⟨n, cs⟩ := p
                  rw [hap] at ha; simp only at ha
                  split at ha
                  · rename_i hc1; obtain ⟨hcl, hone, h40, hby⟩ := hc1
                    obtain ⟨i, rz, hi, hiz, hzr⟩ := zeroOf_sound (ι := ι) hz
                    have hbi : i.bytes = by_ := by simp only [bytesOf, hi] at hb; cases hb; rfl
                    have hby' : n * i.bytes ≤ 1099511627776 := by
                      rw [hbi]; exact Nat.le_trans (Nat.mul_le_mul_right _ (by omega)) hby
                    obtain ⟨zeros, A, us, hus, hA, heq⟩ := appended_sound (ty := ty) I hu hn hi hiz hz hzr hzl hz0 hap hby' hx
                    have hul : us.length = n * sz := by rw [← hus.length, hcl]
                    -- a block that is made anew
                    have grow : ∀ {rbase rcap} {os : List Value} {olds : List NVal} (h2 : NHeap) (I2 : Inv w0 ι h2 w) {t : Option (TypeId × Nat)}, (t = none ∨ t = some (e, 0) ∧ ∀ v ∈ os, v.oneCell' = true) → VRs ι olds os → olds.length = len * sz → rcap < len + n →
                        (∀ w2 : World, (∀ a, w2.cell? a = w.cell? a) → (Builtin.firstCells sz len (.slice rbase len rcap)).run P w2 = .ok os.toArray w2) →
                        ∃ ι' w' rv, (Builtin.append_ #[st, xt] ty #[.slice rbase len rcap, rx]).run P w = .ok rv w' ∧ VR ι' (.slice (some (h2.next, 0)) (len + n) (len + n) (some sz)) rv ∧
                          Inv w0 ι' (h2.alloc (.cells (olds ++ cs) (.own t))) w' ∧ Step ι h2 w ι' (h2.alloc (.cells (olds ++ cs) (.own t))) w' := by
                      intro rbase rcap os olds h2 I2 t ht ho hol hlt hO
                      have hrun := core_grow (zeros := zeros) (x := rx) hi hiz (.inr trivial) hA hO hlt h40 (by rw [hbi]; exact hby)
                      have hge := grownCap_ge w (len + n) rcap e
                      have hol' : os.length = len * sz := by rw [← ho.length, hol]
                      have hrzl : rz.cells.size = sz := by have := hzr.cells.length; simp at this; omega
                      have hsize : (os.toArray ++ us.toArray ++ Builtin.zeroCells rz.cells (grownCap w (len + n) rcap e - (len + n))).size = grownCap w (len + n) rcap e * sz := by
                        simp only [Array.size_append, List.size_toArray, size_zeroCells, hrzl, hol', hul, ← Nat.add_mul]
                        congr 1; omega
                      obtain ⟨I', S'⟩ := I2.push (o := .cells (olds ++ cs) (.own t)) (Pushed.drewAlloc w (.cells (os.toArray ++ us.toArray ++ Builtin.zeroCells rz.cells (grownCap w (len + n) rcap e - (len + n))) e)) (grownCap w (len + n) rcap e * sz)
                        (fun cs' t' q => by
                          cases q
                          refine ⟨_, _, (0, 0), rfl, by rw [hsize]; exact Nat.le_refl _, ?_, by simp, fun j v hj => ?_⟩
                          · rw [List.length_append, hol, hcl, ← Nat.add_mul]; exact Nat.mul_le_mul_right _ hge
                          · obtain ⟨r, hr, hv⟩ := (ho.append hus).get hj
                            have hjl : j < (os ++ us).length := (List.getElem?_eq_some_iff.1 hr).1
                            refine ⟨r, ?_, hv⟩
                            rw [← Array.getElem?_toList]
                            simp only [Array.toList_append]
                            rw [List.getElem?_append_left (by simpa using hjl)]
                            simpa using hr)
                        (fun _ q => by cases q) (fun _ q => by cases q) (fun cs' T k q => by
                          cases q
                          rcases ht with ht | ⟨ht, hto⟩ <;> cases ht
                          refine ⟨_, rfl, by rw [hsize], .inl rfl, fun _ i r hr => ?_⟩
                          rw [Array.getElem?_append] at hr
                          split at hr
                          · rw [Array.getElem?_append] at hr
                            split at hr
                            · exact hto r (List.mem_of_getElem? (by simpa using hr))
                            · exact allOne_sound hone hus r (List.mem_of_getElem? (by simpa using hr))
                          · have hm := List.mem_of_getElem? (l := (Builtin.zeroCells rz.cells (grownCap w (len + n) rcap e - (len + n))).toList) (by simpa using hr)
                            exact allOne_sound (allOne_repeat hzo _) (zeroCells_rel hzr hzl hz0 _) r hm)
                      refine ⟨_, _, _, by rw [heq]; exact hrun, ?_, I', S'⟩
                      have := VR.sliceMore (ι := ι.upd h2.next (w.heap.size, 0, grownCap w (len + n) rcap e * sz)) (b := h2.next) (o := 0) (z := sz) (len := len + n) (cap := len + n) (rcap := grownCap w (len + n) rcap e) (by simp; exact ⟨rfl, rfl, rfl⟩) hge hge (by omega)
                      simpa using this
                    cases base with
                    | none =>
                      simp only at ha
                      have hrs : rs = .slice none 0 0 ∧ len = 0 := by
                        cases hh : rs <;> rw [hh] at hs <;> cases hs; exact ⟨rfl, rfl⟩
                      obtain ⟨rfl, rfl⟩ := hrs
                      split at ha
                      · rename_i hn0; subst hn0; cases ha
                        refine ⟨ι, w, .slice none 0 0, ?_, .sliceNil, I, Step.refl _ _ _⟩
                        rw [heq]; exact core_nil (hA w fun _ => rfl)
                      · rename_i hn0; cases ha
                        have := grow (rbase := none) (rcap := 0) (os := []) (olds := []) h I (.inr ⟨rfl, by simp⟩) .nil (by simp) (by omega) (fun w2 _ => by simp [Builtin.firstCells])
                        simpa using this
                    | some bo =>
                      obtain ⟨b, o⟩ := bo
                      simp only at ha
                      by_cases hn0 : n = 0
                      · rw [if_pos hn0] at ha; cases ha
                        have room0 : ∀ {a rcap}, len ≤ rcap → (Builtin.append_ #[st, xt] ty #[.slice (some a) len rcap, rx]).run P w = .ok (.slice (some a) len rcap) w := by
                          intro a rcap hle
                          have us0 : us = [] := List.eq_nil_of_length_eq_zero (by rw [hul, hn0, Nat.zero_mul])
                          rw [heq, core_room (hA w fun _ => rfl) (by omega), us0, hn0]
                          rfl
                        refine ⟨ι, w, rs, ?_, hs, I, Step.refl _ _ _⟩
                        cases hs with
                        | slice hι hl hc => subst hc; exact room0 hl
                        | sliceMore hι hl hc hm => exact room0 hl
                        | sliceEmpty => exact room0 (Nat.zero_le _)
                      rw [if_neg hn0] at ha
                      by_cases hroom : len + n ≤ cap
                      · rw [if_pos hroom] at ha
                        cases hg : h.get b with
                        | none => rw [hg] at ha; cases ha
                        | some ob =>
                          rw [hg] at ha
                          cases ob with
                          | map es => cases ha
                          | dead => cases ha
                          | cells old mine => cases mine with
                            | ro => cases ha
                            | own q =>
                              simp only at ha
                              split at ha
                              · rename_i hle; cases ha
                                have hmul : (len + n) * sz = len * sz + n * sz := Nat.add_mul _ _ _
                                have main : ∀ {rb s m rcap}, ι b = some (rb, s, m) → len + n ≤ rcap → VR ι (.slice (some (b, o)) (len + n) cap xx) (.slice (some ⟨rb, s + o, none⟩) (len + n) rcap) →
                                    ∃ ι' w' rv, (Builtin.append_ #[st, xt] ty #[.slice (some ⟨rb, s + o, none⟩) len rcap, rx]).run P w = .ok rv w' ∧ VR ι' (.slice (some (b, o)) (len + n) cap xx) rv ∧
                                      Inv w0 ι' (h.set b (.cells (setRange old (o + len * sz) cs) (.own q))) w' ∧ Step ι h w ι' (h.set b (.cells (setRange old (o + len * sz) cs) (.own q))) w' := by
                                  intro rb s m rcap hι hrc hvr
                                  obtain ⟨w', r1, r2, r3⟩ := I.write (P := P) (o := o + len * sz) hg hι hus hone (by omega)
                                  refine ⟨ι, w', _, ?_, hvr, r2, r3⟩
                                  rw [heq, core_room (hA w fun _ => rfl) hrc, add_at, show s + o + len * sz = s + (o + len * sz) by omega, r1]
                                  rfl
                                cases hs with
                                | slice hι hl hc => subst hc; exact main hι hroom (.slice hι hroom rfl)
                                | sliceMore hι hl hc hm => exact main hι (by omega) (.sliceMore hι (by omega) hc hm)
                                | sliceEmpty => omega
                              · cases ha
                      · rw [if_neg hroom] at ha
                        cases xx with
                        | none =>
                          simp only at ha
                          cases hsrc : srcCells sz len h (.slice (some (b, o)) len cap none) with
                          | none => rw [hsrc] at ha; cases ha
                          | some olds =>
                            rw [hsrc] at ha; simp only at ha
                            split at ha
                            case isFalse => cases ha
                            rename_i holo
                            cases ha
                            obtain ⟨os, o1, o2⟩ := src_sound (P := P) I hsrc hs
                            have hol : olds.length = len * sz := by
                              simp only [srcCells] at hsrc
                              split at hsrc
                              · rename_i q; cases hsrc; simp [q]
                              · cases hg : h.get b with
                                | none => rw [hg] at hsrc; cases hsrc
                                | some ob =>
                                  rw [hg] at hsrc
                                  cases ob with
                                  | cells cc mm =>
                                    simp only at hsrc
                                    split at hsrc
                                    · rename_i q; cases hsrc; simp; omega
                                    · cases hsrc
                                  | map _ => cases hsrc
                                  | dead => cases hsrc
                            cases hs with
                            | slice hι hl hc => subst hc; exact grow h I (.inr ⟨rfl, allOne_sound holo o1⟩) o1 hol (by omega) o2
                        | some q =>
                          simp only at ha
                          split at ha
                          · rename_i hq; obtain ⟨rfl, hpos⟩ := hq
                            cases hg : h.get b with
                            | none => rw [hg] at ha; cases ha
                            | some ob =>
                              rw [hg] at ha
                              cases ob with
                              | map es => cases ha
                              | dead => cases ha
                              | cells old mine => cases mine with
                                | ro => cases ha
                                | own t0 =>
                                  simp only at ha
                                  split at ha
                                  · rename_i hle; cases ha
                                    cases hs with
                                    | sliceEmpty => omega
                                    | sliceMore hι hl hc hm =>
                                      rename_i rb s m rcap
                                      by_cases hin : len + n ≤ rcap
                                      · -- in place
                                        have hmul : (len + n) * q = len * q + n * q := Nat.add_mul _ _ _
                                        have hmul2 : (len + n) * q ≤ rcap * q := Nat.mul_le_mul_right _ hin
                                        obtain ⟨w', r1, r2, r3⟩ := I.regrow (P := P) (e0 := e) hg hι hus hone (o := o) (k := len * q) hle (by omega)
                                        refine ⟨_, w', .slice (some ⟨rb, s + o, none⟩) (len + n) rcap, ?_, ?_, r2, r3⟩
                                        · rw [heq, core_room (hA w fun _ => rfl) hin, add_at, show s + o + len * q = s + (o + len * q) by omega, r1]
                                          rfl
                                        · have := VR.sliceMore (ι := ι.upd h.next (rb, s + o, m - o)) (b := h.next) (o := 0) (z := q) (len := len + n) (cap := len + n) (rcap := rcap) (by simp; exact ⟨rfl, rfl, rfl⟩) hin hin (by omega)
                                          simpa using this
                                      · -- anew
                                        obtain ⟨os, o1, o2, o3⟩ := I.range hg hι (len * q) o hle
                                        obtain ⟨ι', w', rv, r1, r2, r3, r4⟩ := grow (rbase := some ⟨rb, s + o, none⟩) (rcap := rcap) (h.set b .dead) (I.kill (NHeap.get_lt hg)).1 (t := regrown o e t0) (by
                                          unfold regrown
                                          split
                                          · rename_i hr
                                            refine .inr ⟨hr.2, fun v hv => ?_⟩
                                            obtain ⟨j, hj⟩ := List.getElem?_of_mem hv
                                            have hcell := o3 j v hj
                                            obtain ⟨rb2, c2, t1, t2, t3, t4⟩ := I.typed b old e 0 (by rw [hg, hr.2])
                                            rw [hι] at t1; cases t1
                                            rw [add_at] at hcell
                                            simp only [World.cell?, t2] at hcell
                                            exact t4 rfl _ v (by simpa using hcell)
                                          · exact .inl rfl) o2 (by simp; omega) (by omega) (fun w2 hw2 => run_firstCells_some w2 q len _ len rcap os o1 (fun j v e => by rw [hw2]; exact o3 j v e))
                                        exact ⟨ι', w', rv, r1, r2, r3, (I.kill (NHeap.get_lt hg)).2.trans r4⟩
                                  · cases ha
                          · cases ha
                  · cases ha
              · cases ha
      | _ => cases ha
    | _ => cases ha

/-! ### copy, clear, maps -/

theorem copy_sound (I : Inv w0 ι h w) {dt st' ty : TypeId} {rest : List TypeId} {d s v : NVal} {h' : NHeap} (hc : ncopy P dt d s h = some (v, h')) {rd rs : Value} (hd : VR ι d rd) (hs : VR ι s rs) {argTypes : Array TypeId} (hat : argTypes[0]? = some dt) :
    ∃ ι' w' rv, (Builtin.copy_ argTypes ty #[rd, rs]).run P w = .ok rv w' ∧ VR ι' v rv ∧ Inv w0 ι' h' w' ∧ Step ι h w ι' h' w' := by
  unfold ncopy at hc
  cases hu : P.underlying dt with
  | none => rw [hu] at hc; cases hc
  | some td =>
    rw [hu] at hc
    cases td with
    | slice e =>
      cases d with
      | slice base dl dcap xx =>
        simp only at hc
        cases hn : szOf P e with
        | none => rw [hn] at hc; cases hc
        | some sz => cases hl : nlenOf s with
          | none => rw [hn, hl] at hc; cases hc
          | some sl =>
            rw [hn, hl] at hc; simp only at hc
            cases hsrc : srcCells sz (min sl dl) h s with
            | none => rw [hsrc] at hc; cases hc
            | some cs =>
              rw [hsrc] at hc; simp only at hc
              split at hc
              · rename_i hone
                obtain ⟨us, u1, u2⟩ := src_sound (P := P) I hsrc hs
                have hu2 := u2 w fun _ => rfl
                have hlen := lenOf_sound (P := P) hl hs w
                have shape : ∃ rb0 rcap, rd = .slice rb0 dl rcap := by
                  cases hd <;> exact ⟨_, _, rfl⟩
                obtain ⟨rbase, rcap, hrd⟩ := shape
                have run : (Builtin.copy_ argTypes ty #[rd, rs]).run P w = rbase.elim (.ok (.int .i64 (min sl dl : Nat)) w) (fun a => ((storeCells a us 0).run P w).andThen fun _ w' => .ok (.int .i64 (min sl dl : Nat)) w') := by
                  rw [hrd]
                  unfold Builtin.copy_
                  simp only [hat, List.getElem?_toArray, List.getElem?_cons_zero, List.getElem?_cons_succ, Sem.run_bind, run_underlying hu, Result.andThen_ok, hlen, run_sizeOf' hn]
                  have e1 : Nat.min sl dl = min sl dl := rfl
                  rw [e1, hu2]
                  cases rbase <;> simp [goInt]
                cases base with
                | none =>
                  simp only at hc
                  split at hc
                  · cases hc
                    have : rbase = none := by subst hrd; cases hd; rfl
                    subst this
                    exact ⟨ι, w, _, run, .int _ _, I, Step.refl _ _ _⟩
                  · cases hc
                | some bo =>
                  obtain ⟨b, o⟩ := bo
                  simp only at hc
                  split at hc
                  · rename_i h0; cases hc
                    have us0 : us = [] := List.eq_nil_of_length_eq_zero (by rw [← u1.length]; exact h0)
                    refine ⟨ι, w, .int .i64 (min sl dl : Nat), ?_, .int _ _, I, Step.refl _ _ _⟩
                    rw [run]
                    cases rbase with
                    | none => rfl
                    | some a => rw [us0]; rfl
                  · rename_i h0
                    cases hg : h.get b with
                    | none => rw [hg] at hc; cases hc
                    | some ob =>
                      rw [hg] at hc
                      cases ob with
                      | map es => cases hc
                      | dead => cases hc
                      | cells old mine => cases mine with
                        | ro => cases hc
                        | own q =>
                          simp only at hc
                          split at hc
                          · rename_i hle; cases hc
                            have main : ∀ {rb s m}, ι b = some (rb, s, m) → rbase = some ⟨rb, s + o, none⟩ → ∃ ι' w' rv, (Builtin.copy_ argTypes ty #[rd, rs]).run P w = .ok rv w' ∧ VR ι' (.int .i64 (min sl dl : Nat)) rv ∧
                                Inv w0 ι' (h.set b (.cells (setRange old o cs) (.own q))) w' ∧ Step ι h w ι' (h.set b (.cells (setRange old o cs) (.own q))) w' := by
                              intro rb s m hι hb
                              subst hb
                              obtain ⟨w', r1, r2, r3⟩ := I.write (P := P) hg hι u1 hone (o := o) hle
                              exact ⟨ι, w', _, by rw [run]; simp only [Option.elim]; rw [r1]; rfl, .int _ _, r2, r3⟩
                            subst hrd
                            cases hd with
                            | slice hι => exact main hι rfl
                            | sliceMore hι => exact main hι rfl
                            | sliceEmpty =>
                              exfalso
                              apply h0
                              have hmin : min sl 0 = 0 := by omega
                              rw [hmin] at hsrc
                              have : cs = [] := by
                                cases s with
                                | slice a _ _ _ => cases a <;> simp [srcCells] at hsrc <;> exact hsrc
                                | str _ => simp [srcCells] at hsrc; exact hsrc
                                | _ => simp [srcCells] at hsrc
                              simp [this]
                          · cases hc
              · cases hc
      | _ => cases hc
    | _ => cases hc

theorem clear_sound (I : Inv w0 ι h w) {t ty : TypeId} {x v : NVal} {h' : NHeap} (hc : nclear P t x h = some (v, h')) {rx : Value} (hx : VR ι x rx) {argTypes : Array TypeId} (hat : argTypes[0]? = some t) :
    ∃ ι' w' rv, (Builtin.clear_ argTypes ty #[rx]).run P w = .ok rv w' ∧ VR ι' v rv ∧ Inv w0 ι' h' w' ∧ Step ι h w ι' h' w' := by
  unfold nclear at hc
  cases hu : P.underlying t with
  | none => rw [hu] at hc; cases hc
  | some td =>
    rw [hu] at hc
    cases td with
    | slice e =>
      cases x with
      | slice a n cap xx =>
        have nothing : ∀ rx' : Value, rx = rx' → (∃ c m, rx' = .slice none m c) ∨ (∃ a c, rx' = .slice a 0 c) → (Builtin.clear_ argTypes ty #[rx]).run P w = .ok (.tuple #[]) w := by
          intro rx' e hs
          subst e
          rcases hs with ⟨c, m, rfl⟩ | ⟨a, c, rfl⟩
          · unfold Builtin.clear_
            simp only [hat, List.getElem?_toArray, List.getElem?_cons_zero, Sem.run_bind, run_underlying hu, Result.andThen_ok, Sem.run_pure]
          · unfold Builtin.clear_
            simp only [hat, List.getElem?_toArray, List.getElem?_cons_zero, Sem.run_bind, run_underlying hu, Result.andThen_ok, Sem.run_pure]
            cases a <;> rfl
        have tup : VR ι (.tuple []) (.tuple #[]) := .tuple' (by simpa using All2.nil)
        cases a with
        | none =>
          simp only at hc; cases hc
          refine ⟨ι, w, _, nothing rx rfl (.inl ?_), tup, I, Step.refl _ _ _⟩
          cases hx; exact ⟨_, _, rfl⟩
        | some bo =>
          obtain ⟨b, o⟩ := bo
          simp only at hc
          split at hc
          · rename_i h0; subst h0; cases hc
            refine ⟨ι, w, _, nothing rx rfl (.inr ?_), tup, I, Step.refl _ _ _⟩
            cases hx <;> exact ⟨_, _, rfl⟩
          · rename_i h0
            cases hz : zeroOf P e with
            | none => rw [hz] at hc; cases hc
            | some z => cases hg : h.get b with
              | none => rw [hz, hg] at hc; cases hc
              | some ob =>
                rw [hz, hg] at hc
                cases ob with
                | map es => cases hc
                | dead => cases hc
                | cells old mine => cases mine with
                  | ro => cases hc
                  | own q =>
                    simp only at hc
                    split at hc
                    · rename_i hle; obtain ⟨hle, hone⟩ := hle; cases hc
                      obtain ⟨i, rz, hi, hiz, hzr⟩ := zeroOf_sound (ι := ι) hz
                      have hz0 : ∀ cs : List NVal, cs.length = 0 → cs = [] := fun cs q => List.eq_nil_of_length_eq_zero q
                      have hrel : VRs ι (repeatCells z.cells n) (Builtin.zeroCells rz.cells n).toList := by
                        by_cases hz00 : 0 < z.cells.length
                        · exact zeroCells_rel hzr rfl hz00 n
                        · have e1 : repeatCells z.cells n = [] := hz0 _ (by rw [repeat_length]; simp [Nat.eq_zero_of_not_pos hz00])
                          have e2 : (Builtin.zeroCells rz.cells n).toList = [] := List.eq_nil_of_length_eq_zero (by
                            have := hzr.cells.length; simp at this
                            simp only [Array.length_toList, size_zeroCells]
                            rw [← this, Nat.eq_zero_of_not_pos hz00]; simp)
                          rw [e1, e2]; exact .nil
                      have hall : allOne (repeatCells z.cells n) = true := allOne_repeat hone n
                      have main : ∀ {rb s m rcap}, ι b = some (rb, s, m) → ∃ ι' w' rv, (Builtin.clear_ argTypes ty #[.slice (some ⟨rb, s + o, none⟩) n rcap]).run P w = .ok rv w' ∧ VR ι' (.tuple []) rv ∧
                          Inv w0 ι' (h.set b (.cells (setRange old o (repeatCells z.cells n)) (.own q))) w' ∧ Step ι h w ι' (h.set b (.cells (setRange old o (repeatCells z.cells n)) (.own q))) w' := by
                        intro rb s m rcap hι
                        obtain ⟨w', r1, r2, r3⟩ := I.write (P := P) hg hι hrel hall (o := o) (by rw [repeat_length]; exact hle)
                        refine ⟨ι, w', .tuple #[], ?_, tup, r2, r3⟩
                        obtain ⟨n, rfl⟩ : ∃ k, n = k + 1 := ⟨n - 1, by omega⟩
                        unfold Builtin.clear_
                        simp only [hat, List.getElem?_toArray, List.getElem?_cons_zero, Sem.run_bind, run_underlying hu, Result.andThen_ok, Sem.run_pure, run_zeroValue' hi hiz, r1]
                      cases hx with
                      | slice hι => exact main hι
                      | sliceMore hι => exact main hι
                      | sliceEmpty => exact absurd rfl h0
                    · cases hc
      | _ => cases hc
    | _ => cases hc
end Go.Proofs.Ytblhpikljhholaa.NICE
