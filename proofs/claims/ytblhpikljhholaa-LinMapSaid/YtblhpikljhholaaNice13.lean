/- Maps that are written; every operation that changes memory, in one sentence. -/
import Derived.Test.YtblhpikljhholaaNice12
set_option linter.unusedVariables false
set_option linter.unusedSimpArgs false
namespace Go.Proofs.Ytblhpikljhholaa.NICE
open Go Go.RowKit

variable {P : Program} {w0 w : World} {ι : Inj} {h : NHeap}

abbrev EntR (ι : Inj) : NVal × NVal → MapEntry → Prop := fun p e => VR ι p.1 e.key ∧ VR ι p.2 e.val

theorem Inv.setMap (I : Inv w0 ι h w) {b : Nat} {es es' : List (NVal × NVal)} (hb : h.get b = some (.map es)) {rb s m : Nat} (hι : ι b = some (rb, s, m)) {ents ents' : Array MapEntry} {clock clock' : Nat}
    (hw : w.heap[rb]? = some (.map ents clock)) (hr : All2 (EntR ι) es' ents'.toList) :
    Inv w0 ι (h.set b (.map es')) { w with heap := w.heap.setIfInBounds rb (.map ents' clock') } ∧ Step ι h w ι (h.set b (.map es')) { w with heap := w.heap.setIfInBounds rb (.map ents' clock') } := by
  have hlt := NHeap.get_lt hb
  obtain ⟨rb1, s1, m1, ents1, clock1, q1, q2, q3, q4⟩ := I.maps b es hb
  rw [hι] at q1; cases q1
  obtain ⟨hnew, hother⟩ := MapKept.heap_set (o' := .map ents' clock') hw
  have get : ∀ {b' ob'}, (h.set b (.map es')).get b' = some ob' → (b' = b ∧ ob' = .map es') ∨ (b' ≠ b ∧ h.get b' = some ob') := by
    intro b' ob' e
    rw [NHeap.get_set] at e
    split at e
    · rename_i hh; cases e; exact .inl ⟨hh.1, rfl⟩
    · rename_i hh; exact .inr ⟨fun q => hh ⟨q, hlt⟩, e⟩
  have ne_of : ∀ {b' ob' rb' s' m'}, b' ≠ b → h.get b' = some ob' → ob'.owned = true → ι b' = some (rb', s', m') → rb' ≠ rb := by
    intro b' ob' rb' s' m' hne hg how hi q
    subst q
    exact hne (I.inj b' b ob' _ rb' s' s m' m hg how hb rfl hi hι)
  refine ⟨⟨I.below.trans ⟨rfl, rfl, rfl, by simp, fun k hk => hother k (by omega)⟩, fun b' x q => by simpa using I.fresh b' x q, ?_, ?_, ?_, ?_, ?_⟩, ⟨ι.le_refl, fun _ _ q => .inl q, by simp, ?_, ?_, by simp⟩⟩
  · intro b' ds t q
    rcases get q with ⟨rfl, q'⟩ | ⟨hne, q'⟩
    · cases q'
    · obtain ⟨rb', s', m', c2, e2, fz2, h1, h2, h3, h4⟩ := I.cells b' ds q'
      exact ⟨rb', s', m', c2, e2, fz2, h1, h2, by rw [hother rb' (ne_of hne q' rfl h1)]; exact h3, h4⟩
  · intro b' ds T k1 q
    rcases get q with ⟨rfl, q'⟩ | ⟨hne, q'⟩
    · cases q'
    · obtain ⟨rb', c2, h1, h2, h3⟩ := I.typed b' ds T k1 q'
      exact ⟨rb', c2, h1, by rw [hother rb' (ne_of hne q' rfl h1)]; exact h2, h3⟩
  · intro b' ds q
    rcases get q with ⟨rfl, q'⟩ | ⟨hne, q'⟩
    · cases q'
    · exact I.ro b' ds q'
  · intro b' fs q
    rcases get q with ⟨rfl, q'⟩ | ⟨hne, q'⟩
    · cases q'; exact ⟨rb, s, m, ents', clock', hι, q2, hnew, hr⟩
    · obtain ⟨rb', s', m', e1, k, h1, h2, h3, h4⟩ := I.maps b' fs q'
      exact ⟨rb', s', m', e1, k, h1, h2, by rw [hother rb' (ne_of hne q' rfl h1)]; exact h3, h4⟩
  · intro b1 b2 o1 o2 rb' s1 s2 m1 m2 g1 w1 g2 w2 i1 i2
    have : ∀ {b' ob'}, (h.set b (.map es')).get b' = some ob' → ob'.owned = true → ∃ ob'', h.get b' = some ob'' ∧ ob''.owned = true := by
      intro b' ob' q qo
      rcases get q with ⟨rfl, q'⟩ | ⟨hne, q'⟩
      · exact ⟨_, hb, rfl⟩
      · exact ⟨_, q', qo⟩
    obtain ⟨p1, g1, w1⟩ := this g1 w1
    obtain ⟨p2, g2, w2⟩ := this g2 w2
    exact I.inj b1 b2 p1 p2 rb' s1 s2 m1 m2 g1 w1 g2 w2 i1 i2
  · intro k hk hno
    exact hother k (fun q => hno (by subst q; exact ⟨b, _, s, m, hb, rfl, hι⟩))
  · rintro k ⟨b', ob', s', m', g, ho, hi⟩
    rcases get g with ⟨rfl, g⟩ | ⟨hne, g⟩
    · exact .inl ⟨b', _, s', m', hb, rfl, hi⟩
    · exact .inl ⟨b', ob', s', m', g, ho, hi⟩

theorem All2.eraseIdx {α β : Type} {R : α → β → Prop} : ∀ {l : List α} {m : List β} (i : Nat), All2 R l m → All2 R (l.eraseIdx i) (m.eraseIdx i)
  | _, _, _, .nil => by simpa using All2.nil
  | _, _, 0, .cons _ b => by simpa using b
  | _, _, i + 1, .cons a b => by simpa using All2.cons a (b.eraseIdx i)

theorem VR.map_inv {b : Nat} {r : Value} (h : VR ι (.map (some b)) r) : ∃ rb s m, ι b = some (rb, s, m) ∧ r = .map (some rb) := by
  cases h with | map hh => exact ⟨_, _, _, hh, rfl⟩

theorem keyTy_some {kt : TypeId} {k : NVal} (hk : keyTypeOk P kt k = true) : ∃ kd, P.underlying kt = some kd := by
  cases hq : P.underlying kt with
  | none => simp only [keyTypeOk, hq] at hk; cases k <;> simp at hk
  | some q => exact ⟨q, rfl⟩

theorem sameBits_key {kt : TypeId} {k : NVal} (hk : keyTypeOk P kt k = true) {rk : Value} (hr : VR ι k rk) : Instr.sameBits 10000 rk rk = true := by
  cases k <;> simp [keyTypeOk] at hk
  · have := hr.int_inv; subst this; simp [Instr.sameBits]
  · obtain ⟨b, rfl, _⟩ := hr.str_inv
    simp only [Instr.sameBits]
    exact (MapKept.bytes_beq b b).2 rfl

theorem mapUpdate_sound (I : Inv w0 ι h w) {t : TypeId} {m k v : NVal} {h' : NHeap} (hu : nmapUpdate P t m k v h = some h') {rm rk rv : Value} (hm : VR ι m rm) (hk : VR ι k rk) (hv : VR ι v rv) :
    ∃ w', (Instr.mapUpdate t rm rk rv).run P w = .ok () w' ∧ Inv w0 ι h' w' ∧ Step ι h w ι h' w' := by
  unfold nmapUpdate at hu
  cases ht : P.underlying t with
  | none => rw [ht] at hu; cases hu
  | some td =>
    rw [ht] at hu
    cases td with
    | map kt et =>
      cases m with
      | map r =>
        cases r with
        | none => cases hu
        | some b =>
          simp only at hu
          split at hu
          · rename_i hkt
            cases hg : h.get b with
            | none => rw [hg] at hu; cases hu
            | some ob =>
              rw [hg] at hu
              cases ob with
              | cells _ _ => cases hu
              | dead => cases hu
              | map es =>
                simp only at hu
                cases hs : nmapSet es k v with
                | none => rw [hs] at hu; cases hu
                | some es' =>
                  rw [hs] at hu; cases hu
                  obtain ⟨rb, s, m, hι, rfl⟩ := hm.map_inv
                  obtain ⟨rb1, s1, m1, ents, clock, q1, q2, q3, q4⟩ := I.maps b es hg
                  rw [hι] at q1; cases q1
                  obtain ⟨kd, hkd⟩ := keyTy_some hkt
                  have hgo : (getObj rb).run P w = .ok (.map ents clock) w := by simp [getObj, Sem.run, q3]
                  have hset : ∀ o, (setObj rb o).run P w = .ok () { w with heap := w.heap.setIfInBounds rb o } := fun o => by simp [setObj, Sem.run, q3]
                  obtain ⟨f1, f2⟩ := keyIn_sound hkd hkt hk 0 q4
                  unfold nmapSet at hs
                  cases hki : nkeyIn k es with
                  | none => rw [hki] at hs; cases hs
                  | some r =>
                    rw [hki] at hs
                    cases r with
                    | none =>
                      cases hs
                      obtain ⟨I', S'⟩ := I.setMap (es' := es ++ [(k, v)]) (ents' := ents.push { key := rk, val := rv, born := clock }) (clock' := clock + 1) hg hι q3 (by
                        rw [Array.toList_push]; exact q4.append (.cons ⟨hk, hv⟩ .nil))
                      refine ⟨_, ?_, I', S'⟩
                      simp [Instr.mapUpdate, run_underlying ht, hgo, key_isKey hkd hkt hk, Instr.findKey, run_underlying hkd, f1 hki, hset]
                    | some p =>
                      obtain ⟨i, u⟩ := p
                      cases hs
                      obtain ⟨e, g1, g2, g3, g4, g5⟩ := f2 i u hki
                      obtain ⟨I', S'⟩ := I.setMap (es' := es.set i (k, v)) (ents' := ents.modify i fun e => { e with key := rk, val := rv }) (clock' := clock) hg hι q3 (by
                        refine .of_get (by simpa using q4.length) fun j p e' hj hj' => ?_
                        rw [Array.getElem?_toList, Array.getElem?_modify] at hj'
                        rw [List.getElem?_set] at hj
                        by_cases hij : i = j
                        · subst hij
                          rw [if_pos rfl] at hj hj'
                          rw [if_pos g5] at hj; cases hj
                          rw [Array.getElem?_toList] at g2
                          rw [g2] at hj'; cases hj'
                          exact ⟨hk, hv⟩
                        · rw [if_neg hij] at hj hj'
                          obtain ⟨e2, h2, r2⟩ := q4.get hj
                          rw [Array.getElem?_toList, hj'] at h2; cases h2; exact r2)
                      refine ⟨_, ?_, I', S'⟩
                      have hks : (ents[i]?).map (·.key) = some rk := by rw [Array.getElem?_toList] at g2; rw [g2]; simp [g4]
                      simp [Instr.mapUpdate, run_underlying ht, hgo, key_isKey hkd hkt hk, Instr.findKey, run_underlying hkd, g1, hks, Instr.keyThatStays, sameBits_key hkt hk, hset]
          · cases hu
      | _ => cases hu
    | _ => cases hu

theorem delete_sound (I : Inv w0 ι h w) {t ty : TypeId} {m k v : NVal} {h' : NHeap} (hu : ndelete P t m k h = some (v, h')) {rm rk : Value} (hm : VR ι m rm) (hk : VR ι k rk) {argTypes : Array TypeId} (hat : argTypes[0]? = some t) :
    ∃ ι' w' rv, (Builtin.delete_ argTypes ty #[rm, rk]).run P w = .ok rv w' ∧ VR ι' v rv ∧ Inv w0 ι' h' w' ∧ Step ι h w ι' h' w' := by
  have tup : VR ι (.tuple []) (.tuple #[]) := .tuple' (by simpa using All2.nil)
  unfold ndelete at hu
  cases ht : P.underlying t with
  | none => rw [ht] at hu; cases hu
  | some td =>
    rw [ht] at hu
    cases td with
    | map kt et =>
      cases m with
      | map r =>
        cases r with
        | none => cases hu
        | some b =>
          simp only at hu
          split at hu
          · rename_i hkt
            cases hg : h.get b with
            | none => rw [hg] at hu; cases hu
            | some ob =>
              rw [hg] at hu
              cases ob with
              | cells _ _ => cases hu
              | dead => cases hu
              | map es =>
                simp only at hu
                obtain ⟨rb, s, m, hι, rfl⟩ := hm.map_inv
                obtain ⟨rb1, s1, m1, ents, clock, q1, q2, q3, q4⟩ := I.maps b es hg
                rw [hι] at q1; cases q1
                obtain ⟨kd, hkd⟩ := keyTy_some hkt
                have hgo : (getObj rb).run P w = .ok (.map ents clock) w := by simp [getObj, Sem.run, q3]
                have hset : ∀ o, (setObj rb o).run P w = .ok () { w with heap := w.heap.setIfInBounds rb o } := fun o => by simp [setObj, Sem.run, q3]
                obtain ⟨f1, f2⟩ := keyIn_sound hkd hkt hk 0 q4
                cases hki : nkeyIn k es with
                | none => rw [hki] at hu; cases hu
                | some r =>
                  rw [hki] at hu
                  cases r with
                  | none =>
                    cases hu
                    obtain ⟨I', S'⟩ := I.setMap (es' := es) (ents' := ents) (clock' := clock) hg hι q3 q4
                    exact ⟨ι, _, _, by simp [Builtin.delete_, hat, run_underlying ht, hgo, key_isKey hkd hkt hk, Instr.findKey, run_underlying hkd, f1 hki, hset], tup, I', S'⟩
                  | some p =>
                    obtain ⟨i, u⟩ := p
                    cases hu
                    obtain ⟨e, g1, g2, g3, g4, g5⟩ := f2 i u hki
                    obtain ⟨I', S'⟩ := I.setMap (es' := es.eraseIdx i) (ents' := ents.eraseIdxIfInBounds i) (clock' := clock) hg hι q3 (by
                      have : (ents.eraseIdxIfInBounds i).toList = ents.toList.eraseIdx i := by
                        unfold Array.eraseIdxIfInBounds
                        have hi : i < ents.size := by have := q4.length; simp at this; omega
                        rw [dif_pos hi]; simp
                      rw [this]; exact q4.eraseIdx i)
                    exact ⟨ι, _, _, by simp [Builtin.delete_, hat, run_underlying ht, hgo, key_isKey hkd hkt hk, Instr.findKey, run_underlying hkd, g1, hset], tup, I', S'⟩
          · cases hu
      | _ => cases hu
    | _ => cases hu

theorem modify_push (a : Array Obj) (o : Obj) (f : Obj → Obj) : (a.push o).modify a.size f = a.push (f o) := by
  apply Array.ext
  · simp
  · intro i h1 h2
    simp only [Array.getElem_modify, Array.getElem_push]
    by_cases hi : i < a.size
    · simp [hi, Nat.ne_of_gt hi]
    · have : i = a.size := by simp at h1; omega
      subst this
      simp

theorem bytes_slice (I : Inv w0 ι h w) (s d e : TypeId) (bs : ByteArray) {sd : TypeDesc} (hs : P.underlying s = some sd) (hd : P.underlying d = some (.slice e)) (he : P.underlying e = some (.int .u8)) :
    ∃ ι' w' rv, (convert s d (.string bs)).run P w = .ok rv w' ∧ VR ι' (.slice (some (h.next, 0)) bs.data.toList.length bs.data.toList.length (some 1)) rv ∧
      Inv w0 ι' (h.alloc (.cells (bs.data.toList.map fun b => .int .u8 b.toNat) (.own none))) w' ∧ Step ι h w ι' (h.alloc (.cells (bs.data.toList.map fun b => .int .u8 b.toNat) (.own none))) w' := by
  have hge := grownCap_ge w bs.size 0 e
  generalize hcap : grownCap w bs.size 0 e = cap at hge
  have hsz : bs.data.toList.length = bs.size := by simp
  let c : Array Value := (bs.data.map fun b => Value.int .u8 b.toNat) ++ Array.replicate (cap - bs.size) (.int .u8 0)
  have hc : c.size = cap := by
    have : bs.data.size = bs.size := rfl
    simp only [c, Array.size_append, Array.size_map, Array.size_replicate]; omega
  let w' : World := { w with heap := w.heap.push (.cells c e (cap, cap + 1)), drawn := w.drawn + 1 }
  have hp : Pushed w (.cells c e (cap, cap + 1)) w' := ⟨rfl, rfl, rfl, rfl⟩
  obtain ⟨I', S'⟩ := I.push (o := .cells (bs.data.toList.map fun b => .int .u8 b.toNat) (.own none)) hp cap
    (fun cs t q => by
      cases q
      refine ⟨c, e, _, rfl, by omega, by simp; omega, fun i hi => by simp only; omega, fun i v hi => ?_⟩
      rw [List.getElem?_map] at hi
      obtain ⟨b, hb, rfl⟩ := Option.map_eq_some_iff.1 hi
      rw [Array.getElem?_toList] at hb
      have hlt : i < bs.data.size := (Array.getElem?_eq_some_iff.1 hb).1
      refine ⟨.int .u8 b.toNat, ?_, .int _ _⟩
      simp only [c]
      rw [Array.getElem?_append_left (by simpa using hlt), Array.getElem?_map, hb]; rfl)
    (fun _ q => by cases q) (fun _ q => by cases q) (fun _ _ _ q => by cases q)
  refine ⟨_, w', .slice (some ⟨w.heap.size, 0, none⟩) bs.size cap, ?_, ?_, I', S'⟩
  · have conv : convert s d (.string bs) = (underlying s >>= fun us => underlying d >>= fun ud => convert s d (.string bs)) ∨ True := .inr trivial
    have hrun : (Conv.stringToBytes e bs).run P w = .ok (.slice (some ⟨w.heap.size, 0, none⟩) bs.size cap) w' := by
      unfold Conv.stringToBytes
      have hchoose : (choose (.appendCap bs.size 0 e)).run P w = .ok cap w.drew := by
        simp only [run_choose, Question.forced, Bool.false_eq_true, if_false, World.drew_eq]
        rw [← hcap]; rfl
      simp only [Sem.run_bind, hchoose, Result.andThen_ok, newRow, run_newObj, Sem.run_pure, markStringish, run_shape]
      have hshape : World.shape? { w.drew with heap := w.drew.heap.push (.cells c e) } w.heap.size = some (e, cap) := by
        simp only [World.shape?]
        have : (w.drew.heap.push (Obj.cells c e))[w.heap.size]? = some (.cells c e) := by
          show (w.heap.push (Obj.cells c e))[w.heap.size]? = _
          simp
        rw [this]; simp [hc]
      have hsize : w.drew.heap.size = w.heap.size := rfl
      rw [hsize]
      rw [hshape]
      simp only [Sem.run_bind, run_freeze, Result.andThen_ok, Sem.run_pure]
      congr 1
      unfold World.freeze
      rw [if_neg (by decide)]
      have := modify_push w.heap (.cells c e) (fun
        | .cells c elem (lo, hi) => .cells c elem (if lo == hi then (cap, cap + 1) else (min lo cap, max hi (cap + 1)))
        | o => o)
      try simp only [beq_self_eq_true, if_true] at this
      show World.mk _ _ _ _ _ = World.mk _ _ _ _ _
      congr 1
    rw [← hrun]
    unfold convert
    simp only [Sem.run_bind, run_underlying hs, run_underlying hd, run_underlying he, Result.andThen_ok]
  · have := VR.sliceMore (ι := ι.upd h.next (w.heap.size, 0, cap)) (b := h.next) (o := 0) (z := 1) (len := bs.size) (cap := bs.size) (rcap := cap) (by simp; exact ⟨rfl, rfl, rfl⟩) hge hge (by omega)
    rw [hsz]; simpa using this

theorem nunsafe_sound (I : Inv w0 ι h w) {s d : TypeId} {x v : NVal} (hn : nunsafe P s d x h = some v) {rx : Value} (hx : VR ι x rx) : ∃ rv, VR ι v rv ∧ (convert s d rx).run P w = .ok rv w := by
  unfold nunsafe at hn
  split at hn
  · rename_i u1 u2 u3 t b hs hd
    split at hn
    · rename_i v1 v2 c0 cs T k z hg hz
      cases hn
      obtain ⟨rb, c, hι, hw, hk⟩ := I.typed b _ T _ hg
      obtain ⟨rb', s', m', hι', rfl⟩ := hx.ptr_inv
      rw [hι] at hι'; cases hι'
      have hsh : w.shape? rb = some (T, c.size) := by simp [World.shape?, hw]
      obtain ⟨j, hj, hjs⟩ : ∃ j, P.info? t = some j ∧ j.size = z + 1 := by
        unfold szOf at hz
        cases hi : P.info? t with
        | none => rw [hi] at hz; cases hz
        | some j => rw [hi] at hz; simp only [Option.some.injEq] at hz; exact ⟨j, rfl, hz⟩
      exact ⟨_, hx, Lib.run_to_unsafe w ⟨rb, 0 + 0, none⟩ hs hd hj (by omega) hsh (by show 0 + 0 < c.size; omega)⟩
    · cases hn
  · rename_i u1 u2 u3 u b hs hd
    split at hn
    · rename_i v1 v2 c0 cs T k z hg hz
      split at hn
      · rename_i hl
        cases hn
        obtain ⟨rb, c, hι, hw, hk⟩ := I.typed b _ T _ hg
        obtain ⟨rb', s', m', hι', rfl⟩ := hx.ptr_inv
        rw [hι] at hι'; cases hι'
        have hsh : w.shape? rb = some (T, c.size) := by simp [World.shape?, hw]
        obtain ⟨j, hj, hjs⟩ : ∃ j, P.info? u = some j ∧ j.size = z + 1 := by
          unfold szOf at hz
          cases hi : P.info? u with
          | none => rw [hi] at hz; cases hz
          | some j => rw [hi] at hz; simp only [Option.some.injEq] at hz; exact ⟨j, rfl, hz⟩
        have hcs : c.size = k + 1 := hk.1.resolve_left (by omega)
        exact ⟨_, hx, Lib.run_from_unsafe w ⟨rb, 0 + 0, none⟩ hs hd hj hsh (by rw [hcs]; exact hl)⟩
      · cases hn
    · cases hn
  · cases hn

/-- a block of one's own is given away -/
theorem Inv.give (I : Inv w0 ι h w) {b : Nat} {cs : List NVal} {t : Option (TypeId × Nat)} (hb : h.get b = some (.cells cs (.own t))) {rb s m : Nat} (hι : ι b = some (rb, s, m)) {w' : World}
    (hos : w'.os = w.os) (htape : w'.tape = w.tape) (hout : w'.output = w.output) (hsz : w'.heap.size = w.heap.size) (hother : ∀ k, k ≠ rb → w'.heap[k]? = w.heap[k]?) :
    Inv w0 ι (h.set b .dead) w' ∧ Step ι h w ι (h.set b .dead) w' := by
  have hlt := NHeap.get_lt hb
  obtain ⟨rb1, s1, m1, c1, e1, fz1, q1, q2, q3, q4, q5, q6, q7⟩ := I.cells b cs hb
  rw [hι] at q1; cases q1
  have get : ∀ {b' ob'}, (h.set b .dead).get b' = some ob' → (b' = b ∧ ob' = .dead) ∨ (b' ≠ b ∧ h.get b' = some ob') := by
    intro b' ob' e
    rw [NHeap.get_set] at e
    split at e
    · rename_i hh; cases e; exact .inl ⟨hh.1, rfl⟩
    · rename_i hh; exact .inr ⟨fun q => hh ⟨q, hlt⟩, e⟩
  have ne_of : ∀ {b' ob' rb' s' m'}, b' ≠ b → h.get b' = some ob' → ob'.owned = true → ι b' = some (rb', s', m') → rb' ≠ rb := by
    intro b' ob' rb' s' m' hne hg how hi q
    subst q
    exact hne (I.inj b' b ob' _ rb' s' s m' m hg how hb rfl hi hι)
  refine ⟨⟨I.below.trans ⟨hos, htape, hout, by rw [hsz]; exact Nat.le_refl _, fun k hk => hother k (by omega)⟩, fun b' x q => by simpa using I.fresh b' x q, ?_, ?_, ?_, ?_, ?_⟩, ⟨ι.le_refl, fun _ _ q => .inl q, by rw [hsz]; exact Nat.le_refl _, ?_, ?_, by simp⟩⟩
  · intro b' ds t' q
    rcases get q with ⟨rfl, q'⟩ | ⟨hne, q'⟩
    · cases q'
    · obtain ⟨rb', s', m', c2, e2, fz2, h1, h2, h3, h4⟩ := I.cells b' ds q'
      exact ⟨rb', s', m', c2, e2, fz2, h1, h2, by rw [hother rb' (ne_of hne q' rfl h1)]; exact h3, h4⟩
  · intro b' ds T k q
    rcases get q with ⟨rfl, q'⟩ | ⟨hne, q'⟩
    · cases q'
    · obtain ⟨rb', c2, h1, h2, h3⟩ := I.typed b' ds T k q'
      exact ⟨rb', c2, h1, by rw [hother rb' (ne_of hne q' rfl h1)]; exact h2, h3⟩
  · intro b' ds q
    rcases get q with ⟨rfl, q'⟩ | ⟨hne, q'⟩
    · cases q'
    · exact I.ro b' ds q'
  · intro b' es q
    rcases get q with ⟨rfl, q'⟩ | ⟨hne, q'⟩
    · cases q'
    · obtain ⟨rb', s', m', ents, k, h1, h2, h3, h4⟩ := I.maps b' es q'
      exact ⟨rb', s', m', ents, k, h1, h2, by rw [hother rb' (ne_of hne q' rfl h1)]; exact h3, h4⟩
  · intro b1 b2 o1 o2 rb' s1 s2 m1 m2 g1 w1 g2 w2 i1 i2
    rcases get g1 with ⟨rfl, p1⟩ | ⟨n1, p1⟩
    · subst p1; simp [NObj.owned] at w1
    · rcases get g2 with ⟨rfl, p2⟩ | ⟨n2, p2⟩
      · subst p2; simp [NObj.owned] at w2
      · exact I.inj b1 b2 o1 o2 rb' s1 s2 m1 m2 p1 w1 p2 w2 i1 i2
  · intro k hk hno
    exact hother k (fun q => hno (by subst q; exact ⟨b, _, s, m, hb, rfl, hι⟩))
  · rintro k ⟨b', ob', s', m', g, ho, hi⟩
    rcases get g with ⟨rfl, g2⟩ | ⟨hne, g2⟩
    · subst g2; simp [NObj.owned] at ho
    · exact .inl ⟨b', ob', s', m', g2, ho, hi⟩

theorem allBytes_spec : ∀ {l : List NVal} {ns : List UInt8}, allBytes l = true → bytesVals l = some ns → l = ns.map fun b => .int .u8 (b.toNat : Int)
  | [], ns, h1, h2 => by simp only [bytesVals, Option.some.injEq] at h2; subst h2; rfl
  | v :: l, ns, h1, h2 => by
    unfold allBytes at h1
    split at h1
    · rename_i heq; cases heq
    · rename_i n l' heq
      simp only [List.cons.injEq] at heq
      obtain ⟨rfl, rfl⟩ := heq
      simp only [Bool.and_eq_true, decide_eq_true_eq] at h1
      unfold bytesVals at h2
      simp only [byteVal] at h2
      cases hl : bytesVals l with
      | none => rw [hl] at h2; cases h2
      | some r =>
        rw [hl] at h2
        simp only [Option.some.injEq] at h2
        subst h2
        rw [List.map_cons, ← allBytes_spec h1.2 hl]
        congr 2
        have : n.toNat < 256 := by omega
        rw [UInt8.toNat_ofNat_of_lt' this]
        omega
    · cases h1

theorem freeze_other (w : World) (a : Addr) (n k : Nat) (hk : k ≠ a.block) : (w.freeze a n).heap[k]? = w.heap[k]? := by
  unfold World.freeze
  split
  · rfl
  · simp [Array.getElem?_modify, Ne.symm hk]
theorem freeze_size (w : World) (a : Addr) (n : Nat) : (w.freeze a n).heap.size = w.heap.size := by
  unfold World.freeze
  split <;> simp

theorem nstring_sound (I : Inv w0 ι h w) {pt it ty : TypeId} {p n v : NVal} {h' : NHeap} (hn : nstring P pt p n h = some (v, h')) {rp rn : Value} (hp : VR ι p rp) (hnr : VR ι n rn) :
    ∃ ι' w' rv, (Builtin.unsafeString_ #[pt, it] ty #[rp, rn]).run P w = .ok rv w' ∧ VR ι' v rv ∧ Inv w0 ι' h' w' ∧ Step ι h w ι' h' w' := by
  unfold nstring at hn
  split at hn
  · rename_i k
    cases hn
    cases hp
    cases hnr
    refine ⟨ι, w, .string .empty, ?_, .str .empty, I, Step.refl _ _ _⟩
    rfl
  · rename_i b n
    split at hn
    · rename_i v1 v2 cs T q e hg hu
      split at hn
      · rename_i hc
        obtain ⟨rfl, hc1, hc2, hc3, hc4, hc5⟩ := hc
        cases hb : bytesVals (cs.take n) with
        | none => rw [hb] at hn; cases hn
        | some l =>
          rw [hb] at hn; cases hn
          obtain ⟨rb, c, hι, hw, hk⟩ := I.typed b _ e _ hg
          obtain ⟨rb', s', m', hι', rfl⟩ := hp.ptr_inv
          rw [hι] at hι'; cases hι'
          cases hnr
          have hl := allBytes_spec hc5 hb
          have hln : l.length = n := by
            have := congrArg List.length hl
            simp at this; omega
          have hsh : w.shape? rb = some (e, c.size) := by simp [World.shape?, hw]
          obtain ⟨rb1, s1, m1, c1, e1, fz1, q1, q2, q3, q4, q5, q6, q7⟩ := I.cells b cs hg
          rw [hι] at q1; cases q1
          have hcell : ∀ j x, l[j]? = some x → w.cell? ((⟨rb, 0, none⟩ : Addr).add j) = some (.int .u8 x.toNat) := by
            intro j x hj
            have hjn : j < n := by rw [← hln]; exact (List.getElem?_eq_some_iff.1 hj).1
            have hcj : cs[j]? = some (.int .u8 (x.toNat : Int)) := by
              have h1 : (cs.take n)[j]? = some (.int .u8 (x.toNat : Int)) := by rw [hl, List.getElem?_map, hj]; rfl
              rwa [List.getElem?_take, if_pos hjn] at h1
            obtain ⟨r, hr, hv⟩ := I.cell hg hι hcj
            cases hv
            rw [add_at]; exact hr
          have hrun := Lib.run_unsafeString_row w pt it ty e hu hc1 rb c.size hsh l (by intro h0; rw [h0] at hln; simp at hln; omega) (by rw [hln]; omega) (by omega) hcell
          rw [hln] at hrun
          obtain ⟨I', S'⟩ := I.give hg hι (w' := w.freeze ⟨rb, 0, none⟩ n) (by unfold World.freeze; split <;> rfl) (by unfold World.freeze; split <;> rfl) (by unfold World.freeze; split <;> rfl) (freeze_size _ _ _) (fun k hk => freeze_other _ _ _ _ hk)
          exact ⟨ι, _, .string ⟨l.toArray⟩, hrun, by have := VR.str (ι := ι) ⟨l.toArray⟩; simpa using this, I', S'⟩
      · cases hn
    · cases hn
  · cases hn

theorem eff_sound (I : Inv w0 ι h w) {o : Oper} {ρ : Operand → Option NVal} {re : Operand → Value} (hr : ∀ x ∈ o.op.operands, ∀ u, ρ x = some u → VR ι u (re x)) {v : NVal} {h' : NHeap} (hv : effOp P ρ h o.op = some (v, h')) :
    ∃ ι' w' nx rv, (execOp re o).run P w = .ok nx w' ∧ (nx = .value rv ∨ (nx = .skip ∧ rv = undef)) ∧ VR ι' v rv ∧ Inv w0 ι' h' w' ∧ Step ι h w ι' h' w' := by
  obtain ⟨dst, op, ty, pos, after, guard⟩ := o
  simp only at hv hr
  have liftV : ∀ {s : Sem Value}, (∃ ι' w' rv, s.run P w = .ok rv w' ∧ VR ι' v rv ∧ Inv w0 ι' h' w' ∧ Step ι h w ι' h' w') →
      ∃ ι' w' nx rv, (do pure (.value (← s)) : Sem Next).run P w = .ok nx w' ∧ (nx = .value rv ∨ (nx = .skip ∧ rv = undef)) ∧ VR ι' v rv ∧ Inv w0 ι' h' w' ∧ Step ι h w ι' h' w' := by
    rintro s ⟨ι', w', rv, h1, h2, h3, h4⟩
    exact ⟨ι', w', .value rv, rv, by simp [h1], .inl rfl, h2, h3, h4⟩
  have liftU : ∀ {s : Sem Unit}, v = nundef → (∃ w', s.run P w = .ok () w' ∧ Inv w0 ι h' w' ∧ Step ι h w ι h' w') →
      ∃ ι' w' nx rv, (do s; pure .skip : Sem Next).run P w = .ok nx w' ∧ (nx = .value rv ∨ (nx = .skip ∧ rv = undef)) ∧ VR ι' v rv ∧ Inv w0 ι' h' w' ∧ Step ι h w ι' h' w' := by
    rintro s e ⟨w', h1, h3, h4⟩
    exact ⟨ι, w', .skip, undef, by simp [h1], .inr ⟨rfl, rfl⟩, by subst e; exact .undef, h3, h4⟩
  have mapU : ∀ {t m k x}, (∀ y ∈ [m, k, x], ∀ u, ρ y = some u → VR ι u (re y)) → (match ρ m, ρ k, ρ x with
      | some m, some k, some x => (match nmapUpdate P t m k x h with | some h' => some (nundef, h') | none => none)
      | _, _, _ => none) = some (v, h') → v = nundef ∧ ∃ w', (Instr.mapUpdate t (re m) (re k) (re x)).run P w = .ok () w' ∧ Inv w0 ι h' w' ∧ Step ι h w ι h' w' := by
    intro t m k x hy hq
    cases hm : ρ m with
    | none => rw [hm] at hq; cases hq
    | some m1 => cases hk : ρ k with
      | none => rw [hm, hk] at hq; cases hq
      | some k1 => cases hx : ρ x with
        | none => rw [hm, hk, hx] at hq; cases hq
        | some x1 =>
          rw [hm, hk, hx] at hq; simp only at hq
          cases hn : nmapUpdate P t m1 k1 x1 h with
          | none => rw [hn] at hq; cases hq
          | some h1 =>
            rw [hn] at hq; cases hq
            exact ⟨rfl, mapUpdate_sound I hn (hy m (by simp) _ hm) (hy k (by simp) _ hk) (hy x (by simp) _ hx)⟩
  cases op <;> simp only [effOp] at hv <;> try (cases hv; done)
  case insert t m k x =>
    obtain ⟨e, r⟩ := mapU (fun y hy u hu => hr y (by simp [Op.operands] at hy ⊢; exact hy) u hu) hv
    exact liftU e r
  case store t x y =>
    cases hx : ρ x with
    | none => rw [hx] at hv; cases hv
    | some u => cases hy : ρ y with
      | none => rw [hx, hy] at hv; cases u with
        | ptr a => cases a <;> cases hv
        | _ => cases hv
      | some u' =>
        rw [hx, hy] at hv
        cases u with
        | ptr a => cases a with
          | none => cases hv
          | some a =>
            obtain ⟨b, o⟩ := a
            simp only at hv
            cases hn : nstore P t (b, o) u' h with
            | none => rw [hn] at hv; cases hv
            | some h1 =>
              rw [hn] at hv; cases hv
              exact liftU rfl (store_sound I hn (hr x (by simp [Op.operands]) _ hx) (hr y (by simp [Op.operands]) _ hy))
        | _ => cases hv
  case convert s d x =>
    cases hx : ρ x with
    | none => rw [hx] at hv; cases hv
    | some u =>
      rw [hx] at hv
      have other : (match nunsafe P s d u h with | some v => some (v, h) | none => none) = some (v, h') →
          ∃ ι' w' nx rv, (execOp re { dst := dst, op := .convert s d x, type := ty, pos := pos, after := after, guard := guard }).run P w = .ok nx w' ∧ (nx = .value rv ∨ (nx = .skip ∧ rv = undef)) ∧ VR ι' v rv ∧ Inv w0 ι' h' w' ∧ Step ι h w ι' h' w' := by
        intro hq
        cases hn : nunsafe P s d u h with
        | none => rw [hn] at hq; cases hq
        | some v1 =>
          rw [hn] at hq; cases hq
          obtain ⟨rv, r1, r2⟩ := nunsafe_sound I hn (hr x (by simp [Op.operands]) _ hx)
          exact liftV ⟨ι, w, rv, r2, r1, I, Step.refl _ _ _⟩
      cases u with
      | str l =>
        simp only at hv
        cases hs : P.underlying s with
        | none => rw [hs] at hv; cases hv
        | some sd => cases hd : P.underlying d with
          | none => rw [hs, hd] at hv; cases hv
          | some dd =>
            rw [hs, hd] at hv
            cases dd with
            | slice e =>
              simp only at hv
              cases he : P.underlying e with
              | none => rw [he] at hv; cases hv
              | some ed =>
                rw [he] at hv
                have hed : ed = .int .u8 := by
                  cases ed with
                  | int k => cases k <;> first | rfl | (cases hv; done)
                  | _ => cases hv
                subst hed
                simp only at hv
                split at hv
                · rename_i hle; cases hv
                  obtain ⟨bs, e1, rfl⟩ := (hr x (by simp [Op.operands]) _ hx).str_inv
                  have h8 := bytes_slice I s d e bs hs hd he
                  rw [← e1] at h8
                  exact liftV h8
                · cases hv
            | _ => cases hv
      | _ => exact other hv
  case mapUpdate t m k x =>
    obtain ⟨e, r⟩ := mapU (fun y hy u hu => hr y (by simp [Op.operands] at hy ⊢; exact hy) u hu) hv
    exact liftU e r
  case call c =>
    obtain ⟨callee, args, argTypes⟩ := c
    cases callee with
    | value f => cases hv
    | invoke r m => cases hv
    | builtin b =>
      have hargs : ∀ x ∈ args.toList, ∀ u, ρ x = some u → VR ι u (re x) := fun x hx u hu => hr x (by simp [Op.operands, Call.operands]; simpa using hx) u hu
      have exec : ∀ {s : Sem Value}, (∀ cs, builtin b argTypes ty cs (args.map re) = do pure (.value (← s))) → (∃ ι' w' rv, s.run P w = .ok rv w' ∧ VR ι' v rv ∧ Inv w0 ι' h' w' ∧ Step ι h w ι' h' w') →
          ∃ ι' w' nx rv, (execOp re { dst := dst, op := .call { callee := .builtin b, args := args, argTypes := argTypes }, type := ty, pos := pos, after := after, guard := guard }).run P w = .ok nx w' ∧
            (nx = .value rv ∨ (nx = .skip ∧ rv = undef)) ∧ VR ι' v rv ∧ Inv w0 ι' h' w' ∧ Step ι h w ι' h' w' := by
        rintro s hb ⟨ι', w', rv, h1, h2, h3, h4⟩
        refine ⟨ι', w', .value rv, rv, ?_, .inl rfl, h2, h3, h4⟩
        simp only [execOp, resolve, invoke, Sem.run_bind, Sem.run_pure, Result.andThen_ok]
        rw [hb]; simp [h1]
      have two : ∀ {a c : Operand}, args.toList = [a, c] → args.map re = #[re a, re c] := by
        intro a c e
        have : args = #[a, c] := by rw [← Array.toArray_toList (xs := args), e]
        subst this; simp
      have onearg : ∀ {a : Operand}, args.toList = [a] → args.map re = #[re a] := by
        intro a e
        have : args = #[a] := by rw [← Array.toArray_toList (xs := args), e]
        subst this; simp
      have at0 : ∀ {t ts}, argTypes.toList = t :: ts → argTypes[0]? = some t := by
        intro t ts e; rw [← Array.getElem?_toList, e]; rfl
      cases b <;> simp only at hv <;> try (cases hv; done)
      · -- append
        refine exec (fun _ => rfl) ?_
        cases hl : args.toList with
        | nil => rw [hl] at hv; cases hv
        | cons a r1 => cases r1 with
          | nil => rw [hl] at hv; cases hv
          | cons c r2 => cases r2 with
            | cons _ _ => rw [hl] at hv; cases hv
            | nil => cases ht : argTypes.toList with
              | nil => rw [hl, ht] at hv; cases hv
              | cons st t1 => cases t1 with
                | nil => rw [hl, ht] at hv; cases hv
                | cons xt t2 => cases t2 with
                  | cons _ _ => rw [hl, ht] at hv; cases hv
                  | nil =>
                    rw [hl, ht] at hv; simp only at hv
                    cases ha : ρ a with
                    | none => rw [ha] at hv; cases hv
                    | some u => cases hc : ρ c with
                      | none => rw [ha, hc] at hv; cases hv
                      | some u' =>
                        rw [ha, hc] at hv
                        have eat : argTypes = #[st, xt] := by rw [← Array.toArray_toList (xs := argTypes), ht]
                        rw [two hl, eat]
                        exact append_sound I hv (hargs a (by simp [hl]) _ ha) (hargs c (by simp [hl]) _ hc)
      · -- clear
        refine exec (fun _ => rfl) ?_
        cases hl : args.toList with
        | nil => rw [hl] at hv; cases hv
        | cons a r1 => cases r1 with
          | cons _ _ => rw [hl] at hv; cases hv
          | nil => cases ht : argTypes.toList with
            | nil => rw [hl, ht] at hv; cases hv
            | cons t ts =>
              rw [hl, ht] at hv; simp only at hv
              cases ha : ρ a with
              | none => rw [ha] at hv; cases hv
              | some u => rw [ha] at hv; rw [onearg hl]; exact clear_sound I hv (hargs a (by simp [hl]) _ ha) (at0 ht)
      · -- copy
        refine exec (fun _ => rfl) ?_
        cases hl : args.toList with
        | nil => rw [hl] at hv; cases hv
        | cons a r1 => cases r1 with
          | nil => rw [hl] at hv; cases hv
          | cons c r2 => cases r2 with
            | cons _ _ => rw [hl] at hv; cases hv
            | nil => cases ht : argTypes.toList with
              | nil => rw [hl, ht] at hv; cases hv
              | cons t ts =>
                rw [hl, ht] at hv; simp only at hv
                cases ha : ρ a with
                | none => rw [ha] at hv; cases hv
                | some u => cases hc : ρ c with
                  | none => rw [ha, hc] at hv; cases hv
                  | some u' => rw [ha, hc] at hv; rw [two hl]; exact copy_sound (st' := 0) (rest := []) I hv (hargs a (by simp [hl]) _ ha) (hargs c (by simp [hl]) _ hc) (at0 ht)
      · -- delete
        refine exec (fun _ => rfl) ?_
        cases hl : args.toList with
        | nil => rw [hl] at hv; cases hv
        | cons a r1 => cases r1 with
          | nil => rw [hl] at hv; cases hv
          | cons c r2 => cases r2 with
            | cons _ _ => rw [hl] at hv; cases hv
            | nil => cases ht : argTypes.toList with
              | nil => rw [hl, ht] at hv; cases hv
              | cons t ts =>
                rw [hl, ht] at hv; simp only at hv
                cases ha : ρ a with
                | none => rw [ha] at hv; cases hv
                | some u => cases hc : ρ c with
                  | none => rw [ha, hc] at hv; cases hv
                  | some u' => rw [ha, hc] at hv; rw [two hl]; exact delete_sound I hv (hargs a (by simp [hl]) _ ha) (hargs c (by simp [hl]) _ hc) (at0 ht)
      · -- unsafe.SliceData
        refine exec (fun _ => rfl) ?_
        cases hl : args.toList with
        | nil => rw [hl] at hv; cases hv
        | cons a r1 => cases r1 with
          | cons _ _ => rw [hl] at hv; cases hv
          | nil =>
            rw [hl] at hv; simp only at hv
            rw [onearg hl]
            cases ha : ρ a with
            | none => rw [ha] at hv; cases hv
            | some u =>
              rw [ha] at hv
              have hra := hargs a (by simp [hl]) _ ha
              cases u with
              | slice bo len cap xx =>
                cases bo with
                | none =>
                  cases hv
                  generalize hrv : re a = ra at hra
                  cases hra
                  exact ⟨ι, w, _, Lib.run_unsafeSliceData_nil w _ _ _ _, .ptrNil, I, Step.refl _ _ _⟩
                | some bo =>
                  cases cap with
                  | zero => cases hv
                  | succ cap =>
                    cases hv
                    generalize hrv : re a = ra at hra
                    cases hra with
                    | slice hι hl hc => subst hc; exact ⟨ι, w, _, Lib.run_unsafeSliceData_row w _ _ _ _ _ (by omega), .ptr hι, I, Step.refl _ _ _⟩
                    | sliceMore hι hl hc hm => exact ⟨ι, w, _, Lib.run_unsafeSliceData_row w _ _ _ _ _ (by omega), .ptr hι, I, Step.refl _ _ _⟩
              | _ => cases hv
      · -- unsafe.String
        refine exec (fun _ => rfl) ?_
        cases hl : args.toList with
        | nil => rw [hl] at hv; cases hv
        | cons a r1 => cases r1 with
          | nil => rw [hl] at hv; cases hv
          | cons c r2 => cases r2 with
            | cons _ _ => rw [hl] at hv; cases hv
            | nil => cases ht : argTypes.toList with
              | nil => rw [hl, ht] at hv; cases hv
              | cons st t1 => cases t1 with
                | nil => rw [hl, ht] at hv; cases hv
                | cons xt t2 => cases t2 with
                  | cons _ _ => rw [hl, ht] at hv; cases hv
                  | nil =>
                    rw [hl, ht] at hv; simp only at hv
                    cases ha : ρ a with
                    | none => rw [ha] at hv; cases hv
                    | some u => cases hc : ρ c with
                      | none => rw [ha, hc] at hv; cases hv
                      | some u' =>
                        rw [ha, hc] at hv
                        have eat : argTypes = #[st, xt] := by rw [← Array.toArray_toList (xs := argTypes), ht]
                        rw [two hl, eat]
                        exact nstring_sound I hv (hargs a (by simp [hl]) _ ha) (hargs c (by simp [hl]) _ hc)
end Go.Proofs.Ytblhpikljhholaa.NICE
