/- Operations that change memory: append. -/
import Derived.Test.YtblhpikljhholaaNice10
set_option linter.unusedVariables false
set_option linter.unusedSimpArgs false
namespace Go.Proofs.Ytblhpikljhholaa.NICE
open Go Go.RowKit

variable {P : Program} {w0 w : World} {ι : Inj} {h : NHeap}

/-- the first cells of a slice or a string, read in any world with the same cells -/
theorem src_sound (I : Inv w0 ι h w) {sz n : Nat} {x : NVal} {cs : List NVal} (hs : srcCells sz n h x = some cs) {rx : Value} (hx : VR ι x rx) :
    ∃ rs, VRs ι cs rs ∧ ∀ w2 : World, (∀ a, w2.cell? a = w.cell? a) → (Builtin.firstCells sz n rx).run P w2 = .ok rs.toArray w2 := by
  cases x with
  | slice a len cap xx =>
    cases a with
    | none =>
      simp only [srcCells] at hs
      split at hs
      · cases hs
        cases hh : rx <;> rw [hh] at hx <;> cases hx
        exact ⟨[], .nil, fun w2 _ => by simp [Builtin.firstCells]⟩
      · cases hs
    | some a =>
      obtain ⟨b, o⟩ := a
      simp only [srcCells] at hs
      split at hs
      · rename_i h0; cases hs
        cases hh : rx <;> rw [hh] at hx <;> cases hx <;> exact ⟨[], .nil, fun w2 _ => by simp [Builtin.firstCells, h0, loadCells, loadCellsFrom]⟩
      · rename_i h0
        cases hg : h.get b with
        | none => rw [hg] at hs; cases hs
        | some ob =>
          rw [hg] at hs
          cases ob with
          | map es => cases hs
          | dead => cases hs
          | cells old mine =>
            simp only at hs
            split at hs
            · rename_i hle'; obtain ⟨hnl, hle⟩ := hle'; cases hs
              have main : ∀ {rb s m rcap}, ι b = some (rb, s, m) → ∃ rs, VRs ι ((old.drop o).take (n * sz)) rs ∧ ∀ w2 : World, (∀ a, w2.cell? a = w.cell? a) → (Builtin.firstCells sz n (.slice (some ⟨rb, s + o, none⟩) len rcap)).run P w2 = .ok rs.toArray w2 := by
                intro rb s m rcap hι
                obtain ⟨rs, h1, h2, h3⟩ := I.range hg hι (n * sz) o hle
                exact ⟨rs, h2, fun w2 hw => run_firstCells_some w2 sz n _ len rcap rs h1 (fun j v e => by rw [hw]; exact h3 j v e)⟩
              cases hh : rx <;> rw [hh] at hx <;> cases hx
              · rename_i hι _ _; exact main hι
              · rename_i hι _ _ _; exact main hι
              · exact absurd (by rw [Nat.le_zero.1 hnl, Nat.zero_mul]) h0
            · cases hs
  | str s =>
    simp only [srcCells] at hs; cases hs
    obtain ⟨b, rfl, rfl⟩ := hx.str_inv
    refine ⟨(b.data.toList.take n).map fun c => .int .u8 c.toNat, All2.map' fun c _ => .int _ _, fun w2 _ => ?_⟩
    simp only [Builtin.firstCells, Sem.run_pure]
    congr 1
    apply Array.ext'
    simp
  | _ => cases hs

theorem lenOf_sound {x : NVal} {n : Nat} (hn : nlenOf x = some n) {rx : Value} (hx : VR ι x rx) (w : World) : (Builtin.lenOf rx).run P w = .ok n w := by
  cases x <;> simp only [nlenOf] at hn <;> try (cases hn; done)
  · cases hn; obtain ⟨b, rfl, rfl⟩ := hx.str_inv; simp [Builtin.lenOf]
  · cases hn; cases hh : rx <;> rw [hh] at hx <;> cases hx <;> rfl

/-- what 'append' does, laid out -/
def appendCore (e : TypeId) (sz : Nat) (zeros : Bool) (n : Nat) (base : Option Addr) (sLen sCap : Nat) (x : Value) (A : Sem (Array Value)) : Sem Value :=
  if sLen + n ≤ sCap then do
    let new ← A
    if let some a := base then storeCells (a.add (sLen * sz)) new.toList
    pure (.slice base (sLen + n) sCap)
  else do
    if ((sLen + n : Nat) : Int) > IntKind.i64.max ∧ (zeros ∨ (← typeInfo e).bytes = 0) then runtimePanic (.error "growslice: len out of range")
    if Builtin.nextslicecap (sLen + n) sCap * (← typeInfo e).bytes > 2 ^ 48 then (if zeros then runtimePanic (.error "growslice: len out of range") else do
      if !(← Builtin.mayShare sz sLen n base x) then mark .noRoom
      unsupported (.resourceLimit "append: a slice or a string whose bytes no memory bears"))
    let newCap ← choose (.appendCap (sLen + n) sCap e)
    askRoom (newCap * (← typeInfo e).bytes)
    let old ← Builtin.firstCells sz sLen (.slice base sLen sCap)
    let new ← A
    let rest := Builtin.zeroCells (← zeroValue e).cells (newCap - (sLen + n))
    pure (.slice (some (← newRow e (old ++ new ++ rest))) (sLen + n) newCap)

theorem append_eq_src {st xt ty e : TypeId} {sz n : Nat} {d : TypeDesc} {base : Option Addr} {sLen sCap : Nat} {x : Value} (hst : P.underlying st = some (.slice e)) (hs : szOf P e = some sz)
    (hxt : P.underlying xt = some d) (hd : ∀ k, d ≠ .int k) (hn : ∀ w, (Builtin.lenOf x).run P w = .ok n w) (w : World) :
    (Builtin.append_ #[st, xt] ty #[.slice base sLen sCap, x]).run P w = (appendCore e sz false n base sLen sCap x (Builtin.firstCells sz n x)).run P w := by
  cases d <;> first
    | exact absurd rfl (hd _)
    | (unfold Builtin.append_ appendCore
       simp only [List.getElem?_toArray, List.getElem?_cons_zero, List.getElem?_cons_succ, Sem.run_bind, run_underlying hst, Result.andThen_ok, run_sizeOf' hs, run_underlying hxt, Sem.run_pure, Bool.false_eq_true, if_false, hn, Bool.not_false, if_true, Sem.run_ite]
       cases base <;> rfl)

theorem append_eq_zeros {st xt ty e : TypeId} {sz : Nat} {k k' : IntKind} {l : Int} {i : TypeInfo} {base : Option Addr} {sLen sCap : Nat} (hst : P.underlying st = some (.slice e)) (hi : P.info? e = some i) (hs : i.size = sz)
    (hxt : P.underlying xt = some (.int k)) (h0 : 0 ≤ l) (h1 : l ≤ 1099511627776) (hb : l.toNat * i.bytes ≤ 1099511627776) (w : World) :
    (Builtin.append_ #[st, xt] ty #[.slice base sLen sCap, .int k' l]).run P w =
      (appendCore e sz true l.toNat base sLen sCap (.int k' l) (if l.toNat * sz = 0 then pure #[] else do pure (Builtin.zeroCells (← zeroValue e).cells l.toNat))).run P w := by
  have hs' : szOf P e = some sz := by simp [szOf, hi, hs]
  have w1 : IntKind.i64.wrap l = l := IntWalk.i64_in _ (by omega)
  have hb' : ¬ (l * (i.bytes : Int) > 2 ^ 48) := by
    have : l * (i.bytes : Int) = ((l.toNat * i.bytes : Nat) : Int) := by rw [Int.natCast_mul, Int.toNat_of_nonneg h0]
    omega
  have hl0 : ¬ (l < 0) := by omega
  unfold Builtin.append_ appendCore
  simp only [List.getElem?_toArray, List.getElem?_cons_zero, List.getElem?_cons_succ, Sem.run_bind, run_underlying hst, Result.andThen_ok, run_sizeOf' hs', run_underlying hxt, Sem.run_pure, if_true, asInt, asIntOf, w1, hl0, if_false, typeInfo, run_program, hi, hb', Bool.not_true, Bool.false_eq_true, Sem.run_ite]
  cases base <;> rfl

theorem core_room {e : TypeId} {sz n sLen sCap : Nat} {zeros : Bool} {x : Value} {A : Sem (Array Value)} {a : Addr} {us : List Value} (hA : A.run P w = .ok us.toArray w) (hr : sLen + n ≤ sCap) :
    (appendCore e sz zeros n (some a) sLen sCap x A).run P w = ((storeCells (a.add (sLen * sz)) us 0).run P w).andThen fun _ w' => .ok (.slice (some a) (sLen + n) sCap) w' := by
  unfold appendCore
  rw [if_pos hr]
  simp only [Sem.run_bind, hA, Result.andThen_ok, Sem.run_pure]

theorem core_nil {e : TypeId} {sz : Nat} {zeros : Bool} {x : Value} {A : Sem (Array Value)} {us : Array Value} (hA : A.run P w = .ok us w) :
    (appendCore e sz zeros 0 none 0 0 x A).run P w = .ok (.slice none 0 0) w := by
  unfold appendCore
  rw [if_pos (by omega)]
  simp only [Sem.run_bind, hA, Result.andThen_ok, Sem.run_pure]

theorem core_grow {e : TypeId} {sz n sLen sCap : Nat} {zeros : Bool} {x : Value} {A : Sem (Array Value)} {base : Option Addr} {us os : List Value} {i : TypeInfo} {z : Value} (hi : P.info? e = some i) (hz : i.zero = some z) (hb0 : 0 < i.bytes ∨ True)
    (hA : ∀ w2 : World, (∀ a, w2.cell? a = w.cell? a) → A.run P w2 = .ok us.toArray w2) (hO : ∀ w2 : World, (∀ a, w2.cell? a = w.cell? a) → (Builtin.firstCells sz sLen (.slice base sLen sCap)).run P w2 = .ok os.toArray w2)
    (hr : sCap < sLen + n) (h40 : sLen + n ≤ 1099511627776) (hby : (sLen + n) * i.bytes ≤ 1099511627776) :
    (appendCore e sz zeros n base sLen sCap x A).run P w =
      .ok (.slice (some ⟨w.heap.size, 0, none⟩) (sLen + n) (grownCap w (sLen + n) sCap e))
        (w.drew.alloc (.cells (os.toArray ++ us.toArray ++ Builtin.zeroCells z.cells (grownCap w (sLen + n) sCap e - (sLen + n))) e)) := by
  have h63 : ¬ (((sLen + n : Nat) : Int) > IntKind.i64.max ∧ (zeros = true ∨ i.bytes = 0)) := by
    simp only [IntKind.max, IntKind.bits, IntKind.signed]; omega
  have h48 : ¬ (Builtin.nextslicecap (sLen + n) sCap * i.bytes > 2 ^ 48) := by
    have := growslice_fits (bytes := i.bytes) hr (by omega)
    omega
  unfold appendCore
  rw [if_neg (by omega)]
  have hA' := hA w.drew (fun a => rfl)
  have hO' := hO w.drew (fun a => rfl)
  simp only [Sem.run_bind, typeInfo, run_program, Result.andThen_ok, hi, Sem.run_pure, Sem.run_ite]
  rw [if_neg h63, if_neg h48]
  simp only [Sem.run_pure, Result.andThen_ok, run_choose, Question.forced, Bool.false_eq_true, if_false, World.drew_eq, run_askRoom, hO', hA', run_zeroValue' hi hz]
  simp [newRow, grownCap]
  rfl

theorem zeroCells_rel {z : NVal} {rz : Value} (hz : VR ι z rz) {sz : Nat} (hl : z.cells.length = sz) (h0 : 0 < sz) (n : Nat) : VRs ι (repeatCells z.cells n) (Builtin.zeroCells rz.cells n).toList := by
  have hlc : z.cells.length = rz.cells.size := by simpa using hz.cells.length
  exact repeat_rel hz (by omega) n (k := n * rz.cells.size) (by rw [hlc])

/-- a block of one's own, taken up to some place and gone on with, in a block number of its own -/
theorem Inv.regrow (I : Inv w0 ι h w) {b : Nat} {cs vs : List NVal} {us : List Value} {t : Option (TypeId × Nat)} (hb : h.get b = some (.cells cs (.own t))) {rb s m o k : Nat} {e0 : TypeId} (hι : ι b = some (rb, s, m)) (hu : VRs ι vs us) (h1v : allOne vs = true)
    (hk : o + k ≤ cs.length) (hl : o + k + vs.length ≤ m) :
    ∃ w', (storeCells ⟨rb, s + (o + k), none⟩ us 0).run P w = .ok () w' ∧
      Inv w0 (ι.upd h.next (rb, s + o, m - o)) ((h.set b .dead).alloc (.cells ((cs.drop o).take k ++ vs) (.own (regrown o e0 t)))) w' ∧
      Step ι h w (ι.upd h.next (rb, s + o, m - o)) ((h.set b .dead).alloc (.cells ((cs.drop o).take k ++ vs) (.own (regrown o e0 t)))) w' := by
  obtain ⟨rb1, s1, m1, c, e, fz, q1, q2, q3, q4, q5, q6, q7⟩ := I.cells b cs hb
  rw [hι] at q1; cases q1
  have hlen := hu.length
  have hrun := run_storeCells_fz P rb (s + (o + k)) e fz us 0 c w q3 q6 (by omega) (allOne_sound h1v hu)
  simp only [Nat.add_zero] at hrun
  have hblt := NHeap.get_lt hb
  have hle : ι.le (ι.upd h.next (rb, s + o, m - o)) := Inj.le_upd _ I.next_none
  have hcs : ((c.toList.take (s + (o + k)) ++ us ++ c.toList.drop (s + (o + k) + us.length)).toArray).size = c.size := seg_size (by omega)
  have hnew := setRow_heap w rb c (c.toList.take (s + (o + k)) ++ us ++ c.toList.drop (s + (o + k) + us.length)).toArray e fz q3
  have hother := fun k' hk' => setRow_other w rb k' (c.toList.take (s + (o + k)) ++ us ++ c.toList.drop (s + (o + k) + us.length)).toArray hk'
  have get : ∀ {b' ob'}, ((h.set b .dead).alloc (.cells ((cs.drop o).take k ++ vs) (.own (regrown o e0 t)))).get b' = some ob' → (b' = h.next ∧ ob' = .cells ((cs.drop o).take k ++ vs) (.own (regrown o e0 t))) ∨ (b' = b ∧ ob' = .dead) ∨ (b' ≠ h.next ∧ b' ≠ b ∧ h.get b' = some ob') := by
    intro b' ob' q
    rw [NHeap.get_alloc] at q
    split at q
    · rename_i hh; cases q; exact .inl ⟨hh, rfl⟩
    · rename_i hh
      rw [NHeap.get_set] at q
      split at q
      · rename_i hh'; cases q; exact .inr (.inl ⟨hh'.1, rfl⟩)
      · rename_i hh'; exact .inr (.inr ⟨hh, fun q' => hh' ⟨q', hblt⟩, q⟩)
  have ne_of : ∀ {b' ob' rb' s' m'}, b' ≠ b → h.get b' = some ob' → ob'.owned = true → ι b' = some (rb', s', m') → rb' ≠ rb := by
    intro b' ob' rb' s' m' hne hg how hi q
    subst q
    exact hne (I.inj b' b ob' _ rb' s' s m' m hg how hb rfl hi hι)
  refine ⟨_, hrun, ⟨I.below.trans ⟨rfl, rfl, rfl, by simp, fun k' hk' => hother k' (by omega)⟩, ?_, ?_, ?_, ?_, ?_, ?_⟩, ⟨hle, ?_, by simp, ?_, ?_, by simp⟩⟩
  · intro b' x q
    by_cases hb' : b' = h.next
    · subst hb'; simp
    · rw [Inj.upd_ne _ _ hb'] at q; have := I.fresh b' x q; simp; omega
  · intro b' ds t' q
    rcases get q with ⟨rfl, q'⟩ | ⟨rfl, q'⟩ | ⟨hn, hne, q'⟩
    · cases q'
      refine ⟨rb, s + o, m - o, _, e, fz, by simp, q2, hnew, by omega, by simp; omega, fun i hi => q6 i (by omega), fun i v hi => ?_⟩
      rw [List.getElem?_toArray]
      have lt' : (c.toList.take (s + (o + k))).length = s + (o + k) := by simp; omega
      have ltk : ((cs.drop o).take k).length = k := by simp; omega
      by_cases hik : i < k
      · rw [List.getElem?_append_left (by omega), List.getElem?_take, if_pos hik, List.getElem?_drop] at hi
        obtain ⟨r, hr, hv⟩ := q7 (o + i) v hi
        refine ⟨r, ?_, hv.mono hle⟩
        rw [List.getElem?_append_left (by simp; omega), List.getElem?_append_left (by omega), List.getElem?_take, if_pos (by omega)]
        rw [show s + o + i = s + (o + i) by omega]; simpa using hr
      · rw [List.getElem?_append_right (by omega), ltk] at hi
        obtain ⟨r, hr, hv⟩ := hu.get hi
        have hlt : i - k < us.length := (List.getElem?_eq_some_iff.1 hr).1
        refine ⟨r, ?_, hv.mono hle⟩
        rw [List.getElem?_append_left (by simp; omega), List.getElem?_append_right (by omega), lt']
        rw [show s + o + i - (s + (o + k)) = i - k by omega]; exact hr
    · cases q'
    · obtain ⟨rb', s', m', c2, e2, fz2, h1, h2, h3, h4, h5, h6, h7⟩ := I.cells b' ds q'
      exact ⟨rb', s', m', c2, e2, fz2, by rw [Inj.upd_ne _ _ hn]; exact h1, h2, by rw [hother rb' (ne_of hne q' rfl h1)]; exact h3, h4, h5, h6, fun i v hi => by
        obtain ⟨r, hr, hv⟩ := h7 i v hi; exact ⟨r, hr, hv.mono hle⟩⟩
  · intro b' ds T k1 q
    rcases get q with ⟨rfl, q'⟩ | ⟨rfl, q'⟩ | ⟨hn, hne, q'⟩
    · injection q' with q1' q2'
      injection q2' with q2'
      have q2'' := q2'.symm
      unfold regrown at q2''
      split at q2''
      · rename_i hc
        obtain ⟨rfl, rfl⟩ := hc
        cases q2''
        obtain ⟨rb2, c2, h1, h2, h3⟩ := I.typed b cs e0 0 hb
        rw [hι] at h1; cases h1
        rw [q3] at h2; cases h2
        exact ⟨rb, _, by rw [Inj.upd_same, hcs]; rfl, hnew, .inl rfl, fun _ i r hr => (seg_one (allOne_sound h1v hu) i r hr).elim (h3.2 rfl i r) id⟩
      · cases q2''
    · cases q'
    · obtain ⟨rb', c2, h1, h2, h3⟩ := I.typed b' ds T k1 q'
      exact ⟨rb', c2, by rw [Inj.upd_ne _ _ hn]; exact h1, by rw [hother rb' (ne_of hne q' rfl h1)]; exact h2, h3⟩
  · intro b' ds q
    rcases get q with ⟨rfl, q'⟩ | ⟨rfl, q'⟩ | ⟨hn, hne, q'⟩
    · cases q'
    · cases q'
    · obtain ⟨rb', s', m', h1, h2⟩ := I.ro b' ds q'
      exact ⟨rb', s', m', by rw [Inj.upd_ne _ _ hn]; exact h1, fun i v hi => by obtain ⟨r, hr, hv⟩ := h2 i v hi; exact ⟨r, hr, hv.mono hle⟩⟩
  · intro b' es q
    rcases get q with ⟨rfl, q'⟩ | ⟨rfl, q'⟩ | ⟨hn, hne, q'⟩
    · cases q'
    · cases q'
    · obtain ⟨rb', s', m', ents, k', h1, h2, h3, h4⟩ := I.maps b' es q'
      exact ⟨rb', s', m', ents, k', by rw [Inj.upd_ne _ _ hn]; exact h1, h2, by rw [hother rb' (ne_of hne q' rfl h1)]; exact h3, h4.imp fun _ _ ⟨a, b⟩ => ⟨a.mono hle, b.mono hle⟩⟩
  · intro b1 b2 o1 o2 rb' s1 s2 m1 m2 g1 w1 g2 w2 i1 i2
    rcases get g1 with ⟨rfl, p1⟩ | ⟨rfl, p1⟩ | ⟨hn1, hne1, p1⟩
    · rcases get g2 with ⟨rfl, p2⟩ | ⟨rfl, p2⟩ | ⟨hn2, hne2, p2⟩
      · rfl
      · subst p2; simp [NObj.owned] at w2
      · rw [Inj.upd_same] at i1; cases i1; rw [Inj.upd_ne _ _ hn2] at i2
        exact absurd rfl (ne_of hne2 p2 w2 i2)
    · subst p1; simp [NObj.owned] at w1
    · rcases get g2 with ⟨rfl, p2⟩ | ⟨rfl, p2⟩ | ⟨hn2, hne2, p2⟩
      · rw [Inj.upd_same] at i2; cases i2; rw [Inj.upd_ne _ _ hn1] at i1
        exact absurd rfl (ne_of hne1 p1 w1 i1)
      · subst p2; simp [NObj.owned] at w2
      · rw [Inj.upd_ne _ _ hn1] at i1; rw [Inj.upd_ne _ _ hn2] at i2
        exact I.inj b1 b2 o1 o2 rb' s1 s2 m1 m2 p1 w1 p2 w2 i1 i2
  · intro b' x q
    by_cases hb' : b' = h.next
    · exact .inr (by omega)
    · rw [Inj.upd_ne _ _ hb'] at q; exact .inl q
  · intro k' hk' hno
    exact hother k' (fun q => hno (by subst q; exact ⟨b, _, s, m, hb, rfl, hι⟩))
  · rintro k' ⟨b', ob', s', m', g, ho, hi⟩
    rcases get g with ⟨rfl, p⟩ | ⟨rfl, p⟩ | ⟨hn, hne, p⟩
    · rw [Inj.upd_same] at hi; cases hi; exact .inl ⟨b, _, s, m, hb, rfl, hι⟩
    · subst p; simp [NObj.owned] at ho
    · rw [Inj.upd_ne _ _ hn] at hi; exact .inl ⟨b', ob', s', m', p, ho, hi⟩
end Go.Proofs.Ytblhpikljhholaa.NICE
