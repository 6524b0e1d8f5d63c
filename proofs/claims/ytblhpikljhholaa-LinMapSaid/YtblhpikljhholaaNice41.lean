/- slices.overlaps of two blocks of one's own; slices.Insert over a row whose room is not known: both ways of its code come to one heap. -/
import Derived.Test.YtblhpikljhholaaNice40
import Derived.Laws.Externs
import GoSem.Extern.SlicesOverlaps
set_option linter.unusedVariables false
set_option linter.unusedSimpArgs false
namespace Go.Proofs.Ytblhpikljhholaa.NICE
open Go Go.RowKit

variable {P : Program} {w0 w : World} {ι : Inj} {h : NHeap}
attribute [go_sem] kCap

theorem run_overlaps_row (w : World) (tS tR e : TypeId) (ht : P.underlying tS = some (.slice e)) (size : Nat) (hz : (Go.sizeOf e).run P w = .ok size w)
    (a b : Addr) (la ca lb cb : Nat) (hne : a.block ≠ b.block) (tA : TypeId) (kA : Nat) (hsa : w.shape? a.block = some (tA, kA)) (hkA : kA ≠ 0)
    (c : Array Value) (T : TypeId) (hb : w.heap[b.block]? = some (.cells c T (0, 0))) :
    (Extern.SlicesOverlaps.overlaps #[tS, tS] #[tR] #[.slice (some a) la ca, .slice (some b) lb cb]).run P w = .ok (.bool false) w := by
  have hnb : (a.block != b.block) = true := by simpa using hne
  have hnb' : (a.block == b.block) = false := by simpa using hne
  have hsb : w.shape? b.block = some (T, c.size) := by simp [World.shape?, hb]
  have hf : ∀ k, w.frozen? { block := b.block, off := k } = false := fun k => by simp [World.frozen?, hb]
  have hf' : w.frozen? b = false := by simp [World.frozen?, hb]
  change Sem.run P (α := Value) (do
    let some t := (#[tS, tS] : Array TypeId)[0]? | stuck "slices.overlaps: no parameter types"
    let .slice elem ← underlying t | stuck "slices.overlaps: slice type expected"
    let size ← sizeOf elem
    match (some a : Option Addr), (some b : Option Addr) with
    | some a, some b =>
      if la = 0 ∨ lb = 0 ∨ size = 0 then pure (Value.bool false)
      else if a.block != b.block && (← frozen a) && (← frozen b) then unsupported .addressObserved
      else do
        if a.block != b.block then do
          noView a; noView b
          if ← mayBeOne a b then return Value.bool ((← choose (.extern "sameAddr.stringBytes" 2)) == 1)
        pure (Value.bool (a.block == b.block && a.off < b.off + lb * size && b.off < a.off + la * size))
    | _, _ => pure (Value.bool false)) w = _
  by_cases h0 : la = 0 ∨ lb = 0 ∨ size = 0
  · simp [run_underlying ht, hz, h0]
  · cases kA with
    | zero => exact absurd rfl hkA
    | succ kA =>
      cases hfa : w.frozen? a <;> cases hfe : w.frozen? { block := a.block, off := kA + 1 } <;>
      simp [run_underlying ht, hz, h0, hnb, hnb', frozen, noView, viewAt, mayBeOne, stringish, shape, Sem.run, hsa, hsb, hfa, hfe, hf, hf']

/-- two slices in two blocks of one's own, the second one a row that append made: they don't overlap -/
def ovKnown (k : FuncId) : CallF := fun f as h => if f = k then (match as with
  | [.slice (some (va, _)) _ _ _, .slice (some (b, _)) (_ + 1) _ _] => (match h.get va, h.get b with
    | some (.cells (_ :: _) (.own _)), some (.cells _ (.own (some (_, _)))) => if va = b then none else some (.bool false, h)
    | _, _ => none)
  | _ => none) else none

theorem ovKnown_ok {k : FuncId} {fn : Func} (hf : P.funcs[k]? = some fn) (hname : (fn.name == "runtime.NumGoroutine") = false)
    (hb : fn.body.isNone = true) (hn : Extern.findNext fn = none) {tS tR e : TypeId} (ht : P.underlying tS = some (.slice e)) {size : Nat} (hz : szOf P e = some size)
    (he : Extern.find fn = some (Extern.SlicesOverlaps.overlaps #[tS, tS] #[tR])) : CallOk P (ovKnown k) := by
  intro f as h v h' q
  unfold ovKnown at q
  split at q
  · rename_i hk
    subst hk
    split at q
    · rename_i va ov lv cv xv b o n c x
      split at q
      · rename_i c0 cs0 tg cs T kk ga gb
        split at q
        · cases q
        · rename_i hne
          cases q
          refine .inr ⟨rfl, fun w0 ι w ra I hra => ?_⟩
          generalize hl : ra.toList = l at hra
          cases hra with
          | @cons _ r1 _ _ h1 h2 => cases h2 with
            | @cons _ r2 _ _ h3 h4 => cases h4 with
              | nil =>
                have hra : ra = #[r1, r2] := by apply Array.ext'; simpa using hl
                obtain ⟨rba, sa, ma, ca, ea, fa, a1, a2, a3, a4, a5, a6, a7⟩ := I.cells va _ ga
                obtain ⟨rbb, cb, b1, b2, b3⟩ := I.typed b _ T kk gb
                have hneb : rba ≠ rbb := fun e => hne (I.inj va b _ _ rba sa 0 ma cb.size ga rfl gb rfl a1 (by rw [e]; exact b1))
                have hsa : w.shape? rba = some (ea, ca.size) := by simp [World.shape?, a3]
                have hka : ca.size ≠ 0 := by simp only [List.length_cons] at a5; omega
                refine ⟨_, .bool _, ?_⟩
                rw [run_callFunc_extern hf hname hb hn he, hra]
                have go : ∀ (x y : Addr) (l1 c1 l2 c2 : Nat), x.block = rba → y.block = rbb → ((Extern.SlicesOverlaps.overlaps #[tS, tS] #[tR] #[.slice (some x) l1 c1, .slice (some y) l2 c2]).run P w) = .ok (.bool false) w := fun x y l1 c1 l2 c2 hx hy =>
                  run_overlaps_row w tS tR e ht size (run_sizeOf' hz w) x y l1 c1 l2 c2 (by rw [hx, hy]; exact hneb) ea ca.size (by rw [hx]; exact hsa) hka cb T (by rw [hy]; exact b2)
                have gb' : ∀ y : Value, VR ι (.slice (some (b, o)) (n + 1) c x) y → ∃ (ay : Addr) (l2 c2 : Nat), y = .slice (some ay) l2 c2 ∧ ay.block = rbb := by
                  intro y hy
                  cases hy with
                  | slice hι hl hc => rw [b1] at hι; cases hι; exact ⟨_, _, _, rfl, rfl⟩
                  | sliceMore hι hl hc hm => rw [b1] at hι; cases hι; exact ⟨_, _, _, rfl, rfl⟩
                obtain ⟨ay, l2, c2, rfl, hy⟩ := gb' r2 h3
                cases h1 with
                | slice hι hl hc => rw [a1] at hι; cases hι; rw [go _ _ _ _ _ _ rfl hy]; rfl
                | sliceMore hι hl hc hm => rw [a1] at hι; cases hι; rw [go _ _ _ _ _ _ rfl hy]; rfl
                | sliceEmpty =>
                  have : ∀ (x y : Addr) (c1 l2 c2 : Nat), ((Extern.SlicesOverlaps.overlaps #[tS, tS] #[tR] #[.slice (some x) 0 c1, .slice (some y) l2 c2]).run P w) = .ok (.bool false) w := fun x y c1 l2 c2 => by
                    change Sem.run P (α := Value) (do
                      let some t := (#[tS, tS] : Array TypeId)[0]? | stuck "slices.overlaps: no parameter types"
                      let .slice elem ← underlying t | stuck "slices.overlaps: slice type expected"
                      let size ← sizeOf elem
                      match (some x : Option Addr), (some y : Option Addr) with
                      | some a, some b =>
                        if 0 = 0 ∨ l2 = 0 ∨ size = 0 then pure (Value.bool false)
                        else if a.block != b.block && (← frozen a) && (← frozen b) then unsupported .addressObserved
                        else do
                          if a.block != b.block then do
                            noView a; noView b
                            if ← mayBeOne a b then return Value.bool ((← choose (.extern "sameAddr.stringBytes" 2)) == 1)
                          pure (Value.bool (a.block == b.block && a.off < b.off + l2 * size && b.off < a.off + 0 * size))
                      | _, _ => pure (Value.bool false)) w = _
                    simp [run_underlying ht, run_sizeOf' hz]
                  rw [this]; rfl
      · cases q
    · cases q
  · cases q

/-! ### Insert -/

theorem Inv.same {h2 : NHeap} (I : Inv w0 ι h w) (hn : h2.next = h.next) (hg : ∀ b, h2.get b = h.get b) : Inv w0 ι h2 w :=
  ⟨I.below, fun b x e => by rw [hn]; exact I.fresh b x e, fun b cs t e => I.cells b cs (by rw [← hg]; exact e), fun b cs T k e => I.typed b cs T k (by rw [← hg]; exact e), fun b cs e => I.ro b cs (by rw [← hg]; exact e),
    fun b es e => I.maps b es (by rw [← hg]; exact e), fun b b' o o' rb s s' m m' e1 w1 e2 w2 => I.inj b b' o o' rb s s' m m' (by rw [← hg]; exact e1) w1 (by rw [← hg]; exact e2) w2⟩
theorem Step.same {ι' : Inj} {h' h2 : NHeap} {w' : World} (S : Step ι h w ι' h' w') (hn : h2.next = h'.next) (hg : ∀ b, h2.get b = h'.get b) : Step ι h w ι' h2 w' :=
  ⟨S.ext, S.new, S.size, S.frame, fun rb ⟨b, o, s, m, e1, e2, e3⟩ => S.own rb ⟨b, o, s, m, by rw [← hg]; exact e1, e2, e3⟩, by rw [hn]; exact S.next⟩

/-- more of a row's cells are told: of these nothing is known -/
theorem Inv.widen (I : Inv w0 ι h w) {b : Nat} {cs : List NVal} {e : TypeId} (hb : h.get b = some (.cells cs (.own (some (e, 0))))) {rb : Nat} {m : Nat} (hι : ι b = some (rb, 0, m)) (j : Nat) (hj : cs.length + j ≤ m) :
    Inv w0 ι (h.set b (.cells (cs ++ List.replicate j .junk) (.own (some (e, 0))))) w ∧ ∀ rb', Owned ι (h.set b (.cells (cs ++ List.replicate j .junk) (.own (some (e, 0))))) rb' → Owned ι h rb' := by
  have hlt := NHeap.get_lt hb
  have get : ∀ {b' ob'}, (h.set b (.cells (cs ++ List.replicate j .junk) (.own (some (e, 0))))).get b' = some ob' → (b' = b ∧ ob' = .cells (cs ++ List.replicate j .junk) (.own (some (e, 0)))) ∨ (b' ≠ b ∧ h.get b' = some ob') := by
    intro b' ob' q
    rw [NHeap.get_set] at q
    split at q
    · rename_i hh; cases q; exact .inl ⟨hh.1, rfl⟩
    · rename_i hh; exact .inr ⟨fun q => hh ⟨q, hlt⟩, q⟩
  obtain ⟨rb1, c, t1, t2, t3, t4⟩ := I.typed b cs e 0 hb
  rw [hι] at t1; cases t1
  refine ⟨⟨I.below, fun b' x q => by simpa using I.fresh b' x q, ?_, ?_, ?_, ?_, ?_⟩, ?_⟩
  · intro b' ds t q
    rcases get q with ⟨rfl, q'⟩ | ⟨hne, q'⟩
    · cases q'
      obtain ⟨rb2, s2, m2, c2, e2, fz, a1, a2, a3, a4, a5, a6, a7⟩ := I.cells b' cs hb
      rw [hι] at a1; cases a1
      rw [t2] at a3; cases a3
      refine ⟨_, 0, _, c, _, _, hι, a2, t2, a4, by simp; omega, a6, fun i v hi => ?_⟩
      by_cases hic : i < cs.length
      · rw [List.getElem?_append_left hic] at hi
        exact a7 i v hi
      · rw [List.getElem?_append_right (by omega)] at hi
        have hv : v = .junk := by
          have := List.mem_of_getElem? hi
          exact List.eq_of_mem_replicate this
        have hi2 : i - cs.length < j := by simpa using (List.getElem?_eq_some_iff.1 hi).1
        subst hv
        have hic2 : i < c.size := by omega
        refine ⟨c[i], by simp [hic2], .junk (t4 rfl i c[i] (by simp [hic2]))⟩
    · exact I.cells b' ds q'
  · intro b' ds T k q
    rcases get q with ⟨rfl, q'⟩ | ⟨hne, q'⟩
    · cases q'; exact ⟨_, c, hι, t2, t3, t4⟩
    · exact I.typed b' ds T k q'
  · intro b' ds q
    rcases get q with ⟨rfl, q'⟩ | ⟨hne, q'⟩
    · cases q'
    · exact I.ro b' ds q'
  · intro b' es q
    rcases get q with ⟨rfl, q'⟩ | ⟨hne, q'⟩
    · cases q'
    · exact I.maps b' es q'
  · intro b1 b2 o1 o2 rb' s1 s2 m1 m2 g1 w1 g2 w2 i1 i2
    have : ∀ {b' ob'}, (h.set b (.cells (cs ++ List.replicate j .junk) (.own (some (e, 0))))).get b' = some ob' → ob'.owned = true → ∃ ob'', h.get b' = some ob'' ∧ ob''.owned = true := by
      intro b' ob' q qo
      rcases get q with ⟨rfl, q'⟩ | ⟨hne, q'⟩
      · exact ⟨_, hb, rfl⟩
      · exact ⟨_, q', qo⟩
    obtain ⟨p1, g1, w1⟩ := this g1 w1
    obtain ⟨p2, g2, w2⟩ := this g2 w2
    exact I.inj b1 b2 p1 p2 rb' s1 s2 m1 m2 g1 w1 g2 w2 i1 i2
  · rintro rb' ⟨b', ob', s', m', g, ho, hi⟩
    rcases get g with ⟨rfl, g⟩ | ⟨hne, g⟩
    · exact ⟨b', _, s', m', hb, rfl, hi⟩
    · exact ⟨b', ob', s', m', g, ho, hi⟩

/-- a block gets a new number -/
theorem Inv.rename (I : Inv w0 ι h w) {b : Nat} {o : NObj} (hb : h.get b = some o) (ho : o.owned = true) {x : Nat × Nat × Nat} (hι : ι b = some x) {h3 : NHeap} (hn : h3.next = h.next + 1) (hg : ∀ b', h3.get b' = if b' = h.next then some o else if b' = b then some .dead else h.get b') :
    Inv w0 (ι.upd h.next x) h3 w ∧ Step ι h w (ι.upd h.next x) h3 w := by
  have hle : ι.le (ι.upd h.next x) := Inj.le_upd _ I.next_none
  have hlt := NHeap.get_lt hb
  have get : ∀ {b' ob'}, h3.get b' = some ob' → (b' = h.next ∧ ob' = o) ∨ ob' = .dead ∨ (b' ≠ h.next ∧ b' ≠ b ∧ h.get b' = some ob') := by
    intro b' ob' q
    rw [hg] at q
    split at q
    · rename_i hh; cases q; exact .inl ⟨hh, rfl⟩
    · rename_i hh
      split at q
      · cases q; exact .inr (.inl rfl)
      · rename_i hh'; exact .inr (.inr ⟨hh, hh', q⟩)
  refine ⟨⟨I.below, ?_, ?_, ?_, ?_, ?_, ?_⟩, ⟨hle, ?_, Nat.le_refl _, fun _ _ _ => rfl, ?_, by omega⟩⟩
  · intro b' y q
    by_cases hb' : b' = h.next
    · omega
    · rw [Inj.upd_ne _ _ hb'] at q; have := I.fresh b' y q; omega
  · intro b' cs t q
    rcases get q with ⟨rfl, q'⟩ | q' | ⟨h1, h2, q'⟩
    · subst q'
      obtain ⟨rb, s, m, c, e, fz, a1, a2, a3, a4, a5, a6, a7⟩ := I.cells b cs hb
      rw [hι] at a1; cases a1
      exact ⟨rb, s, m, c, e, fz, by simp, a2, a3, a4, a5, a6, fun i v hi => by obtain ⟨r, hr, hv⟩ := a7 i v hi; exact ⟨r, hr, hv.mono hle⟩⟩
    · cases q'
    · obtain ⟨rb, s, m, c, e, fz, a1, a2, a3, a4, a5, a6, a7⟩ := I.cells b' cs q'
      exact ⟨rb, s, m, c, e, fz, by rw [Inj.upd_ne _ _ h1]; exact a1, a2, a3, a4, a5, a6, fun i v hi => by obtain ⟨r, hr, hv⟩ := a7 i v hi; exact ⟨r, hr, hv.mono hle⟩⟩
  · intro b' cs T k q
    rcases get q with ⟨rfl, q'⟩ | q' | ⟨h1, h2, q'⟩
    · subst q'
      obtain ⟨rb, c, a1, a2, a3⟩ := I.typed b cs T k hb
      rw [hι] at a1; cases a1
      exact ⟨rb, c, by simp, a2, a3⟩
    · cases q'
    · obtain ⟨rb, c, a1, a2, a3⟩ := I.typed b' cs T k q'
      exact ⟨rb, c, by rw [Inj.upd_ne _ _ h1]; exact a1, a2, a3⟩
  · intro b' cs q
    rcases get q with ⟨rfl, q'⟩ | q' | ⟨h1, h2, q'⟩
    · subst q'; cases ho
    · cases q'
    · obtain ⟨rb, s, m, a1, a2⟩ := I.ro b' cs q'
      exact ⟨rb, s, m, by rw [Inj.upd_ne _ _ h1]; exact a1, fun i v hi => by obtain ⟨r, hr, hv⟩ := a2 i v hi; exact ⟨r, hr, hv.mono hle⟩⟩
  · intro b' es q
    rcases get q with ⟨rfl, q'⟩ | q' | ⟨h1, h2, q'⟩
    · subst q'
      obtain ⟨rb, s, m, ents, k, a1, a2, a3, a4⟩ := I.maps b es hb
      rw [hι] at a1; cases a1
      exact ⟨rb, s, m, ents, k, by simp, a2, a3, a4.imp fun _ _ ⟨a, b⟩ => ⟨a.mono hle, b.mono hle⟩⟩
    · cases q'
    · obtain ⟨rb, s, m, ents, k, a1, a2, a3, a4⟩ := I.maps b' es q'
      exact ⟨rb, s, m, ents, k, by rw [Inj.upd_ne _ _ h1]; exact a1, a2, a3, a4.imp fun _ _ ⟨a, b⟩ => ⟨a.mono hle, b.mono hle⟩⟩
  · intro b1 b2 o1 o2 rb' s1 s2 m1 m2 g1 w1 g2 w2 i1 i2
    have go : ∀ {b' ob' rb' s' m'}, h3.get b' = some ob' → ob'.owned = true → (ι.upd h.next x) b' = some (rb', s', m') → ∃ b'' ob'', h.get b'' = some ob'' ∧ ob''.owned = true ∧ ι b'' = some (rb', s', m') ∧ ((b' = h.next ∧ b'' = b) ∨ (b' ≠ h.next ∧ b'' = b' ∧ b' ≠ b)) := by
      intro b' ob' rb' s' m' q qo qi
      rcases get q with ⟨rfl, q'⟩ | q' | ⟨h1, h2, q'⟩
      · rw [Inj.upd_same] at qi; cases qi; exact ⟨b, o, hb, ho, hι, .inl ⟨rfl, rfl⟩⟩
      · subst q'; simp [NObj.owned] at qo
      · rw [Inj.upd_ne _ _ h1] at qi; exact ⟨b', ob', q', qo, qi, .inr ⟨h1, rfl, h2⟩⟩
    obtain ⟨c1, p1, x1, y1, z1, k1⟩ := go g1 w1 i1
    obtain ⟨c2, p2, x2, y2, z2, k2⟩ := go g2 w2 i2
    have := I.inj c1 c2 p1 p2 rb' s1 s2 m1 m2 x1 y1 x2 y2 z1 z2
    rcases k1 with ⟨k1, k1'⟩ | ⟨k1, k1', k1''⟩ <;> rcases k2 with ⟨k2, k2'⟩ | ⟨k2, k2', k2''⟩
    · rw [k1, k2]
    · exact absurd (k2'.symm.trans (this.symm.trans k1')) k2''
    · exact absurd (k1'.symm.trans (this.trans k2')) k1''
    · rw [← k1', ← k2', this]
  · intro b' y q
    by_cases hb' : b' = h.next
    · exact .inr (by omega)
    · rw [Inj.upd_ne _ _ hb'] at q; exact .inl q
  · rintro rb' ⟨b', ob', s', m', g, go, gi⟩
    rcases get g with ⟨rfl, q'⟩ | q' | ⟨h1, h2, q'⟩
    · rw [Inj.upd_same] at gi; cases gi; exact .inl ⟨b, o, s', m', hb, ho, hι⟩
    · subst q'; simp [NObj.owned] at go
    · rw [Inj.upd_ne _ _ h1] at gi; exact .inl ⟨b', ob', s', m', q', go, gi⟩

theorem get_dead_alloc (h : NHeap) (b : Nat) (o : NObj) (b' : Nat) : ((h.set b .dead).alloc o).get b' = if b' = h.next then some o else if b' = b ∧ b < h.next then some .dead else h.get b' := by
  rw [NHeap.get_alloc, NHeap.get_set]; rfl
theorem get_alloc_dead (h : NHeap) (b : Nat) (o : NObj) (b' : Nat) : ((h.alloc o).set b .dead).get b' = if b' = b ∧ b < h.next + 1 then some .dead else if b' = h.next then some o else h.get b' := by
  rw [NHeap.get_set, NHeap.get_alloc]; rfl

/-! slices and rows, told for 'simp' by hand -/
theorem nslice_from {t e sz : Nat} (hu : P.underlying t = some (.slice e)) (hs : szOf P e = some sz) (k : IntKind) (b o n cap i : Nat) (hi : i ≤ n) (hc : n ≤ cap) (hic : i < cap) :
    nslice P t (.slice (some (b, o)) n cap none) (some (.int k (i : Int))) none = some (.slice (some (b, o + i * sz)) (n - i) (cap - i) none) := by
  simp only [nslice, nbound, hu, hs]
  rw [if_pos (by omega)]
  simp only [Int.toNat_natCast]
  rw [if_neg (by omega)]
theorem nslice_fromX {t e sz : Nat} (hu : P.underlying t = some (.slice e)) (hs : szOf P e = some sz) (k : IntKind) (b o n cap i : Nat) (hi : i < n) :
    nslice P t (.slice (some (b, o)) n cap (some sz)) (some (.int k (i : Int))) none = some (.slice (some (b, o + i * sz)) (n - i) (cap - i) (some sz)) := by
  simp only [nslice, nbound, hu, hs]
  rw [if_pos (by omega)]
  simp only [Int.toNat_natCast, if_true]
  rw [if_pos (by omega)]
theorem nslice_to {t e sz : Nat} (hu : P.underlying t = some (.slice e)) (hs : szOf P e = some sz) (k : IntKind) (b o n cap i : Nat) (hi : i ≤ cap) (hc : 0 < cap) :
    nslice P t (.slice (some (b, o)) n cap none) none (some (.int k (i : Int))) = some (.slice (some (b, o)) i cap none) := by
  simp only [nslice, nbound, hu, hs]
  rw [if_pos (by omega)]
  simp only [Int.toNat_natCast, Nat.zero_mul, Nat.add_zero, ite_self, Nat.sub_zero]
theorem srcCells_row {sz n : Nat} {h : NHeap} {b o len cap : Nat} {x : Option Nat} {all : List NVal} {m : Own} (hg : h.get b = some (.cells all m)) (hn : n ≤ len) (hl : o + n * sz ≤ all.length) :
    srcCells sz n h (.slice (some (b, o)) len cap x) = some ((all.drop o).take (n * sz)) := by
  simp only [srcCells]
  split
  · rename_i h0; rw [h0]; rfl
  · rw [hg]
    simp only
    rw [if_pos ⟨hn, hl⟩]
theorem allOne_take {l : List NVal} (h : allOne l = true) (n : Nat) : allOne (l.take n) = true := by
  have := h
  rw [← List.take_append_drop n l, allOne_append] at this
  simp only [Bool.and_eq_true] at this
  exact this.1
theorem allOne_drop {l : List NVal} (h : allOne l = true) (n : Nat) : allOne (l.drop n) = true := by
  have := h
  rw [← List.take_append_drop n l, allOne_append] at this
  simp only [Bool.and_eq_true] at this
  exact this.2
theorem setRange_mid (a m z vs : List NVal) (hl : vs.length = m.length) : setRange (a ++ m ++ z) a.length vs = a ++ vs ++ z := by
  unfold setRange
  have e1 : (a ++ m ++ z).take a.length = a := by rw [List.append_assoc, List.take_left]
  have e2 : (a ++ m ++ z).drop (a.length + vs.length) = z := by rw [hl, ← List.length_append, List.drop_left]
  rw [e1, e2]
/-- copy, from a row to a row of one's own -/
theorem ncopy_row {dt e sz : Nat} (hu : P.underlying dt = some (.slice e)) (hs : szOf P e = some sz) {h : NHeap} {b o dl dc : Nat} {dx : Option Nat} {sb so sl sc : Nat} {sx : Option Nat} {old all cs : List NVal} {q : Option (TypeId × Nat)} {m : Own}
    (hd : h.get b = some (.cells old (.own q))) (hg : h.get sb = some (.cells all m)) {k : Nat} (hk : min sl dl = k) (h0 : 0 < k * sz) (hcs : (all.drop so).take (k * sz) = cs) (hla : so + k * sz ≤ all.length) (hone : allOne cs = true) (hlo : o + k * sz ≤ old.length) :
    ncopy P dt (.slice (some (b, o)) dl dc dx) (.slice (some (sb, so)) sl sc sx) h = some (.int .i64 (k : Nat), h.set b (.cells (setRange old o cs) (.own q))) := by
  have hcl : cs.length = k * sz := by rw [← hcs]; simp; omega
  unfold ncopy
  rw [hu]
  simp only [hs, nlenOf, hk]
  rw [srcCells_row hg (by omega) hla, hcs]
  simp only [hone, if_true]
  rw [if_neg (by omega), hd]
  simp only
  rw [if_pos (by omega)]

/-- a function that puts elements into a row: what it does where there is no room for them, and where there is, come to one heap -/
theorem ins_sim {k : FuncId} {rest : List NVal} {b n n' c sz : Nat} {e : TypeId} {cs R : List NVal} {h : NHeap} (hb : h.get b = some (.cells cs (.own (some (e, 0))))) (hl : cs.length = n * sz) (hn : 0 < n) (hnn : n ≤ n') (hR : R.length = n' * sz)
    (hgrow : ∀ rc, n ≤ rc → rc < n' → ∃ h1, SimF P k (.slice (some (b, 0)) n rc none :: rest) h (.slice (some (h.next, 0)) n' n' (some sz)) h1 ∧ h1.next = h.next + 1 ∧
      ∀ b', h1.get b' = if b' = h.next then some (.cells R (.own (some (e, 0)))) else h.get b')
    (hroom : ∀ rc, n' ≤ rc → ∃ h2, SimF P k (.slice (some (b, 0)) n rc none :: rest) (h.set b (.cells (cs ++ List.replicate ((n' - n) * sz) .junk) (.own (some (e, 0))))) (.slice (some (b, 0)) n' rc none) h2 ∧ h2.next = h.next ∧
      ∀ b', h2.get b' = if b' = b then some (.cells R (.own (some (e, 0)))) else h.get b') :
    SimF P k (.slice (some (b, 0)) n c (some sz) :: rest) h (.slice (some (h.next, 0)) n' n' (some sz)) ((h.set b .dead).alloc (.cells R (.own (some (e, 0))))) := by
  intro w0 ι w ra Q I hra hQ
  have hblt := NHeap.get_lt hb
  obtain ⟨rb, cc, t1, t2, t3, t4⟩ := I.typed b cs e 0 hb
  generalize hl' : ra.toList = l at hra
  cases hra with
  | @cons _ r1 _ rs h1 h2 =>
    cases h1 with
    | sliceEmpty => omega
    | sliceMore hι hlr hc hm =>
      rename_i rb' s m rcap
      rw [t1] at hι; cases hι
      have hm' : rcap * sz ≤ cc.size := by omega
      by_cases hr : rcap < n'
      · obtain ⟨h1', hs, hn1, hg1⟩ := hgrow rcap hlr hr
        refine hs w0 ι w ra Q I (by rw [hl']; exact .cons (.slice t1 hlr rfl) h2) fun ι' w' rv hv I1 S1 => ?_
        have hg1' : ∀ b', (h.alloc (.cells R (.own (some (e, 0))))).get b' = h1'.get b' := fun b' => by rw [hg1, NHeap.get_alloc]
        have I' := I1.same (h2 := h.alloc (.cells R (.own (some (e, 0))))) hn1.symm hg1'
        have S' := S1.same (h2 := h.alloc (.cells R (.own (some (e, 0))))) hn1.symm hg1'
        have hb2 : (h.alloc (.cells R (.own (some (e, 0))))).get b = some (.cells cs (.own (some (e, 0)))) := by rw [NHeap.get_alloc, if_neg (by omega), hb]
        obtain ⟨I2, S2⟩ := I'.kill (NHeap.get_lt hb2)
        have hg : ∀ b', ((h.set b .dead).alloc (.cells R (.own (some (e, 0))))).get b' = ((h.alloc (.cells R (.own (some (e, 0))))).set b .dead).get b' := by
          intro b'
          rw [get_dead_alloc, get_alloc_dead]
          by_cases x1 : b' = h.next
          · subst x1; rw [if_pos rfl, if_neg (by omega), if_pos rfl]
          · rw [if_neg x1, if_neg x1]
            by_cases x2 : b' = b
            · rw [if_pos ⟨x2, hblt⟩, if_pos ⟨x2, by omega⟩]
            · rw [if_neg (fun q => x2 q.1), if_neg (fun q => x2 q.1)]
        exact hQ ι' w' rv hv (I2.same rfl hg) ((S'.trans S2).same rfl hg)
      · have hnr : n' ≤ rcap := by omega
        obtain ⟨h2', hs, hn2, hg2⟩ := hroom rcap hnr
        have hj : cs.length + (n' - n) * sz ≤ cc.size := by
          rw [hl, ← Nat.add_mul, show n + (n' - n) = n' by omega]
          exact Nat.le_trans (Nat.mul_le_mul_right _ hnr) hm'
        obtain ⟨Iw, Ow⟩ := I.widen hb t1 _ hj
        refine hs w0 ι w ra Q Iw (by rw [hl']; exact .cons (.slice t1 hlr rfl) h2) fun ι' w' rv hv I' S' => ?_
        have t1' : ι' b = some (rb, 0, cc.size) := S'.ext _ _ t1
        have hgb : h2'.get b = some (.cells R (.own (some (e, 0)))) := by rw [hg2, if_pos rfl]
        have hg : ∀ b', ((h.set b .dead).alloc (.cells R (.own (some (e, 0))))).get b' = if b' = h2'.next then some (.cells R (.own (some (e, 0)))) else if b' = b then some .dead else h2'.get b' := by
          intro b'
          rw [get_dead_alloc, hn2]
          by_cases x1 : b' = h.next
          · rw [if_pos x1, if_pos x1]
          · rw [if_neg x1, if_neg x1]
            by_cases x2 : b' = b
            · rw [if_pos ⟨x2, hblt⟩, if_pos x2]
            · rw [if_neg (fun q => x2 q.1), if_neg x2, hg2, if_neg x2]
        obtain ⟨I2, S2⟩ := I'.rename hgb rfl t1' (h3 := (h.set b .dead).alloc (.cells R (.own (some (e, 0))))) (by rw [hn2]; rfl) hg
        rw [hn2] at I2 S2
        refine hQ _ w' rv ?_ I2 ?_
        · generalize hv2 : (NVal.slice (some (b, 0)) n' rcap none) = vv at hv
          cases hv <;> cases hv2
          rename_i hι hcc _
          cases hcc
          rw [t1'] at hι; cases hι
          have := VR.sliceMore (ι := ι'.upd h.next (rb, 0, cc.size)) (b := h.next) (o := 0) (z := sz) (len := n') (cap := n') (rcap := _) (by simp; exact ⟨rfl, rfl, rfl⟩) hnr hnr (by omega)
          simpa using this
        · have S3 := S'.trans S2
          exact ⟨S3.ext, fun b' x q => (S3.new b' x q).elim .inl fun q => .inr (by simpa using q), S3.size, fun rb' hlt hno => S3.frame rb' hlt fun q => hno (Ow rb' q), fun rb' q => (S3.own rb' q).elim (fun q => .inl (Ow rb' q)) .inr, by simp⟩
end Go.Proofs.Ytblhpikljhholaa.NICE
