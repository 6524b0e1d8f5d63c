/- Rows in memory: slices that grow, slices of bytes and numbers; small arithmetic. -/
import Derived.Test.YtblhpikljhholaaNice38
set_option linter.unusedVariables false
set_option linter.unusedSimpArgs false
namespace Go.Proofs.Ytblhpikljhholaa.NICE
open Go Go.RowKit

variable {P : Program} {E : Env P drStatic}

/-- a code's first part, and what stands behind it -/
def hdC : Code → Code
  | .seq a _ => a
  | c => c
def tlC : Code → Code
  | .seq _ b => b
  | c => c

def tlN : Nat → Code → Code
  | 0, c => c
  | n + 1, c => tlN n (tlC c)

theorem rem_nat (t : TypeId) (a b : Nat) (hb : b ≠ 0) : nbin P .rem t (.int .i64 (a : Int)) (.int .i64 (b : Int)) = some (.int .i64 ((a % b : Nat) : Int)) := by
  rw [bin_rem _ _ _ _ (by omega)]
  rfl
theorem quo_nat (t : TypeId) (a b : Nat) (hb : b ≠ 0) (ha : a < 2 ^ 63) : nbin P .quo t (.int .i64 (a : Int)) (.int .i64 (b : Int)) = some (.int .i64 ((a / b : Nat) : Int)) := by
  rw [bin_quo _ _ _ _ (by omega)]
  have : (a : Int).tdiv (b : Int) = ((a / b : Nat) : Int) := rfl
  have h2 : a / b ≤ a := Nat.div_le_self _ _
  have h3 : (0 : Int) ≤ ((a / b : Nat) : Int) := Int.natCast_nonneg _
  have h4 : ((a / b : Nat) : Int) ≤ (a : Int) := by exact_mod_cast h2
  rw [this, wrap_i64_small (by omega) (by omega)]

/-- the block of a slice -/
def blk : NVal → List Nat
  | .slice (some (b, _)) _ _ _ => [b]
  | _ => []

/-- a slice that is one's own and may grow -/
def Grow (h : NHeap) (v : NVal) (sz : Nat) (cs : List NVal) (n : Nat) : Prop :=
  (v = .slice none 0 0 none ∧ cs = [] ∧ n = 0) ∨ ∃ b x q, v = .slice (some (b, 0)) n n x ∧ (x = none ∨ x = some sz) ∧ h.get b = some (.cells cs (.own q)) ∧ cs.length = n * sz ∧ 0 < n

theorem Grow.nil (h : NHeap) (sz : Nat) : Grow h (.slice none 0 0 none) sz [] 0 := .inl ⟨rfl, rfl, rfl⟩
theorem Grow.upd {fp : List Nat} {h h' : NHeap} {v sz cs n} (g : Grow h v sz cs n) (u : Upd fp h h') (hd : ∀ b ∈ blk v, b ∉ fp) : Grow h' v sz cs n := by
  rcases g with g | ⟨b, x, q, rfl, hx, hg, hl, hn⟩
  · exact .inl g
  · exact .inr ⟨b, x, q, rfl, hx, u.get hg (hd b (by simp [blk])), hl, hn⟩
theorem Grow.lt {h : NHeap} {v sz cs n} (g : Grow h v sz cs n) : ∀ b ∈ blk v, b < h.next := by
  rcases g with ⟨rfl, _⟩ | ⟨b, x, q, rfl, hx, hg, hl, hn⟩
  · simp [blk]
  · intro c hc
    simp [blk] at hc
    subst hc
    exact NHeap.get_lt hg

theorem Grow.veq {h : NHeap} {v sz cs n} (g : Grow h v sz cs n) : veq 50 v v = true := by
  rcases g with ⟨rfl, _⟩ | ⟨b, x, q, rfl, _⟩
  · rfl
  · rw [veq_slice]; simp
theorem append_one {st e sz by_ : Nat} {z : NVal} (hu : P.underlying st = some (.slice e)) (hs : szOf P e = some sz) (hb : bytesOf P e = some by_) (hz : zeroOf P e = some z) (hzl : z.cells.length = sz) (h0 : 0 < sz)
    {h : NHeap} {v : NVal} {cs : List NVal} {n : Nat} (g : Grow h v sz cs n) {nb o c : Nat} {y : Option Nat} {all : List NVal} {m : Own} {new : List NVal} (hn : h.get nb = some (.cells all m)) (hnew : (all.drop o).take sz = new) (hnl : new.length = sz)
    (ho : allOne new = true) (hall : allOne cs = true) (h1 : n + 1 ≤ 1099511627776) (h2 : (n + 1) * by_ ≤ 1099511627776) (hzo : allOne z.cells = true := by rfl) :
    ∃ h' q, nappend P st st v (.slice (some (nb, o)) 1 c y) h = some (.slice (some (h.next, 0)) (n + 1) (n + 1) (some sz), h') ∧ h'.next = h.next + 1 ∧ h'.get h.next = some (.cells (cs ++ new) (.own q)) ∧ Upd (blk v) h h' := by
  have hoc : o + sz ≤ all.length := by
    have := congrArg List.length hnew
    simp only [List.length_take, List.length_drop, hnl] at this
    omega
  have happ : appended P e sz st (.slice (some (nb, o)) 1 c y) h = some (1, new) := by
    unfold appended
    rw [hu]
    simp only [nlenOf, srcCells, Nat.one_mul, hn]
    rw [if_neg (by omega)]
    simp only [Nat.le_refl, true_and, hoc, if_true, hnew]
  have one : ∀ a b : List NVal, allOne a = true → allOne b = true → allOne (a ++ b) = true := by
    intro a b ha hb
    induction a with
    | nil => simpa using hb
    | cons x l ih =>
      simp only [allOne, Bool.and_eq_true, List.cons_append] at ha ⊢
      exact ⟨ha.1, ih ha.2⟩
  rcases g with ⟨rfl, rfl, rfl⟩ | ⟨b, x, q, rfl, hx, hg, hl, hpos⟩
  · refine ⟨h.alloc (.cells new (.own (some (e, 0)))), some (e, 0), ?_, rfl, by simp [NHeap.get_alloc], (Upd.refl _ _).alloc _⟩
    unfold nappend
    rw [hu]
    simp only [hs, hb, hz, happ, hzl, h0, hzo, hnl, Nat.one_mul, ho, true_and, if_true]
    rw [if_pos ⟨h1, h2⟩]
    rfl
  · have hnb : b < h.next := NHeap.get_lt hg
    have htake : (cs.drop 0).take (n * sz) = cs := by rw [List.drop_zero, ← hl, List.take_length]
    rcases hx with rfl | rfl
    · refine ⟨h.alloc (.cells (cs ++ new) (.own (some (e, 0)))), some (e, 0), ?_, rfl, by simp [NHeap.get_alloc], (Upd.refl _ _).alloc _⟩
      unfold nappend
      rw [hu]
      simp only [hs, hb, hz, happ, hzl, h0, hzo, hnl, Nat.one_mul, ho, true_and, if_true]
      rw [if_pos ⟨h1, h2⟩, if_neg (by decide), if_neg (by omega)]
      have hsrc : srcCells sz n h (.slice (some (b, 0)) n n none) = some cs := by
        unfold srcCells
        simp only
        rw [if_neg (by rw [← hl]; intro q; have := Nat.mul_pos hpos h0; omega), hg]
        simp only [Nat.le_refl, Nat.zero_add, true_and]
        rw [if_pos (by omega), htake]
      rw [hsrc]
      simp only [hall, if_true]
    · refine ⟨(h.set b .dead).alloc (.cells (cs ++ new) (.own (regrown 0 e q))), regrown 0 e q, ?_, rfl, by simp [NHeap.get_alloc], ((Upd.refl _ _).set (.inl (by simp [blk])) _).alloc _⟩
      unfold nappend
      rw [hu]
      simp only [hs, hb, hz, happ, hzl, h0, hzo, hnl, Nat.one_mul, ho, true_and, if_true]
      rw [if_pos ⟨h1, h2⟩, if_neg (by decide), if_neg (by omega)]
      simp only [hg]
      rw [if_pos (by omega), if_pos (by omega), htake]

theorem setRange_single (cs : List NVal) (o : Nat) (v : NVal) (h : o < cs.length) : setRange cs o [v] = cs.set o v := by
  apply List.ext_getElem?
  intro i
  rw [setRange_get? _ _ _ _ (by simp; omega), List.getElem?_set]
  by_cases h1 : i < o
  · rw [if_pos h1, if_neg (by omega)]
  · rw [if_neg h1]
    by_cases h2 : o = i
    · subst h2; simp [h]
    · rw [if_neg (by simp; omega), if_neg h2]

/-- a slice of bytes -/
def u8s (l : List UInt8) : List NVal := l.map fun b => .int .u8 (b.toNat : Int)
theorem u8s_len (l : List UInt8) : (u8s l).length = l.length := by simp [u8s]
theorem u8s_append (l m : List UInt8) : u8s (l ++ m) = u8s l ++ u8s m := by simp [u8s]
theorem u8s_take (l : List UInt8) (n : Nat) : (u8s l).take n = u8s (l.take n) := by simp [u8s, List.map_take]
theorem u8s_drop (l : List UInt8) (n : Nat) : (u8s l).drop n = u8s (l.drop n) := by simp [u8s, List.map_drop]
theorem u8s_get (l : List UInt8) (n : Nat) : (u8s l)[n]? = l[n]?.map fun b => NVal.int .u8 (b.toNat : Int) := by simp [u8s]
theorem u8s_one (l : List UInt8) : allOne (u8s l) = true := by
  induction l with
  | nil => rfl
  | cons a l ih => simp only [u8s, List.map_cons] at ih ⊢; simp only [allOne, NVal.one, ih, Bool.and_self]
theorem u8s_bytes (l : List UInt8) : bytesVals (u8s l) = some l := by
  induction l with
  | nil => rfl
  | cons a l ih =>
    show (match byteVal (.int .u8 (a.toNat : Int)) with | none => none | some b => match bytesVals (u8s l) with | none => none | some r => some (b :: r)) = _
    rw [ih]
    simp [byteVal]
theorem u8s_take_self (l : List UInt8) : (u8s l).take l.length = u8s l := by rw [u8s_take, List.take_length]

/-- a slice whose elements, of one cell each, are read alone -/
def Ones (h : NHeap) (v : NVal) (cs : List NVal) : Prop :=
  ∃ bo c x, v = .slice bo cs.length c x ∧ (cs = [] ∨ ∃ b o all m, bo = some (b, o) ∧ h.get b = some (.cells all m) ∧ (cs.length ≤ c ∨ ∃ z, x = some z ∧ z = 1) ∧ ∀ i, i < cs.length → all[o + i]? = cs[i]?)
theorem Ones.upd {fp : List Nat} {h h' : NHeap} {v cs} (g : Ones h v cs) (u : Upd fp h h') (hd : ∀ b ∈ blk v, b ∉ fp) : Ones h' v cs := by
  obtain ⟨bo, c, x, rfl, g⟩ := g
  refine ⟨bo, c, x, rfl, ?_⟩
  rcases g with g | ⟨b, o, all, m, rfl, g1, g2, g3⟩
  · exact .inl g
  · exact .inr ⟨b, o, all, m, rfl, u.get g1 (hd b (by simp [blk])), g2, g3⟩

/-- numbers as cells -/
def i64s (l : List Int) : List NVal := l.map fun n => .int .i64 n
theorem i64s_len (l : List Int) : (i64s l).length = l.length := by simp [i64s]
theorem i64s_append (l m : List Int) : i64s (l ++ m) = i64s l ++ i64s m := by simp [i64s]
theorem i64s_get (l : List Int) (i : Nat) : (i64s l)[i]? = l[i]?.map fun n => NVal.int .i64 n := by simp [i64s]
theorem i64s_one (l : List Int) : allOne (i64s l) = true := by
  induction l with
  | nil => rfl
  | cons a l ih => simp only [i64s, List.map_cons] at ih ⊢; simp only [allOne, NVal.one, ih, Bool.and_self]

/-- the end of a slice of elements of one cell -/
theorem slice_from {t e : Nat} (hu : P.underlying t = some (.slice e)) (hs : szOf P e = some 1) (b o len cap : Nat) (x : Option Nat) (hx : x = none ∨ x = some 1) (hc : x = none → len ≤ cap) (k : Nat) (hk : k ≤ len) :
    ∃ o' cap' x', nslice P t (.slice (some (b, o)) len cap x) (some (.int .i64 (k : Int))) none = some (.slice (some (b, o')) (len - k) cap' x') ∧ (k < len → o' = o + k) ∧ (x' = none ∨ x' = some 1) ∧ (x' = none → len - k ≤ cap') := by
  unfold nslice
  rw [hu]
  simp only [nbound, hs]
  rw [if_pos ⟨by omega, by omega⟩]
  simp only [Int.toNat_natCast, Nat.mul_one]
  rcases hx with rfl | rfl
  · refine ⟨_, _, _, rfl, fun hlt => ?_, .inl rfl, fun _ => by have := hc rfl; omega⟩
    rw [if_neg (by have := hc rfl; omega)]
  · simp only [if_true]
    split
    · exact ⟨_, _, _, rfl, fun _ => rfl, .inr rfl, fun q => by cases q⟩
    · rename_i hn
      have : len - k = 0 := by omega
      rw [this]
      exact ⟨_, _, _, rfl, fun hlt => by omega, .inr rfl, fun q => by cases q⟩
/-- .. and its beginning -/
theorem slice_to {t e : Nat} (hu : P.underlying t = some (.slice e)) (hs : szOf P e = some 1) (b o len cap : Nat) (x : Option Nat) (hx : x = none ∨ x = some 1) (hc : x = none → len ≤ cap) (k : Nat) (hk : k ≤ len) (hk2 : k ≤ cap) (h0 : 0 < k) :
    ∃ o' cap' x', nslice P t (.slice (some (b, o)) len cap x) none (some (.int .i64 (k : Int))) = some (.slice (some (b, o')) k cap' x') ∧ o' = o ∧ (x' = none ∨ x' = some 1) ∧ (x' = none → k ≤ cap') := by
  unfold nslice
  rw [hu]
  simp only [nbound, hs]
  rw [if_pos ⟨by omega, by omega⟩]
  simp only [Int.toNat_natCast, Nat.mul_one]
  rcases hx with rfl | rfl
  · refine ⟨_, _, _, rfl, ?_, .inl rfl, fun _ => by omega⟩
    split <;> omega
  · simp only [if_true]
    rw [if_pos (by omega)]
    exact ⟨_, _, _, rfl, by omega, .inr rfl, fun q => by cases q⟩

theorem slice_onesX {H : Type} {enc : TypeId × Value → H} {W : World} {t e : TypeId} {v : Value} {d : DataW H} {p : List MemPlace} (ht : P.underlying t = some (.slice e)) (hc : P.cellsOf e = 1) (G : NVal → Prop)
    (hel : ∀ {fuel cs x}, DataW.trod enc P W 0 (fun _ => true) true fuel e cs = some x → ∃ r u, cs = [r] ∧ G u ∧ ∀ ι, VR ι u r)
    (h : DataW.Trod enc P W 0 (fun _ => true) true t v d p) (hv : ∃ a n c, v = .slice a n c) (b : Nat) :
    ∃ bo n c x y cs ob, ((x = none ∨ x = some 1) ∧ n ≤ c) ∧ (∀ u ∈ cs, G u) ∧ cs.length = n ∧ n < 2 ^ 64 ∧ ((n = 0 ∧ ob = NObj.dead) ∨ (ob = .cells cs .ro ∧ bo = some (b, 0))) ∧ (∀ l : ArgL, l[b]? = some (y, ob) → VR (argI l) (.slice bo n c x) v) ∧
      ∀ l : ArgL, ob = .dead ∨ ∃ cs, ob = .cells cs .ro ∧ ∃ rb s m, y = some (rb, s, m) ∧ ∀ (i : Nat) u, cs[i]? = some u → ∃ r, W.cell? ⟨rb, s + i, none⟩ = some r ∧ VR (argI l) u r := by
  obtain ⟨fuel, hf⟩ := h
  obtain ⟨a, n, c, rfl⟩ := hv
  have hcs : (Value.slice a n c).cells.toList = [.slice a n c] := rfl
  rw [hcs] at hf
  rcases Deep.open_slice ht hf with ⟨e1, _⟩ | ⟨a', len, cap, m, k, D, Pl, e1, _, hl, hml, hm, _, hx⟩
  · simp only [List.cons.injEq, and_true] at e1
    cases e1
    exact ⟨none, 0, 0, none, none, [], .dead, ⟨.inl rfl, Nat.le_refl _⟩, by simp, rfl, by decide, .inl ⟨rfl, rfl⟩, fun l _ => .sliceNil, fun l => .inl rfl⟩
  · simp only [List.cons.injEq, and_true] at e1
    cases e1
    rcases Nat.eq_zero_or_pos c with hz | hz
    · subst hz
      have : n = 0 := by omega
      subst this
      exact ⟨some (b, 0), 0, 0, some 1, none, [], .dead, ⟨.inr rfl, Nat.le_refl _⟩, by simp, rfl, by decide, .inl ⟨rfl, rfl⟩, fun l _ => .sliceEmpty, fun l => .inl rfl⟩
    · obtain ⟨blk, off, spot⟩ := a'
      have hm' : m = c := by rw [hm]; simp
      have hspot : spot = none := by
        obtain ⟨cs', h1, h2⟩ := hx 0 (by omega)
        obtain ⟨r, u, rfl, hg, hu⟩ := hel h2
        obtain ⟨_, hlen, hcell⟩ := World.cells?_some h1
        have := hcell 0 (by omega)
        simp only [List.getElem?_cons_zero] at this
        simpa [Addr.add] using World.cell?_spot this
      subst hspot
      have cell : ∀ i, i < c → ∃ r u, W.cell? ⟨blk, off + i, none⟩ = some r ∧ G u ∧ ∀ ι, VR ι u r := fun i hi => by
        obtain ⟨cs', h1, h2⟩ := hx i (by omega)
        obtain ⟨r, u, rfl, hg, hu⟩ := hel h2
        obtain ⟨_, hlen, hcell⟩ := World.cells?_some h1
        have := hcell 0 (by omega)
        simp only [List.getElem?_cons_zero] at this
        refine ⟨r, u, ?_, hg, hu⟩
        rw [hc] at this
        by_cases hi0 : i = 0
        · subst hi0; simpa [Addr.add] using this
        · simpa [Addr.add, hi0] using this
      have sk : ∀ i, ∃ u, i < c → G u ∧ ∃ r, W.cell? ⟨blk, off + i, none⟩ = some r ∧ ∀ ι, VR ι u r := fun i => by
        by_cases hi : i < c
        · obtain ⟨r, u, h1, h2, h3⟩ := cell i hi
          exact ⟨u, fun _ => ⟨h2, r, h1, h3⟩⟩
        · exact ⟨nundef, fun q => absurd q hi⟩
      obtain ⟨f, hf'⟩ := Classical.skolem.1 sk
      refine ⟨some (b, 0), n, c, none, some (blk, off, 0), (List.range n).map f, .cells ((List.range n).map f) .ro, ⟨.inl rfl, hl⟩, ?_, by simp, ?_, .inr ⟨rfl, rfl⟩, fun l hl' => ?_, fun l => .inr ⟨_, rfl, blk, off, 0, rfl, fun i u hi => ?_⟩⟩
      · intro u hu
        obtain ⟨i, hi, rfl⟩ := List.mem_map.1 hu
        exact (hf' i (by have := List.mem_range.1 hi; omega)).1
      · simp only [maxLen] at hml; omega
      · have hi : argI l b = some (blk, off, 0) := by simp [argI, hl']
        exact VR.slice (o := 0) (s := off) hi hl rfl
      · rw [List.getElem?_map] at hi
        obtain ⟨j, hj, rfl⟩ := Option.map_eq_some_iff.1 hi
        have hjn : i < n := by
          have := (List.getElem?_eq_some_iff.1 hj).1; simpa using this
        have : j = i := by
          rw [List.getElem?_range hjn] at hj; cases hj; rfl
        subst this
        obtain ⟨_, r, h1, h2⟩ := hf' j (by omega)
        exact ⟨r, h1, h2 _⟩

theorem byte_one {H : Type} {enc : TypeId × Value → H} {W : World} {e : TypeId} {k : IntKind} (he : P.underlying e = some (.int k)) {fuel cs x} (h : DataW.trod enc P W 0 (fun _ => true) true fuel e cs = some x) :
    ∃ r u, cs = [r] ∧ (∃ n, u = NVal.int k n ∧ (Lit.int k n).wf = true) ∧ ∀ ι, VR ι u r := by
  obtain ⟨n, h1, _, h2⟩ := DataW.trod_int he h
  exact ⟨_, .int k n, h1, ⟨n, rfl, h2⟩, fun ι => .int k n⟩
theorem wf_u8 {n : Int} (h : (Lit.int .u8 n).wf = true) : 0 ≤ n ∧ n < 256 := by
  simp [Lit.wf, IntKind.min, IntKind.max, IntKind.signed, IntKind.bits] at h
  omega
theorem bytes_of : ∀ cs : List NVal, (∀ u ∈ cs, ∃ n, u = NVal.int .u8 n ∧ (Lit.int .u8 n).wf = true) → ∃ l, cs = u8s l
  | [], _ => ⟨[], rfl⟩
  | u :: cs, h => by
    obtain ⟨l, hl⟩ := bytes_of cs fun v hv => h v (by simp [hv])
    obtain ⟨n, rfl, hn⟩ := h u (by simp)
    have := wf_u8 hn
    refine ⟨UInt8.ofNat n.toNat :: l, ?_⟩
    rw [hl]
    have h1 : ((UInt8.ofNat n.toNat).toNat : Int) = n := by
      rw [UInt8.toNat_ofNat']; omega
    show NVal.int .u8 n :: u8s l = NVal.int .u8 ((UInt8.ofNat n.toNat).toNat : Int) :: u8s l
    rw [h1]

/-- bytes that stand in a row -/
def Bts (all : List NVal) (o : Nat) (bs : List UInt8) : Prop := ∀ (i : Nat) v, bs[i]? = some v → all[o + i]? = some (.int .u8 (v.toNat : Int))
theorem Bts.self (l : List UInt8) : Bts (u8s l) 0 l := fun i v h => by rw [Nat.zero_add, u8s_get, h]; rfl
theorem Bts.take {all o bs} (h : Bts all o bs) (k : Nat) : Bts all o (bs.take k) := fun i v hv => h i v (by
  rw [List.getElem?_take] at hv
  split at hv
  · exact hv
  · cases hv)
theorem Bts.seg {all : List NVal} {o : Nat} {bs : List UInt8} (h : Bts all o bs) (hne : bs ≠ []) : (all.drop o).take bs.length = u8s bs ∧ o + bs.length ≤ all.length := by
  have hp : 0 < bs.length := List.length_pos_iff.2 hne
  have hl : o + bs.length ≤ all.length := by
    obtain ⟨v, hv⟩ : ∃ v, bs[bs.length - 1]? = some v := ⟨bs[bs.length - 1], List.getElem?_eq_getElem (by omega)⟩
    have := (List.getElem?_eq_some_iff.1 (h _ v hv)).1
    omega
  refine ⟨List.ext_getElem? fun i => ?_, hl⟩
  rw [u8s_get]
  by_cases hi : i < bs.length
  · rw [List.getElem?_take_of_lt hi, List.getElem?_drop, h i _ (List.getElem?_eq_getElem hi), List.getElem?_eq_getElem hi]; rfl
  · rw [List.getElem?_eq_none (by simp; omega), List.getElem?_eq_none (by omega)]; rfl
end Go.Proofs.Ytblhpikljhholaa.NICE
