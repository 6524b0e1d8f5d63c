/- Memory: when a heap of numbered blocks stands for the model's world; operations that read. -/
import Derived.Test.YtblhpikljhholaaNice7
import Derived.MapKept
import Derived.Laws.BytesString
set_option linter.unusedVariables false
set_option linter.unusedSimpArgs false
namespace Go.Proofs.Ytblhpikljhholaa.NICE
open Go Go.RowKit

/-- each cell is of one cell -/
def AllOneV (c : Array Value) : Prop := ∀ (i : Nat) r, c[i]? = some r → r.oneCell' = true

structure Inv (w0 : World) (ι : Inj) (h : NHeap) (w : World) : Prop where
  below : Below w0.heap.size w0 w
  fresh : ∀ b x, ι b = some x → b < h.next
  cells : ∀ b cs {t}, h.get b = some (.cells cs (.own t)) → ∃ rb s m c e fz, ι b = some (rb, s, m) ∧ w0.heap.size ≤ rb ∧ w.heap[rb]? = some (.cells c e fz) ∧ s + m ≤ c.size ∧ cs.length ≤ m ∧
    (∀ i, i < c.size → ¬ (fz.1 ≤ i ∧ i < fz.2)) ∧ (∀ (i : Nat) v, cs[i]? = some v → ∃ r, c[s + i]? = some r ∧ VR ι v r)
  typed : ∀ b cs T k, h.get b = some (.cells cs (.own (some (T, k)))) → ∃ rb c, ι b = some (rb, 0, c.size) ∧ w.heap[rb]? = some (.cells c T (0, 0)) ∧ (k = 0 ∨ c.size = k) ∧ (k = 0 → AllOneV c)
  ro : ∀ b cs, h.get b = some (.cells cs .ro) → ∃ rb s m, ι b = some (rb, s, m) ∧ (∀ (i : Nat) v, cs[i]? = some v → ∃ r, w0.cell? ⟨rb, s + i, none⟩ = some r ∧ VR ι v r)
  maps : ∀ b es, h.get b = some (.map es) → ∃ rb s m ents clock, ι b = some (rb, s, m) ∧ w0.heap.size ≤ rb ∧ w.heap[rb]? = some (.map ents clock) ∧ All2 (fun p e => VR ι p.1 e.key ∧ VR ι p.2 e.val) es ents.toList
  inj : ∀ b b' o o' rb s s' m m', h.get b = some o → o.owned = true → h.get b' = some o' → o'.owned = true → ι b = some (rb, s, m) → ι b' = some (rb, s', m') → b = b'

def Owned (ι : Inj) (h : NHeap) (rb : Nat) : Prop := ∃ b o s m, h.get b = some o ∧ o.owned = true ∧ ι b = some (rb, s, m)

structure Step (ι : Inj) (h : NHeap) (w : World) (ι' : Inj) (h' : NHeap) (w' : World) : Prop where
  ext : ι.le ι'
  new : ∀ b x, ι' b = some x → ι b = some x ∨ h.next ≤ b
  size : w.heap.size ≤ w'.heap.size
  frame : ∀ rb, rb < w.heap.size → ¬ Owned ι h rb → w'.heap[rb]? = w.heap[rb]?
  own : ∀ rb, Owned ι' h' rb → Owned ι h rb ∨ w.heap.size ≤ rb
  next : h.next ≤ h'.next

theorem Step.refl (ι : Inj) (h : NHeap) (w : World) : Step ι h w ι h w :=
  ⟨ι.le_refl, fun _ _ e => .inl e, Nat.le_refl _, fun _ _ _ => rfl, fun _ e => .inl e, Nat.le_refl _⟩

theorem Step.trans {ι ι' ι'' : Inj} {h h' h'' : NHeap} {w w' w'' : World} (a : Step ι h w ι' h' w') (b : Step ι' h' w' ι'' h'' w'') : Step ι h w ι'' h'' w'' where
  ext := a.ext.trans b.ext
  new := fun k x e => (b.new k x e).elim (fun e => a.new k x e) fun e => .inr (Nat.le_trans a.next e)
  size := Nat.le_trans a.size b.size
  frame := fun rb hl hn => by
    rw [b.frame rb (Nat.lt_of_lt_of_le hl a.size) (fun e => (a.own rb e).elim hn (fun e => by omega)), a.frame rb hl hn]
  own := fun rb e => (b.own rb e).elim (fun e => a.own rb e) fun e => .inr (Nat.le_trans a.size e)
  next := Nat.le_trans a.next b.next

variable {P : Program} {w0 w : World} {ι : Inj} {h : NHeap}

theorem cell_of_block {rb i : Nat} {c : Array Value} {e : TypeId} {fz : Nat × Nat} {r : Value} (hb : w.heap[rb]? = some (.cells c e fz)) (hc : c[i]? = some r) : w.cell? ⟨rb, i, none⟩ = some r := by
  simp [World.cell?, hb, hc]

theorem Inv.cell (I : Inv w0 ι h w) {b : Nat} {cs : List NVal} {mine : Own} (hb : h.get b = some (.cells cs mine)) {rb s m : Nat} (hι : ι b = some (rb, s, m)) {i : Nat} {v : NVal} (hi : cs[i]? = some v) :
    ∃ r, w.cell? ⟨rb, s + i, none⟩ = some r ∧ VR ι v r := by
  cases mine with
  | own t =>
    obtain ⟨rb', s', m', c, e, fz, h1, _, h3, _, _, _, h6⟩ := I.cells b cs hb
    rw [hι] at h1; cases h1
    obtain ⟨r, hr, hv⟩ := h6 i v hi
    exact ⟨r, cell_of_block h3 hr, hv⟩
  | ro =>
    obtain ⟨rb', s', m', h1, h2⟩ := I.ro b cs hb
    rw [hι] at h1; cases h1
    obtain ⟨r, hr, hv⟩ := h2 i v hi
    exact ⟨r, by rw [I.below.cell (p := ⟨rb, s + i, none⟩) (World.block_lt_of_cell? _ _ hr)]; exact hr, hv⟩

theorem Inv.range (I : Inv w0 ι h w) {b : Nat} {cs : List NVal} {mine : Own} (hb : h.get b = some (.cells cs mine)) {rb s m : Nat} (hι : ι b = some (rb, s, m)) :
    ∀ (n o : Nat), o + n ≤ cs.length → ∃ rs : List Value, rs.length = n ∧ VRs ι ((cs.drop o).take n) rs ∧ ∀ (j : Nat) v, rs[j]? = some v → w.cell? ((⟨rb, s + o, none⟩ : Addr).add j) = some v
  | 0, o, hl => ⟨[], rfl, by simpa using All2.nil, fun j v e => by simp at e⟩
  | n + 1, o, hl => by
    obtain ⟨rs, h1, h2, h3⟩ := Inv.range I hb hι n (o + 1) (by omega)
    have hlt : o < cs.length := by omega
    obtain ⟨r, hr, hv⟩ := I.cell hb hι (i := o) (v := cs[o]) (by simp [hlt])
    refine ⟨r :: rs, by simp [h1], ?_, ?_⟩
    · rw [List.drop_eq_getElem_cons hlt]; simp only [List.take_succ_cons]; exact .cons hv h2
    · intro j v e
      cases j with
      | zero => simp at e; subst e; rw [add_at]; simpa using hr
      | succ j =>
        have := h3 j v (by simpa using e)
        rw [add_at] at this ⊢
        rw [show s + o + (j + 1) = s + (o + 1) + j by omega]; exact this

theorem run_loadVar_agg {t : TypeId} {n : Nat} (ha : aggT P t = some true) (hs : szOf P t = some n) {a : Addr} {rs : List Value} (hl : rs.length = n) (hr : ∀ (j : Nat) v, rs[j]? = some v → w.cell? (a.add j) = some v) :
    (loadVar t a).run P w = .ok (.agg rs.toArray) w := by
  subst hl
  simp [loadVar, run_isAgg' ha, run_sizeOf' hs, run_loadCells_list w a rs hr]

theorem load_sound (I : Inv w0 ι h w) {t : TypeId} {b o : Nat} {v : NVal} (hl : nload P t (b, o) h = some v) {rx : Value} (hx : VR ι (.ptr (some (b, o))) rx) :
    ∃ rv, VR ι v rv ∧ (Instr.loadAt t rx).run P w = .ok rv w := by
  obtain ⟨rb, s, m, hι, rfl⟩ := hx.ptr_inv
  unfold nload at hl
  cases hg : h.get b with
  | none => simp only [hg] at hl; cases hl
  | some ob =>
    simp only [hg] at hl
    cases ob with
    | map es => cases hl
    | dead => cases hl
    | cells cs mine =>
      simp only at hl
      cases ha : aggT P t with
      | none => rw [ha] at hl; cases hl
      | some q =>
        rw [ha] at hl
        cases q with
        | true =>
          simp only at hl
          cases hs : szOf P t with
          | none => rw [hs] at hl; cases hl
          | some n =>
            rw [hs] at hl; simp only at hl
            split at hl
            · rename_i hle; cases hl
              obtain ⟨rs, h1, h2, h3⟩ := I.range hg hι n o hle
              exact ⟨.agg rs.toArray, .agg' (by simpa using h2), by simp only [Instr.loadAt, Instr.sureAddr, Sem.run_bind, Sem.run_pure, Result.andThen_ok]; exact run_loadVar_agg ha hs h1 h3⟩
            · cases hl
        | false =>
          simp only at hl
          obtain ⟨r, hr, hv⟩ := I.cell hg hι hl
          refine ⟨r, hv, ?_⟩
          simp [Instr.loadAt, Instr.sureAddr, loadVar, run_isAgg' ha, hr]

theorem byteVal_sound {v : NVal} {b : UInt8} {r : Value} (hb : byteVal v = some b) (hr : VR ι v r) : ∃ n, r = .int .u8 n ∧ b = UInt8.ofNat n.toNat := by
  cases v with
  | int k n =>
    cases k with
    | u8 => simp only [byteVal] at hb; cases hb; exact ⟨n, hr.int_inv, rfl⟩
    | _ => cases hb
  | _ => cases hb

theorem bytesVals_sound : ∀ {cs : List NVal} {l : List UInt8} {rs : List Value}, bytesVals cs = some l → VRs ι cs rs → ∃ ns : List Int, rs = ns.map (Value.int .u8) ∧ l = ns.map fun n => UInt8.ofNat n.toNat
  | [], l, rs, hb, hr => by cases hr; simp only [bytesVals] at hb; cases hb; exact ⟨[], rfl, rfl⟩
  | v :: cs, l, rs, hb, hr => by
    cases hr with | cons hv hrest =>
    unfold bytesVals at hb
    cases hv' : byteVal v with
    | none => rw [hv'] at hb; cases hb
    | some b => cases hl : bytesVals cs with
      | none => rw [hv', hl] at hb; cases hb
      | some r =>
        rw [hv', hl] at hb; cases hb
        obtain ⟨ns, h1, h2⟩ := bytesVals_sound hl hrest
        obtain ⟨n, rfl, rfl⟩ := byteVal_sound hv' hv
        exact ⟨n :: ns, by simp [h1], by simp [h2]⟩

theorem foldl_push (ns : List Int) : ∀ s : ByteArray, (ns.foldl (fun r n => r.push (UInt8.ofNat n.toNat)) s).data.toList = s.data.toList ++ ns.map fun n => UInt8.ofNat n.toNat := by
  induction ns with
  | nil => intro s; simp
  | cons n ns ih => intro s; rw [List.foldl_cons, ih]; simp [ByteArray.push]

/-! ### Maps -/

theorem same_key {kt : TypeId} {d : TypeDesc} (hd : P.underlying kt = some d) {k e : NVal} {rk re : Value} (hk : keyTypeOk P kt k = true) (hrk : VR ι k rk) (hre : VR ι e re) :
    (∀ a x b y, k = .int a x → e = .int b y → a = b → Instr.sameNow d rk re = some (x == y)) ∧ (∀ x y, k = .str x → e = .str y → Instr.sameNow d rk re = some (x == y)) := by
  refine ⟨fun a x b y e1 e2 hab => ?_, fun x y e1 e2 => ?_⟩
  · subst e1; subst e2; subst hab
    have := hrk.int_inv; subst this
    have := hre.int_inv; subst this
    simp only [keyTypeOk, hd] at hk
    cases d <;> simp at hk
    simp [Instr.sameNow]
  · subst e1; subst e2
    obtain ⟨b1, rfl, rfl⟩ := hrk.str_inv
    obtain ⟨b2, rfl, rfl⟩ := hre.str_inv
    simp only [keyTypeOk, hd] at hk
    cases d <;> simp at hk
    simp [Instr.sameNow, beq_toListBytes, toList_eq]

theorem keyIn_sound {kt : TypeId} {d : TypeDesc} (hd : P.underlying kt = some d) {k : NVal} {rk : Value} (hk : keyTypeOk P kt k = true) (hrk : VR ι k rk) :
    ∀ {es : List (NVal × NVal)} {rs : List MapEntry} (n : Nat), All2 (fun p (e : MapEntry) => VR ι p.1 e.key ∧ VR ι p.2 e.val) es rs →
      (nkeyIn k es = some none → Instr.findNow d rk rs n = some none) ∧
      (∀ i v, nkeyIn k es = some (some (i, v)) → ∃ e : MapEntry, Instr.findNow d rk rs n = some (some (n + i, e.val)) ∧ rs[i]? = some e ∧ VR ι v e.val ∧ e.key = rk ∧ i < es.length)
  | [], rs, n, h => by cases h; exact ⟨fun _ => rfl, fun i v e => by simp [nkeyIn] at e⟩
  | (ke, ve) :: es, rs, n, h => by
    cases h with | cons hp hr =>
    rename_i e rs
    obtain ⟨h1, h2⟩ := hp
    obtain ⟨s1, s2⟩ := same_key hd hk hrk h1
    obtain ⟨ih1, ih2⟩ := keyIn_sound hd hk hrk (n + 1) hr
    have step : ∀ (c : Bool), Instr.sameNow d rk e.key = some c → (c = true → e.key = rk) →
        nkeyIn k ((ke, ve) :: es) = (if c = true then some (some (0, ve)) else bumpIx (nkeyIn k es)) →
        (nkeyIn k ((ke, ve) :: es) = some none → Instr.findNow d rk (e :: rs) n = some none) ∧
        (∀ i v, nkeyIn k ((ke, ve) :: es) = some (some (i, v)) → ∃ e' : MapEntry, Instr.findNow d rk (e :: rs) n = some (some (n + i, e'.val)) ∧ (e :: rs)[i]? = some e' ∧ VR ι v e'.val ∧ e'.key = rk ∧ i < ((ke, ve) :: es).length) := by
      intro c hc heq hn
      rw [hn]
      cases c with
      | true =>
        rw [if_pos rfl]
        exact ⟨fun q => by simp at q, fun i v q => by simp at q; obtain ⟨rfl, rfl⟩ := q; exact ⟨e, by simp [Instr.findNow, hc], rfl, h2, heq rfl, by simp⟩⟩
      | false =>
        rw [if_neg (by simp)]
        refine ⟨fun q => ?_, fun i v q => ?_⟩
        · have : nkeyIn k es = some none := by
            cases hh : nkeyIn k es with
            | none => rw [hh] at q; cases q
            | some r => cases r with
              | none => rfl
              | some p => rw [hh] at q; cases q
          simp [Instr.findNow, hc, ih1 this]
        · cases hh : nkeyIn k es with
          | none => rw [hh] at q; cases q
          | some r => cases r with
            | none => rw [hh] at q; cases q
            | some p =>
              obtain ⟨i', u⟩ := p
              rw [hh] at q; simp [bumpIx] at q; obtain ⟨rfl, rfl⟩ := q
              obtain ⟨e', f1, f2, f3, f4, f5⟩ := ih2 i' u hh
              exact ⟨e', by simp [Instr.findNow, hc, f1]; omega, by simpa using f2, f3, f4, by simp; omega⟩
    cases k <;> (try (simp [keyTypeOk] at hk; done))
    · rename_i a x
      cases ke with
      | int b y =>
        by_cases hab : a = b
        · refine step (x == y) (s1 a x b y rfl rfl hab) (fun q => ?_) ?_
          · subst hab
            have e1 := hrk.int_inv; have e2 := h1.int_inv
            have : x = y := by simpa using q
            rw [e1, e2, this]
          · simp only [nkeyIn, if_pos hab]
            by_cases hxy : x = y
            · simp [hxy]
            · simp [hxy]
        · exact ⟨fun q => by simp [nkeyIn, hab] at q, fun i v q => by simp [nkeyIn, hab] at q⟩
      | _ => exact ⟨fun q => by simp [nkeyIn] at q, fun i v q => by simp [nkeyIn] at q⟩
    · rename_i x
      cases ke with
      | str y =>
        refine step (x == y) (s2 x y rfl rfl) (fun q => ?_) ?_
        · have : x = y := by simpa using q
          subst this
          obtain ⟨b1, e1, f1⟩ := hrk.str_inv
          obtain ⟨b2, e2, f2⟩ := h1.str_inv
          rw [e1, e2]; congr 1; exact ByteArray.ext (Array.ext' (by rw [f1, f2]))
        · simp only [nkeyIn]
          by_cases hxy : x = y
          · simp [hxy]
          · simp [hxy]
      | _ => exact ⟨fun q => by simp [nkeyIn] at q, fun i v q => by simp [nkeyIn] at q⟩

theorem key_isKey {kt : TypeId} {d : TypeDesc} (hd : P.underlying kt = some d) {k : NVal} {rk : Value} (hk : keyTypeOk P kt k = true) (hrk : VR ι k rk) (em : Bool) (n : Nat) (w : World) :
    (Instr.checkKey em (n + 1) kt rk).run P w = .ok () w := by
  unfold Instr.checkKey
  simp only [Sem.run_bind, run_underlying hd, Result.andThen_ok]
  cases k <;> simp [keyTypeOk] at hk
  · have := hrk.int_inv; subst this
    rw [hd] at hk
    cases d <;> simp at hk
    rfl
  · obtain ⟨b, rfl, _⟩ := hrk.str_inv
    rw [hd] at hk
    cases d <;> simp at hk
    rfl

theorem lookup_sound (I : Inv w0 ι h w) {t : TypeId} {m k v : NVal} {ok : Bool} (hl : nlookup P t m k ok h = some v) {rm rk : Value} (hm : VR ι m rm) (hrk : VR ι k rk) :
    ∃ rv, VR ι v rv ∧ (Instr.lookup t rm rk ok).run P w = .ok rv w := by
  unfold nlookup at hl
  cases hu : P.underlying t with
  | none => rw [hu] at hl; cases hl
  | some d =>
    rw [hu] at hl
    cases d <;> simp only at hl <;> try (cases hl; done)
    rename_i kt et
    by_cases hk : keyTypeOk P kt k = true
    · rw [if_pos hk] at hl
      obtain ⟨kd, hkd⟩ : ∃ kd, P.underlying kt = some kd := by
        cases hq : P.underlying kt with
        | none => simp only [keyTypeOk, hq] at hk; cases k <;> simp at hk
        | some q => exact ⟨q, rfl⟩
      have fin : ∀ (z : NVal) (rz : Value) (b : Bool), VR ι z rz → VR ι (if ok then .tuple [z, .bool b] else z) (if ok then .tuple #[rz, .bool b] else rz) := by
        intro z rz b hz
        cases ok
        · exact hz
        · exact .tuple' (.cons hz (.cons (.bool _) .nil))
      cases m with
      | map r =>
        cases hm with
        | mapNil =>
          simp only at hl
          cases hz : zeroOf P et with
          | none => rw [hz] at hl; cases hl
          | some z =>
            rw [hz] at hl
            obtain ⟨i, rz, hi, hiz, hv⟩ := zeroOf_sound (ι := ι) hz
            have hv' : v = if ok then .tuple [z, .bool false] else z := by simpa using hl.symm
            refine ⟨if ok then .tuple #[rz, .bool false] else rz, by rw [hv']; exact fin z rz false hv, ?_⟩
            simp [Instr.lookup, run_underlying hu, key_isKey hkd hk hrk, Instr.findKey, run_underlying hkd, Instr.findNow, run_zeroValue' hi hiz]
        | map hι =>
          rename_i b rb s m
          simp only at hl
          cases hg : h.get b with
          | none => rw [hg] at hl; cases hl
          | some ob =>
            rw [hg] at hl
            cases ob <;> simp only at hl <;> try (cases hl; done)
            rename_i es
            obtain ⟨rb', s', m', ents, clock, h1, h2, h3, h4⟩ := I.maps b es hg
            rw [hι] at h1; cases h1
            have hgo : (getObj rb).run P w = .ok (.map ents clock) w := by simp [getObj, Sem.run, h3]
            obtain ⟨q1, q2⟩ := keyIn_sound hkd hk hrk 0 h4
            cases hki : nkeyIn k es with
            | none => rw [hki] at hl; cases hl
            | some r =>
              rw [hki] at hl
              cases r with
              | none =>
                simp only at hl
                cases hz : zeroOf P et with
                | none => rw [hz] at hl; cases hl
                | some z =>
                  rw [hz] at hl
                  obtain ⟨i, rz, hi, hiz, hv⟩ := zeroOf_sound (ι := ι) hz
                  have hv' : v = if ok then .tuple [z, .bool false] else z := by simpa using hl.symm
                  refine ⟨if ok then .tuple #[rz, .bool false] else rz, by rw [hv']; exact fin z rz false hv, ?_⟩
                  simp [Instr.lookup, run_underlying hu, hgo, key_isKey hkd hk hrk, Instr.findKey, run_underlying hkd, q1 hki, run_zeroValue' hi hiz]
              | some p =>
                obtain ⟨i, u⟩ := p
                simp only at hl
                obtain ⟨e, f1, f2, f3, f4, f5⟩ := q2 i u hki
                have hv' : v = if ok then .tuple [u, .bool true] else u := by simpa using hl.symm
                refine ⟨if ok then .tuple #[e.val, .bool true] else e.val, by rw [hv']; exact fin u e.val true f3, ?_⟩
                simp [Instr.lookup, run_underlying hu, hgo, key_isKey hkd hk hrk, Instr.findKey, run_underlying hkd, f1]
      | _ => cases hl
    · rw [if_neg hk] at hl; cases hl

theorem read_sound (I : Inv w0 ι h w) {o : Oper} {ρ : Operand → Option NVal} {re : Operand → Value} (hr : ∀ x ∈ o.op.operands, ∀ u, ρ x = some u → VR ι u (re x)) {v : NVal} (hv : readOp P ρ h o.op = some v) :
    ∃ rv, VR ι v rv ∧ (execOp re o).run P w = .ok (.value rv) w := by
  obtain ⟨dst, op, ty, pos, after, guard⟩ := o
  simp only at hv hr
  have lift : ∀ {s : Sem Value}, (∃ rv, VR ι v rv ∧ s.run P w = .ok rv w) → ∃ rv, VR ι v rv ∧ (do pure (.value (← s)) : Sem Next).run P w = .ok (.value rv) w := by
    rintro s ⟨rv, h1, h2⟩
    exact ⟨rv, h1, by simp [h2]⟩
  cases op <;> simp only [readOp] at hv <;> try (cases hv; done)
  case load t x =>
    cases hx : ρ x with
    | none => rw [hx] at hv; cases hv
    | some u =>
      rw [hx] at hv
      cases u <;> (try simp only at hv) <;> try (cases hv; done)
      rename_i a
      cases a with
      | none => cases hv
      | some a =>
        obtain ⟨b, o⟩ := a
        exact lift (load_sound I hv (hr x (by simp [Op.operands]) _ hx))
  case lookup t m k ok =>
    cases hm : ρ m with
    | none => rw [hm] at hv; cases hv
    | some u => cases hk : ρ k with
      | none => rw [hm, hk] at hv; cases hv
      | some u' =>
        rw [hm, hk] at hv
        exact lift (lookup_sound I hv (hr m (by simp [Op.operands]) _ hm) (hr k (by simp [Op.operands]) _ hk))
  case convert s d x =>
    cases hs : P.underlying s with
    | none => rw [hs] at hv; cases hv
    | some sd => cases hd : P.underlying d with
      | none => rw [hs, hd] at hv; cases sd <;> cases hv
      | some dd => cases hx : ρ x with
        | none => rw [hs, hd, hx] at hv; cases sd <;> cases dd <;> cases hv
        | some u =>
          rw [hs, hd, hx] at hv
          cases sd <;> (try simp only at hv) <;> try (cases hv; done)
          rename_i e
          cases dd <;> (try simp only at hv) <;> try (cases hv; done)
          cases u <;> (try simp only at hv) <;> try (cases hv; done)
          rename_i a len cap xx
          cases he : P.underlying e with
          | none => rw [he] at hv; cases hv
          | some ed =>
            rw [he] at hv
            have hed : ed = .int .u8 := by
              cases ed with
              | int k => cases k <;> first | rfl | (cases hv; done)
              | _ => cases hv
            subst hed
            (try simp only at hv)
            have hvx := hr x (by simp [Op.operands]) _ hx
            refine lift ?_
            have conv : ∀ a' l' c', (convert s d (.slice a' l' c')).run P w = (Conv.bytesToString (.slice a' l' c')).run P w := fun a' l' c' => run_convert_bytes_string w s d e a' l' c' hs he hd
            cases a with
            | none =>
              (try simp only at hv); cases hv
              cases hh : re x <;> rw [hh] at hvx <;> cases hvx
              exact ⟨.string .empty, VR.str (ι := ι) ByteArray.empty, by rw [conv]; rfl⟩
            | some a =>
              obtain ⟨b, o⟩ := a
              (try simp only at hv)
              cases hg : h.get b with
              | none => rw [hg] at hv; cases hv
              | some ob =>
                rw [hg] at hv
                cases ob <;> (try simp only at hv) <;> try (cases hv; done)
                rename_i cs mine
                split at hv
                · rename_i hle
                  cases hb : bytesVals ((cs.drop o).take len) with
                  | none => rw [hb] at hv; cases hv
                  | some l =>
                    rw [hb] at hv; cases hv
                    have main : ∀ {rb s m rcap}, ι b = some (rb, s, m) → ∃ rv, VR ι (.str l) rv ∧ (Conv.bytesToString (.slice (some ⟨rb, s + o, none⟩) len rcap)).run P w = .ok rv w := by
                      intro rb s m rcap hι
                      obtain ⟨rs, h1, h2, h3⟩ := I.range hg hι len o hle
                      obtain ⟨ns, rfl, rfl⟩ := bytesVals_sound hb h2
                      have hload := run_loadCells_list (P := P) w ⟨rb, s + o, none⟩ _ h3
                      rw [h1] at hload
                      refine ⟨_, ?_, run_bytesToString w _ len rcap ns hload⟩
                      have := VR.str (ι := ι) (ns.foldl (fun r n => r.push (UInt8.ofNat n.toNat)) ByteArray.empty)
                      rw [foldl_push] at this
                      simpa using this
                    cases hh : re x <;> rw [hh] at hvx <;> cases hvx
                    · rw [conv]; rename_i hι _ _; exact main hι
                    · rw [conv]; rename_i hι _ _ _; exact main hι
                    · have hl0 : l = [] := by simp [bytesVals] at hb; exact hb
                      subst hl0
                      exact ⟨.string .empty, VR.str (ι := ι) ByteArray.empty, by rw [conv]; simp [Conv.bytesToString, loadCells, loadCellsFrom]⟩
                · cases hv
  case call c =>
    obtain ⟨callee, args, argTypes⟩ := c
    cases callee with
    | value f => cases hv
    | invoke r m => cases hv
    | builtin b =>
      cases b <;> (try simp only at hv) <;> try (cases hv; done)
      cases hl : args.toList with
      | nil => rw [hl] at hv; cases hv
      | cons x rest => cases rest with
        | cons _ _ => rw [hl] at hv; cases hv
        | nil => cases ht : argTypes.toList with
          | nil => rw [hl, ht] at hv; cases hv
          | cons t ts =>
            rw [hl, ht] at hv; (try simp only at hv)
            have ea : args = #[x] := by rw [← Array.toArray_toList (xs := args), hl]
            have et : argTypes[0]? = some t := by rw [← Array.getElem?_toList, ht]; rfl
            subst ea
            cases hx : ρ x with
            | none => rw [hx] at hv; cases hv
            | some u =>
              rw [hx] at hv
              cases u <;> (try simp only at hv) <;> try (cases hv; done)
              rename_i r
              cases r with
              | none => cases hv
              | some b =>
                (try simp only at hv)
                cases hu : P.underlying t with
                | none => rw [hu] at hv; cases hv
                | some d =>
                  rw [hu] at hv
                  cases d <;> (try simp only at hv) <;> try (cases hv; done)
                  cases hg : h.get b with
                  | none => rw [hg] at hv; cases hv
                  | some ob =>
                    rw [hg] at hv
                    cases ob <;> (try simp only at hv) <;> try (cases hv; done)
                    rename_i es; cases hv
                    have hvx := hr x (by simp [Op.operands, Call.operands]) _ hx
                    obtain ⟨rb, s, m, ents, clock, h1, h2, h3, h4⟩ := I.maps b es hg
                    have hrx : re x = .map (some rb) := by
                      cases hh : re x <;> rw [hh] at hvx <;> cases hvx
                      rename_i hι; rw [h1] at hι; cases hι; rfl
                    have hgo : (getObj rb).run P w = .ok (.map ents clock) w := by simp [getObj, Sem.run, h3]
                    refine ⟨_, .int _ _, ?_⟩
                    have hlen := h4.length
                    simp only [execOp, resolve, invoke, Sem.run_bind, Sem.run_pure, Result.andThen_ok, builtin]
                    simp [Builtin.len_, et, run_underlying hu, hrx, hgo, goInt, hlen]
end Go.Proofs.Ytblhpikljhholaa.NICE
