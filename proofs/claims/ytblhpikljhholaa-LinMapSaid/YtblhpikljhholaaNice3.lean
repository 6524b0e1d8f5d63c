/- Operations that need no memory: ours against the model's. -/
import Derived.Test.YtblhpikljhholaaNice2
import Derived.Laws.StructEq

set_option linter.unusedVariables false
set_option linter.unusedSimpArgs false
namespace Go.Proofs.Ytblhpikljhholaa.NICE
open Go Go.RowKit

variable {P : Program} {ι : Inj}

theorem ofVals_sound {g : Value → Option NVal} (hg : ∀ v u, g v = some u → VR ι u v) : ∀ {l : List Value} {m : List NVal}, ofVals g l = some m → VRs ι m l
  | [], m, h => by simp [ofVals] at h; subst h; exact .nil
  | v :: l, m, h => by
    unfold ofVals at h
    split at h
    · cases h
    · rename_i x hx
      split at h
      · cases h
      · rename_i y hy
        cases h
        exact .cons (hg _ _ hx) (ofVals_sound hg hy)

theorem ofVal_sound : ∀ (f : Nat) {v : Value} {u : NVal}, ofVal f v = some u → VR ι u v
  | f, .bool b, u, h => by cases f <;> (simp only [ofVal] at h; cases h; constructor)
  | f, .int k n, u, h => by cases f <;> (simp only [ofVal] at h; cases h; constructor)
  | f, .string s, u, h => by cases f <;> (simp only [ofVal] at h; cases h; constructor)
  | f, .pointer none, u, h => by cases f <;> (simp only [ofVal] at h; cases h; constructor)
  | f, .pointer (some a), u, h => by cases f <;> (simp only [ofVal] at h; cases h)
  | f, .slice none 0 0, u, h => by cases f <;> (simp only [ofVal] at h; cases h; constructor)
  | f, .slice none (n + 1) c, u, h => by cases f <;> (simp only [ofVal] at h; cases h)
  | f, .slice none 0 (c + 1), u, h => by cases f <;> (simp only [ofVal] at h; cases h)
  | f, .slice (some a) n c, u, h => by cases f <;> (simp only [ofVal] at h; cases h)
  | f, .map none, u, h => by cases f <;> (simp only [ofVal] at h; cases h; constructor)
  | f, .map (some r), u, h => by cases f <;> (simp only [ofVal] at h; cases h)
  | f, .nilFunc, u, h => by cases f <;> (simp only [ofVal] at h; cases h; constructor)
  | f, .nilIface, u, h => by cases f <;> (simp only [ofVal] at h; cases h; constructor)
  | f, .float k b, u, h => by cases f <;> (simp only [ofVal] at h; cases h)
  | f, .complex k a b, u, h => by cases f <;> (simp only [ofVal] at h; cases h)
  | f, .chan r, u, h => by cases f <;> (simp only [ofVal] at h; cases h)
  | f, .func a b c, u, h => by cases f <;> (simp only [ofVal] at h; cases h)
  | 0, .agg cs, u, h => by simp only [ofVal] at h; cases h
  | 0, .tuple cs, u, h => by simp only [ofVal] at h; cases h
  | 0, .iface t v, u, h => by simp only [ofVal] at h; cases h
  | f + 1, .agg cs, u, h => by
    simp only [ofVal] at h; obtain ⟨m, hm, rfl⟩ := Option.map_eq_some_iff.1 h; exact .agg' (ofVals_sound (fun v u => ofVal_sound f) hm)
  | f + 1, .tuple cs, u, h => by
    simp only [ofVal] at h; obtain ⟨m, hm, rfl⟩ := Option.map_eq_some_iff.1 h; exact .tuple' (ofVals_sound (fun v u => ofVal_sound f) hm)
  | f + 1, .iface t v, u, h => by
    simp only [ofVal] at h; obtain ⟨m, hm, rfl⟩ := Option.map_eq_some_iff.1 h; exact .iface (ofVal_sound f hm)

theorem ev_sound {ts : List NVal} {a : Act} (h : VRs ι ts a.tmps.toList) {x : Operand} {u : NVal} (e : ev ts x = some u) : VR ι u (a.eval x) := by
  cases x with
  | tmp t => cases e; have := h.getD VR.undef t; simpa [Act.eval] using this
  | const v => exact ofVal_sound 4 e
  | global g => cases e
  | func f => cases e; exact .func' (by simpa using All2.nil) (by simpa using All2.nil)

/-! ### Types -/

theorem run_sizeOf' {t : TypeId} {n : Nat} (h : szOf P t = some n) (w : World) : (sizeOf t).run P w = .ok n w := by
  unfold szOf at h; split at h
  · rename_i i hi; cases h; simp [sizeOf, typeInfo, hi]
  · cases h

theorem run_isAgg' {t : TypeId} {b : Bool} (h : aggT P t = some b) (w : World) : (isAgg t).run P w = .ok b w := by
  unfold aggT at h
  split at h <;> cases h <;> rename_i hu <;> simp [isAgg, run_underlying hu]
  try (split <;> first | rfl | (rename_i h1 h2; simp_all))

theorem zeroOf_sound {t : TypeId} {z : NVal} (h : zeroOf P t = some z) : ∃ i rz, P.info? t = some i ∧ i.zero = some rz ∧ VR ι z rz := by
  unfold zeroOf at h; split at h
  · rename_i i hi; split at h
    · rename_i rz hz; exact ⟨i, rz, hi, hz, ofVal_sound 4 h⟩
    · cases h
  · cases h

theorem part_sound {t : TypeId} {cs : List NVal} {off : Nat} {v : NVal} (h : npart P t cs off = some v) {ds : Array Value} (hd : VRs ι cs ds.toList) :
    ∃ rv, VR ι v rv ∧ ∀ w, (part t ds off).run P w = .ok rv w := by
  unfold npart at h; split at h
  · rename_i ha; split at h
    · rename_i n hn; cases h
      refine ⟨.agg (ds.extract off (off + n)), .agg' ?_, fun w => ?_⟩
      · have := (hd.drop (n := off)).take (n := n)
        simpa [List.drop_take, List.extract_eq_take_drop] using this
      · simp [part, run_isAgg' ha, run_sizeOf' hn]
    · cases h
  · rename_i ha
    obtain ⟨b, hb, r⟩ := hd.get h
    rw [Array.getElem?_toList] at hb
    exact ⟨b, r, fun w => by simp [part, run_isAgg' ha, hb]⟩
  · cases h

/-! ### Operators -/

theorem intOp_sound {op : BinOp} {k : IntKind} {x y : Int} {v : NVal} (h : nIntOp op k x y = some v) (t : TypeId) (w : World) :
    ∃ rv, VR ι v rv ∧ (binOp op t (.int k x) (.int k y)).run P w = .ok rv w := by
  cases op <;> simp only [nIntOp] at h <;> first | (cases h; exact ⟨_, by constructor, by simp [binOp, Op.intArith, Op.intBits, Op.intCmp]⟩) | (split at h; cases h; cases h; rename_i hy; exact ⟨_, by constructor, by simp [binOp, Op.intDiv, hy]⟩) | cases h

theorem shift_sound {op : BinOp} {k k' : IntKind} {x y : Int} {v : NVal} (ho : op = .shl ∨ op = .shr) (h : nShift op k x y = some v) (t : TypeId) (w : World) :
    ∃ rv, VR ι v rv ∧ (binOp op t (.int k x) (.int k' y)).run P w = .ok rv w := by
  unfold nShift at h; split at h
  · cases h
  · rename_i hy
    rcases ho with rfl | rfl <;> (simp only at h; cases h; exact ⟨_, by constructor, by simp [binOp, Op.shift, hy]⟩)

theorem toList_eq (s : ByteArray) : s.toList = s.data.toList := ByteArray.toList_eq s

theorem strOp_sound {op : BinOp} {x y : ByteArray} {v : NVal} (h : nStrOp op x.data.toList y.data.toList = some v) (t : TypeId) (w : World) :
    ∃ rv, VR ι v rv ∧ (binOp op t (.string x) (.string y)).run P w = .ok rv w := by
  by_cases ha : op = .add
  · subst ha
    simp only [nStrOp] at h
    by_cases hs : ((x.data.toList.length + y.data.toList.length : Nat) : Int) > 9223372036854775807
    · rw [if_pos hs] at h; cases h
    · rw [if_neg hs] at h; cases h
      refine ⟨.string (x ++ y), by have := VR.str (ι := ι) (x ++ y); simpa using this, ?_⟩
      have hm : ¬ ((x.size + y.size : Nat) : Int) > IntKind.i64.max := by
        have e1 : x.data.toList.length = x.size := by simp
        have e2 : y.data.toList.length = y.size := by simp
        rw [e1, e2] at hs; simpa [IntKind.max, IntKind.bits, IntKind.signed] using hs
      simp only [binOp, Op.stringOp]
      rw [if_neg hm]; rfl
  · cases op <;> simp only [nStrOp] at h <;> first
      | (cases h; exact ⟨_, by constructor, by simp [binOp, Op.stringOp, toList_eq]⟩)
      | (exact absurd rfl ha)
      | cases h

section
variable (w : World) (D : Nat) {t : TypeId}
theorem eqIn_ptr_none {e : TypeId} (hu : P.underlying t = some (.pointer e)) (b : Option Addr) : (Op.equalIn (D + 1) t (.pointer none) (.pointer b)).run P w = .ok b.isNone w := by
  unfold Op.equalIn; rw [Sem.run_bind, run_underlying hu]; rfl
theorem eqIn_ptr_some {e : TypeId} (hu : P.underlying t = some (.pointer e)) (b : Addr) : (Op.equalIn (D + 1) t (.pointer (some b)) (.pointer none)).run P w = .ok false w := by
  unfold Op.equalIn; rw [Sem.run_bind, run_underlying hu]; rfl
theorem eqIn_slice_none {e : TypeId} (hu : P.underlying t = some (.slice e)) (n c : Nat) (b : Option Addr) (n' c' : Nat) : (Op.equalIn (D + 1) t (.slice none n c) (.slice b n' c')).run P w = .ok b.isNone w := by
  unfold Op.equalIn; rw [Sem.run_bind, run_underlying hu]; rfl
theorem eqIn_slice_some {e : TypeId} (hu : P.underlying t = some (.slice e)) (n c : Nat) (b : Addr) (n' c' : Nat) : (Op.equalIn (D + 1) t (.slice (some b) n c) (.slice none n' c')).run P w = .ok false w := by
  unfold Op.equalIn; rw [Sem.run_bind, run_underlying hu]; rfl
theorem eqIn_func_nil {a b c} (hu : P.underlying t = some (.func a b c)) : (Op.equalIn (D + 1) t .nilFunc .nilFunc).run P w = .ok true w := by
  unfold Op.equalIn; rw [Sem.run_bind, run_underlying hu]; rfl
theorem eqIn_func_left {a b c} (hu : P.underlying t = some (.func a b c)) (f x y) : (Op.equalIn (D + 1) t .nilFunc (.func f x y)).run P w = .ok false w := by
  unfold Op.equalIn; rw [Sem.run_bind, run_underlying hu]; rfl
theorem eqIn_func_right {a b c} (hu : P.underlying t = some (.func a b c)) (f x y) : (Op.equalIn (D + 1) t (.func f x y) .nilFunc).run P w = .ok false w := by
  unfold Op.equalIn; rw [Sem.run_bind, run_underlying hu]; rfl
theorem eqIn_iface_left {a} (hu : P.underlying t = some (.interface a)) (f x) : (Op.equalIn (D + 1) t .nilIface (.iface f x)).run P w = .ok false w := by
  unfold Op.equalIn; rw [Sem.run_bind, run_underlying hu]; rfl
theorem eqIn_iface_right {a} (hu : P.underlying t = some (.interface a)) (f x) : (Op.equalIn (D + 1) t (.iface f x) .nilIface).run P w = .ok false w := by
  unfold Op.equalIn; rw [Sem.run_bind, run_underlying hu]; rfl
end

theorem nilP_spec {x : NVal} {c : Bool} {rx : Value} (h : nilP x = some c) (hx : VR ι x rx) : (c = true ∧ rx = .pointer none) ∨ (c = false ∧ ∃ a, rx = .pointer (some a)) := by
  cases hx <;> simp only [nilP] at h <;> cases h <;> first | exact .inl ⟨rfl, rfl⟩ | exact .inr ⟨rfl, _, rfl⟩
theorem nilS_spec {x : NVal} {c : Bool} {rx : Value} (h : nilS x = some c) (hx : VR ι x rx) : (c = true ∧ ∃ n k, rx = .slice none n k) ∨ (c = false ∧ ∃ a n k, rx = .slice (some a) n k) := by
  cases hx <;> simp only [nilS] at h <;> cases h <;> first | exact .inl ⟨rfl, _, _, rfl⟩ | exact .inr ⟨rfl, _, _, _, rfl⟩
theorem nilF_spec {x : NVal} {c : Bool} {rx : Value} (h : nilF x = some c) (hx : VR ι x rx) : (c = true ∧ rx = .nilFunc) ∨ (c = false ∧ ∃ f a b, rx = .func f a b) := by
  cases hx <;> simp only [nilF] at h <;> cases h <;> first | exact .inl ⟨rfl, rfl⟩ | exact .inr ⟨rfl, _, _, _, rfl⟩
theorem nilI_spec {x : NVal} {c : Bool} {rx : Value} (h : nilI x = some c) (hx : VR ι x rx) : (c = true ∧ rx = .nilIface) ∨ (c = false ∧ ∃ f a, rx = .iface f a) := by
  cases hx <;> simp only [nilI] at h <;> cases h <;> first | exact .inl ⟨rfl, rfl⟩ | exact .inr ⟨rfl, _, _, rfl⟩

theorem neqFields_sound (d : Nat) (ih : ∀ {t : TypeId} {x y : NVal} {b : Bool}, neq P d t x y = some b → ∀ (D : Nat), d ≤ D → ∀ (rx ry : Value), VR ι x rx → VR ι y ry →
    ∀ w, (Op.equalIn D t rx ry).run P w = .ok b w) : ∀ {xs ys : List NVal} {fs : List Field} {b : Bool}, neqFields P (neq P d) xs ys fs = some b → ∀ (D : Nat), d ≤ D →
    ∀ (ds es : Array Value), VRs ι xs ds.toList → VRs ι ys es.toList → ∀ w, (Op.eqFields D ds es fs).run P w = .ok b w
  | xs, ys, [], b, h => by
    intro D hD ds es hds hes w
    simp only [neqFields] at h; cases h
    rfl
  | xs, ys, f :: fs, b, h => by
    intro D hD ds es hds hes w
    unfold neqFields at h
    by_cases hn : f.name = "_"
    · rw [if_pos hn] at h
      simp only [Op.eqFields, hn, ne_eq, not_true, if_false]
      exact neqFields_sound d ih h D hD ds es hds hes w
    · rw [if_neg hn] at h
      simp only [Op.eqFields, hn, ne_eq, not_false_eq_true, if_true, Sem.run_bind]
      cases hu : npart P f.type xs f.offset with
      | none => rw [hu] at h; cases h
      | some u =>
        cases hv : npart P f.type ys f.offset with
        | none => rw [hu, hv] at h; cases h
        | some v =>
          rw [hu, hv] at h
          simp only at h
          obtain ⟨ru, hru, eu⟩ := part_sound hu hds
          obtain ⟨rv, hrv, e'⟩ := part_sound hv hes
          simp only [eu, e', Result.andThen_ok]
          cases hq : neq P d f.type u v with
          | none => rw [hq] at h; cases h
          | some c =>
            rw [hq] at h
            rw [ih hq D hD _ _ hru hrv w]
            cases c
            · cases h; rfl
            · exact neqFields_sound d ih h D hD ds es hds hes w

theorem neq_sound : ∀ (d : Nat) {t : TypeId} {x y : NVal} {b : Bool}, neq P d t x y = some b → ∀ (D : Nat), d ≤ D → ∀ (rx ry : Value), VR ι x rx → VR ι y ry →
    ∀ w, (Op.equalIn D t rx ry).run P w = .ok b w
  | 0, t, x, y, b, h => by simp [neq] at h
  | d + 1, t, x, y, b, h => by
    intro D hD rx ry hx hy w
    obtain ⟨D, rfl⟩ : ∃ D', D = D' + 1 := ⟨D - 1, by omega⟩
    unfold neq at h
    cases hu : P.underlying t with
    | none => rw [hu] at h; cases h
    | some ty =>
      rw [hu] at h
      cases ty with
      | bool =>
        cases x <;> first | (cases h; done) | skip
        cases y <;> first | (cases h; done) | skip
        cases h; cases hx; cases hy; exact run_equalIn_bool' w D t _ _ hu
      | int k =>
        cases x <;> first | (cases h; done) | skip
        cases y <;> first | (cases h; done) | skip
        rename_i k1 a1 k2 a2
        simp only at h
        by_cases hk : k1 = k2
        · rw [if_pos hk] at h; cases h; cases hx; cases hy; subst hk; exact run_equalIn_int w D t _ _ _ _ hu
        · rw [if_neg hk] at h; cases h
      | string =>
        cases x <;> first | (cases h; done) | skip
        cases y <;> first | (cases h; done) | skip
        cases h; cases hx; cases hy; rw [run_equalIn_string w D t _ _ hu]; simp [toList_eq]
      | pointer e =>
        simp only at h
        cases h1 : nilP x with
        | none => rw [h1] at h; cases h
        | some c => cases h2 : nilP y with
          | none => rw [h1, h2] at h; cases c <;> cases h
          | some c' =>
            rw [h1, h2] at h
            rcases nilP_spec h1 hx with ⟨rfl, rfl⟩ | ⟨rfl, a, rfl⟩ <;> rcases nilP_spec h2 hy with ⟨rfl, rfl⟩ | ⟨rfl, a', rfl⟩ <;> cases h
            · exact eqIn_ptr_none w D hu none
            · exact eqIn_ptr_none w D hu _
            · exact eqIn_ptr_some w D hu _
      | slice e =>
        simp only at h
        cases h1 : nilS x with
        | none => rw [h1] at h; cases h
        | some c => cases h2 : nilS y with
          | none => rw [h1, h2] at h; cases c <;> cases h
          | some c' =>
            rw [h1, h2] at h
            rcases nilS_spec h1 hx with ⟨rfl, n, k, rfl⟩ | ⟨rfl, a, n, k, rfl⟩ <;> rcases nilS_spec h2 hy with ⟨rfl, n', k', rfl⟩ | ⟨rfl, a', n', k', rfl⟩ <;> cases h
            · exact eqIn_slice_none w D hu _ _ none _ _
            · exact eqIn_slice_none w D hu _ _ _ _ _
            · exact eqIn_slice_some w D hu _ _ _ _ _
      | func a b c =>
        simp only at h
        cases h1 : nilF x with
        | none => rw [h1] at h; cases h
        | some c => cases h2 : nilF y with
          | none => rw [h1, h2] at h; cases c <;> cases h
          | some c' =>
            rw [h1, h2] at h
            rcases nilF_spec h1 hx with ⟨rfl, rfl⟩ | ⟨rfl, f, p, q, rfl⟩ <;> rcases nilF_spec h2 hy with ⟨rfl, rfl⟩ | ⟨rfl, f', p', q', rfl⟩ <;> cases h
            · exact eqIn_func_nil w D hu
            · exact eqIn_func_left w D hu _ _ _
            · exact eqIn_func_right w D hu _ _ _
      | interface ms =>
        simp only at h
        cases h1 : nilI x with
        | none => rw [h1] at h; cases h
        | some c => cases h2 : nilI y with
          | none => rw [h1, h2] at h; cases c <;> cases h
          | some c' =>
            rw [h1, h2] at h
            rcases nilI_spec h1 hx with ⟨rfl, rfl⟩ | ⟨rfl, f, p, rfl⟩ <;> rcases nilI_spec h2 hy with ⟨rfl, rfl⟩ | ⟨rfl, f', p', rfl⟩ <;> cases h
            · exact eqIn_iface_left w D hu _ _
            · exact eqIn_iface_right w D hu _ _
      | struct fs =>
        cases x <;> first | (cases h; done) | skip
        cases y <;> first | (cases h; done) | skip
        simp only at h
        by_cases hs : P.stoodInHeld t = true ∨ P.eqGuardType P.depth t = true
        · rw [if_pos hs] at h; cases h
        · rw [if_neg hs] at h
          simp only [not_or, Bool.not_eq_true] at hs
          obtain ⟨ds, rfl, hds⟩ := hx.agg_inv
          obtain ⟨es, rfl, hes⟩ := hy.agg_inv
          have hf : P.fieldsOf t = fs := by simp [Program.fieldsOf, hu]
          rw [run_equalIn_struct w D t ds es (by rw [hf]; exact hu) hs.1, hf]
          exact neqFields_sound d (neq_sound d) h D (by omega) ds es hds hes w
      | _ => cases h
end Go.Proofs.Ytblhpikljhholaa.NICE
