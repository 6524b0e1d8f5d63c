/- Operations that need no memory: all of them. -/
import Derived.Test.YtblhpikljhholaaNice3
set_option linter.unusedVariables false
set_option linter.unusedSimpArgs false
namespace Go.Proofs.Ytblhpikljhholaa.NICE
open Go Go.RowKit

variable {P : Program} {ι : Inj}

def vk : Value → Nat | .int _ _ => 1 | .string _ => 2 | .float _ _ => 3 | .complex _ _ _ => 4 | .agg _ => 5 | .nilIface => 6 | _ => 0
def nk : NVal → Nat | .int _ _ => 1 | .str _ => 2 | .agg _ => 5 | .nilIface => 6 | _ => 0
def NVal.isJunk : NVal → Bool | .junk => true | _ => false
theorem VR.vk {x : NVal} {rx : Value} (h : VR ι x rx) (hj : x.isJunk = false) : vk rx = nk x := by cases h <;> first | rfl | (simp [NVal.isJunk] at hj)

theorem binOp_eql {t : TypeId} {x y : Value} (h : vk x = 0 ∨ vk x = 5 ∨ vk x = 6 ∨ vk y ≠ vk x) : binOp .eql t x y = (Op.equal t x y >>= fun b => pure (.bool b)) := by
  cases x <;> cases y <;> first | rfl | (simp [NICE.vk] at h)
theorem binOp_neq {t : TypeId} {x y : Value} (h : vk x = 0 ∨ vk x = 5 ∨ vk x = 6 ∨ vk y ≠ vk x) : binOp .neq t x y = (Op.equal t x y >>= fun b => pure (.bool (!b))) := by
  cases x <;> cases y <;> first | rfl | (simp [NICE.vk] at h)
theorem eqGuard_ok {op : BinOp} {t : TypeId} {xo yo : Operand} {x y : Value} (h : ¬ (vk x = 6 ∧ vk y = 6) ∧ ¬ (vk x = 5 ∧ vk y = 5)) (w : World) : (eqGuard op t xo yo x y).run P w = .ok () w := by
  unfold eqGuard
  cases x <;> cases y <;> first | (exfalso; simp [NICE.vk] at h; done) | (simp only []; split <;> rfl)

theorem neq_guard {d : Nat} {t : TypeId} {x y : NVal} {b : Bool} (h : neq P d t x y = some b) : ¬ (nk x = 6 ∧ nk y = 6) ∧ ((nk x = 5 ∧ nk y = 5) → P.eqGuardType P.depth t = false) := by
  cases d with
  | zero => simp [neq] at h
  | succ d =>
    refine ⟨fun ⟨h1, h2⟩ => ?_, fun ⟨h1, h2⟩ => ?_⟩
    · cases x <;> simp [nk] at h1
      cases y <;> simp [nk] at h2
      unfold neq at h
      cases hu : P.underlying t with
      | none => rw [hu] at h; cases h
      | some ty => rw [hu] at h; cases ty <;> simp [nilP, nilS, nilF, nilI] at h
    · cases x <;> simp [nk] at h1
      cases y <;> simp [nk] at h2
      unfold neq at h
      cases hu : P.underlying t with
      | none => rw [hu] at h; cases h
      | some ty =>
        rw [hu] at h; cases ty <;> simp [nilP, nilS, nilF, nilI] at h
        exact h.1.2

theorem VR.str_inv {l : List UInt8} {r : Value} (h : VR ι (.str l) r) : ∃ s : ByteArray, r = .string s ∧ s.data.toList = l := by
  generalize hv : NVal.str l = v at h
  cases h <;> cases hv
  exact ⟨_, rfl, rfl⟩
theorem VR.int_inv {k n} {r : Value} (h : VR ι (.int k n) r) : r = .int k n := by cases h; rfl
theorem VR.bool_inv {b} {r : Value} (h : VR ι (.bool b) r) : r = .bool b := by cases h; rfl
def NVal.plain : NVal → Bool | .bool _ | .int _ _ | .str _ => true | _ => false
theorem VR.det {v : NVal} (hp : v.plain = true) {r r' : Value} (h : VR ι v r) (h' : VR ι v r') : r = r' := by
  cases v <;> simp [NVal.plain] at hp
  · rw [h.bool_inv, h'.bool_inv]
  · rw [h.int_inv, h'.int_inv]
  · obtain ⟨s, rfl, e⟩ := h.str_inv
    obtain ⟨s', rfl, e'⟩ := h'.str_inv
    congr 1; exact ByteArray.ext (Array.ext' (by rw [e, e']))
theorem nIntOp_plain {op : BinOp} {k : IntKind} {x y : Int} {v : NVal} (h : nIntOp op k x y = some v) : v.plain = true := by
  cases op <;> simp only [nIntOp] at h <;> first | (cases h; rfl) | (split at h <;> cases h; rfl) | cases h
theorem nShift_plain {op : BinOp} {k : IntKind} {x y : Int} {v : NVal} (h : nShift op k x y = some v) : v.plain = true := by
  unfold nShift at h; split at h
  · cases h
  · cases op <;> simp only at h <;> cases h <;> rfl
theorem nStrOp_plain {op : BinOp} {x y : List UInt8} {v : NVal} (h : nStrOp op x y = some v) : v.plain = true := by
  cases op <;> simp only [nStrOp] at h <;> first | (cases h; rfl) | (split at h <;> cases h; rfl) | cases h

theorem neq_nojunk {d : Nat} {t : TypeId} {x y : NVal} {b : Bool} (h : neq P d t x y = some b) : x.isJunk = false ∧ y.isJunk = false := by
  cases d with
  | zero => simp [neq] at h
  | succ d =>
    unfold neq at h
    cases hu : P.underlying t with
    | none => rw [hu] at h; cases h
    | some ty =>
      rw [hu] at h
      constructor
      · cases x with
        | junk => cases ty <;> cases y <;> simp [nilP, nilS, nilF, nilI] at h
        | _ => rfl
      · cases y with
        | junk => cases ty <;> simp [nilP, nilS, nilF, nilI] at h <;> (cases x <;> simp [nilP, nilS, nilF, nilI] at h)
        | _ => rfl

theorem nsame_spec {t : TypeId} {x y v : NVal} {b : Bool} (h : nsame P t x y b = some v) {rx ry : Value} (hx : VR ι x rx) (hy : VR ι y ry) :
    ∃ a e i, P.underlying t = some (.pointer e) ∧ P.info? e = some i ∧ rx = .pointer (some a) ∧ ry = .pointer (some a) ∧ v = .bool b := by
  unfold nsame at h
  split at h
  · rename_i u1 u2 u3 e a c hu
    cases hi : P.info? e with
    | none => rw [hi] at h; cases h
    | some i =>
      rw [hi] at h; simp only at h
      split at h
      · rename_i hac; subst hac; cases h
        obtain ⟨b, o⟩ := a
        cases hx with | ptr hι => cases hy with | ptr hι' =>
        rw [hι] at hι'; cases hι'
        exact ⟨_, e, i, hu, hi, rfl, rfl, rfl⟩
      · cases h
  · cases h

theorem run_eql_ptr_same (w : World) {tp te : TypeId} {j : TypeInfo} (a : Addr) (hp : P.underlying tp = some (.pointer te)) (hte : P.info? te = some j) :
    (binOp .eql tp (.pointer (some a)) (.pointer (some a))).run P w = .ok (.bool true) w := by
  have h : ∀ d : Nat, (Op.equalIn (d + 1) tp (.pointer (some a)) (.pointer (some a))).run P w = .ok true w := fun d => by
    simp [Op.equalIn, run_underlying hp, sizeOf, typeInfo, hte, run_sameAddr_same]
  simp only [binOp]
  simp [Op.equal, Op.maxDepth, h 9999]

theorem bin_sound {op : BinOp} {t : TypeId} {x y v : NVal} (h : nbin P op t x y = some v) {rx ry : Value} (hx : VR ι x rx) (hy : VR ι y ry) (xo yo : Operand) :
    ∃ rv, VR ι v rv ∧ ∀ w, (eqGuard op t xo yo rx ry >>= fun _ => binOp op t rx ry).run P w = .ok rv w := by
  have key : ∀ {rv}, (vk rx ≠ 5 ∨ vk ry ≠ 5) → ¬ (vk rx = 6 ∧ vk ry = 6) → VR ι v rv → (∀ w, (binOp op t rx ry).run P w = .ok rv w) → ∃ rv, VR ι v rv ∧ ∀ w, (eqGuard op t xo yo rx ry >>= fun _ => binOp op t rx ry).run P w = .ok rv w := by
    intro rv h5 h6 hv hr
    exact ⟨rv, hv, fun w => by rw [Sem.run_bind, eqGuard_ok ⟨h6, by omega⟩ w]; exact hr w⟩
  unfold nbin at h
  split at h
  · rename_i k a k' b
    cases hx; cases hy
    have fin : ∀ {rv}, VR ι v rv → (∀ w, (binOp op t (.int k a) (.int k' b)).run P w = .ok rv w) → _ := fun {rv} => key (rv := rv) (by simp [NICE.vk]) (by simp [NICE.vk])
    have get : v.plain = true → (∀ w : World, ∃ rv, VR ι v rv ∧ (binOp op t (.int k a) (.int k' b)).run P w = .ok rv w) → ∃ rv, VR ι v rv ∧ ∀ w, (binOp op t (.int k a) (.int k' b)).run P w = .ok rv w := by
      intro hp hh
      obtain ⟨rv, h1, h2⟩ := hh default
      refine ⟨rv, h1, fun w => ?_⟩
      obtain ⟨rv', h1', h2'⟩ := hh w
      rw [h2', VR.det hp h1 h1']
    split at h
    · obtain ⟨rv, h1, h2⟩ := get (nShift_plain h) fun w => shift_sound (.inl rfl) h t w; exact fin h1 h2
    · obtain ⟨rv, h1, h2⟩ := get (nShift_plain h) fun w => shift_sound (.inr rfl) h t w; exact fin h1 h2
    · split at h
      · rename_i hk; subst hk
        obtain ⟨rv, h1, h2⟩ := get (nIntOp_plain h) fun w => intOp_sound h t w; exact fin h1 h2
      · cases h
  · cases hx with | str a => cases hy with | str b =>
    have hh := fun w => strOp_sound (ι := ι) (P := P) h t w
    obtain ⟨rv, h1, h2⟩ := hh default
    refine key (by simp [NICE.vk]) (by simp [NICE.vk]) h1 fun w => ?_
    obtain ⟨rv', h1', h2'⟩ := hh w
    rw [h2', VR.det (nStrOp_plain h) h1 h1']
  · rename_i hn1 hn2
    have hv : x.isJunk = false → y.isJunk = false → (vk rx = 0 ∨ vk rx = 5 ∨ vk rx = 6 ∨ vk ry ≠ vk rx) := by
      intro j1 j2
      rw [hx.vk j1, hy.vk j2]
      cases x <;> simp [nk]
      · cases y <;> simp [nk]
        rename_i k n k' n'; exact hn1 k n k' n' rfl rfl
      · cases y <;> simp [nk]
        rename_i a b; exact hn2 a b rfl rfl
    have main : ∀ b, neq P 6 t x y = some b → (∀ w, (eqGuard op t xo yo rx ry).run P w = .ok () w) ∧ ∀ w, (Op.equal t rx ry).run P w = .ok b w := by
      intro b hb
      refine ⟨fun w => ?_, fun w => neq_sound 6 hb Op.maxDepth (by decide) rx ry hx hy w⟩
      obtain ⟨g1, g2⟩ := neq_guard hb
      obtain ⟨j1, j2⟩ := neq_nojunk hb
      by_cases h5 : vk rx = 5 ∧ vk ry = 5
      · have := g2 (by rw [← hx.vk j1, ← hy.vk j2]; exact h5)
        obtain ⟨h5, h5'⟩ := h5
        cases rx <;> simp [NICE.vk] at h5
        cases ry <;> simp [NICE.vk] at h5'
        exact run_eqGuard_agg w op t xo yo _ _ this
      · exact eqGuard_ok ⟨by rw [hx.vk j1, hy.vk j2]; exact g1, h5⟩ w
    split at h
    · cases hb : neq P 6 t x y with
      | none =>
        rw [hb] at h
        obtain ⟨a, e, i, hu, hi, rfl, rfl, rfl⟩ := nsame_spec h hx hy
        exact ⟨_, .bool _, fun w => by rw [Sem.run_bind, eqGuard_ok (by simp [NICE.vk]) w]; simp only [Result.andThen_ok]; exact run_eql_ptr_same w _ hu hi⟩
      | some b =>
        rw [hb] at h; cases h
        obtain ⟨m1, m2⟩ := main b hb
        exact ⟨.bool b, .bool b, fun w => by rw [Sem.run_bind, m1 w]; simp only [Result.andThen_ok]; rw [binOp_eql (hv (neq_nojunk hb).1 (neq_nojunk hb).2)]; simp [m2 w]⟩
    · cases hb : neq P 6 t x y with
      | none =>
        rw [hb] at h
        obtain ⟨a, e, i, hu, hi, rfl, rfl, rfl⟩ := nsame_spec h hx hy
        exact ⟨_, .bool _, fun w => by rw [Sem.run_bind, eqGuard_ok (by simp [NICE.vk]) w]; simp only [Result.andThen_ok]; exact Lib.run_neq_ptr_same w _ hu hi⟩
      | some b =>
        rw [hb] at h; cases h
        obtain ⟨m1, m2⟩ := main b hb
        exact ⟨.bool (!b), .bool _, fun w => by rw [Sem.run_bind, m1 w]; simp only [Result.andThen_ok]; rw [binOp_neq (hv (neq_nojunk hb).1 (neq_nojunk hb).2)]; simp [m2 w]⟩
    · cases h

theorem un_sound {op : UnOp} {x v : NVal} (h : nun op x = some v) {rx : Value} (hx : VR ι x rx) : ∃ rv, VR ι v rv ∧ ∀ w, (Op.unary op rx).run P w = .ok rv w := by
  unfold nun at h
  split at h
  · cases h; cases hx; exact ⟨_, .bool _, fun w => rfl⟩
  · cases h; cases hx; exact ⟨_, .int _ _, fun w => rfl⟩
  · cases h

theorem conv_sound {s d : TypeId} {x v : NVal} (h : nconv P s d x = some v) {rx : Value} (hx : VR ι x rx) : ∃ rv, VR ι v rv ∧ ∀ w, (convert s d rx).run P w = .ok rv w := by
  unfold nconv at h
  split at h
  · rename_i u1 u2 u3 k n hs hd
    cases h; cases hx
    exact ⟨_, .int _ _, fun w => by simp [convert, run_underlying hs, run_underlying hd, Conv.intToInt]⟩
  · rename_i u1 u2 l hs hd
    cases h; cases hx with | str b =>
    exact ⟨_, .str b, fun w => by
      simp only [convert, Sem.run_bind, run_underlying hs, run_underlying hd, Result.andThen_ok]; rfl⟩
  · cases h
end Go.Proofs.Ytblhpikljhholaa.NICE
