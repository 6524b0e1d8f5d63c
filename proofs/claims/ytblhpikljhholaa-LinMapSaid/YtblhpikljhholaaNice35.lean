/- Numbers: masks, shifts; memory that changes at told places alone. -/
import Derived.Test.YtblhpikljhholaaNice34
set_option linter.unusedVariables false
set_option linter.unusedSimpArgs false
namespace Go.Proofs.Ytblhpikljhholaa.NICE
open Go Go.RowKit

variable {P : Program} {E : Env P drStatic}

theorem wrap_i64_small {n : Int} (h0 : -2 ^ 63 ≤ n) (h1 : n < 2 ^ 63) : IntKind.i64.wrap n = n := by rw [IntKind.wrap_i64]; omega
theorem ofInt_toNat (n : Int) : (BitVec.ofInt 64 n).toNat = (n % 2 ^ 64).toNat := by
  rw [BitVec.toNat_ofInt]; rfl
/-- the lowest bits of a number -/
theorem and_mask_i64 (t : TypeId) (n : Int) (j : Nat) (hj : j ≤ 62) : nbin P .and t (.int .i64 n) (.int .i64 (2 ^ j - 1 : Int)) = some (.int .i64 (n % 2 ^ j)) := by
  have hb : ((2 : Int) ^ j) ≤ 2 ^ 62 := by
    have : (2 : Nat) ^ j ≤ 2 ^ 62 := Nat.pow_le_pow_right (by decide) hj
    exact_mod_cast this
  have hp : (0 : Int) < 2 ^ j := by
    have : (0 : Nat) < 2 ^ j := Nat.two_pow_pos j
    exact_mod_cast this
  have e : (BitVec.ofInt 64 n &&& BitVec.ofInt 64 ((2 : Int) ^ j - 1)).toNat = (n % 2 ^ j).toNat := by
    rw [BitVec.toNat_and, ofInt_toNat, ofInt_toNat]
    have h1 : (((2 : Int) ^ j - 1) % 2 ^ 64).toNat = 2 ^ j - 1 := by
      rw [Int.emod_eq_of_lt (by omega) (by omega)]
      have : ((2 : Int) ^ j - 1) = ((2 ^ j - 1 : Nat) : Int) := by
        have := Nat.two_pow_pos j
        push_cast [Int.ofNat_sub this]
        rfl
      rw [this]; rfl
    rw [h1, Nat.and_two_pow_sub_one_eq_mod]
    have h2 : (((n % 2 ^ 64).toNat % 2 ^ j : Nat) : Int) = n % 2 ^ j := by
      have h3 : (((n % 2 ^ 64).toNat : Nat) : Int) = n % 2 ^ 64 := Int.toNat_of_nonneg (Int.emod_nonneg _ (by decide))
      rw [Int.natCast_emod, h3]
      push_cast
      have hd : ((2 : Int) ^ j) ∣ 2 ^ 64 := by
        have : ((2 : Nat) ^ j) ∣ 2 ^ 64 := Nat.pow_dvd_pow 2 (by omega)
        exact_mod_cast Int.natCast_dvd_natCast.2 this
      exact Int.emod_emod_of_dvd n hd
    omega
  show some (NVal.int .i64 (IntKind.i64.wrap ((BitVec.ofInt 64 n &&& BitVec.ofInt 64 ((2 : Int) ^ j - 1)).toNat : Int))) = _
  rw [e]
  have h0 := Int.emod_nonneg n (Int.ne_of_gt hp)
  have h1 := Int.emod_lt_of_pos n hp
  rw [Int.toNat_of_nonneg h0, wrap_i64_small (by omega) (by omega)]
theorem shr_i64 (t : TypeId) (k' : IntKind) (n : Int) (j : Nat) (hj : j ≤ 63) : nbin P .shr t (.int .i64 n) (.int k' (j : Int)) = some (.int .i64 (n / 2 ^ j)) := by
  show nShift .shr .i64 n (j : Int) = _
  unfold nShift
  rw [if_neg (by omega)]
  simp only [Int.toNat_natCast, show min j IntKind.i64.bits = j by show min j 64 = j; omega]
  congr 2
  rw [Int.fdiv_eq_ediv_of_nonneg]
  have : (0 : Nat) < 2 ^ j := Nat.two_pow_pos j
  exact_mod_cast Nat.le_of_lt this

/-! ### Memory that changes at told places alone -/
structure Upd (fp : List Nat) (h h' : NHeap) : Prop where
  next : h.next ≤ h'.next
  get : ∀ {b : Nat} {o : NObj}, h.get b = some o → b ∉ fp → h'.get b = some o
theorem Upd.refl (fp : List Nat) (h : NHeap) : Upd fp h h := ⟨Nat.le_refl _, fun e _ => e⟩
theorem Upd.trans {fp : List Nat} {h h' h'' : NHeap} (u : Upd fp h h') (v : Upd fp h' h'') : Upd fp h h'' :=
  ⟨Nat.le_trans u.next v.next, fun e hn => v.get (u.get e hn) hn⟩
/-- the second one may also change what is new since the first -/
theorem Upd.trans' {fp fq : List Nat} {h h' h'' : NHeap} (u : Upd fp h h') (v : Upd fq h' h'') (hq : ∀ b ∈ fq, b ∈ fp ∨ h.next ≤ b) : Upd fp h h'' :=
  ⟨Nat.le_trans u.next v.next, fun {b o} e hn => v.get (u.get e hn) fun hm => by
    have := NHeap.get_lt e
    rcases hq b hm with q | q
    · exact hn q
    · omega⟩
theorem Upd.mono {fp fq : List Nat} {h h' : NHeap} (u : Upd fp h h') (hs : ∀ b ∈ fp, b ∈ fq ∨ h.next ≤ b) : Upd fq h h' :=
  ⟨u.next, fun {b o} e hn => u.get e fun hm => by
    have := NHeap.get_lt e
    rcases hs b hm with q | q
    · exact hn q
    · omega⟩
theorem Upd.alloc {fp : List Nat} {h h' : NHeap} (u : Upd fp h h') (o : NObj) : Upd fp h (h'.alloc o) :=
  ⟨Nat.le_trans u.next (Nat.le_succ _), fun e hn => by
    have h1 := u.get e hn
    rw [NHeap.get_alloc, if_neg (by have := NHeap.get_lt h1; omega), h1]⟩
theorem Upd.set {fp : List Nat} {h h' : NHeap} (u : Upd fp h h') {b : Nat} (hb : b ∈ fp ∨ h.next ≤ b) (o : NObj) : Upd fp h (h'.set b o) :=
  ⟨u.next, fun e hn => by
    have := NHeap.get_lt e
    rw [NHeap.get_set_ne (by rintro rfl; rcases hb with q | q; exact hn q; omega), u.get e hn]⟩
theorem Upd.of_ext {h h' : NHeap} (e : Ext h h') : Upd [] h h' := ⟨e.next, fun q _ => e.get q⟩
theorem Upd.ext {h h' : NHeap} (u : Upd [] h h') : Ext h h' := ⟨u.next, fun q => u.get q (by simp)⟩
end Go.Proofs.Ytblhpikljhholaa.NICE
