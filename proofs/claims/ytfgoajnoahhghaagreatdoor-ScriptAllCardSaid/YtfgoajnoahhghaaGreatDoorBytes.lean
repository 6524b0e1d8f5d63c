/-
  Rows of bytes in memory, and how a loop's first round is set apart. No conditions.
-/
import Derived.Test.YtfgoajnoahhghaaGreatDoorFw
namespace Go.Proofs.YtfgoajnoahhghaaGreatDoor.S
open Go Go.RowKit Go.Proofs.YtfgoajnoahhghaaGreatDoor.NICE
set_option maxRecDepth 100000
set_option linter.unusedSimpArgs false
set_option linter.unusedVariables false

theorem index_str {P : Program} {t : TypeId} (hu : P.underlying t = some .string) (s : List UInt8) (k) (i : Nat) (c : UInt8) (hc : s[i]? = some c) : nindex P t (.str s) (.int k (i : Int)) = some (.int .u8 c.toNat) := by
  simp [nindex, hu, hc]
theorem str_add {P : Program} (t : TypeId) (x y : List UInt8) (h : x.length + y.length ≤ 1000000) : nbin P .add t (.str x) (.str y) = some (.str (x ++ y)) := by
  simp [nbin, nStrOp]; omega

theorem emod_tmod (n m : Int) (hm : 0 < m) : n % m = if n.tmod m < 0 then n.tmod m + m else n.tmod m := by
  have h1 := Int.tmod_add_mul_tdiv n m
  have h2 := Int.tmod_lt_of_pos n hm
  have h3 := Int.lt_tmod_of_pos n hm
  have h4 : n % m = n.tmod m % m := by
    conv => lhs; rw [← h1]
    rw [Int.add_mul_emod_self_left]
  rw [h4]
  split
  · rename_i h
    rw [← Int.add_emod_right, Int.emod_eq_of_lt (by omega) (by omega)]
  · exact Int.emod_eq_of_lt (by omega) (by omega)

theorem within_K (n lo hi : Int) (h : NHeap) (h0 : -2 ^ 40 < lo) (h1 : lo ≤ hi) (h2 : hi < 2 ^ 40) : K env 17 [.int .i64 n, .int .i64 lo, .int .i64 hi] h = some (.int .i64 (lo + n % (hi - lo + 1)), h) := by
  have e1 : IntKind.i64.wrap (hi - lo) = hi - lo := wrap_i64_small (by omega) (by omega)
  have e2 : IntKind.i64.wrap (hi - lo + 1) = hi - lo + 1 := wrap_i64_small (by omega) (by omega)
  have e3 : hi - lo + 1 ≠ 0 := by omega
  have e4 := emod_tmod n (hi - lo + 1) (by omega)
  have b1 := Int.tmod_lt_of_pos n (show 0 < hi - lo + 1 by omega)
  have b2 := Int.lt_tmod_of_pos n (show 0 < hi - lo + 1 by omega)
  rw [k17 _ _ (by simp)]
  simp only [bodyOf, Option.getD_some, go_sem, seval, Tryz.f17, e1, e2, bin_rem _ _ _ _ e3]
  generalize n.tmod (hi - lo + 1) = r at *
  by_cases hr : r < 0
  · have w1 : IntKind.i64.wrap (r + hi) = r + hi := wrap_i64_small (by omega) (by omega)
    have w2 : IntKind.i64.wrap (r + hi - lo) = r + hi - lo := wrap_i64_small (by omega) (by omega)
    have w3 : IntKind.i64.wrap (r + hi - lo + 1) = r + hi - lo + 1 := wrap_i64_small (by omega) (by omega)
    have w4 : IntKind.i64.wrap (lo + (r + hi - lo + 1)) = lo + (r + hi - lo + 1) := wrap_i64_small (by omega) (by omega)
    have w5 : lo + n % (hi - lo + 1) = lo + (r + hi - lo + 1) := by rw [e4, if_pos hr]; omega
    simp only [hr, go_sem, seval, w1, w2, w3, w4, w5]
  · have w4 : IntKind.i64.wrap (lo + r) = lo + r := wrap_i64_small (by omega) (by omega)
    have w5 : lo + n % (hi - lo + 1) = lo + r := by rw [e4, if_neg hr]
    simp only [hr, go_sem, seval, w4, w5]
end Go.Proofs.YtfgoajnoahhghaaGreatDoor.S
