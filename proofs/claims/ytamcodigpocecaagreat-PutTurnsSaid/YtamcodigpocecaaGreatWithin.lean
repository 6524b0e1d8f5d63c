/-
  A number's remainder within bounds, for a number that is told by its place. No conditions.
-/
import Derived.Test.YtamcodigpocecaaGreatFw
namespace Go.Proofs.YtamcodigpocecaaGreat.S
open Go Go.RowKit Go.Proofs.YtamcodigpocecaaGreat.NICE
set_option maxRecDepth 100000
set_option linter.unusedSimpArgs false
set_option linter.unusedVariables false
theorem emod_tmod (n m : Int) (hm : 0 < m) : n % m = if n.tmod m < 0 then n.tmod m + m else n.tmod m := by
  have h1 := Int.tmod_add_mul_tdiv n m
  have h2 := Int.tmod_lt_of_pos n hm
  have h3 := Int.lt_tmod_of_pos n hm
  have h4 : n % m = n.tmod m % m := by
    conv => lhs; rw [← h1]
    rw [Int.add_mul_emod_self_left]
  rw [h4]
  split
  · rename_i h
    rw [← Int.add_emod_right, Int.emod_eq_of_lt (by omega) (by omega)]
  · exact Int.emod_eq_of_lt (by omega) (by omega)

variable [Syms]
theorem within_K (n lo hi : Int) (h : NHeap) (h0 : -2 ^ 42 < lo) (h1 : lo ≤ hi) (h2 : hi < 2 ^ 42) : K env 8 [.int .i64 n, .int .i64 lo, .int .i64 hi] h = some (.int .i64 (lo + n % (hi - lo + 1)), h) := by
  have e1 : IntKind.i64.wrap (hi - lo) = hi - lo := wrap_i64_small (by omega) (by omega)
  have e2 : IntKind.i64.wrap (hi - lo + 1) = hi - lo + 1 := wrap_i64_small (by omega) (by omega)
  have e3 : hi - lo + 1 ≠ 0 := by omega
  have e4 := emod_tmod n (hi - lo + 1) (by omega)
  have b1 := Int.tmod_lt_of_pos n (show 0 < hi - lo + 1 by omega)
  have b2 := Int.lt_tmod_of_pos n (show 0 < hi - lo + 1 by omega)
  rw [k8 _ _ (by simp)]
  simp only [bodyOf, Option.getD_some, go_sem, seval, Tryz.f8, e1, e2, bin_rem _ _ _ _ e3]
  generalize n.tmod (hi - lo + 1) = r at *
  by_cases hr : r < 0
  · have w1 : IntKind.i64.wrap (r + hi) = r + hi := wrap_i64_small (by omega) (by omega)
    have w2 : IntKind.i64.wrap (r + hi - lo) = r + hi - lo := wrap_i64_small (by omega) (by omega)
    have w3 : IntKind.i64.wrap (r + hi - lo + 1) = r + hi - lo + 1 := wrap_i64_small (by omega) (by omega)
    have w4 : IntKind.i64.wrap (lo + (r + hi - lo + 1)) = lo + (r + hi - lo + 1) := wrap_i64_small (by omega) (by omega)
    have w5 : lo + n % (hi - lo + 1) = lo + (r + hi - lo + 1) := by rw [e4, if_pos hr]; omega
    simp only [hr, go_sem, seval, w1, w2, w3, w4, w5]
  · have w4 : IntKind.i64.wrap (lo + r) = lo + r := wrap_i64_small (by omega) (by omega)
    have w5 : lo + n % (hi - lo + 1) = lo + r := by rw [e4, if_neg hr]
    simp only [hr, go_sem, seval, w4, w5]

theorem within_ok {T : WT} (hT : WOk T) : CallOk Tryz.prog (withinKnown 8 T) := withinKnown_ok (K_ok (E := env) (Checked.mixed Tryz.checked)) within_K hT
end Go.Proofs.YtamcodigpocecaaGreat.S
