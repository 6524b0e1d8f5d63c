/- A struct that came in: an int, two strings, an int (an operation). -/
import Derived.Test.YtblhpikljhholaaNice32
import Derived.WideShapes
set_option linter.unusedVariables false
set_option linter.unusedSimpArgs false
namespace Go.Proofs.Ytblhpikljhholaa.NICE
open Go Go.RowKit

variable {P : Program}

theorem arg_op {H : Type} {enc : TypeId × Value → H} {W : World} {t : TypeId} {fs : Array Field} {v : Value} {d : DataW H} {p : List MemPlace} {r : Reach} {b0 : Nat} (ht : P.underlying t = some (.struct fs)) {f0 f1 f2 f3 : Field}
    (e0 : fs[0]? = some f0) (e1 : fs[1]? = some f1) (e2 : fs[2]? = some f2) (e3 : fs[3]? = some f3) (hsz : P.cellsOf t = 4) (hfs : fs.size = 4)
    (o0 : f0.offset = 0 ∧ P.cellsOf f0.type = 1 ∧ P.underlying f0.type = some (.int .i64)) (o1 : f1.offset = 1 ∧ P.cellsOf f1.type = 1 ∧ P.underlying f1.type = some .string)
    (o2 : f2.offset = 2 ∧ P.cellsOf f2.type = 1 ∧ P.underlying f2.type = some .string) (o3 : f3.offset = 3 ∧ P.cellsOf f3.type = 1 ∧ P.underlying f3.type = some (.int .i64))
    (h : DataW.Trod enc P W 0 (fun _ => true) true t v d p) (hv : Value.okWide P W r b0 t v) :
    ∃ k s1 s2 n, ∀ ι, VR ι (.agg [.int .i64 k, .str s1, .str s2, .int .i64 n]) v := by
  obtain ⟨fuel, hf⟩ := h
  obtain ⟨cs, rfl, hcs⟩ := Go.WideShapes.okWide_struct ht hv
  have hc : (Value.agg cs).cells.toList = cs.toList := rfl
  rw [hc] at hf
  obtain ⟨xs, n, _, _, hl, hlen, hx⟩ := DataW.trod_struct ht hf
  have g0 := hx 0 f0 e0
  have g1 := hx 1 f1 e1
  have g2 := hx 2 f2 e2
  have g3 := hx 3 f3 e3
  rw [o0.1, o0.2.1] at g0
  rw [o1.1, o1.2.1] at g1
  rw [o2.1, o2.2.1] at g2
  rw [o3.1, o3.2.1] at g3
  match xs, hlen.trans hfs with
  | [y0, y1, y2, y3], _ =>
    obtain ⟨n0, a0, _⟩ := DataW.trod_int o0.2.2 (g0.trans rfl)
    obtain ⟨n1, a1, _⟩ := DataW.trod_string o1.2.2 (g1.trans rfl)
    obtain ⟨n2, a2, _⟩ := DataW.trod_string o2.2.2 (g2.trans rfl)
    obtain ⟨n3, a3, _⟩ := DataW.trod_int o3.2.2 (g3.trans rfl)
    have hcl : cs.toList.length = 4 := by rw [hl, hsz]
    have hcsl : cs.toList = [.int .i64 n0, .string n1, .string n2, .int .i64 n3] := by
      match hq : cs.toList, hcl with
      | [q0, q1, q2, q3], _ =>
        rw [hq] at a0 a1 a2 a3
        simp only [List.drop_zero, List.drop_succ_cons, List.take_succ_cons, List.take_zero, List.cons.injEq, and_true] at a0 a1 a2 a3
        rw [a0, a1, a2, a3]
    have : cs = #[.int .i64 n0, .string n1, .string n2, .int .i64 n3] := by
      rw [← hcsl]
    subst this
    refine ⟨n0, n1.data.toList, n2.data.toList, n3, fun ι => .agg rfl fun i u w hu hw => ?_⟩
    match i with
    | 0 => simp at hu hw; subst hu hw; exact .int _ _
    | 1 => simp at hu hw; subst hu hw; exact .str _
    | 2 => simp at hu hw; subst hu hw; exact .str _
    | 3 => simp at hu hw; subst hu hw; exact .int _ _
    | i + 4 => simp at hu
end Go.Proofs.Ytblhpikljhholaa.NICE
