/-
  LinTurn holds: walked step by step over a heap of numbered blocks, and that walk stands for every run of the model. No conditions.
-/
import Derived.Test.YtdooojhnldlkeaaLinTurn
import Derived.Test.YtdooojhnldlkeaaFactsLinTurn
import Derived.WalkKit
import Derived.ChangeOld
import Derived.Below
import Derived.ProofKit
import Derived.OpenShut
import Derived.ShutString
import Derived.Carry
namespace Go.Proofs.Ytdooojhnldlkeaa.linTurn
open Go Go.Proofs.Ytdooojhnldlkeaa.NICE Go.Proofs.Ytdooojhnldlkeaa.S
open Go.ChangeShapes Go.WideShapes Go.ChangeAt Go.RowKit
open Go.ChangeMaps (open_string shut_string)
set_option linter.unusedVariables false
set_option maxRecDepth 100000

theorem own : ownKnob Try.prog.godebug = none := by kernel_rfl

theorem lifted (os : Os) (started : os.Started) (H : Type) (enc : TypeId × Value → H) :
    ReturnsInHanded {} Try.checked os 5 .any (Rows.linTurnSpec.pre6 enc Try.prog Try.f5 Rows.linTurnRow.domain false) (Rows.linTurnSpec.post enc Try.prog Try.f5 false true false false) := by
  refine returnsInHanded_of_change (C := Try.checked) own started (by kernel_rfl) Try.func5
    (ChangeSpec.witness6 (enc := enc) (C := Try.checked) false ⟨#[], #[.int .i64 0, .int .i64 0, .int .i64 0, .slice none 0 0], []⟩ 8 (by kernel_rfl) (by kernel_rfl) (by kernel_rfl) (by kernel_rfl)) ?_
  intro W base args ds gs before hval0 hW hcnd _
  have hval : ∀ (j : Nat) t v, Try.f5.params[j]? = some t → args[j]? = some v → Value.okWide Try.prog W .any base t v := hval0
  have hW' := hW
  obtain ⟨p, q, hA0, hV, rfl, hfz, hnd⟩ := hW
  have hA : DataW.TrodAll enc Try.prog W 0 (fun _ => true) true Try.f5.params.toList args.toList ds p := hA0
  rw [Try.params5] at hA hval
  obtain ⟨rfl, rfl⟩ := trodVars_none hV
  clear hA0 hval0
  have hA1 := hA
  obtain ⟨v0, v1, v2, v3, d0, d1, d2, d3, p0, p1, p2, p3, rfl, rfl, rfl, h0, h1, h2, h3⟩ := trodAll_four hA1
  obtain ⟨n0, rfl, rfl, rfl, hw0⟩ := open_int Try.underlying3 (hval 0 _ _ rfl rfl) h0
  obtain ⟨n1, rfl, rfl, rfl, hw1⟩ := open_int Try.underlying3 (hval 1 _ _ rfl rfl) h1
  obtain ⟨n2, rfl, rfl, rfl, hw2⟩ := open_int Try.underlying3 (hval 2 _ _ rfl rfl) h2
  obtain ⟨a3, m3, c3, rfl⟩ := okWide_slice Try.underlying50 (hval 3 _ _ rfl rfl)
  obtain ⟨bo3, n3, k3, x3, y3, cs3, ob3, G3, len3, _, sk3, hv3, ok3⟩ := slice_ones Try.underlying50 (by kernel_rfl) (fun u => ∃ b, u = NVal.bool b) (bool_one Try.underlying4) h3 ⟨_, _, _, rfl⟩ 0
  obtain ⟨h', hK⟩ := law_true (argH [(y3, ob3)]) n0 n1 n2 bo3 n3 k3 x3 cs3 len3 G3 (sk3.imp (·.1) fun q => ⟨q.2, .ro, by rw [argH_get]; simp [q.1]⟩)
  refine (walk_true (Checked.mixed Try.checked) rfl hK (Inv.args W [(y3, ob3)] (fun b p e => by
      have hm := List.mem_of_getElem? e
      simp only [List.mem_cons, List.not_mem_nil, or_false] at hm
      rcases hm with rfl
      · exact ok3 _)) (.cons (.int _ _) (.cons (.int _ _) (.cons (.int _ _) (.cons (hv3 _ rfl) (.nil)))))).mono fun e W' he => ?_
  obtain ⟨he1, hb⟩ := he
  subst he1
  exact ⟨_, rfl, _, _, _, [], _, [], hW', trodAll_mk1 (shut_bool Try.underlying4 _), trodAll_stays k2 hb (by kernel_rfl) hA hA.lt, rfl, hb.frame _, fun h => by cases h⟩

theorem over : Rows.linTurnRow.holds Try.pinned (OpenSpec.ofChange Rows.linTurnSpec) :=
  OpenClaim.holds_of_wide 5 Try.f5 rfl rfl rfl rfl rfl rfl rfl ⟨rfl, rfl, rfl, rfl, rfl⟩ rfl rfl rfl rfl rfl named Try.func5 facts
    inst wrap
    (fun os started H enc _ => lifted os started H enc)

/-- ████ THE STATEMENT ████ -/
theorem proved : Rows.LinTurnSaid :=
  over
#print axioms proved
end Go.Proofs.Ytdooojhnldlkeaa.linTurn
