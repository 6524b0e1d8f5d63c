/-
  LinFull holds: walked step by step over a heap of numbered blocks, and that walk stands for every run of the model. No conditions.
-/
import Derived.Test.YtdooojhnldlkeaaLinFull
import Derived.Test.YtdooojhnldlkeaaFactsLinFull
import Derived.WalkKit
import Derived.ChangeOld
import Derived.Below
import Derived.ProofKit
import Derived.OpenShut
import Derived.ShutString
import Derived.Carry
namespace Go.Proofs.Ytdooojhnldlkeaa.linFull
open Go Go.Proofs.Ytdooojhnldlkeaa.NICE Go.Proofs.Ytdooojhnldlkeaa.S
open Go.ChangeShapes Go.WideShapes Go.ChangeAt Go.RowKit
open Go.ChangeMaps (open_string shut_string)
set_option linter.unusedVariables false
set_option maxRecDepth 100000

theorem own : ownKnob Try.prog.godebug = none := by kernel_rfl

theorem lifted (os : Os) (started : os.Started) (H : Type) (enc : TypeId × Value → H) :
    ReturnsInHanded {} Try.checked os 6 .any (Rows.linFullSpec.pre6 enc Try.prog Try.f6 Rows.linFullRow.domain false) (Rows.linFullSpec.post enc Try.prog Try.f6 false true false false) := by
  refine returnsInHanded_of_change (C := Try.checked) own started (by kernel_rfl) Try.func6
    (ChangeSpec.witness6 (enc := enc) (C := Try.checked) false ⟨#[], #[.slice none 0 0, .int .i64 0], []⟩ 8 (by kernel_rfl) (by kernel_rfl) (by kernel_rfl) (by kernel_rfl)) ?_
  intro W base args ds gs before hval0 hW hcnd _
  have hval : ∀ (j : Nat) t v, Try.f6.params[j]? = some t → args[j]? = some v → Value.okWide Try.prog W .any base t v := hval0
  have hW' := hW
  obtain ⟨p, q, hA0, hV, rfl, hfz, hnd⟩ := hW
  have hA : DataW.TrodAll enc Try.prog W 0 (fun _ => true) true Try.f6.params.toList args.toList ds p := hA0
  rw [Try.params6] at hA hval
  obtain ⟨rfl, rfl⟩ := trodVars_none hV
  clear hA0 hval0
  have hA1 := hA
  obtain ⟨v0, v1, d0, d1, p0, p1, rfl, rfl, rfl, h0, h1⟩ := trodAll_two hA1
  obtain ⟨a0, m0, c0, rfl⟩ := okWide_slice Try.underlying25 (hval 0 _ _ rfl rfl)
  obtain ⟨bo0, n0, k0, x0, y0, hv0⟩ := slice_any Try.underlying25 (of_decide_eq_true (by kernel_rfl)) h0 ⟨_, _, _, rfl⟩ 0
  obtain ⟨n1, rfl, rfl, rfl, hw1⟩ := open_int Try.underlying3 (hval 1 _ _ rfl rfl) h1
  obtain ⟨h', hK⟩ := law_true (argH [(y0, .dead)]) bo0 n0 k0 x0 n1
  refine (walk_true (Checked.mixed Try.checked) rfl hK (Inv.args W [(y0, .dead)] (args_dead (by simp))) (.cons (hv0 _ rfl) (.cons (.int _ _) (.nil)))).mono fun e W' he => ?_
  obtain ⟨he1, hb⟩ := he
  subst he1
  exact ⟨_, rfl, _, _, _, [], _, [], hW', trodAll_mk1 (shut_bool Try.underlying4 _), trodAll_stays k2 hb (by kernel_rfl) hA hA.lt, rfl, hb.frame _, fun h => by cases h⟩

theorem over : Rows.linFullRow.holds Try.pinned (OpenSpec.ofChange Rows.linFullSpec) :=
  OpenClaim.holds_of_wide 6 Try.f6 rfl rfl rfl rfl rfl rfl rfl ⟨rfl, rfl, rfl, rfl, rfl⟩ rfl rfl rfl rfl rfl named Try.func6 facts
    inst wrap
    (fun os started H enc _ => lifted os started H enc)

/-- ████ THE STATEMENT ████ -/
theorem proved : Rows.LinFullSaid :=
  over
#print axioms proved
end Go.Proofs.Ytdooojhnldlkeaa.linFull
