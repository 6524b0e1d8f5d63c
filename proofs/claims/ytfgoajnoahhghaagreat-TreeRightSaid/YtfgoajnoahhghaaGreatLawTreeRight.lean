/-
  TreeRight holds: walked step by step over a heap of numbered blocks, and that walk stands for every run of the model. No conditions.
-/
import Derived.Test.YtfgoajnoahhghaaGreatTreeRight
import Derived.Test.YtfgoajnoahhghaaGreatFactsTreeRight
import Derived.WalkKit
import Derived.ChangeOld
import Derived.Below
import Derived.ProofKit
import Derived.OpenShut
import Derived.ShutString
import Derived.Carry
namespace Go.Proofs.YtfgoajnoahhghaaGreat.treeRight
open Go Go.Proofs.YtfgoajnoahhghaaGreat.NICE Go.Proofs.YtfgoajnoahhghaaGreat.S
open Go.ChangeShapes Go.WideShapes Go.ChangeAt Go.RowKit
open Go.ChangeMaps (open_string shut_string)
set_option linter.unusedVariables false
set_option maxRecDepth 100000

theorem own : ownKnob Tryz.prog.godebug = none := by kernel_rfl

theorem lifted (os : Os) (started : os.Started) (H : Type) (enc : TypeId × Value → H) :
    ReturnsInHanded {} Tryz.checked os 3 .any (Rows.treeRightSpec.pre6 enc Tryz.prog Tryz.f3 Rows.treeRightRow.domain false) (Rows.treeRightSpec.post enc Tryz.prog Tryz.f3 false true false false) := by
  refine returnsInHanded_of_change (C := Tryz.checked) own started (by kernel_rfl) Tryz.func3
    (ChangeSpec.witness6 (enc := enc) (C := Tryz.checked) false ⟨#[], #[.agg #[.int .i64 0, .string ⟨#[]⟩, .string ⟨#[]⟩, .int .i64 0], .int .i64 0], []⟩ 8 (by kernel_rfl) (by kernel_rfl) (by kernel_rfl) (by kernel_rfl)) ?_
  intro W base args ds gs before hval0 hW hcnd _
  have hval : ∀ (j : Nat) t v, Tryz.f3.params[j]? = some t → args[j]? = some v → Value.okWide Tryz.prog W .any base t v := hval0
  have hW' := hW
  obtain ⟨p, q, hA0, hV, rfl, hfz, hnd⟩ := hW
  have hA : DataW.TrodAll enc Tryz.prog W 0 (fun _ => true) true Tryz.f3.params.toList args.toList ds p := hA0
  rw [Tryz.params3] at hA hval
  obtain ⟨rfl, rfl⟩ := trodVars_none hV
  clear hA0 hval0
  have hA1 := hA
  obtain ⟨v0, v1, d0, d1, p0, p1, rfl, rfl, rfl, h0, h1⟩ := trodAll_two hA1
  obtain ⟨n0, s0, u0, m0, hv0⟩ := arg_op Tryz.underlying23 rfl rfl rfl rfl (by kernel_rfl) rfl ⟨rfl, by kernel_rfl, Tryz.underlying3⟩ ⟨rfl, by kernel_rfl, Tryz.underlying9⟩ ⟨rfl, by kernel_rfl, Tryz.underlying9⟩ ⟨rfl, by kernel_rfl, Tryz.underlying3⟩ h0 (hval 0 _ _ rfl rfl)
  obtain ⟨n1, rfl, rfl, rfl, hw1⟩ := open_int Tryz.underlying3 (hval 1 _ _ rfl rfl) h1
  obtain ⟨h', hK⟩ := law_true_TreeRight (argH []) n0 s0 u0 m0 n1
  refine (walk_true (Checked.mixed Tryz.checked) rfl hK (Inv.args W [] (args_dead (by simp))) (.cons (hv0 _) (.cons (.int _ _) (.nil)))).mono fun e W' he => ?_
  obtain ⟨he1, hb⟩ := he
  subst he1
  exact ⟨_, rfl, _, _, _, [], _, [], hW', trodAll_mk1 (shut_bool Tryz.underlying4 _), trodAll_stays k2 hb (by kernel_rfl) hA hA.lt, rfl, hb.frame _, fun h => by cases h⟩

theorem over : Rows.treeRightRow.holds Tryz.pinned (OpenSpec.ofChange Rows.treeRightSpec) :=
  OpenClaim.holds_of_wide 3 Tryz.f3 rfl rfl rfl rfl rfl rfl rfl ⟨rfl, rfl, rfl, rfl, rfl⟩ rfl rfl rfl rfl rfl named Tryz.func3 facts
    inst wrap
    (fun os started H enc _ => lifted os started H enc)

/-- ████ THE STATEMENT ████ -/
theorem proved : Rows.TreeRightSaid :=
  over
#print axioms proved
end Go.Proofs.YtfgoajnoahhghaaGreat.treeRight
