/-
  DropRefuses holds: walked step by step over a heap of numbered blocks, and that walk stands for every run of the model. No conditions.
-/
import Derived.Test.YtkffnkhpgdnddaaGreatDropRefuses
import Derived.Test.YtkffnkhpgdnddaaGreatFactsDropRefuses
import Derived.WalkKit
import Derived.ChangeOld
import Derived.Below
import Derived.ProofKit
import Derived.OpenShut
import Derived.ShutString
import Derived.Carry
namespace Go.Proofs.YtkffnkhpgdnddaaGreat.dropRefuses
open Go Go.Proofs.YtkffnkhpgdnddaaGreat.NICE Go.Proofs.YtkffnkhpgdnddaaGreat.S
open Go.ChangeShapes Go.WideShapes Go.ChangeAt Go.RowKit
open Go.ChangeMaps (open_string shut_string)
set_option linter.unusedVariables false
set_option maxRecDepth 100000

theorem own : ownKnob Tryz.prog.godebug = none := by kernel_rfl

theorem lifted (os : Os) (started : os.Started) (H : Type) (enc : TypeId × Value → H) :
    ReturnsInHanded {} Tryz.checked os 6 .any (Rows.dropRefusesSpec.pre6 enc Tryz.prog Tryz.f6 Rows.dropRefusesRow.domain false) (Rows.dropRefusesSpec.post enc Tryz.prog Tryz.f6 false true false false) := by
  refine returnsInHanded_of_change (C := Tryz.checked) own started (by kernel_rfl) Tryz.func6
    (ChangeSpec.witness6 (enc := enc) (C := Tryz.checked) false ⟨#[], #[.string ⟨#[]⟩, .int .i64 0, .int .i64 0, .int .i64 0], []⟩ 8 (by kernel_rfl) (by kernel_rfl) (by kernel_rfl) (by kernel_rfl)) ?_
  intro W base args ds gs before hval0 hW hcnd _
  have hval : ∀ (j : Nat) t v, Tryz.f6.params[j]? = some t → args[j]? = some v → Value.okWide Tryz.prog W .any base t v := hval0
  have hW' := hW
  obtain ⟨p, q, hA0, hV, rfl, hfz, hnd⟩ := hW
  have hA : DataW.TrodAll enc Tryz.prog W 0 (fun _ => true) true Tryz.f6.params.toList args.toList ds p := hA0
  rw [Tryz.params6] at hA hval
  obtain ⟨rfl, rfl⟩ := trodVars_none hV
  clear hA0 hval0
  have hA1 := hA
  obtain ⟨v0, v1, v2, v3, d0, d1, d2, d3, p0, p1, p2, p3, rfl, rfl, rfl, h0, h1, h2, h3⟩ := trodAll_four hA1
  obtain ⟨n0, rfl, rfl, rfl, hs0⟩ := open_string Tryz.underlying9 (hval 0 _ _ rfl rfl) h0
  obtain ⟨n1, rfl, rfl, rfl, hw1⟩ := open_int Tryz.underlying3 (hval 1 _ _ rfl rfl) h1
  obtain ⟨n2, rfl, rfl, rfl, hw2⟩ := open_int Tryz.underlying3 (hval 2 _ _ rfl rfl) h2
  obtain ⟨n3, rfl, rfl, rfl, hw3⟩ := open_int Tryz.underlying3 (hval 3 _ _ rfl rfl) h3
  obtain ⟨h', hK⟩ := law_true (argH []) n0.data.toList n1 n2 n3
  refine (walk_true (Checked.mixed Tryz.checked) rfl hK (Inv.args W [] (args_dead (by simp))) (.cons (.str _) (.cons (.int _ _) (.cons (.int _ _) (.cons (.int _ _) (.nil)))))).mono fun e W' he => ?_
  obtain ⟨he1, hb⟩ := he
  subst he1
  exact ⟨_, rfl, _, _, _, [], _, [], hW', trodAll_mk1 (shut_bool Tryz.underlying4 _), trodAll_stays k2 hb (by kernel_rfl) hA hA.lt, rfl, hb.frame _, fun h => by cases h⟩

theorem over : Rows.dropRefusesRow.holds Tryz.pinned (OpenSpec.ofChange Rows.dropRefusesSpec) :=
  OpenClaim.holds_of_wide 6 Tryz.f6 rfl rfl rfl rfl rfl rfl rfl ⟨rfl, rfl, rfl, rfl, rfl⟩ rfl rfl rfl rfl rfl named Tryz.func6 facts
    inst wrap
    (fun os started H enc _ => lifted os started H enc)

/-- ████ THE STATEMENT ████ -/
theorem proved : Rows.DropRefusesSaid :=
  over
#print axioms proved
end Go.Proofs.YtkffnkhpgdnddaaGreat.dropRefuses
