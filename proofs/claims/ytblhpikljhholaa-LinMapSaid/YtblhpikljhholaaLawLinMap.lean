/-
  LinMap holds: walked step by step over a heap of numbered blocks, and that walk stands for every run of the model. No conditions.
-/
import Derived.Test.YtblhpikljhholaaMapW
import Derived.Test.YtblhpikljhholaaFactsLinMap
import Derived.WalkKit
import Derived.ChangeOld
import Derived.Below
import Derived.ProofKit
import Derived.OpenShut
import Derived.ShutString
import Derived.Carry
namespace Go.Proofs.Ytblhpikljhholaa.linMap
open Go Go.Proofs.Ytblhpikljhholaa.NICE Go.Proofs.Ytblhpikljhholaa.S
open Go.ChangeShapes Go.WideShapes Go.ChangeAt Go.RowKit
open Go.ChangeMaps (open_string shut_string)
set_option linter.unusedVariables false
set_option maxRecDepth 100000

theorem own : ownKnob Try.prog.godebug = none := by kernel_rfl

theorem lifted (os : Os) (started : os.Started) (H : Type) (enc : TypeId × Value → H) :
    ReturnsInHanded {} Try.checked os 3 .any (Rows.linMapSpec.pre6 enc Try.prog Try.f3 Rows.linMapRow.domain false) (Rows.linMapSpec.post enc Try.prog Try.f3 false true false false) := by
  refine returnsInHanded_of_change (C := Try.checked) own started (by kernel_rfl) Try.func3
    (ChangeSpec.witness6 (enc := enc) (C := Try.checked) false ⟨#[], #[.slice none 0 0, .int .i64 0], []⟩ 8 (by kernel_rfl) (by kernel_rfl) (by kernel_rfl) (by kernel_rfl)) ?_
  intro W base args ds gs before hval0 hW hcnd _
  have hval : ∀ (j : Nat) t v, Try.f3.params[j]? = some t → args[j]? = some v → Value.okWide Try.prog W .any base t v := hval0
  have hW' := hW
  obtain ⟨p, q, hA0, hV, rfl, hfz, hnd⟩ := hW
  have hA : DataW.TrodAll enc Try.prog W 0 (fun _ => true) true Try.f3.params.toList args.toList ds p := hA0
  rw [Try.params3] at hA hval
  obtain ⟨rfl, rfl⟩ := trodVars_none hV
  clear hA0 hval0
  have hA1 := hA
  obtain ⟨v0, v1, d0, d1, p0, p1, rfl, rfl, rfl, h0, h1⟩ := trodAll_two hA1
  obtain ⟨a0, m0, c0, rfl⟩ := okWide_slice Try.underlying22 (hval 0 _ _ rfl rfl)
  obtain ⟨bo0, n0, k0, x0, y0, cs0, ob0, hx0, U0, sk0, hv0, ok0⟩ := slice_flatX Try.underlying22 (dd := 6) (ks := [.int .i64, .str, .str, .int .i64]) (show flat Try.prog 6 29 = some [.int .i64, .str, .str, .int .i64] by kernel_rfl) (by decide) h0 ⟨_, _, _, rfl⟩ 0
  obtain ⟨n1, rfl, rfl, rfl, hw1⟩ := open_int Try.underlying3 (hval 1 _ _ rfl rfl) h1
  obtain ⟨h', hK⟩ := law_true_LinMap (argH [(y0, ob0)]) bo0 n0 k0 x0 cs0 hx0 U0 (sk0.imp (·.1) fun q => ⟨0, .ro, q.2, by rw [argH_get]; simp [q.1]⟩) n1
  refine (walk_true (Checked.mixed Try.checked) rfl hK (Inv.args W [(y0, ob0)] (fun b p e => by
      have hm := List.mem_of_getElem? e
      simp only [List.mem_cons, List.not_mem_nil, or_false] at hm
      rcases hm with rfl
      · exact ok0 _)) (.cons (hv0 _ rfl) (.cons (.int _ _) (.nil)))).mono fun e W' he => ?_
  obtain ⟨he1, hb⟩ := he
  subst he1
  exact ⟨_, rfl, _, _, _, [], _, [], hW', trodAll_mk1 (shut_bool Try.underlying4 _), trodAll_stays k2 hb (by kernel_rfl) hA hA.lt, rfl, hb.frame _, fun h => by cases h⟩

theorem over : Rows.linMapRow.holds Try.pinned (OpenSpec.ofChange Rows.linMapSpec) :=
  OpenClaim.holds_of_wide 3 Try.f3 rfl rfl rfl rfl rfl rfl rfl ⟨rfl, rfl, rfl, rfl, rfl⟩ rfl rfl rfl rfl rfl named Try.func3 facts
    inst wrap
    (fun os started H enc _ => lifted os started H enc)

/-- ████ THE STATEMENT ████ -/
theorem proved : Rows.LinMapSaid :=
  over
#print axioms proved
end Go.Proofs.Ytblhpikljhholaa.linMap
