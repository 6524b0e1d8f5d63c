/-
  DropPaths holds: walked step by step over a heap of numbered blocks, and that walk stands for every run of the model. No conditions.
-/
import Derived.Test.YtamcodigpocecaaGreatSaysDropPaths
import Derived.Test.YtamcodigpocecaaGreatFactsDropPaths
import Derived.WalkKit
import Derived.ChangeOld
import Derived.Below
import Derived.ProofKit
import Derived.OpenShut
import Derived.ShutString
import Derived.Carry
namespace Go.Proofs.YtamcodigpocecaaGreat.dropPaths
open Go Go.Proofs.YtamcodigpocecaaGreat.NICE Go.Proofs.YtamcodigpocecaaGreat.S
open Go.ChangeShapes Go.WideShapes Go.ChangeAt Go.RowKit
open Go.ChangeMaps (open_string shut_string)
set_option linter.unusedVariables false
set_option maxRecDepth 100000

theorem own : ownKnob Tryz.prog.godebug = none := by kernel_rfl

theorem toldS [Syms] {j : Nat} {lo hi n : Int} (h : Syms.val j = lo + n % (hi - lo + 1)) (hl : lo ≤ hi) : Go.Proofs.YtamcodigpocecaaGreat.NICE.Told (.sym .i64 j lo hi) (lo + n % (hi - lo + 1)) :=
  .inr ⟨j, lo, hi, rfl, h, by have := Int.emod_nonneg n (show hi - lo + 1 ≠ 0 by omega); omega, by have := Int.emod_lt_of_pos n (show 0 < hi - lo + 1 by omega); omega⟩
theorem fits (n : Int) (h : (Lit.int .i64 n).wf = true) : -9223372036854775808 ≤ n ∧ n ≤ 9223372036854775807 := by
  simp only [Lit.wf, Bool.and_eq_true, decide_eq_true_eq] at h
  exact h

theorem walk (n0 : Int) (b0 : (Lit.int .i64 n0).wf = true) (w : World) : Calls Tryz.prog 6 #[.int .i64 n0] w fun e w' => e = .returned (.bool true) ∧ Below w.heap.size w w' := by
  letI : Syms := ⟨fun i => match i with | 0 => n0 | 1 => 0 + n0 % (99 - 0 + 1) | _ => 0⟩
  obtain ⟨l0, u0⟩ := fits n0 b0
  have hT : WOk T := by
    intro r hr
    simp only [T, List.mem_cons, List.not_mem_nil, or_false] at hr
    rcases hr with rfl
    · exact ⟨by decide, by decide, by decide, toldS rfl (by decide)⟩
  exact sym_walk (Checked.mixed Tryz.checked) (envL hT) (by kernel_rfl) (says hT) w (.cons (.sym l0 u0) (.nil))

theorem lifted (os : Os) (started : os.Started) (H : Type) (enc : TypeId × Value → H) :
    ReturnsInHanded {} Tryz.checked os 6 .any (Rows.dropPathsSpec.pre6 enc Tryz.prog Tryz.f6 Rows.dropPathsRow.domain false) (Rows.dropPathsSpec.post enc Tryz.prog Tryz.f6 false true false false) := by
  refine returnsInHanded_of_change (C := Tryz.checked) own started (by kernel_rfl) Tryz.func6
    (ChangeSpec.witness6 (enc := enc) (C := Tryz.checked) false ⟨#[], #[.int .i64 0], []⟩ 8 (by kernel_rfl) (by kernel_rfl) (by kernel_rfl) (by kernel_rfl)) ?_
  intro W base args ds gs before hval0 hW hcnd _
  have hval : ∀ (j : Nat) t v, Tryz.f6.params[j]? = some t → args[j]? = some v → Value.okWide Tryz.prog W .any base t v := hval0
  have hW' := hW
  obtain ⟨p, q, hA0, hV, rfl, hfz, hnd⟩ := hW
  have hA : DataW.TrodAll enc Tryz.prog W 0 (fun _ => true) true Tryz.f6.params.toList args.toList ds p := hA0
  rw [Tryz.params6] at hA hval
  obtain ⟨rfl, rfl⟩ := trodVars_none hV
  clear hA0 hval0
  have hA1 := hA
  obtain ⟨v0, d0, rfl, rfl, h0⟩ := trodAll_one hA1
  obtain ⟨n0, rfl, rfl, rfl, hw0⟩ := open_int Tryz.underlying3 (hval 0 _ _ rfl rfl) h0
  refine (walk n0 hw0 W).mono fun e W' he => ?_
  obtain ⟨he1, hb⟩ := he
  subst he1
  exact ⟨_, rfl, _, _, _, [], _, [], hW', trodAll_mk1 (shut_bool Tryz.underlying4 _), trodAll_stays k2 hb (by kernel_rfl) hA hA.lt, rfl, hb.frame _, fun h => by cases h⟩

theorem over : Rows.dropPathsRow.holds Tryz.pinned (OpenSpec.ofChange Rows.dropPathsSpec) :=
  OpenClaim.holds_of_wide 6 Tryz.f6 rfl rfl rfl rfl rfl rfl rfl ⟨rfl, rfl, rfl, rfl, rfl⟩ rfl rfl rfl rfl rfl named Tryz.func6 facts
    inst wrap
    (fun os started H enc _ => lifted os started H enc)

/-- ████ THE STATEMENT ████ -/
theorem proved : Rows.DropPathsSaid :=
  over
#print axioms proved
end Go.Proofs.YtamcodigpocecaaGreat.dropPaths
