/-
  PutTurns holds: walked step by step over a heap of numbered blocks, and that walk stands for every run of the model. No conditions.
-/
import Derived.Test.YtamcodigpocecaaGreatSaysPutTurns0
import Derived.Test.YtamcodigpocecaaGreatSaysPutTurns1
import Derived.Test.YtamcodigpocecaaGreatSaysPutTurns2
import Derived.Test.YtamcodigpocecaaGreatSaysPutTurns3
import Derived.Test.YtamcodigpocecaaGreatFactsPutTurns
import Derived.WalkKit
import Derived.ChangeOld
import Derived.Below
import Derived.ProofKit
import Derived.OpenShut
import Derived.ShutString
import Derived.Carry
namespace Go.Proofs.YtamcodigpocecaaGreat.putTurns
open Go Go.Proofs.YtamcodigpocecaaGreat.NICE Go.Proofs.YtamcodigpocecaaGreat.S
open Go.ChangeShapes Go.WideShapes Go.ChangeAt Go.RowKit
open Go.ChangeMaps (open_string shut_string)
set_option linter.unusedVariables false
set_option maxRecDepth 100000

theorem own : ownKnob Tryz.prog.godebug = none := by kernel_rfl

theorem toldS [Syms] {j : Nat} {lo hi n : Int} (h : Syms.val j = lo + n % (hi - lo + 1)) (hl : lo ≤ hi) : Go.Proofs.YtamcodigpocecaaGreat.NICE.Told (.sym .i64 j lo hi) (lo + n % (hi - lo + 1)) :=
  .inr ⟨j, lo, hi, rfl, h, by have := Int.emod_nonneg n (show hi - lo + 1 ≠ 0 by omega); omega, by have := Int.emod_lt_of_pos n (show 0 < hi - lo + 1 by omega); omega⟩
theorem fits (n : Int) (h : (Lit.int .i64 n).wf = true) : -9223372036854775808 ≤ n ∧ n ≤ 9223372036854775807 := by
  simp only [Lit.wf, Bool.and_eq_true, decide_eq_true_eq] at h
  exact h

theorem walk (n0 n1 : Int) (b0 : (Lit.int .i64 n0).wf = true) (b1 : (Lit.int .i64 n1).wf = true) (w : World) : Calls Tryz.prog 4 #[.int .i64 n0, .int .i64 n1] w fun e w' => e = .returned (.bool true) ∧ Below w.heap.size w w' := by
  letI : Syms := ⟨fun i => match i with | 0 => n0 | 1 => n1 | 2 => 0 + n1 % (99 - 0 + 1) | _ => 0⟩
  obtain ⟨l0, u0⟩ := fits n0 b0
  obtain ⟨l1, u1⟩ := fits n1 b1
  have hc : 0 + n0 % (20 - 0 + 1) = 0 ∨ 0 + n0 % (20 - 0 + 1) = 1 ∨ 0 + n0 % (20 - 0 + 1) = 2 ∨ 0 + n0 % (20 - 0 + 1) = 3 ∨ 0 + n0 % (20 - 0 + 1) = 4 ∨ 0 + n0 % (20 - 0 + 1) = 5 ∨ 0 + n0 % (20 - 0 + 1) = 6 ∨ 0 + n0 % (20 - 0 + 1) = 7 ∨ 0 + n0 % (20 - 0 + 1) = 8 ∨ 0 + n0 % (20 - 0 + 1) = 9 ∨ 0 + n0 % (20 - 0 + 1) = 10 ∨ 0 + n0 % (20 - 0 + 1) = 11 ∨ 0 + n0 % (20 - 0 + 1) = 12 ∨ 0 + n0 % (20 - 0 + 1) = 13 ∨ 0 + n0 % (20 - 0 + 1) = 14 ∨ 0 + n0 % (20 - 0 + 1) = 15 ∨ 0 + n0 % (20 - 0 + 1) = 16 ∨ 0 + n0 % (20 - 0 + 1) = 17 ∨ 0 + n0 % (20 - 0 + 1) = 18 ∨ 0 + n0 % (20 - 0 + 1) = 19 ∨ 0 + n0 % (20 - 0 + 1) = 20 := by omega
  rcases hc with hc | hc | hc | hc | hc | hc | hc | hc | hc | hc | hc | hc | hc | hc | hc | hc | hc | hc | hc | hc | hc
  · have hc := hc
    have hT : WOk T0 := by
      intro r hr
      simp only [T0, List.mem_cons, List.not_mem_nil, or_false] at hr
      rcases hr with rfl | rfl
      · exact ⟨by decide, by decide, by decide, .inl (congrArg (NVal.int .i64) hc.symm)⟩
      · exact ⟨by decide, by decide, by decide, toldS rfl (by decide)⟩
    exact sym_walk (Checked.mixed Tryz.checked) (envL0 hT) (by kernel_rfl) (says0 hT) w (.cons (.sym l0 u0) (.cons (.sym l1 u1) (.nil)))
  · have hc := hc
    have hT : WOk T1 := by
      intro r hr
      simp only [T1, List.mem_cons, List.not_mem_nil, or_false] at hr
      rcases hr with rfl | rfl
      · exact ⟨by decide, by decide, by decide, .inl (congrArg (NVal.int .i64) hc.symm)⟩
      · exact ⟨by decide, by decide, by decide, toldS rfl (by decide)⟩
    exact sym_walk (Checked.mixed Tryz.checked) (envL1 hT) (by kernel_rfl) (says1 hT) w (.cons (.sym l0 u0) (.cons (.sym l1 u1) (.nil)))
  · have hc := hc
    have hT : WOk T2 := by
      intro r hr
      simp only [T2, List.mem_cons, List.not_mem_nil, or_false] at hr
      rcases hr with rfl | rfl
      · exact ⟨by decide, by decide, by decide, .inl (congrArg (NVal.int .i64) hc.symm)⟩
      · exact ⟨by decide, by decide, by decide, toldS rfl (by decide)⟩
    exact sym_walk (Checked.mixed Tryz.checked) (envL2 hT) (by kernel_rfl) (says2 hT) w (.cons (.sym l0 u0) (.cons (.sym l1 u1) (.nil)))
  · have hc := hc
    have hT : WOk T3 := by
      intro r hr
      simp only [T3, List.mem_cons, List.not_mem_nil, or_false] at hr
      rcases hr with rfl | rfl
      · exact ⟨by decide, by decide, by decide, .inl (congrArg (NVal.int .i64) hc.symm)⟩
      · exact ⟨by decide, by decide, by decide, toldS rfl (by decide)⟩
    exact sym_walk (Checked.mixed Tryz.checked) (envL3 hT) (by kernel_rfl) (says3 hT) w (.cons (.sym l0 u0) (.cons (.sym l1 u1) (.nil)))
  · have hc := hc
    have hT : WOk T4 := by
      intro r hr
      simp only [T4, List.mem_cons, List.not_mem_nil, or_false] at hr
      rcases hr with rfl | rfl
      · exact ⟨by decide, by decide, by decide, .inl (congrArg (NVal.int .i64) hc.symm)⟩
      · exact ⟨by decide, by decide, by decide, toldS rfl (by decide)⟩
    exact sym_walk (Checked.mixed Tryz.checked) (envL4 hT) (by kernel_rfl) (says4 hT) w (.cons (.sym l0 u0) (.cons (.sym l1 u1) (.nil)))
  · have hc := hc
    have hT : WOk T5 := by
      intro r hr
      simp only [T5, List.mem_cons, List.not_mem_nil, or_false] at hr
      rcases hr with rfl | rfl
      · exact ⟨by decide, by decide, by decide, .inl (congrArg (NVal.int .i64) hc.symm)⟩
      · exact ⟨by decide, by decide, by decide, toldS rfl (by decide)⟩
    exact sym_walk (Checked.mixed Tryz.checked) (envL5 hT) (by kernel_rfl) (says5 hT) w (.cons (.sym l0 u0) (.cons (.sym l1 u1) (.nil)))
  · have hc := hc
    have hT : WOk T6 := by
      intro r hr
      simp only [T6, List.mem_cons, List.not_mem_nil, or_false] at hr
      rcases hr with rfl | rfl
      · exact ⟨by decide, by decide, by decide, .inl (congrArg (NVal.int .i64) hc.symm)⟩
      · exact ⟨by decide, by decide, by decide, toldS rfl (by decide)⟩
    exact sym_walk (Checked.mixed Tryz.checked) (envL6 hT) (by kernel_rfl) (says6 hT) w (.cons (.sym l0 u0) (.cons (.sym l1 u1) (.nil)))
  · have hc := hc
    have hT : WOk T7 := by
      intro r hr
      simp only [T7, List.mem_cons, List.not_mem_nil, or_false] at hr
      rcases hr with rfl | rfl
      · exact ⟨by decide, by decide, by decide, .inl (congrArg (NVal.int .i64) hc.symm)⟩
      · exact ⟨by decide, by decide, by decide, toldS rfl (by decide)⟩
    exact sym_walk (Checked.mixed Tryz.checked) (envL7 hT) (by kernel_rfl) (says7 hT) w (.cons (.sym l0 u0) (.cons (.sym l1 u1) (.nil)))
  · have hc := hc
    have hT : WOk T8 := by
      intro r hr
      simp only [T8, List.mem_cons, List.not_mem_nil, or_false] at hr
      rcases hr with rfl | rfl
      · exact ⟨by decide, by decide, by decide, .inl (congrArg (NVal.int .i64) hc.symm)⟩
      · exact ⟨by decide, by decide, by decide, toldS rfl (by decide)⟩
    exact sym_walk (Checked.mixed Tryz.checked) (envL8 hT) (by kernel_rfl) (says8 hT) w (.cons (.sym l0 u0) (.cons (.sym l1 u1) (.nil)))
  · have hc := hc
    have hT : WOk T9 := by
      intro r hr
      simp only [T9, List.mem_cons, List.not_mem_nil, or_false] at hr
      rcases hr with rfl | rfl
      · exact ⟨by decide, by decide, by decide, .inl (congrArg (NVal.int .i64) hc.symm)⟩
      · exact ⟨by decide, by decide, by decide, toldS rfl (by decide)⟩
    exact sym_walk (Checked.mixed Tryz.checked) (envL9 hT) (by kernel_rfl) (says9 hT) w (.cons (.sym l0 u0) (.cons (.sym l1 u1) (.nil)))
  · have hc := hc
    have hT : WOk T10 := by
      intro r hr
      simp only [T10, List.mem_cons, List.not_mem_nil, or_false] at hr
      rcases hr with rfl | rfl
      · exact ⟨by decide, by decide, by decide, .inl (congrArg (NVal.int .i64) hc.symm)⟩
      · exact ⟨by decide, by decide, by decide, toldS rfl (by decide)⟩
    exact sym_walk (Checked.mixed Tryz.checked) (envL10 hT) (by kernel_rfl) (says10 hT) w (.cons (.sym l0 u0) (.cons (.sym l1 u1) (.nil)))
  · have hc := hc
    have hT : WOk T11 := by
      intro r hr
      simp only [T11, List.mem_cons, List.not_mem_nil, or_false] at hr
      rcases hr with rfl | rfl
      · exact ⟨by decide, by decide, by decide, .inl (congrArg (NVal.int .i64) hc.symm)⟩
      · exact ⟨by decide, by decide, by decide, toldS rfl (by decide)⟩
    exact sym_walk (Checked.mixed Tryz.checked) (envL11 hT) (by kernel_rfl) (says11 hT) w (.cons (.sym l0 u0) (.cons (.sym l1 u1) (.nil)))
  · have hc := hc
    have hT : WOk T12 := by
      intro r hr
      simp only [T12, List.mem_cons, List.not_mem_nil, or_false] at hr
      rcases hr with rfl | rfl
      · exact ⟨by decide, by decide, by decide, .inl (congrArg (NVal.int .i64) hc.symm)⟩
      · exact ⟨by decide, by decide, by decide, toldS rfl (by decide)⟩
    exact sym_walk (Checked.mixed Tryz.checked) (envL12 hT) (by kernel_rfl) (says12 hT) w (.cons (.sym l0 u0) (.cons (.sym l1 u1) (.nil)))
  · have hc := hc
    have hT : WOk T13 := by
      intro r hr
      simp only [T13, List.mem_cons, List.not_mem_nil, or_false] at hr
      rcases hr with rfl | rfl
      · exact ⟨by decide, by decide, by decide, .inl (congrArg (NVal.int .i64) hc.symm)⟩
      · exact ⟨by decide, by decide, by decide, toldS rfl (by decide)⟩
    exact sym_walk (Checked.mixed Tryz.checked) (envL13 hT) (by kernel_rfl) (says13 hT) w (.cons (.sym l0 u0) (.cons (.sym l1 u1) (.nil)))
  · have hc := hc
    have hT : WOk T14 := by
      intro r hr
      simp only [T14, List.mem_cons, List.not_mem_nil, or_false] at hr
      rcases hr with rfl | rfl
      · exact ⟨by decide, by decide, by decide, .inl (congrArg (NVal.int .i64) hc.symm)⟩
      · exact ⟨by decide, by decide, by decide, toldS rfl (by decide)⟩
    exact sym_walk (Checked.mixed Tryz.checked) (envL14 hT) (by kernel_rfl) (says14 hT) w (.cons (.sym l0 u0) (.cons (.sym l1 u1) (.nil)))
  · have hc := hc
    have hT : WOk T15 := by
      intro r hr
      simp only [T15, List.mem_cons, List.not_mem_nil, or_false] at hr
      rcases hr with rfl | rfl
      · exact ⟨by decide, by decide, by decide, .inl (congrArg (NVal.int .i64) hc.symm)⟩
      · exact ⟨by decide, by decide, by decide, toldS rfl (by decide)⟩
    exact sym_walk (Checked.mixed Tryz.checked) (envL15 hT) (by kernel_rfl) (says15 hT) w (.cons (.sym l0 u0) (.cons (.sym l1 u1) (.nil)))
  · have hc := hc
    have hT : WOk T16 := by
      intro r hr
      simp only [T16, List.mem_cons, List.not_mem_nil, or_false] at hr
      rcases hr with rfl | rfl
      · exact ⟨by decide, by decide, by decide, .inl (congrArg (NVal.int .i64) hc.symm)⟩
      · exact ⟨by decide, by decide, by decide, toldS rfl (by decide)⟩
    exact sym_walk (Checked.mixed Tryz.checked) (envL16 hT) (by kernel_rfl) (says16 hT) w (.cons (.sym l0 u0) (.cons (.sym l1 u1) (.nil)))
  · have hc := hc
    have hT : WOk T17 := by
      intro r hr
      simp only [T17, List.mem_cons, List.not_mem_nil, or_false] at hr
      rcases hr with rfl | rfl
      · exact ⟨by decide, by decide, by decide, .inl (congrArg (NVal.int .i64) hc.symm)⟩
      · exact ⟨by decide, by decide, by decide, toldS rfl (by decide)⟩
    exact sym_walk (Checked.mixed Tryz.checked) (envL17 hT) (by kernel_rfl) (says17 hT) w (.cons (.sym l0 u0) (.cons (.sym l1 u1) (.nil)))
  · have hc := hc
    have hT : WOk T18 := by
      intro r hr
      simp only [T18, List.mem_cons, List.not_mem_nil, or_false] at hr
      rcases hr with rfl | rfl
      · exact ⟨by decide, by decide, by decide, .inl (congrArg (NVal.int .i64) hc.symm)⟩
      · exact ⟨by decide, by decide, by decide, toldS rfl (by decide)⟩
    exact sym_walk (Checked.mixed Tryz.checked) (envL18 hT) (by kernel_rfl) (says18 hT) w (.cons (.sym l0 u0) (.cons (.sym l1 u1) (.nil)))
  · have hc := hc
    have hT : WOk T19 := by
      intro r hr
      simp only [T19, List.mem_cons, List.not_mem_nil, or_false] at hr
      rcases hr with rfl | rfl
      · exact ⟨by decide, by decide, by decide, .inl (congrArg (NVal.int .i64) hc.symm)⟩
      · exact ⟨by decide, by decide, by decide, toldS rfl (by decide)⟩
    exact sym_walk (Checked.mixed Tryz.checked) (envL19 hT) (by kernel_rfl) (says19 hT) w (.cons (.sym l0 u0) (.cons (.sym l1 u1) (.nil)))
  · have hc := hc
    have hT : WOk T20 := by
      intro r hr
      simp only [T20, List.mem_cons, List.not_mem_nil, or_false] at hr
      rcases hr with rfl | rfl
      · exact ⟨by decide, by decide, by decide, .inl (congrArg (NVal.int .i64) hc.symm)⟩
      · exact ⟨by decide, by decide, by decide, toldS rfl (by decide)⟩
    exact sym_walk (Checked.mixed Tryz.checked) (envL20 hT) (by kernel_rfl) (says20 hT) w (.cons (.sym l0 u0) (.cons (.sym l1 u1) (.nil)))

theorem lifted (os : Os) (started : os.Started) (H : Type) (enc : TypeId × Value → H) :
    ReturnsInHanded {} Tryz.checked os 4 .any (Rows.putTurnsSpec.pre6 enc Tryz.prog Tryz.f4 Rows.putTurnsRow.domain false) (Rows.putTurnsSpec.post enc Tryz.prog Tryz.f4 false true false false) := by
  refine returnsInHanded_of_change (C := Tryz.checked) own started (by kernel_rfl) Tryz.func4
    (ChangeSpec.witness6 (enc := enc) (C := Tryz.checked) false ⟨#[], #[.int .i64 0, .int .i64 0], []⟩ 8 (by kernel_rfl) (by kernel_rfl) (by kernel_rfl) (by kernel_rfl)) ?_
  intro W base args ds gs before hval0 hW hcnd _
  have hval : ∀ (j : Nat) t v, Tryz.f4.params[j]? = some t → args[j]? = some v → Value.okWide Tryz.prog W .any base t v := hval0
  have hW' := hW
  obtain ⟨p, q, hA0, hV, rfl, hfz, hnd⟩ := hW
  have hA : DataW.TrodAll enc Tryz.prog W 0 (fun _ => true) true Tryz.f4.params.toList args.toList ds p := hA0
  rw [Tryz.params4] at hA hval
  obtain ⟨rfl, rfl⟩ := trodVars_none hV
  clear hA0 hval0
  have hA1 := hA
  obtain ⟨v0, v1, d0, d1, p0, p1, rfl, rfl, rfl, h0, h1⟩ := trodAll_two hA1
  obtain ⟨n0, rfl, rfl, rfl, hw0⟩ := open_int Tryz.underlying3 (hval 0 _ _ rfl rfl) h0
  obtain ⟨n1, rfl, rfl, rfl, hw1⟩ := open_int Tryz.underlying3 (hval 1 _ _ rfl rfl) h1
  refine (walk n0 n1 hw0 hw1 W).mono fun e W' he => ?_
  obtain ⟨he1, hb⟩ := he
  subst he1
  exact ⟨_, rfl, _, _, _, [], _, [], hW', trodAll_mk1 (shut_bool Tryz.underlying4 _), trodAll_stays k2 hb (by kernel_rfl) hA hA.lt, rfl, hb.frame _, fun h => by cases h⟩

theorem over : Rows.putTurnsRow.holds Tryz.pinned (OpenSpec.ofChange Rows.putTurnsSpec) :=
  OpenClaim.holds_of_wide 4 Tryz.f4 rfl rfl rfl rfl rfl rfl rfl ⟨rfl, rfl, rfl, rfl, rfl⟩ rfl rfl rfl rfl rfl named Tryz.func4 facts
    inst wrap
    (fun os started H enc _ => lifted os started H enc)

/-- ████ THE STATEMENT ████ -/
theorem proved : Rows.PutTurnsSaid :=
  over
#print axioms proved
end Go.Proofs.YtamcodigpocecaaGreat.putTurns
