/-
  ScriptAll holds: walked step by step over a heap of numbered blocks, and that walk stands for every run of the model. No conditions.
-/
import Derived.Test.YtfgoajnoahhghaaGreatDoorScriptAll
import Derived.Test.YtfgoajnoahhghaaGreatDoorFactsScriptAll
import Derived.WalkKit
import Derived.Test.YtfgoajnoahhghaaGreatDoorTie
import Derived.Test.YtfgoajnoahhghaaGreatDoorCards
import Derived.LaidMore
import Derived.LaidOnce
import Derived.Stop.Joined
import Derived.SevenTiedAt
import Derived.ChangeOld
import Derived.Below
import Derived.ProofKit
import Derived.OpenShut
import Derived.ShutString
import Derived.Carry
namespace Go.Proofs.YtfgoajnoahhghaaGreatDoor.scriptAll
open Go Go.Proofs.YtfgoajnoahhghaaGreatDoor.NICE Go.Proofs.YtfgoajnoahhghaaGreatDoor.S
open Go.ChangeShapes Go.WideShapes Go.ChangeAt Go.RowKit
open Go.ChangeMaps (open_string shut_string)
set_option linter.unusedVariables false
set_option maxRecDepth 100000

theorem own : ownKnob Tryz.prog.godebug = none := by kernel_rfl

theorem door_met (os : Os) (args : Array Value) : laidMetH Tryz.prog Rows.scriptAllRow.laid ((World.doorLaid Tryz.prog 200 os).forCall (fun _ _ => 0) ⟨#[], args, []⟩).memory :=
  laidMetH_of_parts3 (fuel := 8) (laidMet_of_run' 8 (by kernel_rfl) (by kernel_rfl)) (by kernel_rfl) (by kernel_rfl)

theorem lifted (os : Os) (started : os.Started) (H : Type) (enc : TypeId × Value → H) :
    ReturnsInHanded {} Tryz.checked os 4 .any (fun w args => (Rows.scriptAllSpec.pre enc Tryz.prog Tryz.f4 [] false w args ∧ laidMetH Tryz.prog Rows.scriptAllRow.laid w) ∧ sizedMet enc Tryz.prog Tryz.f4 (OpenSpec.ofChange Rows.scriptAllSpec) false w args)
      (Rows.scriptAllSpec.post enc Tryz.prog Tryz.f4 false true false false) := by
  refine returnsInHanded_of_change_and (C := Tryz.checked) (X := fun w _ => laidMetH Tryz.prog Rows.scriptAllRow.laid w) (fun _ _ _ hh h => h.of_heap hh) own started (by kernel_rfl) Tryz.func4
    (ChangeSpec.witness_shaped (enc := enc) (C := Tryz.checked) (os := os) (X := fun w _ => laidMetH Tryz.prog Rows.scriptAllRow.laid w) false (World.doorLaid Tryz.prog 200 os) #[.slice none 0 0, .int .i64 0, .int .i64 0] 8 rfl (World.shaped_of_RefB (by kernel_rfl) (by kernel_rfl)) (by kernel_rfl) (by kernel_rfl) (by kernel_rfl) (door_met os _)) ?_
  intro W base args ds gs before hval0 hW _ _ hL _
  have hval : ∀ (j : Nat) t v, Tryz.f4.params[j]? = some t → args[j]? = some v → Value.okWide Tryz.prog W .any base t v := hval0
  have hW' := hW
  obtain ⟨p, q, hA0, hV, rfl, hfz, hnd⟩ := hW
  have hA : DataW.TrodAll enc Tryz.prog W 0 (fun _ => true) true Tryz.f4.params.toList args.toList ds p := hA0
  rw [Tryz.params4] at hA hval
  obtain ⟨rfl, rfl⟩ := trodVars_none hV
  clear hA0 hval0
  have hA1 := hA
  obtain ⟨v0, v1, v2, d0, d1, d2, p0, p1, p2, rfl, rfl, rfl, h0, h1, h2⟩ := trodAll_three hA1
  obtain ⟨a0, m0, c0, rfl⟩ := okWide_slice Tryz.underlying39 (hval 0 _ _ rfl rfl)
  obtain ⟨bo0, n0, k0, x0, y0, cs0, ob0, hx0, G0, len0, _, sk0, hv0, ok0⟩ := slice_onesX Tryz.underlying39 (by kernel_rfl) (fun u => ∃ n, u = NVal.int .u8 n ∧ (Lit.int .u8 n).wf = true) (byte_one Tryz.underlying5) h0 ⟨_, _, _, rfl⟩ 0
  obtain ⟨n1, rfl, rfl, rfl, hw1⟩ := open_int Tryz.underlying3 (hval 1 _ _ rfl rfl) h1
  obtain ⟨n2, rfl, rfl, rfl, hw2⟩ := open_int Tryz.underlying3 (hval 2 _ _ rfl rfl) h2
  obtain ⟨h', hK⟩ := law_true_ScriptAll (argH [(y0, ob0)]) bo0 n0 k0 x0 cs0 hx0 G0 len0 (sk0.imp (·.1) fun q => ⟨0, .ro, q.2, by rw [argH_get]; simp [q.1]⟩) n1 n2
  refine (walk_true (Checked.mixed Tryz.checked) rfl hK (Inv.args W [(y0, ob0)] (fun b p e => by
      have hm := List.mem_of_getElem? e
      simp only [List.mem_cons, List.not_mem_nil, or_false] at hm
      rcases hm with rfl
      · exact ok0 _)) (.cons (hv0 _ rfl) (.cons (.int _ _) (.cons (.int _ _) (.nil))))).mono fun e W' he => ?_
  obtain ⟨he1, hb⟩ := he
  subst he1
  exact ⟨_, rfl, _, _, _, [], _, [], hW', trodAll_mk1 (shut_bool Tryz.underlying4 _), trodAll_stays k2 hb (by kernel_rfl) hA hA.lt, rfl, hb.frame _, fun h => by cases h⟩

theorem over : Rows.scriptAllRow.holds Tryz.pinned (OpenSpec.ofChange Rows.scriptAllSpec) :=
  OpenClaim.holds_of_wide 4 Tryz.f4 rfl rfl rfl rfl rfl rfl rfl ⟨rfl, rfl, rfl, rfl, rfl⟩ rfl rfl rfl rfl rfl named Tryz.func4 facts
    inst wrap
    (fun os started H enc _ => lifted os started H enc)

theorem row_tie : Rows.scriptAllRow.laidByTextAt .later Tryz.pinned [.data, .data, .data] true := scriptAll_row_tie

/-- ████ THE STATEMENT: the tied card ████ -/
theorem proved : Rows.ScriptAllCardSaid :=
  Claim7.holds_tied_plain_at .later [] [.data, .data, .data] true (true, "b5d84fd5a04abf7b0566341ef84969ef2ec2790596de6dbae792584d7d7e88ab") true
    over (fun _ h => by cases h) (by kernel_rfl) (fun _ h => by cases h) row_tie rfl ⟨rfl, rfl⟩ (by kernel_rfl) rfl
    (fun f fn hf hfn => by
      obtain rfl : f = 4 := Option.some.inj ((named).symm.trans hf) |>.symm
      obtain rfl : fn = Tryz.f4 := (Option.some.inj (Tryz.func4.symm.trans hfn)).symm
      exact ⟨by kernel_rfl, fun j t ht => by
        rw [Tryz.params4] at ht
        rcases j with _ | _ | _ | j
        · obtain rfl : t = 39 := by simpa using ht.symm
          exact (show Tryz.prog.wantsStandIn 39 = false by kernel_rfl)
        · obtain rfl : t = 3 := by simpa using ht.symm
          exact (show Tryz.prog.wantsStandIn 3 = false by kernel_rfl)
        · obtain rfl : t = 3 := by simpa using ht.symm
          exact (show Tryz.prog.wantsStandIn 3 = false by kernel_rfl)
        · simp at ht⟩)
    (by kernel_rfl)
#print axioms proved
end Go.Proofs.YtfgoajnoahhghaaGreatDoor.scriptAll
