/- Numbers of which only their places are told: calls over them. -/
import Derived.Test.YtamcodigpocecaaGreatNice39
set_option linter.unusedVariables false
set_option linter.unusedSimpArgs false
set_option linter.unusedSectionVars false
namespace Go.Proofs.YtamcodigpocecaaGreat.NICE
open Go Go.RowKit
variable [Syms]

variable {P : Program}

/-- this number, whole or by its place -/
def Told (v : NVal) (n : Int) : Prop := v = .int .i64 n ∨ ∃ j lo hi, v = .sym .i64 j lo hi ∧ Syms.val j = n ∧ lo ≤ n ∧ n ≤ hi

theorem VR.told {ι : Inj} {v : NVal} {n : Int} {rv : Value} (t : Told v n) (h : VR ι (.int .i64 n) rv) : VR ι v rv := by
  rcases t with rfl | ⟨j, lo, hi, rfl, rfl, h1, h2⟩
  · exact h
  · cases h; exact .sym h1 h2

theorem VR.un_told {ι : Inj} {i : Nat} {lo hi : Int} {rv : Value} (h : VR ι (.sym .i64 i lo hi) rv) : VR ι (.int .i64 (Syms.val i)) rv := by
  cases h; exact .int _ _

/-- a number's remainder within bounds: at which place, or which it is -/
abbrev WT := List (Nat × Int × Int × NVal)
def withinKnown (f : FuncId) (T : WT) : CallF := fun g l h => if g = f then (match l with
  | [.sym .i64 i _ _, .int .i64 lo, .int .i64 hi] => (match T.find? fun r => decide (r.1 = i) && decide (r.2.1 = lo) && decide (r.2.2.1 = hi) with
    | some r => some (r.2.2.2, h)
    | none => none)
  | _ => none) else none

def WOk (T : WT) : Prop := ∀ r ∈ T, -2 ^ 42 < r.2.1 ∧ r.2.1 ≤ r.2.2.1 ∧ r.2.2.1 < 2 ^ 42 ∧ Told r.2.2.2 (r.2.1 + Syms.val r.1 % (r.2.2.1 - r.2.1 + 1))

theorem withinKnown_ok {f : FuncId} {T : WT} {F : CallF} (hF : CallOk P F) (hw : ∀ n lo hi h, -2 ^ 42 < lo → lo ≤ hi → hi < 2 ^ 42 → F f [.int .i64 n, .int .i64 lo, .int .i64 hi] h = some (.int .i64 (lo + n % (hi - lo + 1)), h))
    (hT : WOk T) : CallOk P (withinKnown f T) := by
  intro g as h v h' e
  unfold withinKnown at e
  split at e
  · rename_i hg
    subst hg
    split at e
    · rename_i i a b lo hi
      split at e
      · rename_i r hr
        cases e
        have hm := List.mem_of_find?_eq_some hr
        have hp := List.find?_some hr
        simp only [Bool.and_eq_true, decide_eq_true_eq] at hp
        obtain ⟨⟨rfl, rfl⟩, rfl⟩ := hp
        obtain ⟨t1, t2, t3, t4⟩ := hT r hm
        have d := hF _ _ _ _ _ (hw (Syms.val r.1) r.2.1 r.2.2.1 h t1 t2 t3)
        have un : ∀ {ι : Inj} {ra : Array Value}, VRs ι [.sym .i64 r.1 a b, .int .i64 r.2.1, .int .i64 r.2.2.1] ra.toList → VRs ι [.int .i64 (Syms.val r.1), .int .i64 r.2.1, .int .i64 r.2.2.1] ra.toList := by
          intro ι ra hv
          generalize ra.toList = l at hv
          cases hv with
          | cons x y => exact .cons x.un_told y
        rcases d with ⟨d1, d2⟩ | ⟨_, d2⟩
        · exact .inl ⟨d1, fun w0 ι w ra R I hv hR => d2 w0 ι w ra R I (un hv) fun ι' w' rv hr => hR ι' w' rv (VR.told t4 hr)⟩
        · exact .inr ⟨rfl, fun ι ra hv => by
            obtain ⟨rv, q1, q2⟩ := d2 ι ra (un hv)
            exact ⟨rv, VR.told t4 q1, q2⟩⟩
      · cases e
    · cases e
  · cases e

/-- a call that is worked out once over such numbers says true of all of them -/
theorem sym_walk (hm : P.follows .mixedOrders = true) (E : Env P drStatic) {m n : Nat} {f : FuncId} {us : List NVal} (hk : E.known f us NHeap.empty = none) (e : saysTrue (tF P E m (n + 1) f us NHeap.empty) = true) (w : World) {ra : Array Value} (hv : VRs (fun _ => none) us ra.toList) :
    Calls P f ra w fun e w' => e = .returned (.bool true) ∧ Below w.heap.size w w' := by
  cases hr : tF P E m (n + 1) f us NHeap.empty with
  | none => rw [hr] at e; cases e
  | some p =>
    obtain ⟨v, h'⟩ := p
    rw [hr] at e
    cases v with
    | bool b => cases b with
      | true =>
        refine (tF_step hm E m (tF_sound hm E m n) hr hk).2 w (fun _ => none) w ra _ (Inv.start w) hv fun ι' w' rv hv I' S' => ?_
        cases hv
        exact ⟨rfl, I'.below⟩
      | false => cases e
    | _ => cases e
end Go.Proofs.YtamcodigpocecaaGreat.NICE
