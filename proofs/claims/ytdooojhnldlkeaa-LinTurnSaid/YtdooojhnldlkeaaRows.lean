/-
  No cell of these rows narrows 'for every input' (looked for: loops, veiled, ifaces, maps, wideKeys, modest, calm, conditions, laid).
  DERIVED. THE GIVEN ROWS OF THIS SEAT. 5 by the template 'for every input the law returns true; each argument reads behind the call as it read before'; 0 by the template 'total and deterministic' (their statements: YtdooojhnldlkeaaTotals.lean).
  GIVEN WITH THE SEED: the statements are not yours to turn. If you find one false, say at which input.
  Laid BY PROGRAM, IN A SANDBOX (cutbox-rows.mjs): the forced cells as the released guide's own fill.sh prints them over the translation 45a753fa65371ba1… (all of the seat's roots in one cut). By AI agents, Wed Nov 11 2026. No macro, syntax, notation, axiom, sorry.
-/
import Derived.Test.YtdooojhnldlkeaaChecked
import GoSem.Claim
import GoSem.ClaimJoined
import GoSem.ClaimMapViews
import Derived.JoinedTies
import Derived.KernelRfl
namespace Go.Proofs.Ytdooojhnldlkeaa
/- THE CELL 'sum', in the pinned program and in every row, IS THE sha256 OF THE DUMP (.gsa) THAT YtdooojhnldlkeaaProg.lean LOADS. Nothing in Lean hashes anything: it is a label: what it is worth is what the hold of that sum in a sandbox is worth. -/
noncomputable def Try.pinned : Pinned := { name := "ytdooojhnldlkeaa", sum := "45a753fa65371ba1d444616f7b7116d2138b8f664ca83dcb647ff04a796ae67f", checked := Try.checked }
namespace Rows
def none {H : Type} : Left H := { results := [], args := [] }

/-- 'tendrillaw17.LinRuns': WHATEVER THE INPUT: true; the input reads as it did. -/
def linRunsSpec : ChangeSpec := { name := "linRuns", fn := fun _ => fun
  | [] => { results := [.lit (.bool true)], args := [] }
  | _ => none }
def linRunsRow : OpenClaim := { program := "ytdooojhnldlkeaa", sum := "45a753fa65371ba1d444616f7b7116d2138b8f664ca83dcb647ff04a796ae67f", func := "tendril/tendrillaw17.LinRuns", spec := "linRuns", inPlace := ["slices.overlaps[tendril/api.Entry]"], apart := false }
def LinRunsSaid : Prop := linRunsRow.holds Try.pinned (OpenSpec.ofChange linRunsSpec)

/-- ITS FALSE NEIGHBOUR: 'it returns false'. Refute it at one input. -/
def linRunsWrong : ChangeSpec := { name := "linRuns", fn := fun _ => fun
  | [] => { results := [.lit (.bool false)], args := [] }
  | _ => none }
def LinRunsWrongFalsely : Prop := linRunsRow.holds Try.pinned (OpenSpec.ofChange linRunsWrong)

/-- 'tendrillaw17.LinMap': WHATEVER THE INPUT: true; the input reads as it did. -/
def linMapSpec : ChangeSpec := { name := "linMap", fn := fun _ => fun
  | [d1, d2] => { results := [.lit (.bool true)], args := [d1, d2] }
  | _ => none }
def linMapRow : OpenClaim := { program := "ytdooojhnldlkeaa", sum := "45a753fa65371ba1d444616f7b7116d2138b8f664ca83dcb647ff04a796ae67f", func := "tendril/tendrillaw17.LinMap", spec := "linMap", inPlace := ["slices.overlaps[tendril/api.Entry]"], apart := false }
def LinMapSaid : Prop := linMapRow.holds Try.pinned (OpenSpec.ofChange linMapSpec)

/-- ITS FALSE NEIGHBOUR: 'it returns false'. Refute it at one input. -/
def linMapWrong : ChangeSpec := { name := "linMap", fn := fun _ => fun
  | [d1, d2] => { results := [.lit (.bool false)], args := [d1, d2] }
  | _ => none }
def LinMapWrongFalsely : Prop := linMapRow.holds Try.pinned (OpenSpec.ofChange linMapWrong)

/-- 'tendrillaw17.LinTurn': WHATEVER THE INPUT: true; the input reads as it did. -/
def linTurnSpec : ChangeSpec := { name := "linTurn", fn := fun _ => fun
  | [d1, d2, d3, d4] => { results := [.lit (.bool true)], args := [d1, d2, d3, d4] }
  | _ => none }
def linTurnRow : OpenClaim := { program := "ytdooojhnldlkeaa", sum := "45a753fa65371ba1d444616f7b7116d2138b8f664ca83dcb647ff04a796ae67f", func := "tendril/tendrillaw17.LinTurn", spec := "linTurn", inPlace := ["slices.overlaps[tendril/api.Entry]"], apart := false }
def LinTurnSaid : Prop := linTurnRow.holds Try.pinned (OpenSpec.ofChange linTurnSpec)

/-- ITS FALSE NEIGHBOUR: 'it returns false'. Refute it at one input. -/
def linTurnWrong : ChangeSpec := { name := "linTurn", fn := fun _ => fun
  | [d1, d2, d3, d4] => { results := [.lit (.bool false)], args := [d1, d2, d3, d4] }
  | _ => none }
def LinTurnWrongFalsely : Prop := linTurnRow.holds Try.pinned (OpenSpec.ofChange linTurnWrong)

/-- 'tendrillaw17.LinFull': WHATEVER THE INPUT: true; the input reads as it did. -/
def linFullSpec : ChangeSpec := { name := "linFull", fn := fun _ => fun
  | [d1, d2] => { results := [.lit (.bool true)], args := [d1, d2] }
  | _ => none }
def linFullRow : OpenClaim := { program := "ytdooojhnldlkeaa", sum := "45a753fa65371ba1d444616f7b7116d2138b8f664ca83dcb647ff04a796ae67f", func := "tendril/tendrillaw17.LinFull", spec := "linFull", inPlace := ["slices.overlaps[tendril/api.Entry]"], apart := false }
def LinFullSaid : Prop := linFullRow.holds Try.pinned (OpenSpec.ofChange linFullSpec)

/-- ITS FALSE NEIGHBOUR: 'it returns false'. Refute it at one input. -/
def linFullWrong : ChangeSpec := { name := "linFull", fn := fun _ => fun
  | [d1, d2] => { results := [.lit (.bool false)], args := [d1, d2] }
  | _ => none }
def LinFullWrongFalsely : Prop := linFullRow.holds Try.pinned (OpenSpec.ofChange linFullWrong)

/-- 'tendrillaw17.LinScans': WHATEVER THE INPUT: true; the input reads as it did. -/
def linScansSpec : ChangeSpec := { name := "linScans", fn := fun _ => fun
  | [d1, d2, d3, d4] => { results := [.lit (.bool true)], args := [d1, d2, d3, d4] }
  | _ => none }
def linScansRow : OpenClaim := { program := "ytdooojhnldlkeaa", sum := "45a753fa65371ba1d444616f7b7116d2138b8f664ca83dcb647ff04a796ae67f", func := "tendril/tendrillaw17.LinScans", spec := "linScans", inPlace := ["slices.overlaps[tendril/api.Entry]"], apart := false }
def LinScansSaid : Prop := linScansRow.holds Try.pinned (OpenSpec.ofChange linScansSpec)

/-- ITS FALSE NEIGHBOUR: 'it returns false'. Refute it at one input. -/
def linScansWrong : ChangeSpec := { name := "linScans", fn := fun _ => fun
  | [d1, d2, d3, d4] => { results := [.lit (.bool false)], args := [d1, d2, d3, d4] }
  | _ => none }
def LinScansWrongFalsely : Prop := linScansRow.holds Try.pinned (OpenSpec.ofChange linScansWrong)

/- THE SECOND FORM. 'bulk': how many values and letters a reading holds, each counted each time it is reached (what is shared counts as often as it is met; a slice's spare places count too). A statement '..UptoSaid' is the law's where the arguments, and the package variables that the reading takes, are together of bulk at most 1048576: NARROWER than '..Said'. Prove '..Said' where nothing that the law and all that it calls make is longer than what came in: it says more and counts as full. Else prove '..UptoSaid'. A law counts once. -/
mutual
def uptoBulk {H : Type} : DataW H → Nat
  | .lit (.string bytes) => bytes.length + 1
  | .lit _ => 1
  | .nil => 1
  | .ptr d => uptoBulk d + 1
  | .slice elems spare => uptoBulkAll elems + uptoBulkAll spare + 1
  | .agg parts => uptoBulkAll parts + 1
  | .iface _ d => uptoBulk d + 1
  | .map entries => uptoBulkEntries entries + 1
  | .held _ => 1
def uptoBulkAll {H : Type} : List (DataW H) → Nat
  | [] => 0
  | d :: r => uptoBulk d + uptoBulkAll r
def uptoBulkEntries {H : Type} : List (Lit × DataW H) → Nat
  | [] => 0
  | x :: r => uptoBulkEntry x + uptoBulkEntries r
def uptoBulkEntry {H : Type} : Lit × DataW H → Nat
  | (.string bytes, d) => bytes.length + uptoBulk d + 1
  | (_, d) => uptoBulk d + 1
 end
def uptoSmall : (H : Type) → List (DataW H) → Bool := fun _ ds => decide (uptoBulkAll ds ≤ 1048576)
def OpenSpec.upto (s : _root_.Go.ChangeSpec) : _root_.Go.OpenSpec := { _root_.Go.OpenSpec.ofChange s with cond := some uptoSmall }

/-- 'tendrillaw17.LinRuns', WHERE WHAT IT READS IS OF BULK AT MOST 1048576: true; the input reads as it did. -/
def linRunsUptoRow : OpenClaim := { program := "ytdooojhnldlkeaa", sum := "45a753fa65371ba1d444616f7b7116d2138b8f664ca83dcb647ff04a796ae67f", func := "tendril/tendrillaw17.LinRuns", spec := "linRuns", inPlace := ["slices.overlaps[tendril/api.Entry]"], apart := false, narrowed := true }
def LinRunsUptoSaid : Prop := linRunsUptoRow.holds Try.pinned (OpenSpec.upto linRunsSpec)

/-- 'tendrillaw17.LinMap', WHERE WHAT IT READS IS OF BULK AT MOST 1048576: true; the input reads as it did. -/
def linMapUptoRow : OpenClaim := { program := "ytdooojhnldlkeaa", sum := "45a753fa65371ba1d444616f7b7116d2138b8f664ca83dcb647ff04a796ae67f", func := "tendril/tendrillaw17.LinMap", spec := "linMap", inPlace := ["slices.overlaps[tendril/api.Entry]"], apart := false, narrowed := true }
def LinMapUptoSaid : Prop := linMapUptoRow.holds Try.pinned (OpenSpec.upto linMapSpec)

/-- 'tendrillaw17.LinTurn', WHERE WHAT IT READS IS OF BULK AT MOST 1048576: true; the input reads as it did. -/
def linTurnUptoRow : OpenClaim := { program := "ytdooojhnldlkeaa", sum := "45a753fa65371ba1d444616f7b7116d2138b8f664ca83dcb647ff04a796ae67f", func := "tendril/tendrillaw17.LinTurn", spec := "linTurn", inPlace := ["slices.overlaps[tendril/api.Entry]"], apart := false, narrowed := true }
def LinTurnUptoSaid : Prop := linTurnUptoRow.holds Try.pinned (OpenSpec.upto linTurnSpec)

/-- 'tendrillaw17.LinFull', WHERE WHAT IT READS IS OF BULK AT MOST 1048576: true; the input reads as it did. -/
def linFullUptoRow : OpenClaim := { program := "ytdooojhnldlkeaa", sum := "45a753fa65371ba1d444616f7b7116d2138b8f664ca83dcb647ff04a796ae67f", func := "tendril/tendrillaw17.LinFull", spec := "linFull", inPlace := ["slices.overlaps[tendril/api.Entry]"], apart := false, narrowed := true }
def LinFullUptoSaid : Prop := linFullUptoRow.holds Try.pinned (OpenSpec.upto linFullSpec)

/-- 'tendrillaw17.LinScans', WHERE WHAT IT READS IS OF BULK AT MOST 1048576: true; the input reads as it did. -/
def linScansUptoRow : OpenClaim := { program := "ytdooojhnldlkeaa", sum := "45a753fa65371ba1d444616f7b7116d2138b8f664ca83dcb647ff04a796ae67f", func := "tendril/tendrillaw17.LinScans", spec := "linScans", inPlace := ["slices.overlaps[tendril/api.Entry]"], apart := false, narrowed := true }
def LinScansUptoSaid : Prop := linScansUptoRow.holds Try.pinned (OpenSpec.upto linScansSpec)

end Rows
end Go.Proofs.Ytdooojhnldlkeaa
