/-
  No cell of these rows narrows 'for every input' (looked for: loops, veiled, ifaces, maps, wideKeys, modest, calm, conditions, laid).
  DERIVED. THE GIVEN ROWS OF THIS SEAT. 4 by the template 'for every input the law returns true; each argument reads behind the call as it read before'; 0 by the template 'total and deterministic' (their statements: YtkffnkhpgdnddaaTotals.lean).
  GIVEN WITH THE SEED: the statements are not yours to turn. If you find one false, say at which input.
  Laid BY PROGRAM, IN A SANDBOX (cutbox-rows.mjs): the forced cells as the released guide's own fill.sh prints them over the translation 9977fc92218da12a… (all of the seat's roots in one cut). By AI agents, Wed Nov 11 2026. No macro, syntax, notation, axiom, sorry.
-/
import Derived.Test.YtkffnkhpgdnddaaChecked
import GoSem.Claim
import GoSem.ClaimJoined
import GoSem.ClaimMapViews
import Derived.JoinedTies
import Derived.KernelRfl
namespace Go.Proofs.Ytkffnkhpgdnddaa
/- THE CELL 'sum', in the pinned program and in every row, IS THE sha256 OF THE DUMP (.gsa) THAT YtkffnkhpgdnddaaProg.lean LOADS. Nothing in Lean hashes anything: it is a label: what it is worth is what the hold of that sum in a sandbox is worth. -/
noncomputable def Try.pinned : Pinned := { name := "ytkffnkhpgdnddaa", sum := "9977fc92218da12a8b97c5e57bad231b7dfd8a7cadb68809620ab063810ffd6a", checked := Try.checked }
namespace Rows
def none {H : Type} : Left H := { results := [], args := [] }

/-- 'tendrillaw11.ScanRuns': WHATEVER THE INPUT: true; the input reads as it did. -/
def scanRunsSpec : ChangeSpec := { name := "scanRuns", fn := fun _ => fun
  | [] => { results := [.lit (.bool true)], args := [] }
  | _ => none }
def scanRunsRow : OpenClaim := { program := "ytkffnkhpgdnddaa", sum := "9977fc92218da12a8b97c5e57bad231b7dfd8a7cadb68809620ab063810ffd6a", func := "tendril/tendrillaw11.ScanRuns", spec := "scanRuns", inPlace := ["internal/bytealg.IndexByteString"], unfollowed := true, recurses := true, apart := false }
def ScanRunsSaid : Prop := scanRunsRow.holds Try.pinned (OpenSpec.ofChange scanRunsSpec)

/-- ITS FALSE NEIGHBOUR: 'it returns false'. Refute it at one input. -/
def scanRunsWrong : ChangeSpec := { name := "scanRuns", fn := fun _ => fun
  | [] => { results := [.lit (.bool false)], args := [] }
  | _ => none }
def ScanRunsWrongFalsely : Prop := scanRunsRow.holds Try.pinned (OpenSpec.ofChange scanRunsWrong)

/-- 'tendrillaw11.ScanRefuses': WHATEVER THE INPUT: true; the input reads as it did. -/
def scanRefusesSpec : ChangeSpec := { name := "scanRefuses", fn := fun _ => fun
  | [d1, d2, d3, d4] => { results := [.lit (.bool true)], args := [d1, d2, d3, d4] }
  | _ => none }
def scanRefusesRow : OpenClaim := { program := "ytkffnkhpgdnddaa", sum := "9977fc92218da12a8b97c5e57bad231b7dfd8a7cadb68809620ab063810ffd6a", func := "tendril/tendrillaw11.ScanRefuses", spec := "scanRefuses", inPlace := ["internal/bytealg.IndexByteString"], unfollowed := true, recurses := true, apart := false }
def ScanRefusesSaid : Prop := scanRefusesRow.holds Try.pinned (OpenSpec.ofChange scanRefusesSpec)

/-- ITS FALSE NEIGHBOUR: 'it returns false'. Refute it at one input. -/
def scanRefusesWrong : ChangeSpec := { name := "scanRefuses", fn := fun _ => fun
  | [d1, d2, d3, d4] => { results := [.lit (.bool false)], args := [d1, d2, d3, d4] }
  | _ => none }
def ScanRefusesWrongFalsely : Prop := scanRefusesRow.holds Try.pinned (OpenSpec.ofChange scanRefusesWrong)

/-- 'tendrillaw10.GetRuns': WHATEVER THE INPUT: true; the input reads as it did. -/
def getRunsSpec : ChangeSpec := { name := "getRuns", fn := fun _ => fun
  | [] => { results := [.lit (.bool true)], args := [] }
  | _ => none }
def getRunsRow : OpenClaim := { program := "ytkffnkhpgdnddaa", sum := "9977fc92218da12a8b97c5e57bad231b7dfd8a7cadb68809620ab063810ffd6a", func := "tendril/tendrillaw10.GetRuns", spec := "getRuns", inPlace := ["internal/bytealg.IndexByteString"], unfollowed := true, recurses := true, apart := false }
def GetRunsSaid : Prop := getRunsRow.holds Try.pinned (OpenSpec.ofChange getRunsSpec)

/-- ITS FALSE NEIGHBOUR: 'it returns false'. Refute it at one input. -/
def getRunsWrong : ChangeSpec := { name := "getRuns", fn := fun _ => fun
  | [] => { results := [.lit (.bool false)], args := [] }
  | _ => none }
def GetRunsWrongFalsely : Prop := getRunsRow.holds Try.pinned (OpenSpec.ofChange getRunsWrong)

/-- 'tendrillaw10.GetRefuses': WHATEVER THE INPUT: true; the input reads as it did. -/
def getRefusesSpec : ChangeSpec := { name := "getRefuses", fn := fun _ => fun
  | [d1, d2, d3, d4] => { results := [.lit (.bool true)], args := [d1, d2, d3, d4] }
  | _ => none }
def getRefusesRow : OpenClaim := { program := "ytkffnkhpgdnddaa", sum := "9977fc92218da12a8b97c5e57bad231b7dfd8a7cadb68809620ab063810ffd6a", func := "tendril/tendrillaw10.GetRefuses", spec := "getRefuses", inPlace := ["internal/bytealg.IndexByteString"], unfollowed := true, recurses := true, apart := false }
def GetRefusesSaid : Prop := getRefusesRow.holds Try.pinned (OpenSpec.ofChange getRefusesSpec)

/-- ITS FALSE NEIGHBOUR: 'it returns false'. Refute it at one input. -/
def getRefusesWrong : ChangeSpec := { name := "getRefuses", fn := fun _ => fun
  | [d1, d2, d3, d4] => { results := [.lit (.bool false)], args := [d1, d2, d3, d4] }
  | _ => none }
def GetRefusesWrongFalsely : Prop := getRefusesRow.holds Try.pinned (OpenSpec.ofChange getRefusesWrong)

/- THE SECOND FORM. 'bulk': how many values and letters a reading holds, each counted each time it is reached (what is shared counts as often as it is met; a slice's spare places count too). A statement '..UptoSaid' is the law's where the arguments, and the package variables that the reading takes, are together of bulk at most 1048576: NARROWER than '..Said'. Prove '..Said' where nothing that the law and all that it calls make is longer than what came in: it says more and counts as full. Else prove '..UptoSaid'. A law counts once. -/
mutual
def uptoBulk {H : Type} : DataW H → Nat
  | .lit (.string bytes) => bytes.length + 1
  | .lit _ => 1
  | .nil => 1
  | .ptr d => uptoBulk d + 1
  | .slice elems spare => uptoBulkAll elems + uptoBulkAll spare + 1
  | .agg parts => uptoBulkAll parts + 1
  | .iface _ d => uptoBulk d + 1
  | .map entries => uptoBulkEntries entries + 1
  | .held _ => 1
def uptoBulkAll {H : Type} : List (DataW H) → Nat
  | [] => 0
  | d :: r => uptoBulk d + uptoBulkAll r
def uptoBulkEntries {H : Type} : List (Lit × DataW H) → Nat
  | [] => 0
  | x :: r => uptoBulkEntry x + uptoBulkEntries r
def uptoBulkEntry {H : Type} : Lit × DataW H → Nat
  | (.string bytes, d) => bytes.length + uptoBulk d + 1
  | (_, d) => uptoBulk d + 1
 end
def uptoSmall : (H : Type) → List (DataW H) → Bool := fun _ ds => decide (uptoBulkAll ds ≤ 1048576)
def OpenSpec.upto (s : _root_.Go.ChangeSpec) : _root_.Go.OpenSpec := { _root_.Go.OpenSpec.ofChange s with cond := some uptoSmall }

/-- 'tendrillaw11.ScanRuns', WHERE WHAT IT READS IS OF BULK AT MOST 1048576: true; the input reads as it did. -/
def scanRunsUptoRow : OpenClaim := { program := "ytkffnkhpgdnddaa", sum := "9977fc92218da12a8b97c5e57bad231b7dfd8a7cadb68809620ab063810ffd6a", func := "tendril/tendrillaw11.ScanRuns", spec := "scanRuns", inPlace := ["internal/bytealg.IndexByteString"], unfollowed := true, recurses := true, apart := false, narrowed := true }
def ScanRunsUptoSaid : Prop := scanRunsUptoRow.holds Try.pinned (OpenSpec.upto scanRunsSpec)

/-- 'tendrillaw11.ScanRefuses', WHERE WHAT IT READS IS OF BULK AT MOST 1048576: true; the input reads as it did. -/
def scanRefusesUptoRow : OpenClaim := { program := "ytkffnkhpgdnddaa", sum := "9977fc92218da12a8b97c5e57bad231b7dfd8a7cadb68809620ab063810ffd6a", func := "tendril/tendrillaw11.ScanRefuses", spec := "scanRefuses", inPlace := ["internal/bytealg.IndexByteString"], unfollowed := true, recurses := true, apart := false, narrowed := true }
def ScanRefusesUptoSaid : Prop := scanRefusesUptoRow.holds Try.pinned (OpenSpec.upto scanRefusesSpec)

/-- 'tendrillaw10.GetRuns', WHERE WHAT IT READS IS OF BULK AT MOST 1048576: true; the input reads as it did. -/
def getRunsUptoRow : OpenClaim := { program := "ytkffnkhpgdnddaa", sum := "9977fc92218da12a8b97c5e57bad231b7dfd8a7cadb68809620ab063810ffd6a", func := "tendril/tendrillaw10.GetRuns", spec := "getRuns", inPlace := ["internal/bytealg.IndexByteString"], unfollowed := true, recurses := true, apart := false, narrowed := true }
def GetRunsUptoSaid : Prop := getRunsUptoRow.holds Try.pinned (OpenSpec.upto getRunsSpec)

/-- 'tendrillaw10.GetRefuses', WHERE WHAT IT READS IS OF BULK AT MOST 1048576: true; the input reads as it did. -/
def getRefusesUptoRow : OpenClaim := { program := "ytkffnkhpgdnddaa", sum := "9977fc92218da12a8b97c5e57bad231b7dfd8a7cadb68809620ab063810ffd6a", func := "tendril/tendrillaw10.GetRefuses", spec := "getRefuses", inPlace := ["internal/bytealg.IndexByteString"], unfollowed := true, recurses := true, apart := false, narrowed := true }
def GetRefusesUptoSaid : Prop := getRefusesUptoRow.holds Try.pinned (OpenSpec.upto getRefusesSpec)

end Rows
end Go.Proofs.Ytkffnkhpgdnddaa
