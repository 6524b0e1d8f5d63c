/-
  No cell of these rows narrows 'for every input' (looked for: loops, veiled, ifaces, maps, wideKeys, modest, calm, conditions, laid).
  DERIVED. THE GIVEN ROWS OF THIS SEAT. 6 by the template 'for every input the law returns true; each argument reads behind the call as it read before'; 0 by the template 'total and deterministic' (their statements: YtkffnkhpgdnddaaGreatTotals.lean).
  GIVEN WITH THE SEED: the statements are not yours to turn. If you find one false, say at which input.
  Laid BY PROGRAM, IN A SANDBOX (cutbox-rows.mjs): the forced cells as the released guide's own fill.sh prints them over the translation f9687c1c3527e238… (all of the seat's roots in one cut). By AI agents, Wed Nov 11 2026. No macro, syntax, notation, axiom, sorry.
-/
import Derived.Test.YtkffnkhpgdnddaaGreatChecked
import GoSem.Claim
import GoSem.ClaimJoined
import GoSem.ClaimMapViews
import Derived.JoinedTies
import Derived.KernelRfl
namespace Go.Proofs.YtkffnkhpgdnddaaGreat
/- THE CELL 'sum', in the pinned program and in every row, IS THE sha256 OF THE DUMP (.gsa) THAT YtkffnkhpgdnddaaGreatProg.lean LOADS. Nothing in Lean hashes anything: it is a label: what it is worth is what the hold of that sum in a sandbox is worth. -/
noncomputable def Tryz.pinned : Pinned := { name := "ytkffnkhpgdnddaagreat", sum := "f9687c1c3527e2382a512aceb8ce58a37a73797350f5e58927eb57da507758f8", checked := Tryz.checked }
namespace Rows
def none {H : Type} : Left H := { results := [], args := [] }

/-- 'tendrillaw12.PutRuns': WHATEVER THE INPUT: true; the input reads as it did. -/
def putRunsSpec : ChangeSpec := { name := "putRuns", fn := fun _ => fun
  | [] => { results := [.lit (.bool true)], args := [] }
  | _ => none }
def putRunsRow : OpenClaim := { program := "ytkffnkhpgdnddaagreat", sum := "f9687c1c3527e2382a512aceb8ce58a37a73797350f5e58927eb57da507758f8", func := "tendril/tendrillaw12.PutRuns", spec := "putRuns", inPlace := ["internal/bytealg.IndexByteString", "slices.overlaps[byte]", "slices.overlaps[int]"], unfollowed := true, recurses := true, apart := false }
def PutRunsSaid : Prop := putRunsRow.holds Tryz.pinned (OpenSpec.ofChange putRunsSpec)

/-- ITS FALSE NEIGHBOUR: 'it returns false'. Refute it at one input. -/
def putRunsWrong : ChangeSpec := { name := "putRuns", fn := fun _ => fun
  | [] => { results := [.lit (.bool false)], args := [] }
  | _ => none }
def PutRunsWrongFalsely : Prop := putRunsRow.holds Tryz.pinned (OpenSpec.ofChange putRunsWrong)

/-- 'tendrillaw12.PutRefuses': WHATEVER THE INPUT: true; the input reads as it did. -/
def putRefusesSpec : ChangeSpec := { name := "putRefuses", fn := fun _ => fun
  | [d1, d2, d3, d4] => { results := [.lit (.bool true)], args := [d1, d2, d3, d4] }
  | _ => none }
def putRefusesRow : OpenClaim := { program := "ytkffnkhpgdnddaagreat", sum := "f9687c1c3527e2382a512aceb8ce58a37a73797350f5e58927eb57da507758f8", func := "tendril/tendrillaw12.PutRefuses", spec := "putRefuses", inPlace := ["internal/bytealg.IndexByteString", "slices.overlaps[byte]", "slices.overlaps[int]"], unfollowed := true, recurses := true, apart := false }
def PutRefusesSaid : Prop := putRefusesRow.holds Tryz.pinned (OpenSpec.ofChange putRefusesSpec)

/-- ITS FALSE NEIGHBOUR: 'it returns false'. Refute it at one input. -/
def putRefusesWrong : ChangeSpec := { name := "putRefuses", fn := fun _ => fun
  | [d1, d2, d3, d4] => { results := [.lit (.bool false)], args := [d1, d2, d3, d4] }
  | _ => none }
def PutRefusesWrongFalsely : Prop := putRefusesRow.holds Tryz.pinned (OpenSpec.ofChange putRefusesWrong)

/-- 'tendrillaw13.DropRuns': WHATEVER THE INPUT: true; the input reads as it did. -/
def dropRunsSpec : ChangeSpec := { name := "dropRuns", fn := fun _ => fun
  | [] => { results := [.lit (.bool true)], args := [] }
  | _ => none }
def dropRunsRow : OpenClaim := { program := "ytkffnkhpgdnddaagreat", sum := "f9687c1c3527e2382a512aceb8ce58a37a73797350f5e58927eb57da507758f8", func := "tendril/tendrillaw13.DropRuns", spec := "dropRuns", inPlace := ["internal/bytealg.IndexByteString", "slices.overlaps[byte]", "slices.overlaps[int]"], unfollowed := true, recurses := true, apart := false }
def DropRunsSaid : Prop := dropRunsRow.holds Tryz.pinned (OpenSpec.ofChange dropRunsSpec)

/-- ITS FALSE NEIGHBOUR: 'it returns false'. Refute it at one input. -/
def dropRunsWrong : ChangeSpec := { name := "dropRuns", fn := fun _ => fun
  | [] => { results := [.lit (.bool false)], args := [] }
  | _ => none }
def DropRunsWrongFalsely : Prop := dropRunsRow.holds Tryz.pinned (OpenSpec.ofChange dropRunsWrong)

/-- 'tendrillaw13.DropRefuses': WHATEVER THE INPUT: true; the input reads as it did. -/
def dropRefusesSpec : ChangeSpec := { name := "dropRefuses", fn := fun _ => fun
  | [d1, d2, d3, d4] => { results := [.lit (.bool true)], args := [d1, d2, d3, d4] }
  | _ => none }
def dropRefusesRow : OpenClaim := { program := "ytkffnkhpgdnddaagreat", sum := "f9687c1c3527e2382a512aceb8ce58a37a73797350f5e58927eb57da507758f8", func := "tendril/tendrillaw13.DropRefuses", spec := "dropRefuses", inPlace := ["internal/bytealg.IndexByteString", "slices.overlaps[byte]", "slices.overlaps[int]"], unfollowed := true, recurses := true, apart := false }
def DropRefusesSaid : Prop := dropRefusesRow.holds Tryz.pinned (OpenSpec.ofChange dropRefusesSpec)

/-- ITS FALSE NEIGHBOUR: 'it returns false'. Refute it at one input. -/
def dropRefusesWrong : ChangeSpec := { name := "dropRefuses", fn := fun _ => fun
  | [d1, d2, d3, d4] => { results := [.lit (.bool false)], args := [d1, d2, d3, d4] }
  | _ => none }
def DropRefusesWrongFalsely : Prop := dropRefusesRow.holds Tryz.pinned (OpenSpec.ofChange dropRefusesWrong)

/-- 'tendrillaw15.TreeRuns': WHATEVER THE INPUT: true; the input reads as it did. -/
def treeRunsSpec : ChangeSpec := { name := "treeRuns", fn := fun _ => fun
  | [] => { results := [.lit (.bool true)], args := [] }
  | _ => none }
def treeRunsRow : OpenClaim := { program := "ytkffnkhpgdnddaagreat", sum := "f9687c1c3527e2382a512aceb8ce58a37a73797350f5e58927eb57da507758f8", func := "tendril/tendrillaw15.TreeRuns", spec := "treeRuns", inPlace := ["internal/bytealg.IndexByteString", "slices.overlaps[byte]", "slices.overlaps[int]"], unfollowed := true, recurses := true, apart := false }
def TreeRunsSaid : Prop := treeRunsRow.holds Tryz.pinned (OpenSpec.ofChange treeRunsSpec)

/-- ITS FALSE NEIGHBOUR: 'it returns false'. Refute it at one input. -/
def treeRunsWrong : ChangeSpec := { name := "treeRuns", fn := fun _ => fun
  | [] => { results := [.lit (.bool false)], args := [] }
  | _ => none }
def TreeRunsWrongFalsely : Prop := treeRunsRow.holds Tryz.pinned (OpenSpec.ofChange treeRunsWrong)

/-- 'tendrillaw18.DrainRuns': WHATEVER THE INPUT: true; the input reads as it did. -/
def drainRunsSpec : ChangeSpec := { name := "drainRuns", fn := fun _ => fun
  | [] => { results := [.lit (.bool true)], args := [] }
  | _ => none }
def drainRunsRow : OpenClaim := { program := "ytkffnkhpgdnddaagreat", sum := "f9687c1c3527e2382a512aceb8ce58a37a73797350f5e58927eb57da507758f8", func := "tendril/tendrillaw18.DrainRuns", spec := "drainRuns", inPlace := ["internal/bytealg.IndexByteString", "slices.overlaps[byte]", "slices.overlaps[int]"], unfollowed := true, recurses := true, apart := false }
def DrainRunsSaid : Prop := drainRunsRow.holds Tryz.pinned (OpenSpec.ofChange drainRunsSpec)

/-- ITS FALSE NEIGHBOUR: 'it returns false'. Refute it at one input. -/
def drainRunsWrong : ChangeSpec := { name := "drainRuns", fn := fun _ => fun
  | [] => { results := [.lit (.bool false)], args := [] }
  | _ => none }
def DrainRunsWrongFalsely : Prop := drainRunsRow.holds Tryz.pinned (OpenSpec.ofChange drainRunsWrong)

/- THE SECOND FORM. 'bulk': how many values and letters a reading holds, each counted each time it is reached (what is shared counts as often as it is met; a slice's spare places count too). A statement '..UptoSaid' is the law's where the arguments, and the package variables that the reading takes, are together of bulk at most 1048576: NARROWER than '..Said'. Prove '..Said' where nothing that the law and all that it calls make is longer than what came in: it says more and counts as full. Else prove '..UptoSaid'. A law counts once. -/
mutual
def uptoBulk {H : Type} : DataW H → Nat
  | .lit (.string bytes) => bytes.length + 1
  | .lit _ => 1
  | .nil => 1
  | .ptr d => uptoBulk d + 1
  | .slice elems spare => uptoBulkAll elems + uptoBulkAll spare + 1
  | .agg parts => uptoBulkAll parts + 1
  | .iface _ d => uptoBulk d + 1
  | .map entries => uptoBulkEntries entries + 1
  | .held _ => 1
def uptoBulkAll {H : Type} : List (DataW H) → Nat
  | [] => 0
  | d :: r => uptoBulk d + uptoBulkAll r
def uptoBulkEntries {H : Type} : List (Lit × DataW H) → Nat
  | [] => 0
  | x :: r => uptoBulkEntry x + uptoBulkEntries r
def uptoBulkEntry {H : Type} : Lit × DataW H → Nat
  | (.string bytes, d) => bytes.length + uptoBulk d + 1
  | (_, d) => uptoBulk d + 1
 end
def uptoSmall : (H : Type) → List (DataW H) → Bool := fun _ ds => decide (uptoBulkAll ds ≤ 1048576)
def OpenSpec.upto (s : _root_.Go.ChangeSpec) : _root_.Go.OpenSpec := { _root_.Go.OpenSpec.ofChange s with cond := some uptoSmall }

/-- 'tendrillaw12.PutRuns', WHERE WHAT IT READS IS OF BULK AT MOST 1048576: true; the input reads as it did. -/
def putRunsUptoRow : OpenClaim := { program := "ytkffnkhpgdnddaagreat", sum := "f9687c1c3527e2382a512aceb8ce58a37a73797350f5e58927eb57da507758f8", func := "tendril/tendrillaw12.PutRuns", spec := "putRuns", inPlace := ["internal/bytealg.IndexByteString", "slices.overlaps[byte]", "slices.overlaps[int]"], unfollowed := true, recurses := true, apart := false, narrowed := true }
def PutRunsUptoSaid : Prop := putRunsUptoRow.holds Tryz.pinned (OpenSpec.upto putRunsSpec)

/-- 'tendrillaw12.PutRefuses', WHERE WHAT IT READS IS OF BULK AT MOST 1048576: true; the input reads as it did. -/
def putRefusesUptoRow : OpenClaim := { program := "ytkffnkhpgdnddaagreat", sum := "f9687c1c3527e2382a512aceb8ce58a37a73797350f5e58927eb57da507758f8", func := "tendril/tendrillaw12.PutRefuses", spec := "putRefuses", inPlace := ["internal/bytealg.IndexByteString", "slices.overlaps[byte]", "slices.overlaps[int]"], unfollowed := true, recurses := true, apart := false, narrowed := true }
def PutRefusesUptoSaid : Prop := putRefusesUptoRow.holds Tryz.pinned (OpenSpec.upto putRefusesSpec)

/-- 'tendrillaw13.DropRuns', WHERE WHAT IT READS IS OF BULK AT MOST 1048576: true; the input reads as it did. -/
def dropRunsUptoRow : OpenClaim := { program := "ytkffnkhpgdnddaagreat", sum := "f9687c1c3527e2382a512aceb8ce58a37a73797350f5e58927eb57da507758f8", func := "tendril/tendrillaw13.DropRuns", spec := "dropRuns", inPlace := ["internal/bytealg.IndexByteString", "slices.overlaps[byte]", "slices.overlaps[int]"], unfollowed := true, recurses := true, apart := false, narrowed := true }
def DropRunsUptoSaid : Prop := dropRunsUptoRow.holds Tryz.pinned (OpenSpec.upto dropRunsSpec)

/-- 'tendrillaw13.DropRefuses', WHERE WHAT IT READS IS OF BULK AT MOST 1048576: true; the input reads as it did. -/
def dropRefusesUptoRow : OpenClaim := { program := "ytkffnkhpgdnddaagreat", sum := "f9687c1c3527e2382a512aceb8ce58a37a73797350f5e58927eb57da507758f8", func := "tendril/tendrillaw13.DropRefuses", spec := "dropRefuses", inPlace := ["internal/bytealg.IndexByteString", "slices.overlaps[byte]", "slices.overlaps[int]"], unfollowed := true, recurses := true, apart := false, narrowed := true }
def DropRefusesUptoSaid : Prop := dropRefusesUptoRow.holds Tryz.pinned (OpenSpec.upto dropRefusesSpec)

/-- 'tendrillaw15.TreeRuns', WHERE WHAT IT READS IS OF BULK AT MOST 1048576: true; the input reads as it did. -/
def treeRunsUptoRow : OpenClaim := { program := "ytkffnkhpgdnddaagreat", sum := "f9687c1c3527e2382a512aceb8ce58a37a73797350f5e58927eb57da507758f8", func := "tendril/tendrillaw15.TreeRuns", spec := "treeRuns", inPlace := ["internal/bytealg.IndexByteString", "slices.overlaps[byte]", "slices.overlaps[int]"], unfollowed := true, recurses := true, apart := false, narrowed := true }
def TreeRunsUptoSaid : Prop := treeRunsUptoRow.holds Tryz.pinned (OpenSpec.upto treeRunsSpec)

/-- 'tendrillaw18.DrainRuns', WHERE WHAT IT READS IS OF BULK AT MOST 1048576: true; the input reads as it did. -/
def drainRunsUptoRow : OpenClaim := { program := "ytkffnkhpgdnddaagreat", sum := "f9687c1c3527e2382a512aceb8ce58a37a73797350f5e58927eb57da507758f8", func := "tendril/tendrillaw18.DrainRuns", spec := "drainRuns", inPlace := ["internal/bytealg.IndexByteString", "slices.overlaps[byte]", "slices.overlaps[int]"], unfollowed := true, recurses := true, apart := false, narrowed := true }
def DrainRunsUptoSaid : Prop := drainRunsUptoRow.holds Tryz.pinned (OpenSpec.upto drainRunsSpec)

end Rows
end Go.Proofs.YtkffnkhpgdnddaaGreat
