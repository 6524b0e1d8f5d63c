/-
  No cell of these rows narrows 'for every input' (looked for: loops, veiled, ifaces, maps, wideKeys, modest, calm, conditions, laid).
  DERIVED. THE GIVEN ROWS OF THIS SEAT. 4 by the template 'for every input the law returns true; each argument reads behind the call as it read before'; 0 by the template 'total and deterministic' (their statements: YtamcodigpocecaaGreatTotals.lean).
  GIVEN WITH THE SEED: the statements are not yours to turn. If you find one false, say at which input.
  Laid BY PROGRAM, IN A SANDBOX (cutbox-rows.mjs): the forced cells as the released guide's own fill.sh prints them over the translation 6eeccd11aaa2312f… (all of the seat's roots in one cut). By AI agents, Wed Nov 11 2026. No macro, syntax, notation, axiom, sorry.
-/
import Derived.Test.YtamcodigpocecaaGreatChecked
import GoSem.Claim
import GoSem.ClaimJoined
import GoSem.ClaimMapViews
import Derived.JoinedTies
import Derived.KernelRfl
namespace Go.Proofs.YtamcodigpocecaaGreat
/- THE CELL 'sum', in the pinned program and in every row, IS THE sha256 OF THE DUMP (.gsa) THAT YtamcodigpocecaaGreatProg.lean LOADS. Nothing in Lean hashes anything: it is a label: what it is worth is what the hold of that sum in a sandbox is worth. -/
noncomputable def Tryz.pinned : Pinned := { name := "ytamcodigpocecaagreat", sum := "6eeccd11aaa2312f56d77e740aad301a62cdfb9624b48e35cc8f729e54f0e7cf", checked := Tryz.checked }
namespace Rows
def none {H : Type} : Left H := { results := [], args := [] }

/-- 'tendrillaw12.PutPaths': WHATEVER THE INPUT: true; the input reads as it did. -/
def putPathsSpec : ChangeSpec := { name := "putPaths", fn := fun _ => fun
  | [d1, d2] => { results := [.lit (.bool true)], args := [d1, d2] }
  | _ => none }
def putPathsRow : OpenClaim := { program := "ytamcodigpocecaagreat", sum := "6eeccd11aaa2312f56d77e740aad301a62cdfb9624b48e35cc8f729e54f0e7cf", func := "tendril/tendrillaw12.PutPaths", spec := "putPaths", inPlace := ["internal/bytealg.IndexByteString", "slices.overlaps[byte]", "slices.overlaps[int]"], unfollowed := true, recurses := true, apart := false }
def PutPathsSaid : Prop := putPathsRow.holds Tryz.pinned (OpenSpec.ofChange putPathsSpec)

/-- ITS FALSE NEIGHBOUR: 'it returns false'. Refute it at one input. -/
def putPathsWrong : ChangeSpec := { name := "putPaths", fn := fun _ => fun
  | [d1, d2] => { results := [.lit (.bool false)], args := [d1, d2] }
  | _ => none }
def PutPathsWrongFalsely : Prop := putPathsRow.holds Tryz.pinned (OpenSpec.ofChange putPathsWrong)

/-- 'tendrillaw12.PutTurns': WHATEVER THE INPUT: true; the input reads as it did. -/
def putTurnsSpec : ChangeSpec := { name := "putTurns", fn := fun _ => fun
  | [d1, d2] => { results := [.lit (.bool true)], args := [d1, d2] }
  | _ => none }
def putTurnsRow : OpenClaim := { program := "ytamcodigpocecaagreat", sum := "6eeccd11aaa2312f56d77e740aad301a62cdfb9624b48e35cc8f729e54f0e7cf", func := "tendril/tendrillaw12.PutTurns", spec := "putTurns", inPlace := ["internal/bytealg.IndexByteString", "slices.overlaps[byte]", "slices.overlaps[int]"], unfollowed := true, recurses := true, apart := false }
def PutTurnsSaid : Prop := putTurnsRow.holds Tryz.pinned (OpenSpec.ofChange putTurnsSpec)

/-- ITS FALSE NEIGHBOUR: 'it returns false'. Refute it at one input. -/
def putTurnsWrong : ChangeSpec := { name := "putTurns", fn := fun _ => fun
  | [d1, d2] => { results := [.lit (.bool false)], args := [d1, d2] }
  | _ => none }
def PutTurnsWrongFalsely : Prop := putTurnsRow.holds Tryz.pinned (OpenSpec.ofChange putTurnsWrong)

/-- 'tendrillaw12.PutTries': WHATEVER THE INPUT: true; the input reads as it did. -/
def putTriesSpec : ChangeSpec := { name := "putTries", fn := fun _ => fun
  | [d1, d2] => { results := [.lit (.bool true)], args := [d1, d2] }
  | _ => none }
def putTriesRow : OpenClaim := { program := "ytamcodigpocecaagreat", sum := "6eeccd11aaa2312f56d77e740aad301a62cdfb9624b48e35cc8f729e54f0e7cf", func := "tendril/tendrillaw12.PutTries", spec := "putTries", inPlace := ["internal/bytealg.IndexByteString", "slices.overlaps[byte]", "slices.overlaps[int]"], unfollowed := true, recurses := true, apart := false }
def PutTriesSaid : Prop := putTriesRow.holds Tryz.pinned (OpenSpec.ofChange putTriesSpec)

/-- ITS FALSE NEIGHBOUR: 'it returns false'. Refute it at one input. -/
def putTriesWrong : ChangeSpec := { name := "putTries", fn := fun _ => fun
  | [d1, d2] => { results := [.lit (.bool false)], args := [d1, d2] }
  | _ => none }
def PutTriesWrongFalsely : Prop := putTriesRow.holds Tryz.pinned (OpenSpec.ofChange putTriesWrong)

/-- 'tendrillaw13.DropPaths': WHATEVER THE INPUT: true; the input reads as it did. -/
def dropPathsSpec : ChangeSpec := { name := "dropPaths", fn := fun _ => fun
  | [d] => { results := [.lit (.bool true)], args := [d] }
  | _ => none }
def dropPathsRow : OpenClaim := { program := "ytamcodigpocecaagreat", sum := "6eeccd11aaa2312f56d77e740aad301a62cdfb9624b48e35cc8f729e54f0e7cf", func := "tendril/tendrillaw13.DropPaths", spec := "dropPaths", inPlace := ["internal/bytealg.IndexByteString", "slices.overlaps[byte]", "slices.overlaps[int]"], unfollowed := true, recurses := true, apart := false }
def DropPathsSaid : Prop := dropPathsRow.holds Tryz.pinned (OpenSpec.ofChange dropPathsSpec)

/-- ITS FALSE NEIGHBOUR: 'it returns false'. Refute it at one input. -/
def dropPathsWrong : ChangeSpec := { name := "dropPaths", fn := fun _ => fun
  | [d] => { results := [.lit (.bool false)], args := [d] }
  | _ => none }
def DropPathsWrongFalsely : Prop := dropPathsRow.holds Tryz.pinned (OpenSpec.ofChange dropPathsWrong)

/- THE SECOND FORM. 'bulk': how many values and letters a reading holds, each counted each time it is reached (what is shared counts as often as it is met; a slice's spare places count too). A statement '..UptoSaid' is the law's where the arguments, and the package variables that the reading takes, are together of bulk at most 1048576: NARROWER than '..Said'. Prove '..Said' where nothing that the law and all that it calls make is longer than what came in: it says more and counts as full. Else prove '..UptoSaid'. A law counts once. -/
mutual
def uptoBulk {H : Type} : DataW H → Nat
  | .lit (.string bytes) => bytes.length + 1
  | .lit _ => 1
  | .nil => 1
  | .ptr d => uptoBulk d + 1
  | .slice elems spare => uptoBulkAll elems + uptoBulkAll spare + 1
  | .agg parts => uptoBulkAll parts + 1
  | .iface _ d => uptoBulk d + 1
  | .map entries => uptoBulkEntries entries + 1
  | .held _ => 1
def uptoBulkAll {H : Type} : List (DataW H) → Nat
  | [] => 0
  | d :: r => uptoBulk d + uptoBulkAll r
def uptoBulkEntries {H : Type} : List (Lit × DataW H) → Nat
  | [] => 0
  | x :: r => uptoBulkEntry x + uptoBulkEntries r
def uptoBulkEntry {H : Type} : Lit × DataW H → Nat
  | (.string bytes, d) => bytes.length + uptoBulk d + 1
  | (_, d) => uptoBulk d + 1
 end
def uptoSmall : (H : Type) → List (DataW H) → Bool := fun _ ds => decide (uptoBulkAll ds ≤ 1048576)
def OpenSpec.upto (s : _root_.Go.ChangeSpec) : _root_.Go.OpenSpec := { _root_.Go.OpenSpec.ofChange s with cond := some uptoSmall }

/-- 'tendrillaw12.PutPaths', WHERE WHAT IT READS IS OF BULK AT MOST 1048576: true; the input reads as it did. -/
def putPathsUptoRow : OpenClaim := { program := "ytamcodigpocecaagreat", sum := "6eeccd11aaa2312f56d77e740aad301a62cdfb9624b48e35cc8f729e54f0e7cf", func := "tendril/tendrillaw12.PutPaths", spec := "putPaths", inPlace := ["internal/bytealg.IndexByteString", "slices.overlaps[byte]", "slices.overlaps[int]"], unfollowed := true, recurses := true, apart := false, narrowed := true }
def PutPathsUptoSaid : Prop := putPathsUptoRow.holds Tryz.pinned (OpenSpec.upto putPathsSpec)

/-- 'tendrillaw12.PutTurns', WHERE WHAT IT READS IS OF BULK AT MOST 1048576: true; the input reads as it did. -/
def putTurnsUptoRow : OpenClaim := { program := "ytamcodigpocecaagreat", sum := "6eeccd11aaa2312f56d77e740aad301a62cdfb9624b48e35cc8f729e54f0e7cf", func := "tendril/tendrillaw12.PutTurns", spec := "putTurns", inPlace := ["internal/bytealg.IndexByteString", "slices.overlaps[byte]", "slices.overlaps[int]"], unfollowed := true, recurses := true, apart := false, narrowed := true }
def PutTurnsUptoSaid : Prop := putTurnsUptoRow.holds Tryz.pinned (OpenSpec.upto putTurnsSpec)

/-- 'tendrillaw12.PutTries', WHERE WHAT IT READS IS OF BULK AT MOST 1048576: true; the input reads as it did. -/
def putTriesUptoRow : OpenClaim := { program := "ytamcodigpocecaagreat", sum := "6eeccd11aaa2312f56d77e740aad301a62cdfb9624b48e35cc8f729e54f0e7cf", func := "tendril/tendrillaw12.PutTries", spec := "putTries", inPlace := ["internal/bytealg.IndexByteString", "slices.overlaps[byte]", "slices.overlaps[int]"], unfollowed := true, recurses := true, apart := false, narrowed := true }
def PutTriesUptoSaid : Prop := putTriesUptoRow.holds Tryz.pinned (OpenSpec.upto putTriesSpec)

/-- 'tendrillaw13.DropPaths', WHERE WHAT IT READS IS OF BULK AT MOST 1048576: true; the input reads as it did. -/
def dropPathsUptoRow : OpenClaim := { program := "ytamcodigpocecaagreat", sum := "6eeccd11aaa2312f56d77e740aad301a62cdfb9624b48e35cc8f729e54f0e7cf", func := "tendril/tendrillaw13.DropPaths", spec := "dropPaths", inPlace := ["internal/bytealg.IndexByteString", "slices.overlaps[byte]", "slices.overlaps[int]"], unfollowed := true, recurses := true, apart := false, narrowed := true }
def DropPathsUptoSaid : Prop := dropPathsUptoRow.holds Tryz.pinned (OpenSpec.upto dropPathsSpec)

end Rows
end Go.Proofs.YtamcodigpocecaaGreat
