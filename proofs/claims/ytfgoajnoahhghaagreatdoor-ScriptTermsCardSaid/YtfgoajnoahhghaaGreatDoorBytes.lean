/-
  Rows of bytes in memory, and how a loop's first round is set apart. No conditions.
-/
import Derived.Test.YtfgoajnoahhghaaGreatDoorFw
namespace Go.Proofs.YtfgoajnoahhghaaGreatDoor.S
open Go Go.RowKit Go.Proofs.YtfgoajnoahhghaaGreatDoor.NICE
set_option maxRecDepth 100000
set_option linter.unusedSimpArgs false
set_option linter.unusedVariables false

/-- bytes as cells -/
def u8s (l : List UInt8) : List NVal := l.map fun b => .int .u8 (b.toNat : Int)
theorem u8s_len (l : List UInt8) : (u8s l).length = l.length := by simp [u8s]
theorem u8s_append (l m : List UInt8) : u8s (l ++ m) = u8s l ++ u8s m := by simp [u8s]
theorem u8s_take (l : List UInt8) (n : Nat) : (u8s l).take n = u8s (l.take n) := by simp [u8s, List.map_take]
theorem u8s_drop (l : List UInt8) (n : Nat) : (u8s l).drop n = u8s (l.drop n) := by simp [u8s, List.map_drop]
theorem u8s_get (l : List UInt8) (n : Nat) : (u8s l)[n]? = l[n]?.map fun b => NVal.int .u8 (b.toNat : Int) := by simp [u8s]
theorem u8s_one (l : List UInt8) : allOne (u8s l) = true := by
  induction l with
  | nil => rfl
  | cons a l ih => simp only [u8s, List.map_cons] at ih ⊢; simp only [allOne, NVal.one, ih, Bool.and_self]
theorem u8s_bytes (l : List UInt8) : bytesVals (u8s l) = some l := by
  induction l with
  | nil => rfl
  | cons a l ih =>
    show (match byteVal (.int .u8 (a.toNat : Int)) with | none => none | some b => match bytesVals (u8s l) with | none => none | some r => some (b :: r)) = _
    rw [ih]
    simp [byteVal]
theorem u8s_take_self (l : List UInt8) : (u8s l).take l.length = u8s l := by rw [u8s_take, List.take_length]
theorem toL_of1 (P : Program) : True := trivial
theorem index_str {P : Program} {t : TypeId} (hu : P.underlying t = some .string) (s : List UInt8) (k) (i : Nat) (c : UInt8) (hc : s[i]? = some c) : nindex P t (.str s) (.int k (i : Int)) = some (.int .u8 c.toNat) := by
  simp [nindex, hu, hc]
theorem str_add {P : Program} (t : TypeId) (x y : List UInt8) (h : x.length + y.length ≤ 1000000) : nbin P .add t (.str x) (.str y) = some (.str (x ++ y)) := by
  simp [nbin, nStrOp]; omega
end Go.Proofs.YtfgoajnoahhghaaGreatDoor.S
