/-
  DERIVED. GIVEN WITH THE SEED: THE CARDS: each row of YtkjpldganajkkaaGreatDoorRows.lean that lists a variable, with what it lists TIED to the program's text (the seventh form; the later family's looks); each row that meets fmt, with fmt's text TOLD by the authors' own Lean function (tested against real Go, not proved from fmt's source: count such statements apart). THE CARD IS WHAT COUNTS. Prove the row's statement (the work); the ties are given (YtkjpldganajkkaaGreatDoorTie.lean); close each card by the builder's one call (the guide's Derived/Test/ToyasCard.lean, 'card_holds'). Laid BY PROGRAM, IN A SANDBOX (cutbox-door.mjs). By AI agents, Wed Nov 11 2026. No macro, syntax, notation, axiom, sorry.
-/
import Derived.Test.YtkjpldganajkkaaGreatDoorRows
import GoSem.ClaimSeven
namespace Go.Proofs.YtkjpldganajkkaaGreatDoor
namespace Rows

/-- THE TIED CARD OF 'tendrillaw16.CheckEmpty'. -/
def checkEmptyCard : Claim7 := { stood := { row := checkEmptyRow, standIns := [], harness := (true, "454a8e4782fc0fc7bf6dfacc9981ec903c4a3faa7875a3b8a6c97eea905204b9"), looks := true }, kinds := [], alts := [], laidByText := true, laidKinds := [.data, .data, .data], laidTests := true, laidLooks := .later }
def CheckEmptyCardSaid : Prop := Claim7.holds Tryz.pinned (.plain (OpenSpec.ofChange checkEmptySpec)) checkEmptyCard

/-- THE TIED CARD OF 'tendrillaw25.ScriptSame'. -/
def scriptSameCard : Claim7 := { stood := { row := scriptSameRow, standIns := [], harness := (true, "454a8e4782fc0fc7bf6dfacc9981ec903c4a3faa7875a3b8a6c97eea905204b9"), looks := true }, kinds := [], alts := [], laidByText := true, laidKinds := [.data, .data, .data], laidTests := true, laidLooks := .later }
def ScriptSameCardSaid : Prop := Claim7.holds Tryz.pinned (.plain (OpenSpec.ofChange scriptSameSpec)) scriptSameCard

/-- THE SECOND FORM's CARD OF 'tendrillaw16.CheckEmpty'. -/
def checkEmptyUptoCard : Claim7 := { stood := { row := checkEmptyUptoRow, standIns := [], harness := (true, "454a8e4782fc0fc7bf6dfacc9981ec903c4a3faa7875a3b8a6c97eea905204b9"), looks := true }, kinds := [], alts := [], laidByText := true, laidKinds := [.data, .data, .data], laidTests := true, laidLooks := .later }
def CheckEmptyUptoCardSaid : Prop := Claim7.holds Tryz.pinned (.plain (OpenSpec.upto checkEmptySpec)) checkEmptyUptoCard

/-- THE SECOND FORM's CARD OF 'tendrillaw25.ScriptSame'. -/
def scriptSameUptoCard : Claim7 := { stood := { row := scriptSameUptoRow, standIns := [], harness := (true, "454a8e4782fc0fc7bf6dfacc9981ec903c4a3faa7875a3b8a6c97eea905204b9"), looks := true }, kinds := [], alts := [], laidByText := true, laidKinds := [.data, .data, .data], laidTests := true, laidLooks := .later }
def ScriptSameUptoCardSaid : Prop := Claim7.holds Tryz.pinned (.plain (OpenSpec.upto scriptSameSpec)) scriptSameUptoCard
end Rows
end Go.Proofs.YtkjpldganajkkaaGreatDoor
