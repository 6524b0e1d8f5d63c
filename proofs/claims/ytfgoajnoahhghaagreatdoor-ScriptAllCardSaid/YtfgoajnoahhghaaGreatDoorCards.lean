/-
  DERIVED. GIVEN WITH THE SEED: THE CARDS: each row of YtfgoajnoahhghaaGreatDoorRows.lean that lists a variable, with what it lists TIED to the program's text (the seventh form; the later family's looks); each row that meets fmt, with fmt's text TOLD by the authors' own Lean function (tested against real Go, not proved from fmt's source: count such statements apart). THE CARD IS WHAT COUNTS. Prove the row's statement (the work); the ties are given (YtfgoajnoahhghaaGreatDoorTie.lean); close each card by the builder's one call (the guide's Derived/Test/ToyasCard.lean, 'card_holds'). Laid BY PROGRAM, IN A SANDBOX (cutbox-door.mjs). By AI agents, Wed Nov 11 2026. No macro, syntax, notation, axiom, sorry.
-/
import Derived.Test.YtfgoajnoahhghaaGreatDoorRows
import GoSem.ClaimSeven
namespace Go.Proofs.YtfgoajnoahhghaaGreatDoor
namespace Rows

/-- THE TIED CARD OF 'tendrillaw16.CheckEmpty'. -/
def checkEmptyCard : Claim7 := { stood := { row := checkEmptyRow, standIns := [], harness := (true, "b5d84fd5a04abf7b0566341ef84969ef2ec2790596de6dbae792584d7d7e88ab"), looks := true }, kinds := [], alts := [], laidByText := true, laidKinds := [.data, .data, .data], laidTests := true, laidLooks := .later }
def CheckEmptyCardSaid : Prop := Claim7.holds Tryz.pinned (.plain (OpenSpec.ofChange checkEmptySpec)) checkEmptyCard

/-- THE TIED CARD OF 'tendrillaw25.ScriptAll'. -/
def scriptAllCard : Claim7 := { stood := { row := scriptAllRow, standIns := [], harness := (true, "b5d84fd5a04abf7b0566341ef84969ef2ec2790596de6dbae792584d7d7e88ab"), looks := true }, kinds := [], alts := [], laidByText := true, laidKinds := [.data, .data, .data], laidTests := true, laidLooks := .later }
def ScriptAllCardSaid : Prop := Claim7.holds Tryz.pinned (.plain (OpenSpec.ofChange scriptAllSpec)) scriptAllCard

/-- THE TIED CARD OF 'tendrillaw25.ScriptPicks'. -/
def scriptPicksCard : Claim7 := { stood := { row := scriptPicksRow, standIns := [], harness := (true, "b5d84fd5a04abf7b0566341ef84969ef2ec2790596de6dbae792584d7d7e88ab"), looks := true }, kinds := [], alts := [], laidByText := true, laidKinds := [.data, .data, .data], laidTests := true, laidLooks := .later }
def ScriptPicksCardSaid : Prop := Claim7.holds Tryz.pinned (.plain (OpenSpec.ofChange scriptPicksSpec)) scriptPicksCard

/-- THE TIED CARD OF 'tendrillaw25.ScriptLines'. -/
def scriptLinesCard : Claim7 := { stood := { row := scriptLinesRow, standIns := [], harness := (true, "b5d84fd5a04abf7b0566341ef84969ef2ec2790596de6dbae792584d7d7e88ab"), looks := true }, kinds := [], alts := [], laidByText := true, laidKinds := [.data, .data, .data], laidTests := true, laidLooks := .later }
def ScriptLinesCardSaid : Prop := Claim7.holds Tryz.pinned (.plain (OpenSpec.ofChange scriptLinesSpec)) scriptLinesCard

/-- THE TIED CARD OF 'tendrillaw25.ScriptTerms'. -/
def scriptTermsCard : Claim7 := { stood := { row := scriptTermsRow, standIns := [], harness := (true, "b5d84fd5a04abf7b0566341ef84969ef2ec2790596de6dbae792584d7d7e88ab"), looks := true }, kinds := [], alts := [], laidByText := true, laidKinds := [.data, .data, .data], laidTests := true, laidLooks := .later }
def ScriptTermsCardSaid : Prop := Claim7.holds Tryz.pinned (.plain (OpenSpec.ofChange scriptTermsSpec)) scriptTermsCard

/-- THE TIED CARD OF 'tendrillaw25.ScriptSame'. -/
def scriptSameCard : Claim7 := { stood := { row := scriptSameRow, standIns := [], harness := (true, "b5d84fd5a04abf7b0566341ef84969ef2ec2790596de6dbae792584d7d7e88ab"), looks := true }, kinds := [], alts := [], laidByText := true, laidKinds := [.data, .data, .data], laidTests := true, laidLooks := .later }
def ScriptSameCardSaid : Prop := Claim7.holds Tryz.pinned (.plain (OpenSpec.ofChange scriptSameSpec)) scriptSameCard

/-- THE SECOND FORM's CARD OF 'tendrillaw16.CheckEmpty'. -/
def checkEmptyUptoCard : Claim7 := { stood := { row := checkEmptyUptoRow, standIns := [], harness := (true, "b5d84fd5a04abf7b0566341ef84969ef2ec2790596de6dbae792584d7d7e88ab"), looks := true }, kinds := [], alts := [], laidByText := true, laidKinds := [.data, .data, .data], laidTests := true, laidLooks := .later }
def CheckEmptyUptoCardSaid : Prop := Claim7.holds Tryz.pinned (.plain (OpenSpec.upto checkEmptySpec)) checkEmptyUptoCard

/-- THE SECOND FORM's CARD OF 'tendrillaw25.ScriptAll'. -/
def scriptAllUptoCard : Claim7 := { stood := { row := scriptAllUptoRow, standIns := [], harness := (true, "b5d84fd5a04abf7b0566341ef84969ef2ec2790596de6dbae792584d7d7e88ab"), looks := true }, kinds := [], alts := [], laidByText := true, laidKinds := [.data, .data, .data], laidTests := true, laidLooks := .later }
def ScriptAllUptoCardSaid : Prop := Claim7.holds Tryz.pinned (.plain (OpenSpec.upto scriptAllSpec)) scriptAllUptoCard

/-- THE SECOND FORM's CARD OF 'tendrillaw25.ScriptPicks'. -/
def scriptPicksUptoCard : Claim7 := { stood := { row := scriptPicksUptoRow, standIns := [], harness := (true, "b5d84fd5a04abf7b0566341ef84969ef2ec2790596de6dbae792584d7d7e88ab"), looks := true }, kinds := [], alts := [], laidByText := true, laidKinds := [.data, .data, .data], laidTests := true, laidLooks := .later }
def ScriptPicksUptoCardSaid : Prop := Claim7.holds Tryz.pinned (.plain (OpenSpec.upto scriptPicksSpec)) scriptPicksUptoCard

/-- THE SECOND FORM's CARD OF 'tendrillaw25.ScriptLines'. -/
def scriptLinesUptoCard : Claim7 := { stood := { row := scriptLinesUptoRow, standIns := [], harness := (true, "b5d84fd5a04abf7b0566341ef84969ef2ec2790596de6dbae792584d7d7e88ab"), looks := true }, kinds := [], alts := [], laidByText := true, laidKinds := [.data, .data, .data], laidTests := true, laidLooks := .later }
def ScriptLinesUptoCardSaid : Prop := Claim7.holds Tryz.pinned (.plain (OpenSpec.upto scriptLinesSpec)) scriptLinesUptoCard

/-- THE SECOND FORM's CARD OF 'tendrillaw25.ScriptTerms'. -/
def scriptTermsUptoCard : Claim7 := { stood := { row := scriptTermsUptoRow, standIns := [], harness := (true, "b5d84fd5a04abf7b0566341ef84969ef2ec2790596de6dbae792584d7d7e88ab"), looks := true }, kinds := [], alts := [], laidByText := true, laidKinds := [.data, .data, .data], laidTests := true, laidLooks := .later }
def ScriptTermsUptoCardSaid : Prop := Claim7.holds Tryz.pinned (.plain (OpenSpec.upto scriptTermsSpec)) scriptTermsUptoCard

/-- THE SECOND FORM's CARD OF 'tendrillaw25.ScriptSame'. -/
def scriptSameUptoCard : Claim7 := { stood := { row := scriptSameUptoRow, standIns := [], harness := (true, "b5d84fd5a04abf7b0566341ef84969ef2ec2790596de6dbae792584d7d7e88ab"), looks := true }, kinds := [], alts := [], laidByText := true, laidKinds := [.data, .data, .data], laidTests := true, laidLooks := .later }
def ScriptSameUptoCardSaid : Prop := Claim7.holds Tryz.pinned (.plain (OpenSpec.upto scriptSameSpec)) scriptSameUptoCard
end Rows
end Go.Proofs.YtfgoajnoahhghaaGreatDoor
