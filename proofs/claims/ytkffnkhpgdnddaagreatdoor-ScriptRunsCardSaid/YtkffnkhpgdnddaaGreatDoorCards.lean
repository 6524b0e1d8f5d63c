/-
  DERIVED. GIVEN WITH THE SEED: THE CARDS: each row of YtkffnkhpgdnddaaGreatDoorRows.lean that lists a variable, with what it lists TIED to the program's text (the seventh form; the later family's looks); each row that meets fmt, with fmt's text TOLD by the authors' own Lean function (tested against real Go, not proved from fmt's source: count such statements apart). THE CARD IS WHAT COUNTS. Prove the row's statement (the work); the ties are given (YtkffnkhpgdnddaaGreatDoorTie.lean); close each card by the builder's one call (the guide's Derived/Test/ToyasCard.lean, 'card_holds'). Laid BY PROGRAM, IN A SANDBOX (cutbox-door.mjs). By AI agents, Wed Nov 11 2026. No macro, syntax, notation, axiom, sorry.
-/
import Derived.Test.YtkffnkhpgdnddaaGreatDoorRows
import GoSem.ClaimSeven
namespace Go.Proofs.YtkffnkhpgdnddaaGreatDoor
namespace Rows

/-- THE TIED CARD OF 'tendrillaw16.CheckRuns'. -/
def checkRunsCard : Claim7 := { stood := { row := checkRunsRow, standIns := [], harness := (true, "7520c0a6fc38a14ecaa67e8609b7a97fe17e9fdf2d9cf6af38b6cb472e3834d5"), looks := true }, kinds := [], alts := [], laidByText := true, laidKinds := [.data, .data, .data], laidTests := true, laidLooks := .later }
def CheckRunsCardSaid : Prop := Claim7.holds Tryz.pinned (.plain (OpenSpec.ofChange checkRunsSpec)) checkRunsCard

/-- THE TIED CARD OF 'tendrillaw25.ScriptRuns'. -/
def scriptRunsCard : Claim7 := { stood := { row := scriptRunsRow, standIns := [], harness := (true, "7520c0a6fc38a14ecaa67e8609b7a97fe17e9fdf2d9cf6af38b6cb472e3834d5"), looks := true }, kinds := [], alts := [], laidByText := true, laidKinds := [.data, .data, .data], laidTests := true, laidLooks := .later }
def ScriptRunsCardSaid : Prop := Claim7.holds Tryz.pinned (.plain (OpenSpec.ofChange scriptRunsSpec)) scriptRunsCard

/-- THE SECOND FORM's CARD OF 'tendrillaw16.CheckRuns'. -/
def checkRunsUptoCard : Claim7 := { stood := { row := checkRunsUptoRow, standIns := [], harness := (true, "7520c0a6fc38a14ecaa67e8609b7a97fe17e9fdf2d9cf6af38b6cb472e3834d5"), looks := true }, kinds := [], alts := [], laidByText := true, laidKinds := [.data, .data, .data], laidTests := true, laidLooks := .later }
def CheckRunsUptoCardSaid : Prop := Claim7.holds Tryz.pinned (.plain (OpenSpec.upto checkRunsSpec)) checkRunsUptoCard

/-- THE SECOND FORM's CARD OF 'tendrillaw25.ScriptRuns'. -/
def scriptRunsUptoCard : Claim7 := { stood := { row := scriptRunsUptoRow, standIns := [], harness := (true, "7520c0a6fc38a14ecaa67e8609b7a97fe17e9fdf2d9cf6af38b6cb472e3834d5"), looks := true }, kinds := [], alts := [], laidByText := true, laidKinds := [.data, .data, .data], laidTests := true, laidLooks := .later }
def ScriptRunsUptoCardSaid : Prop := Claim7.holds Tryz.pinned (.plain (OpenSpec.upto scriptRunsSpec)) scriptRunsUptoCard
end Rows
end Go.Proofs.YtkffnkhpgdnddaaGreatDoor
