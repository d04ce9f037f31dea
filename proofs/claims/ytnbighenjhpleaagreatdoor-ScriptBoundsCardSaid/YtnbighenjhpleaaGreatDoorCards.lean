/-
  DERIVED. GIVEN WITH THE SEED: THE CARDS: each row of YtnbighenjhpleaaGreatDoorRows.lean that lists a variable, with what it lists TIED to the program's text (the seventh form; the later family's looks); each row that meets fmt, with fmt's text TOLD by the authors' own Lean function (tested against real Go, not proved from fmt's source: count such statements apart). THE CARD IS WHAT COUNTS. Prove the row's statement (the work); the ties are given (YtnbighenjhpleaaGreatDoorTie.lean); close each card by the builder's one call (the guide's Derived/Test/ToyasCard.lean, 'card_holds'). Laid BY PROGRAM, IN A SANDBOX (cutbox-door.mjs). By AI agents, Wed Nov 11 2026. No macro, syntax, notation, axiom, sorry.
-/
import Derived.Test.YtnbighenjhpleaaGreatDoorRows
import GoSem.ClaimSeven
namespace Go.Proofs.YtnbighenjhpleaaGreatDoor
namespace Rows

/-- THE TIED CARD OF 'cofferlaw31.ScriptReads'. -/
def scriptReadsCard : Claim7 := { stood := { row := scriptReadsRow, standIns := [], harness := (true, "8786a9c9848603e3decea50230d5428dd75d7df98704d5556b536d9f986afd2c"), looks := false }, kinds := [], alts := [], laidByText := true, laidKinds := [.pinned, .data, .data, .data, .data, .pinned], laidTests := true, laidLooks := .later }
def ScriptReadsCardSaid : Prop := Claim7.holds Tryz.pinned (.plain (OpenSpec.ofChange scriptReadsSpec)) scriptReadsCard

/-- THE TIED CARD OF 'cofferlaw31.ScriptWrites'. -/
def scriptWritesCard : Claim7 := { stood := { row := scriptWritesRow, standIns := [], harness := (true, "8786a9c9848603e3decea50230d5428dd75d7df98704d5556b536d9f986afd2c"), looks := false }, kinds := [], alts := [], laidByText := true, laidKinds := [.pinned, .data, .data, .data, .data, .pinned], laidTests := true, laidLooks := .later }
def ScriptWritesCardSaid : Prop := Claim7.holds Tryz.pinned (.plain (OpenSpec.ofChange scriptWritesSpec)) scriptWritesCard

/-- THE TIED CARD OF 'cofferlaw31.ScriptBack'. -/
def scriptBackCard : Claim7 := { stood := { row := scriptBackRow, standIns := [], harness := (true, "8786a9c9848603e3decea50230d5428dd75d7df98704d5556b536d9f986afd2c"), looks := false }, kinds := [], alts := [], laidByText := true, laidKinds := [.pinned, .data, .data, .data, .data, .pinned], laidTests := true, laidLooks := .later }
def ScriptBackCardSaid : Prop := Claim7.holds Tryz.pinned (.plain (OpenSpec.ofChange scriptBackSpec)) scriptBackCard

/-- THE TIED CARD OF 'cofferlaw31.ScriptBounds'. -/
def scriptBoundsCard : Claim7 := { stood := { row := scriptBoundsRow, standIns := [], harness := (true, "8786a9c9848603e3decea50230d5428dd75d7df98704d5556b536d9f986afd2c"), looks := false }, kinds := [], alts := [], laidByText := true, laidKinds := [.pinned, .data, .data, .data, .data, .pinned], laidTests := true, laidLooks := .later }
def ScriptBoundsCardSaid : Prop := Claim7.holds Tryz.pinned (.plain (OpenSpec.ofChange scriptBoundsSpec)) scriptBoundsCard

/-- THE SECOND FORM's CARD OF 'cofferlaw31.ScriptReads'. -/
def scriptReadsUptoCard : Claim7 := { stood := { row := scriptReadsUptoRow, standIns := [], harness := (true, "8786a9c9848603e3decea50230d5428dd75d7df98704d5556b536d9f986afd2c"), looks := false }, kinds := [], alts := [], laidByText := true, laidKinds := [.pinned, .data, .data, .data, .data, .pinned], laidTests := true, laidLooks := .later }
def ScriptReadsUptoCardSaid : Prop := Claim7.holds Tryz.pinned (.plain (OpenSpec.upto scriptReadsSpec)) scriptReadsUptoCard

/-- THE SECOND FORM's CARD OF 'cofferlaw31.ScriptWrites'. -/
def scriptWritesUptoCard : Claim7 := { stood := { row := scriptWritesUptoRow, standIns := [], harness := (true, "8786a9c9848603e3decea50230d5428dd75d7df98704d5556b536d9f986afd2c"), looks := false }, kinds := [], alts := [], laidByText := true, laidKinds := [.pinned, .data, .data, .data, .data, .pinned], laidTests := true, laidLooks := .later }
def ScriptWritesUptoCardSaid : Prop := Claim7.holds Tryz.pinned (.plain (OpenSpec.upto scriptWritesSpec)) scriptWritesUptoCard

/-- THE SECOND FORM's CARD OF 'cofferlaw31.ScriptBack'. -/
def scriptBackUptoCard : Claim7 := { stood := { row := scriptBackUptoRow, standIns := [], harness := (true, "8786a9c9848603e3decea50230d5428dd75d7df98704d5556b536d9f986afd2c"), looks := false }, kinds := [], alts := [], laidByText := true, laidKinds := [.pinned, .data, .data, .data, .data, .pinned], laidTests := true, laidLooks := .later }
def ScriptBackUptoCardSaid : Prop := Claim7.holds Tryz.pinned (.plain (OpenSpec.upto scriptBackSpec)) scriptBackUptoCard

/-- THE SECOND FORM's CARD OF 'cofferlaw31.ScriptBounds'. -/
def scriptBoundsUptoCard : Claim7 := { stood := { row := scriptBoundsUptoRow, standIns := [], harness := (true, "8786a9c9848603e3decea50230d5428dd75d7df98704d5556b536d9f986afd2c"), looks := false }, kinds := [], alts := [], laidByText := true, laidKinds := [.pinned, .data, .data, .data, .data, .pinned], laidTests := true, laidLooks := .later }
def ScriptBoundsUptoCardSaid : Prop := Claim7.holds Tryz.pinned (.plain (OpenSpec.upto scriptBoundsSpec)) scriptBoundsUptoCard
end Rows
end Go.Proofs.YtnbighenjhpleaaGreatDoor
