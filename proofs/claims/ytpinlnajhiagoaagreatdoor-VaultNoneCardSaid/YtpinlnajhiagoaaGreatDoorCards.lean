/-
  DERIVED. GIVEN WITH THE SEED: THE CARDS: each row of YtpinlnajhiagoaaGreatDoorRows.lean that lists a variable, with what it lists TIED to the program's text (the seventh form; the later family's looks); each row that meets fmt, with fmt's text TOLD by the authors' own Lean function (tested against real Go, not proved from fmt's source: count such statements apart). THE CARD IS WHAT COUNTS. Prove the row's statement (the work); the ties are given (YtpinlnajhiagoaaGreatDoorTie.lean); close each card by the builder's one call (the guide's Derived/Test/ToyasCard.lean, 'card_holds'). Laid BY PROGRAM, IN A SANDBOX (cutbox-door.mjs). By AI agents, Wed Nov 11 2026. No macro, syntax, notation, axiom, sorry.
-/
import Derived.Test.YtpinlnajhiagoaaGreatDoorRows
import GoSem.ClaimSeven
namespace Go.Proofs.YtpinlnajhiagoaaGreatDoor
namespace Rows

/-- THE TIED CARD OF 'cofferlaw29.VaultNone'. -/
def vaultNoneCard : Claim7 := { stood := { row := vaultNoneRow, standIns := [], harness := (true, "087b8ae13a4410582fd487ea7ee50b448587607d242d745863502ed3c40c9cbe"), looks := false }, kinds := [], alts := [], laidByText := true, laidKinds := [.data, .data, .data], laidTests := true, laidLooks := .later }
def VaultNoneCardSaid : Prop := Claim7.holds Tryz.pinned (.plain (OpenSpec.ofChange vaultNoneSpec)) vaultNoneCard

/-- THE TIED CARD OF 'cofferlaw30.ServerNone'. -/
def serverNoneCard : Claim7 := { stood := { row := serverNoneRow, standIns := [], harness := (true, "087b8ae13a4410582fd487ea7ee50b448587607d242d745863502ed3c40c9cbe"), looks := false }, kinds := [], alts := [], laidByText := true, laidKinds := [.pinned, .data, .pinned, .data, .data, .data], laidTests := true, laidLooks := .later }
def ServerNoneCardSaid : Prop := Claim7.holds Tryz.pinned (.plain (OpenSpec.ofChange serverNoneSpec)) serverNoneCard

/-- THE SECOND FORM's CARD OF 'cofferlaw29.VaultNone'. -/
def vaultNoneUptoCard : Claim7 := { stood := { row := vaultNoneUptoRow, standIns := [], harness := (true, "087b8ae13a4410582fd487ea7ee50b448587607d242d745863502ed3c40c9cbe"), looks := false }, kinds := [], alts := [], laidByText := true, laidKinds := [.data, .data, .data], laidTests := true, laidLooks := .later }
def VaultNoneUptoCardSaid : Prop := Claim7.holds Tryz.pinned (.plain (OpenSpec.upto vaultNoneSpec)) vaultNoneUptoCard

/-- THE SECOND FORM's CARD OF 'cofferlaw30.ServerNone'. -/
def serverNoneUptoCard : Claim7 := { stood := { row := serverNoneUptoRow, standIns := [], harness := (true, "087b8ae13a4410582fd487ea7ee50b448587607d242d745863502ed3c40c9cbe"), looks := false }, kinds := [], alts := [], laidByText := true, laidKinds := [.pinned, .data, .pinned, .data, .data, .data], laidTests := true, laidLooks := .later }
def ServerNoneUptoCardSaid : Prop := Claim7.holds Tryz.pinned (.plain (OpenSpec.upto serverNoneSpec)) serverNoneUptoCard
end Rows
end Go.Proofs.YtpinlnajhiagoaaGreatDoor
