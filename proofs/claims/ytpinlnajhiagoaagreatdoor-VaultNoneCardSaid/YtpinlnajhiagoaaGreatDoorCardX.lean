/-
  Proved: cofferlaw29.VaultNone returns true, and leaves all that lay in memory as it was.
  Conditions: those of the given card alone: the three listed tables of the library's hold what the program's text lays (tied; the tie's nine facts are proved here, one by one); nothing is added.
-/
import Derived.Test.YtpinlnajhiagoaaGreatDoorCards
import Derived.Test.YtpinlnajhiagoaaGreatDoorHoldX
import Derived.Test.YtpinlnajhiagoaaGreatDoorOwnTieF
import Derived.Test.YtpinlnajhiagoaaGreatDoorFactE
set_option linter.unusedVariables false
set_option linter.unusedSimpArgs false
namespace Go.Proofs.YtpinlnajhiagoaaGreatDoor
open Go

theorem vault_wf : Rows.vaultNoneRow.wfByText (OpenSpec.ofChange Rows.vaultNoneSpec) = true := by kernel_rfl
theorem main_is : Tryz.pinned.checked.prog.mainIs = some (true, ("087b8ae13a4410582fd487ea7ee50b448587607d242d745863502ed3c40c9cbe" : String).toList) := by kernel_rfl
theorem no_looks : false = Tryz.prog.looks [] := by kernel_rfl

theorem vault_none_card : Rows.VaultNoneCardSaid :=
  Claim7.holds_tied_plain_at .later [] [.data, .data, .data] true (true, "087b8ae13a4410582fd487ea7ee50b448587607d242d745863502ed3c40c9cbe") false
    vault_holds (fun _ h => by cases h) vault_wf (fun _ h => by cases h) vaultNone_row_tie rfl ⟨rfl, rfl⟩ main_is rfl
    (fun f fn hf hfn => by
      obtain rfl : f = 3 := Option.some.inj (vault_named.symm.trans hf) |>.symm
      obtain rfl : fn = Tryz.f3 := (Option.some.inj (Tryz.func3.symm.trans hfn)).symm
      exact ⟨no_looks, fun j t ht => by
        rw [Tryz.params3] at ht
        cases ht⟩)
    vault_goes
#print axioms vault_none_card
end Go.Proofs.YtpinlnajhiagoaaGreatDoor
