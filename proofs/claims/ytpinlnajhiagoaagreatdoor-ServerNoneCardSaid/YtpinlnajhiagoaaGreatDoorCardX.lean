/-
  Proved: cofferlaw30.ServerNone returns true, and leaves all that lay in memory as it was.
  Conditions: those of the given card alone: the six listed tables of the library's hold what the program's text lays (tied; the tie's nine facts are proved here, one by one); nothing is added.
-/
import Derived.Test.YtpinlnajhiagoaaGreatDoorCards
import Derived.Test.YtpinlnajhiagoaaGreatDoorHoldX
import Derived.Test.YtpinlnajhiagoaaGreatDoorOwnTieF
import Derived.Test.YtpinlnajhiagoaaGreatDoorFactE
set_option linter.unusedVariables false
set_option linter.unusedSimpArgs false
namespace Go.Proofs.YtpinlnajhiagoaaGreatDoor
open Go

theorem server_wf : Rows.serverNoneRow.wfByText (OpenSpec.ofChange Rows.serverNoneSpec) = true := by kernel_rfl
theorem main_is : Tryz.pinned.checked.prog.mainIs = some (true, ("087b8ae13a4410582fd487ea7ee50b448587607d242d745863502ed3c40c9cbe" : String).toList) := by kernel_rfl
theorem no_looks : false = Tryz.prog.looks [] := by kernel_rfl

theorem server_none_card : Rows.ServerNoneCardSaid :=
  Claim7.holds_tied_plain_at .later [] [.pinned, .data, .pinned, .data, .data, .data] true (true, "087b8ae13a4410582fd487ea7ee50b448587607d242d745863502ed3c40c9cbe") false
    server_holds (fun _ h => by cases h) server_wf (fun _ h => by cases h) serverNone_row_tie rfl ⟨rfl, rfl⟩ main_is rfl
    (fun f fn hf hfn => by
      obtain rfl : f = 4 := Option.some.inj (server_named.symm.trans hf) |>.symm
      obtain rfl : fn = Tryz.f4 := (Option.some.inj (Tryz.func4.symm.trans hfn)).symm
      exact ⟨no_looks, fun j t ht => by
        rw [Tryz.params4] at ht
        cases ht⟩)
    server_goes
#print axioms server_none_card
end Go.Proofs.YtpinlnajhiagoaaGreatDoor
