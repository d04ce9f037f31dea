/-
  Proved: for every n and c, cofferlaw31.ScriptBounds returns true, and leaves its arguments and all that lay in memory as it was.
  Conditions: those of the given card alone: the six listed tables of the library's hold what the program's text lays (tied; the tie's nine facts are proved here, one by one); nothing is added.
-/
import Derived.Test.YtnbighenjhpleaaGreatDoorCards
import Derived.Test.YtnbighenjhpleaaGreatDoorScrHold
import Derived.Test.YtnbighenjhpleaaGreatDoorOwnTieF
import Derived.Test.YtnbighenjhpleaaGreatDoorFactE
set_option linter.unusedVariables false
set_option linter.unusedSimpArgs false
namespace Go.Proofs.YtnbighenjhpleaaGreatDoor
open Go

theorem bounds_wf : Rows.scriptBoundsRow.wfByText (OpenSpec.ofChange Rows.scriptBoundsSpec) = true := by kernel_rfl
theorem main_is : Tryz.pinned.checked.prog.mainIs = some (true, ("8786a9c9848603e3decea50230d5428dd75d7df98704d5556b536d9f986afd2c" : String).toList) := by kernel_rfl
theorem no_looks : false = Tryz.prog.looks [] := by kernel_rfl
theorem bounds_stands : ([3, 5].all fun u => !Tryz.prog.wantsStandIn u) = true := by kernel_rfl

theorem script_bounds_card : Rows.ScriptBoundsCardSaid :=
  Claim7.holds_tied_plain_at .later [] [.pinned, .data, .data, .data, .data, .pinned] true (true, "8786a9c9848603e3decea50230d5428dd75d7df98704d5556b536d9f986afd2c") false
    bounds_holds (fun _ h => by cases h) bounds_wf (fun _ h => by cases h) scriptBounds_row_tie rfl ⟨rfl, rfl⟩ main_is rfl
    (fun f fn hf hfn => by
      obtain rfl : f = 6 := Option.some.inj (bounds_named.symm.trans hf) |>.symm
      obtain rfl : fn = Tryz.f6 := (Option.some.inj (Tryz.func6.symm.trans hfn)).symm
      exact ⟨no_looks, fun j t ht => by
        rw [Tryz.params6] at ht
        have hm : t ∈ [3, 5] := by simpa using Array.mem_of_getElem? ht
        exact (show Tryz.prog.wantsStandIn t = false by simpa using List.all_eq_true.1 bounds_stands t hm)⟩)
    bounds_goes
#print axioms script_bounds_card
end Go.Proofs.YtnbighenjhpleaaGreatDoor
