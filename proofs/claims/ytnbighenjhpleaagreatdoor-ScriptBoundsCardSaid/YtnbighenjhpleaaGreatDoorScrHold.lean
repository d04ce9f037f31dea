/-
  The row of cofferlaw31.ScriptBounds holds.
-/
import Derived.Test.YtnbighenjhpleaaGreatDoorFactA
import Derived.Test.YtnbighenjhpleaaGreatDoorFactB
import Derived.Test.YtnbighenjhpleaaGreatDoorFactD
import Derived.Test.YtnbighenjhpleaaGreatDoorFactE
import Derived.Test.YtnbighenjhpleaaGreatDoorScrRow
set_option linter.unusedVariables false
set_option linter.unusedSimpArgs false
namespace Go.Proofs.YtnbighenjhpleaaGreatDoor
open Go

theorem fact_and {a b : Bool} (h : a = true) (k : b = true) : (a && b) = true := by rw [h, k]; rfl

set_option maxRecDepth 100000 in
theorem bounds_closed : joinedFacts Tryz.prog 6 Tryz.f6 Rows.scriptBoundsSpec Rows.scriptBoundsRow = true :=
  fact_and (fact_and (fact_and (fact_and (fact_and (fact_and (fact_and (fact_and (fact_and (fact_and (fact_and (fact_and (fact_and (fact_and (fact_and (fact_and (fact_and (fact_and (fact_and (fact_and (fact_and (fact_and (fact_and (fact_and (fact_and (fact_and (fact_and (fact_and (fact_and (fact_and (fact_and bk1 types_closed.1) types_closed.2) bk4) bk5) bk6) bk7) bk8) bk9) bk10) bk11) bk12) bk13) bk14) bk15) bk16) bk17) bk18) bk19) bk20) bk21) bk22) bk23) bk24) bk25) bk26) bk27) bk28) bk29) bk30) bk31) bk32


theorem bounds_instance : Tryz.f6.isInstance Tryz.prog Rows.scriptBoundsRow.origin Rows.scriptBoundsRow.targs := of_decide_eq_true (by kernel_rfl)
theorem bounds_wrapper : Tryz.f6.isWrapper Tryz.prog Rows.scriptBoundsRow.wrapper Rows.scriptBoundsRow.mainSum := by
  unfold Func.isWrapper; first | (rw [if_pos (by decide +kernel)]; kernel_rfl) | (rw [if_neg (by decide +kernel)]; exact ⟨rfl, rfl⟩)

theorem bounds_holds : Rows.ScriptBoundsSaid :=
  OpenClaim.holds_of_wide 6 Tryz.f6 rfl rfl rfl rfl rfl rfl rfl ⟨rfl, rfl, rfl, rfl, rfl⟩ rfl rfl rfl rfl rfl bounds_named Tryz.func6 bounds_closed bounds_instance bounds_wrapper
    (fun os started H enc _ => bounds_lifted os started H enc)
end Go.Proofs.YtnbighenjhpleaaGreatDoor
