/-
  The row of cofferlaw30.ServerNone holds.
-/
import Derived.Test.YtpinlnajhiagoaaGreatDoorFactA
import Derived.Test.YtpinlnajhiagoaaGreatDoorFactB
import Derived.Test.YtpinlnajhiagoaaGreatDoorFactD
import Derived.Test.YtpinlnajhiagoaaGreatDoorFactE
import Derived.Test.YtpinlnajhiagoaaGreatDoorRowX
set_option linter.unusedVariables false
set_option linter.unusedSimpArgs false
namespace Go.Proofs.YtpinlnajhiagoaaGreatDoor
open Go

theorem fact_and {a b : Bool} (h : a = true) (k : b = true) : (a && b) = true := by rw [h, k]; rfl

set_option maxRecDepth 100000 in
theorem server_closed : joinedFacts Tryz.prog 4 Tryz.f4 Rows.serverNoneSpec Rows.serverNoneRow = true :=
  fact_and (fact_and (fact_and (fact_and (fact_and (fact_and (fact_and (fact_and (fact_and (fact_and (fact_and (fact_and (fact_and (fact_and (fact_and (fact_and (fact_and (fact_and (fact_and (fact_and (fact_and (fact_and (fact_and (fact_and (fact_and (fact_and (fact_and (fact_and (fact_and (fact_and (fact_and bk1 types_closed.1) types_closed.2) bk4) bk5) bk6) bk7) bk8) bk9) bk10) bk11) bk12) bk13) bk14) bk15) bk16) bk17) bk18) bk19) bk20) bk21) bk22) bk23) bk24) bk25) bk26) bk27) bk28) bk29) bk30) bk31) bk32


theorem server_instance : Tryz.f4.isInstance Tryz.prog Rows.serverNoneRow.origin Rows.serverNoneRow.targs := of_decide_eq_true (by kernel_rfl)
theorem server_wrapper : Tryz.f4.isWrapper Tryz.prog Rows.serverNoneRow.wrapper Rows.serverNoneRow.mainSum := by
  unfold Func.isWrapper; first | (rw [if_pos (by decide +kernel)]; kernel_rfl) | (rw [if_neg (by decide +kernel)]; exact ⟨rfl, rfl⟩)

theorem server_holds : Rows.ServerNoneSaid :=
  OpenClaim.holds_of_wide 4 Tryz.f4 rfl rfl rfl rfl rfl rfl rfl ⟨rfl, rfl, rfl, rfl, rfl⟩ rfl rfl rfl rfl rfl server_named Tryz.func4 server_closed server_instance server_wrapper
    (fun os started H enc _ => server_lifted os started H enc)
end Go.Proofs.YtpinlnajhiagoaaGreatDoor
