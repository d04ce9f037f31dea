/-
  The row of cofferlaw29.VaultNone holds.
-/
import Derived.Test.YtpinlnajhiagoaaGreatDoorFactA
import Derived.Test.YtpinlnajhiagoaaGreatDoorFactB
import Derived.Test.YtpinlnajhiagoaaGreatDoorFactD
import Derived.Test.YtpinlnajhiagoaaGreatDoorFactE
import Derived.Test.YtpinlnajhiagoaaGreatDoorRowX
set_option linter.unusedVariables false
set_option linter.unusedSimpArgs false
namespace Go.Proofs.YtpinlnajhiagoaaGreatDoor
open Go

theorem fact_and {a b : Bool} (h : a = true) (k : b = true) : (a && b) = true := by rw [h, k]; rfl

set_option maxRecDepth 100000 in
theorem vault_closed : joinedFacts Tryz.prog 3 Tryz.f3 Rows.vaultNoneSpec Rows.vaultNoneRow = true :=
  fact_and (fact_and (fact_and (fact_and (fact_and (fact_and (fact_and (fact_and (fact_and (fact_and (fact_and (fact_and (fact_and (fact_and (fact_and (fact_and (fact_and (fact_and (fact_and (fact_and (fact_and (fact_and (fact_and (fact_and (fact_and (fact_and (fact_and (fact_and (fact_and (fact_and (fact_and bk1 types_closed.1) types_closed.2) bk4) bk5) bk6) bk7) bk8) bk9) bk10) bk11) bk12) bk13) bk14) bk15) bk16) bk17) bk18) bk19) bk20) bk21) bk22) bk23) bk24) bk25) bk26) bk27) bk28) bk29) bk30) bk31) bk32


theorem vault_instance : Tryz.f3.isInstance Tryz.prog Rows.vaultNoneRow.origin Rows.vaultNoneRow.targs := of_decide_eq_true (by kernel_rfl)
theorem vault_wrapper : Tryz.f3.isWrapper Tryz.prog Rows.vaultNoneRow.wrapper Rows.vaultNoneRow.mainSum := by
  unfold Func.isWrapper; first | (rw [if_pos (by decide +kernel)]; kernel_rfl) | (rw [if_neg (by decide +kernel)]; exact ⟨rfl, rfl⟩)

theorem vault_holds : Rows.VaultNoneSaid :=
  OpenClaim.holds_of_wide 3 Tryz.f3 rfl rfl rfl rfl rfl rfl rfl ⟨rfl, rfl, rfl, rfl, rfl⟩ rfl rfl rfl rfl rfl vault_named Tryz.func3 vault_closed vault_instance vault_wrapper
    (fun os started H enc _ => vault_lifted os started H enc)
end Go.Proofs.YtpinlnajhiagoaaGreatDoor
