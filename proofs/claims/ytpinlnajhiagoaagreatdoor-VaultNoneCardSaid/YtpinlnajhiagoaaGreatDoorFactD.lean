/-
  The row's cells that hang on what VaultNone comes to.
-/
import Derived.Test.YtpinlnajhiagoaaGreatDoorCloOne
set_option linter.unusedVariables false
set_option linter.unusedSimpArgs false
namespace Go.Proofs.YtpinlnajhiagoaaGreatDoor
open Go
theorem bk11u : Tryz.prog.unfollowed 3 = true := by
  unfold Program.unfollowed
  rw [reach3_eq]
  kernel_rfl
theorem bk11 : (Rows.vaultNoneRow.unfollowed == Tryz.prog.unfollowed 3) = true := by rw [bk11u]; rfl
theorem bk12 : (Rows.vaultNoneRow.recurses == Tryz.prog.recurses 3) = true := by
  unfold Program.recurses
  rw [bk11u]
  rfl
theorem bk10 : (Rows.vaultNoneRow.inPlace == Tryz.prog.inPlace 3) = true := by
  unfold Program.inPlace
  rw [reach3_eq]
  kernel_rfl
theorem bk13 : (Rows.vaultNoneRow.named == Tryz.prog.varsNamed 3) = true := by
  unfold Program.varsNamed
  rw [reach3_eq]
  kernel_rfl
end Go.Proofs.YtpinlnajhiagoaaGreatDoor
