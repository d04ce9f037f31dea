/-
  The row's cells that hang on what ServerNone comes to.
-/
import Derived.Test.YtpinlnajhiagoaaGreatDoorCloOne
set_option linter.unusedVariables false
set_option linter.unusedSimpArgs false
namespace Go.Proofs.YtpinlnajhiagoaaGreatDoor
open Go
theorem bk11u : Tryz.prog.unfollowed 4 = true := by
  unfold Program.unfollowed
  rw [reach4_eq]
  kernel_rfl
theorem bk11 : (Rows.serverNoneRow.unfollowed == Tryz.prog.unfollowed 4) = true := by rw [bk11u]; rfl
theorem bk12 : (Rows.serverNoneRow.recurses == Tryz.prog.recurses 4) = true := by
  unfold Program.recurses
  rw [bk11u]
  rfl
theorem bk10 : (Rows.serverNoneRow.inPlace == Tryz.prog.inPlace 4) = true := by
  unfold Program.inPlace
  rw [reach4_eq]
  kernel_rfl
theorem bk13 : (Rows.serverNoneRow.named == Tryz.prog.varsNamed 4) = true := by
  unfold Program.varsNamed
  rw [reach4_eq]
  kernel_rfl
end Go.Proofs.YtpinlnajhiagoaaGreatDoor
