/-
  The row's cells that hang on what ScriptBounds comes to.
-/
import Derived.Test.YtnbighenjhpleaaGreatDoorCloSix
set_option linter.unusedVariables false
set_option linter.unusedSimpArgs false
namespace Go.Proofs.YtnbighenjhpleaaGreatDoor
open Go
theorem bk11u : Tryz.prog.unfollowed 6 = true := by
  unfold Program.unfollowed
  rw [reach6_eq]
  kernel_rfl
theorem bk11 : (Rows.scriptBoundsRow.unfollowed == Tryz.prog.unfollowed 6) = true := by rw [bk11u]; rfl
theorem bk12 : (Rows.scriptBoundsRow.recurses == Tryz.prog.recurses 6) = true := by
  unfold Program.recurses
  rw [bk11u]
  rfl
theorem bk10 : (Rows.scriptBoundsRow.inPlace == Tryz.prog.inPlace 6) = true := by
  unfold Program.inPlace
  rw [reach6_eq]
  kernel_rfl
theorem bk13 : (Rows.scriptBoundsRow.named == Tryz.prog.varsNamed 6) = true := by
  unfold Program.varsNamed
  rw [reach6_eq]
  kernel_rfl
end Go.Proofs.YtnbighenjhpleaaGreatDoor
