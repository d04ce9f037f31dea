/-
  A part of the proof of a statement of cofferlaw29.
-/
import Derived.Test.YtpinlnajhiagoaaGreatDoorRows
import Derived.LaidByTextLater
import Derived.SevenTiedAt
set_option linter.unusedVariables false
set_option linter.unusedSimpArgs false
namespace Go.Proofs.YtpinlnajhiagoaaGreatDoor
open Go
theorem hw : Tryz.prog.worded (varsWordLater true) = true := by kernel_rfl
theorem hw' : Tryz.prog.worded (varsWordLater !true) = false := by kernel_rfl
theorem hroot : Tryz.prog.worded rootWordLater = true := by kernel_rfl
theorem hk : ([("internal/strconv.uint64pow10", Rows.laid_internal_strconv_uint64pow10), ("math/bits.deBruijn32tab", Rows.laid_math_bits_deBruijn32tab), ("math/bits.deBruijn64tab", Rows.laid_math_bits_deBruijn64tab)] : List (String × DataW Unit)).map (fun x => Tryz.prog.kindOfLater x.1) = [LaidKind.data, .data, .data].map some := by kernel_rfl
theorem hg : (Tryz.prog.funcNamed "gosem.cut.vars").isSome = true := by kernel_rfl
end Go.Proofs.YtpinlnajhiagoaaGreatDoor
