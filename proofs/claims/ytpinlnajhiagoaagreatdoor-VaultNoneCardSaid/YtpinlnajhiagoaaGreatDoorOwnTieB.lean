/-
  A part of the proof of a statement of cofferlaw29.
-/
import Derived.Test.YtpinlnajhiagoaaGreatDoorRows
import Derived.LaidByTextLater
import Derived.SevenTiedAt
set_option linter.unusedVariables false
set_option linter.unusedSimpArgs false
namespace Go.Proofs.YtpinlnajhiagoaaGreatDoor
open Go
theorem hn : varsNamedLaterB Tryz.prog (varsId Tryz.prog) [("internal/strconv.uint64pow10", Rows.laid_internal_strconv_uint64pow10), ("math/bits.deBruijn32tab", Rows.laid_math_bits_deBruijn32tab), ("math/bits.deBruijn64tab", Rows.laid_math_bits_deBruijn64tab)] = true := by kernel_rfl
end Go.Proofs.YtpinlnajhiagoaaGreatDoor
