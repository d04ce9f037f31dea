/-
  A part of the proof of a statement of cofferlaw29.
-/
import Derived.Test.YtpinlnajhiagoaaGreatDoorRows
import Derived.LaidByTextLater
import Derived.SevenTiedAt
import Derived.Test.YtpinlnajhiagoaaGreatDoorOwnTieA
import Derived.Test.YtpinlnajhiagoaaGreatDoorOwnTieB
import Derived.Test.YtpinlnajhiagoaaGreatDoorOwnTieC
import Derived.Test.YtpinlnajhiagoaaGreatDoorOwnTieD
import Derived.Test.YtpinlnajhiagoaaGreatDoorOwnTieE
set_option linter.unusedVariables false
set_option linter.unusedSimpArgs false
namespace Go.Proofs.YtpinlnajhiagoaaGreatDoor
open Go
theorem noOwnUnsafe : Tryz.pinned.checked.prog.headLifts.contains "ownunsafe" = false := by kernel_rfl
theorem tie : Tryz.prog.laidByTextLater [("internal/strconv.uint64pow10", Rows.laid_internal_strconv_uint64pow10), ("math/bits.deBruijn32tab", Rows.laid_math_bits_deBruijn32tab), ("math/bits.deBruijn64tab", Rows.laid_math_bits_deBruijn64tab)] [.data, .data, .data] true :=
  Program.laidByTextLater_by_run 400 8 hw hw' hroot hk hg hn hd h1 h2
theorem vaultNone_row_tie : Rows.vaultNoneRow.laidByTextAt .later Tryz.pinned [.data, .data, .data] true :=
  OpenClaim.laidByTextAt_later rfl rfl tie noOwnUnsafe
end Go.Proofs.YtpinlnajhiagoaaGreatDoor
