/-
  (*Disk).Flush of a disk with power: the walks of what it calls.
-/
import Derived.Test.YtpinlnajhiagoaaGreatDoorProg
import Derived.WalkKit
import Derived.Maps.RangeWalk
set_option linter.unusedVariables false
set_option linter.unusedSimpArgs false
namespace Go.Proofs.YtpinlnajhiagoaaGreatDoor
open Go.RowKit

set_option maxRecDepth 100000 in
theorem len_at (b ln lc : Nat) (la : Option Addr) (w : World) (c0 : w.cell? ⟨b, 0, none⟩ = some (.slice la ln lc)) :
    Calls Tryz.prog 34 #[.pointer (some ⟨b, 0, none⟩)] w fun e w' => e = .returned (.int .i64 ln) ∧ w = w' := by
  go_enter Tryz.func34, Tryz.ntmps34
  go_wp2
  go_ret
  exact ⟨rfl, rfl⟩

set_option maxRecDepth 100000 in
theorem may_at (b ln lc : Nat) (la : Option Addr) (w : World) (c0 : w.cell? ⟨b, 0, none⟩ = some (.slice la ln lc)) (c2 : w.cell? ⟨b, 2, none⟩ = some (.bool false)) (h1 : ((ln : Int) == 0) = false) (h2 : decide (ln = 0) = false) :
    Calls Tryz.prog 35 #[.pointer (some ⟨b, 0, none⟩), .int .i64 0] w fun e w' => e = .returned (.int .i64 0) ∧ w = w' := by
  have hl := len_at b ln lc la w c0
  go_enter Tryz.func35, Tryz.ntmps35
  go_wp2_with (refine hl.mono ?_; rintro e w' ⟨rfl, rfl⟩)
  go_ret
  exact ⟨rfl, rfl⟩

set_option maxRecDepth 100000 in
theorem goes_at (b : Nat) (w : World) (c3 : w.cell? ⟨b, 3, none⟩ = some (.int .i64 (-1))) :
    Calls Tryz.prog 36 #[.pointer (some ⟨b, 0, none⟩)] w fun e w' => e = .returned (.bool true) ∧ w = w' := by
  go_enter Tryz.func36, Tryz.ntmps36
  go_wp2
  go_ret
  exact ⟨rfl, rfl⟩
end Go.Proofs.YtpinlnajhiagoaaGreatDoor
