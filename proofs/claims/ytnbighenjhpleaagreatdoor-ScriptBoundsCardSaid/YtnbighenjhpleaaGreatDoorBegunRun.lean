/-
  begun() of cofferlaw31: the run, by the kernel; what it says of the machine.
-/
import Derived.Test.YtnbighenjhpleaaGreatDoorBegun
set_option linter.unusedVariables false
set_option linter.unusedSimpArgs false
namespace Go.Proofs.YtnbighenjhpleaaGreatDoor
open Go Go.Det

set_option maxRecDepth 10000000 in
theorem begun_fast : (hdC Tryz.prog jn 100).call 7 [] (Tr.nil HD) 0 isTrue = true := by kernel_rfl

/-- begun(): true, in whatever world; nothing that was there has turned -/
theorem begun_calls (w : World) : Calls Tryz.prog 7 #[] w fun e w' => e = .returned (.bool true) ∧ RowKit.Below w.heap.size w w' := by
  refine (closed_calls Tryz.func7 rfl begun_fast w).mono fun e w' hq => ?_
  obtain ⟨v, v', ρ, s', rfl, hv, hk, hb⟩ := hq
  refine ⟨?_, hb⟩
  unfold isTrue at hk
  split at hk
  · cases hv; rfl
  · cases hk
end Go.Proofs.YtnbighenjhpleaaGreatDoor
