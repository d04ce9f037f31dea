/-
  VaultNone of cofferlaw29: the run, by the kernel; what it says of the machine.
-/
import Derived.Test.YtpinlnajhiagoaaGreatDoorBegun
set_option linter.unusedVariables false
set_option linter.unusedSimpArgs false
namespace Go.Proofs.YtpinlnajhiagoaaGreatDoor
open Go Go.Det

set_option maxRecDepth 10000000 in
theorem vault_none_fast : (hdC Tryz.prog jn 100).call 3 [] (Tr.nil HD) 0 isTrue = true := by kernel_rfl

/-- VaultNone(): true, in whatever world; nothing that was there has turned -/
theorem vault_none_calls (w : World) (htab : TabAt Tryz.prog w) : Calls Tryz.prog 3 #[] w fun e w' => e = .returned (.bool true) ∧ RowKit.Below w.heap.size w w' := by
  refine (closed_calls Tryz.func3 rfl vault_none_fast w htab).mono fun e w' hq => ?_
  obtain ⟨v, v', ρ, s', rfl, hv, hk, hb⟩ := hq
  refine ⟨?_, hb⟩
  unfold isTrue at hk
  split at hk
  · cases hv; rfl
  · cases hk
end Go.Proofs.YtpinlnajhiagoaaGreatDoor
