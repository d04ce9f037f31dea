/-
  A part of the proof of a statement of cofferlaw29.
-/
import Derived.Test.YtpinlnajhiagoaaGreatDoorRows
import Derived.ClosedOfChecked
import Derived.KernelRfl
set_option linter.unusedVariables false
set_option linter.unusedSimpArgs false
namespace Go.Proofs.YtpinlnajhiagoaaGreatDoor
open Go
theorem types_same : Tryz.checked.prog.types = Tryz.checked.src.types := by kernel_rfl
theorem types_rest : (Tryz.checked.prog.globals.all (fun g => decide (g.type < Tryz.checked.prog.types.size)) && Tryz.checked.prog.funcs.all (fun f => f.params.all fun t => decide (t < Tryz.checked.prog.types.size))) = true := by kernel_rfl
theorem types_closed : laidOutB Tryz.prog = true ∧ mapsRowed Tryz.prog = true :=
  have H := ClosedOfChecked.allSpec_of Tryz.checked.wellFormed types_same
  ⟨ClosedOfChecked.laidOutB_of H types_rest, ClosedOfChecked.mapsRowed_of H⟩
end Go.Proofs.YtpinlnajhiagoaaGreatDoor
