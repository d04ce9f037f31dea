/-
  No function of this program starts a goroutine.
-/
import Derived.Test.YtpinlnajhiagoaaGreatDoorCloOne
import Derived.Test.YtpinlnajhiagoaaGreatDoorFactD
import GoSem.ClaimGoes
set_option linter.unusedVariables false
set_option linter.unusedSimpArgs false
section
namespace Go.Proofs.YtpinlnajhiagoaaGreatDoor
open Go
theorem all_still : Tryz.prog.funcs.any Func.goes = false := by kernel_rfl
theorem still_of (L : List FuncId) : (L.any fun g => (Tryz.prog.funcs[g]?).any Func.goes) = false := by
  rw [List.any_eq_false]
  intro g _ h
  have ha := all_still
  rw [Array.any_eq_false] at ha
  cases hg : Tryz.prog.funcs[g]? with
  | none => rw [hg] at h; cases h
  | some fn =>
    rw [hg] at h
    obtain ⟨hi, he⟩ := Array.getElem?_eq_some_iff.1 hg
    exact ha g hi (by rw [he]; exact h)
theorem vault_named : Tryz.prog.funcNamed "coffer/cofferlaw29.VaultNone" = some 3 := by kernel_rfl
theorem goes3 : Tryz.prog.goes 3 = false := by
  unfold Program.goes
  rw [still_of, all_still, Bool.and_false]
  rfl
end Go.Proofs.YtpinlnajhiagoaaGreatDoor
end
section
namespace Go.Proofs.YtpinlnajhiagoaaGreatDoor
open Go
theorem call_goes_at {P : Program} {func : String} {f : FuncId} (hf : P.funcNamed func = some f) (hg : P.goes f = false) : false = P.goesAt .entering func := by
  unfold Program.goesAt Program.goesFrom
  rw [hf]
  simp [hg]
theorem vault_goes : false = Rows.vaultNoneRow.goesBy Tryz.pinned.checked.prog := by
  unfold OpenClaim.goesBy
  exact call_goes_at (P := Tryz.prog) (func := "coffer/cofferlaw29.VaultNone") vault_named goes3
end Go.Proofs.YtpinlnajhiagoaaGreatDoor
end
