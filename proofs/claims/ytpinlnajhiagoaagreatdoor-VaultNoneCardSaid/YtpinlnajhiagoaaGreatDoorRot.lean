/-
  math/bits.RotateLeft32, told directly (by the evaluator itself: its body, at whatever number and ten counts).
-/
import Derived.Test.YtpinlnajhiagoaaGreatDoorEvMain
import Derived.Test.YtpinlnajhiagoaaGreatDoorIntrB
import Derived.Test.YtpinlnajhiagoaaGreatDoorProg
import Derived.KernelRfl
import Derived.Laws.BitsAllLaws
set_option linter.unusedVariables false
set_option linter.unusedSimpArgs false
namespace Go.Proofs.YtpinlnajhiagoaaGreatDoor
open Go Go.Det
def noI : Intr := fun _ _ _ => none
theorem noI_ok {P : Program} : IntrOk P noI := fun _ _ _ _ _ h => by cases h
def rotV (x : Nat) (s : Nat) : Value :=
  .int .u32 (IntKind.u32.wrap (BitVec.toNat (BitVec.ofInt 32 (IntKind.u32.wrap (Int.ofNat x * 2 ^ s)) ||| BitVec.ofInt 32 ((Int.ofNat x).fdiv (2 ^ (32 - s))))))
def rotN (x s : Nat) : Nat := Nat.lor (Nat.mod (Nat.mul x (Nat.pow 2 s)) 4294967296) (Nat.div x (Nat.pow 2 (Nat.sub 32 s)))

theorem rotN_eq (x s : Nat) (hx : x < 4294967296) : rotV x s = .int .u32 (.ofNat (rotN x s)) := by
  unfold rotV rotN
  refine congrArg (Value.int .u32) ?_
  have p2 : ∀ n : Nat, (2 : Int) ^ n = ((2 ^ n : Nat) : Int) := fun n => by rw [Int.natCast_pow]; rfl
  have e1 : IntKind.u32.wrap (Int.ofNat x * 2 ^ s) = ((x * 2 ^ s % 4294967296 : Nat) : Int) := by
    rw [IntKind.wrap_u32', p2]
    show ((x : Int) * ((2 ^ s : Nat) : Int)) % ((4294967296 : Nat) : Int) = _
    rw [← Int.natCast_mul, ← Int.natCast_emod]
  have e2 : (Int.ofNat x).fdiv (2 ^ (32 - s)) = ((x / 2 ^ (32 - s) : Nat) : Int) := by
    rw [p2, Int.fdiv_eq_ediv_of_nonneg _ (Int.natCast_nonneg _)]
    show ((x : Int)) / ((2 ^ (32 - s) : Nat) : Int) = _
    rw [← Int.natCast_ediv]
  rw [e1, e2, BitVec.ofInt_natCast, BitVec.ofInt_natCast, BitVec.toNat_or, BitVec.toNat_ofNat, BitVec.toNat_ofNat, IntKind.wrap_u32']
  have h2 : x / 2 ^ (32 - s) < 2 ^ 32 := Nat.lt_of_le_of_lt (Nat.div_le_self _ _) hx
  rw [Nat.mod_eq_of_lt h2, Nat.mod_eq_of_lt (show x * 2 ^ s % 4294967296 < 2 ^ 32 from Nat.mod_lt _ (by decide))]
  have h3 : x * 2 ^ s % 4294967296 ||| x / 2 ^ (32 - s) < 2 ^ 32 := Nat.or_lt_two_pow (Nat.mod_lt _ (by decide)) h2
  show (((x * 2 ^ s % 4294967296 ||| x / 2 ^ (32 - s) : Nat)) : Int) % ((4294967296 : Nat) : Int) = _
  rw [← Int.natCast_emod, Nat.mod_eq_of_lt h3]
  rfl

set_option maxRecDepth 100000
theorem rot_run (x m : Nat) (s : St) (h : m ∈ [6, 17, 16, 18, 5, 10, 24, 1, 12, 21]) : run ⟨Tryz.prog, noI⟩ 20 476 [.int .u32 (.ofNat x), .int .i64 (.negSucc m)] s = some (rotV x (31 - m), s) := by
  simp only [List.mem_cons, List.not_mem_nil, or_false] at h
  rcases h with rfl | rfl | rfl | rfl | rfl | rfl | rfl | rfl | rfl | rfl
  all_goals kernel_rfl

def rotI (args : List Value) (s : St) : Option (Value × St) := match args with
  | [.int .u32 (.ofNat x), .int .i64 (.negSucc m)] => cond (Nat.blt x 4294967296 && [6, 17, 16, 18, 5, 10, 24, 1, 12, 21].elem m) (some (.int .u32 (.ofNat (rotN x (Nat.sub 31 m))), s)) none
  | _ => none

theorem rotI_ok {ρ : Det.Ren} {s : St} {w : World} (hm : Tryz.prog.follows .mixedOrders = true) (hg : NoGor Tryz.prog) {args : List Value} {v : Value} {s' : St}
    (h : rotI args s = some (v, s')) {args' : Array Value} (hr : HRel Tryz.prog ρ s w) (ha : LRel ρ args args'.toList) : CallGot Tryz.prog ρ s w 476 args' v s' := by
  unfold rotI at h
  split at h
  rotate_left
  · cases h
  rename_i x m
  cases hc : (Nat.blt x 4294967296 && [6, 17, 16, 18, 5, 10, 24, 1, 12, 21].elem m) with
  | false => rw [hc] at h; cases h
  | true =>
  rw [hc] at h
  cases h
  simp only [Bool.and_eq_true, Nat.blt_eq] at hc
  have hrun := rot_run x m s (List.elem_iff.1 hc.2)
  rw [rotN_eq x (31 - m) hc.1] at hrun
  exact run_sim (R := ⟨Tryz.prog, noI⟩) hm hg noI_ok hrun hr ha
end Go.Proofs.YtpinlnajhiagoaaGreatDoor
