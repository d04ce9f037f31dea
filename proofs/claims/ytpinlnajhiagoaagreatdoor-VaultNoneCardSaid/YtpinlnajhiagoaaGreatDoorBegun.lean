/-
  What a closed run of this program says of the machine, where the listed table of the powers of ten lies ahead.
-/
import Derived.Test.YtpinlnajhiagoaaGreatDoorIntrF
import Derived.Test.YtpinlnajhiagoaaGreatDoorFastF
import Derived.Test.YtpinlnajhiagoaaGreatDoorLaid
import Derived.Test.YtpinlnajhiagoaaGreatDoorCcA
import Derived.Test.YtpinlnajhiagoaaGreatDoorIntrG
import Derived.Test.YtpinlnajhiagoaaGreatDoorRot
import Derived.Test.YtpinlnajhiagoaaGreatDoorMixTab
set_option linter.unusedVariables false
set_option linter.unusedSimpArgs false
namespace Go.Proofs.YtpinlnajhiagoaaGreatDoor
open Go Go.Det

noncomputable section
def jn (g : Nat) : Option (List Value → St → Option (Value × St)) :=
  cond (Nat.beq g 9) (some flushI) <| cond (Nat.beq g 106) (some (sortedI 210 3)) <| cond (Nat.beq g 146) (some (sortedS 231)) <| cond (Nat.beq g 247) (some compareI) <|
  cond (Nat.beq g 605) (some indexByteI) <| cond (Nat.beq g 608) (some countI) <| cond (Nat.beq g 576) (some (copyCheckI 657)) <| cond (Nat.beq g 542) (some (builderStringI 657 5)) <|
  cond (Nat.beq g 577) (some (growI 657 5)) <| cond (Nat.beq g 525) (some numDigitsI) <| cond (Nat.beq g 476) (some rotI) <| cond (Nat.beq g 389) (some (memoI 514 mixTab)) none

theorem noGor : NoGor Tryz.prog := by
  have h : (Tryz.prog.funcs.toList.all fun fn => !fn.body.isSome || !(fn.name == "runtime.NumGoroutine")) = true := by kernel_rfl
  intro g fn hf hb
  have hm : fn ∈ Tryz.prog.funcs.toList := by
    have := Array.mem_of_getElem? hf
    simpa using this
  have := List.all_eq_true.1 h fn hm
  rw [hb] at this
  simpa using this

theorem mixed : Tryz.prog.follows .mixedOrders = true := by kernel_rfl

theorem ext291 : IsExt Tryz.prog 247 Extern.BytealgCompare.compare := ⟨_, Tryz.func247, by kernel_rfl, by kernel_rfl, by kernel_rfl, by kernel_rfl⟩
theorem ext119 : IsExt Tryz.prog 605 Extern.BytealgIndexByte.indexByte := ⟨_, Tryz.func605, by kernel_rfl, by kernel_rfl, by kernel_rfl, by kernel_rfl⟩
theorem ext46 : IsExt Tryz.prog 608 Extern.BytealgCount.count := ⟨_, Tryz.func608, by kernel_rfl, by kernel_rfl, by kernel_rfl, by kernel_rfl⟩

theorem condWay {α : Type} {b : Bool} {x y z : α} (h : cond b x y = z) : (b = true ∧ x = z) ∨ (b = false ∧ y = z) := by
  cases b with
  | true => exact .inl ⟨rfl, h⟩
  | false => exact .inr ⟨rfl, h⟩

theorem intrOk : IntrOk Tryz.prog (Jntr.I jn) := by
  intro g args s v s' h ρ w args' hr ha
  simp only [Jntr.I] at h
  cases hj : jn g with
  | none => rw [hj] at h; cases h
  | some f =>
    rw [hj] at h
    simp only [Option.bind_some] at h
    unfold jn at hj
    rcases condWay hj with ⟨e, hj⟩ | ⟨_, hj⟩
    · have := Nat.eq_of_beq_eq_true e; subst this; cases hj
      exact flushI_ok noGor Tryz.func9 rfl h hr ha
    rcases condWay hj with ⟨e, hj⟩ | ⟨_, hj⟩
    · have := Nat.eq_of_beq_eq_true e; subst this; cases hj
      exact sortedI_ok noGor Tryz.func106 rfl h hr ha
    rcases condWay hj with ⟨e, hj⟩ | ⟨_, hj⟩
    · have := Nat.eq_of_beq_eq_true e; subst this; cases hj
      exact sortedS_ok noGor Tryz.func146 rfl h hr ha
    rcases condWay hj with ⟨e, hj⟩ | ⟨_, hj⟩
    · have := Nat.eq_of_beq_eq_true e; subst this; cases hj
      exact compareI_ok ext291 h hr ha
    rcases condWay hj with ⟨e, hj⟩ | ⟨_, hj⟩
    · have := Nat.eq_of_beq_eq_true e; subst this; cases hj
      exact indexByteI_ok ext119 h hr ha
    rcases condWay hj with ⟨e, hj⟩ | ⟨_, hj⟩
    · have := Nat.eq_of_beq_eq_true e; subst this; cases hj
      exact countI_ok ext46 h hr ha
    rcases condWay hj with ⟨e, hj⟩ | ⟨_, hj⟩
    · have := Nat.eq_of_beq_eq_true e; subst this; cases hj
      exact copyCheckI_ok noGor copyCheck_used copyCheck_fresh Tryz.func576 rfl h hr ha
    rcases condWay hj with ⟨e, hj⟩ | ⟨_, hj⟩
    · have := Nat.eq_of_beq_eq_true e; subst this; cases hj
      exact builderStringI_ok noGor Tryz.lays169 Tryz.Builder_Extra_169 Tryz.func542 rfl h hr ha
    rcases condWay hj with ⟨e, hj⟩ | ⟨_, hj⟩
    · have := Nat.eq_of_beq_eq_true e; subst this; cases hj
      exact growI_ok noGor Tryz.lays241 Tryz.Builder_Extra_241 Tryz.func577 rfl h hr ha
    rcases condWay hj with ⟨e, hj⟩ | ⟨_, hj⟩
    · have := Nat.eq_of_beq_eq_true e; subst this; cases hj
      exact numDigitsI_ok noGor Tryz.lays284 Tryz.func525 rfl h hr ha
    rcases condWay hj with ⟨e, hj⟩ | ⟨_, hj⟩
    · have := Nat.eq_of_beq_eq_true e; subst this; cases hj
      exact rotI_ok mixed noGor h hr ha
    rcases condWay hj with ⟨e, hj⟩ | ⟨_, hj⟩
    · have := Nat.eq_of_beq_eq_true e; subst this; cases hj
      exact memoI_ok mixed noGor (jr_ok mixed noGor) mixTab_ok h hr ha
    · cases hj

def isTrue (v : Value) (_ : Hp) (_ : Nat) : Bool := match v with
  | .bool true => true
  | _ => false

/-- a closed run: no object is there ahead of it; the listed table lies as it is listed -/
theorem closed_calls {g : FuncId} {fn : Func} {c : Code} (hf : Tryz.prog.funcs[g]? = some fn) (hb : fn.body = some c) {n : Nat} {k : KV} (hk : (hdC Tryz.prog jn n).call g [] (Tr.nil HD) 0 k = true) (w : World) (htab : TabAt Tryz.prog w) :
    Calls Tryz.prog g #[] w fun e w' => ∃ (v v' : Value) (ρ : Det.Ren) (s' : St), e = .returned v' ∧ VRel ρ v v' ∧ k v s'.hp s'.nx = true ∧ RowKit.Below w.heap.size w w' := by
  obtain ⟨m, v, s', hrun, hk⟩ := fast_run hk
  have hr : HRel Tryz.prog (fun _ => none) ⟨Tr.nil HD, 0⟩ w := by
    refine ⟨fun b o l hb hl => ?_, fun b c o p l m _ _ hl => ?_, fun b l hl => ?_, Nat.zero_le _, fun b _ _ => ?_, htab, fun b o l hb hl => ?_⟩
    · cases hl
    · cases hl
    · cases hl
    · exact Tr.get_nil HD b
    · cases hl
  have hg := run_sim (R := ⟨Tryz.prog, Jntr.I jn⟩) mixed noGor intrOk hrun hr (args' := #[]) (LRel.nil _)
  rcases hg with ⟨v', w', hbad, _⟩ | ⟨_, hcall⟩
  · rw [callFunc_run noGor hf hb] at hbad
    cases hbad
  · refine (callsIn_wide.1 hcall).mono fun e w' hq => ?_
    cases e with
    | panicked c => exact hq.elim
    | outgrown => exact hq.elim
    | returned v' =>
      obtain ⟨ρ', h1, h2, h3⟩ := hq
      exact ⟨v, v', ρ', s', rfl, h1, hk, ⟨h3.os, h3.tape, h3.output, h3.size, fun k hk => h3.kept k hk (fun b o l _ hl => by cases hl)⟩⟩

end
end Go.Proofs.YtpinlnajhiagoaaGreatDoor
