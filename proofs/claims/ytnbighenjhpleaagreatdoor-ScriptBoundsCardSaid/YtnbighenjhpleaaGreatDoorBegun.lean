/-
  begun() of cofferlaw31 tells true, in whatever world, and leaves what was there as it was.
-/
import Derived.Test.YtnbighenjhpleaaGreatDoorIntrF
import Derived.Test.YtnbighenjhpleaaGreatDoorFastF
import Derived.Test.YtnbighenjhpleaaGreatDoorLaid
import Derived.Test.YtnbighenjhpleaaGreatDoorCcA
set_option linter.unusedVariables false
set_option linter.unusedSimpArgs false
namespace Go.Proofs.YtnbighenjhpleaaGreatDoor
open Go Go.Det

noncomputable section
def jn (g : Nat) : Option (List Value → St → Option (Value × St)) :=
  cond (Nat.beq g 121) (some flushI) <| cond (Nat.beq g 148) (some (sortedI 213 3)) <| cond (Nat.beq g 232) (some (sortedS 316)) <| cond (Nat.beq g 291) (some compareI) <|
  cond (Nat.beq g 119) (some indexByteI) <| cond (Nat.beq g 46) (some countI) <| cond (Nat.beq g 55) (some (copyCheckI 57)) <| cond (Nat.beq g 32) (some (builderStringI 57 5)) <|
  cond (Nat.beq g 84) (some (growI 57 5)) none

theorem noGor : NoGor Tryz.prog := by
  have h : (Tryz.prog.funcs.toList.all fun fn => !fn.body.isSome || !(fn.name == "runtime.NumGoroutine")) = true := by kernel_rfl
  intro g fn hf hb
  have hm : fn ∈ Tryz.prog.funcs.toList := by
    have := Array.mem_of_getElem? hf
    simpa using this
  have := List.all_eq_true.1 h fn hm
  rw [hb] at this
  simpa using this

theorem mixed : Tryz.prog.follows .mixedOrders = true := by kernel_rfl

theorem ext291 : IsExt Tryz.prog 291 Extern.BytealgCompare.compare := ⟨_, Tryz.func291, by kernel_rfl, by kernel_rfl, by kernel_rfl, by kernel_rfl⟩
theorem ext119 : IsExt Tryz.prog 119 Extern.BytealgIndexByte.indexByte := ⟨_, Tryz.func119, by kernel_rfl, by kernel_rfl, by kernel_rfl, by kernel_rfl⟩
theorem ext46 : IsExt Tryz.prog 46 Extern.BytealgCount.count := ⟨_, Tryz.func46, by kernel_rfl, by kernel_rfl, by kernel_rfl, by kernel_rfl⟩

theorem condWay {α : Type} {b : Bool} {x y z : α} (h : cond b x y = z) : (b = true ∧ x = z) ∨ (b = false ∧ y = z) := by
  cases b with
  | true => exact .inl ⟨rfl, h⟩
  | false => exact .inr ⟨rfl, h⟩

theorem intrOk : IntrOk Tryz.prog (Jntr.I jn) := by
  intro g args s v s' h ρ w args' hr ha
  simp only [Jntr.I] at h
  cases hj : jn g with
  | none => rw [hj] at h; cases h
  | some f =>
    rw [hj] at h
    simp only [Option.bind_some] at h
    unfold jn at hj
    rcases condWay hj with ⟨e, hj⟩ | ⟨_, hj⟩
    · have := Nat.eq_of_beq_eq_true e; subst this; cases hj
      exact flushI_ok noGor Tryz.func121 rfl h hr ha
    rcases condWay hj with ⟨e, hj⟩ | ⟨_, hj⟩
    · have := Nat.eq_of_beq_eq_true e; subst this; cases hj
      exact sortedI_ok noGor Tryz.func148 rfl h hr ha
    rcases condWay hj with ⟨e, hj⟩ | ⟨_, hj⟩
    · have := Nat.eq_of_beq_eq_true e; subst this; cases hj
      exact sortedS_ok noGor Tryz.func232 rfl h hr ha
    rcases condWay hj with ⟨e, hj⟩ | ⟨_, hj⟩
    · have := Nat.eq_of_beq_eq_true e; subst this; cases hj
      exact compareI_ok ext291 h hr ha
    rcases condWay hj with ⟨e, hj⟩ | ⟨_, hj⟩
    · have := Nat.eq_of_beq_eq_true e; subst this; cases hj
      exact indexByteI_ok ext119 h hr ha
    rcases condWay hj with ⟨e, hj⟩ | ⟨_, hj⟩
    · have := Nat.eq_of_beq_eq_true e; subst this; cases hj
      exact countI_ok ext46 h hr ha
    rcases condWay hj with ⟨e, hj⟩ | ⟨_, hj⟩
    · have := Nat.eq_of_beq_eq_true e; subst this; cases hj
      exact copyCheckI_ok noGor copyCheck_used copyCheck_fresh Tryz.func55 rfl h hr ha
    rcases condWay hj with ⟨e, hj⟩ | ⟨_, hj⟩
    · have := Nat.eq_of_beq_eq_true e; subst this; cases hj
      exact builderStringI_ok noGor Tryz.lays169 Tryz.Builder_Extra_169 Tryz.func32 rfl h hr ha
    rcases condWay hj with ⟨e, hj⟩ | ⟨_, hj⟩
    · have := Nat.eq_of_beq_eq_true e; subst this; cases hj
      exact growI_ok noGor Tryz.lays241 Tryz.Builder_Extra_241 Tryz.func84 rfl h hr ha
    · cases hj

def isTrue (v : Value) (_ : Hp) (_ : Nat) : Bool := match v with
  | .bool true => true
  | _ => false

/-- a closed run: no object is there ahead of it -/
theorem closed_calls {g : FuncId} {fn : Func} {c : Code} (hf : Tryz.prog.funcs[g]? = some fn) (hb : fn.body = some c) {n : Nat} {k : KV} (hk : (hdC Tryz.prog jn n).call g [] (Tr.nil HD) 0 k = true) (w : World) :
    Calls Tryz.prog g #[] w fun e w' => ∃ (v v' : Value) (ρ : Det.Ren) (s' : St), e = .returned v' ∧ VRel ρ v v' ∧ k v s'.hp s'.nx = true ∧ RowKit.Below w.heap.size w w' := by
  obtain ⟨m, v, s', hrun, hk⟩ := fast_run hk
  have hr : HRel Tryz.prog (fun _ => none) ⟨Tr.nil HD, 0⟩ w := by
    refine ⟨fun b o l hb hl => ?_, fun b c o p l m _ _ hl => ?_, fun b l hl => ?_, Nat.zero_le _, fun b _ _ => ?_⟩
    · cases hl
    · cases hl
    · cases hl
    · exact Tr.get_nil HD b
  have hg := run_sim (R := ⟨Tryz.prog, Jntr.I jn⟩) mixed noGor intrOk hrun hr (args' := #[]) (LRel.nil _)
  rcases hg with ⟨v', w', hbad, _⟩ | ⟨_, hcall⟩
  · rw [callFunc_run noGor hf hb] at hbad
    cases hbad
  · refine (callsIn_wide.1 hcall).mono fun e w' hq => ?_
    cases e with
    | panicked c => exact hq.elim
    | outgrown => exact hq.elim
    | returned v' =>
      obtain ⟨ρ', h1, h2, h3⟩ := hq
      exact ⟨v, v', ρ', s', rfl, h1, hk, ⟨h3.os, h3.tape, h3.output, h3.size, fun k hk => h3.kept k hk (fun b o l _ hl => by cases hl)⟩⟩

end
end Go.Proofs.YtnbighenjhpleaaGreatDoor
