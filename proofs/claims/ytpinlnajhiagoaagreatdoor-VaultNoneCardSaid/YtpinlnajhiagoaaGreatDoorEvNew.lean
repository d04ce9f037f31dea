/-
  The operations that make one object.
-/
import Derived.Test.YtpinlnajhiagoaaGreatDoorEvVal
set_option linter.unusedVariables false
set_option linter.unusedSimpArgs false
namespace Go.Det
open Go

def Ren.ext (ρ : Ren) (b : Nat) (l : Loc) : Ren := fun c => if c = b then some l else ρ c

theorem Ren.ext_same (ρ : Ren) (b : Nat) (l : Loc) : ρ.ext b l b = some l := by simp [Ren.ext]
theorem Ren.ext_other (ρ : Ren) {b c : Nat} (l : Loc) (h : c ≠ b) : ρ.ext b l c = ρ c := by simp [Ren.ext, h]
theorem Ren.le_ext (ρ : Ren) {b : Nat} (l : Loc) (h : ρ b = none) : ρ.le (ρ.ext b l) := by
  intro c m hm
  by_cases hc : c = b
  · subst hc; rw [h] at hm; cases hm
  · rw [Ren.ext_other ρ l hc]; exact hm

/-- an object is made -/
structure Made (P : Program) (ρ : Ren) (w : World) (obj : DObj) (f : Nat → Value) (m : Sem Next) (o' : Obj) (ex : Nat) (v' : Value) (w' : World) : Prop where
  run : m.run P w = .ok (.value v') w'
  heap : w'.heap = w.heap.push o'
  tape : w'.tape = w.tape
  os : w'.os = w.os
  output : w'.output = w.output
  orel : ∀ b, ρ b = none → ORel P (ρ.ext b ⟨w.heap.size, 0, ex⟩) ⟨w.heap.size, 0, ex⟩ obj o'
  vrel : ∀ b, ρ b = none → VRel (ρ.ext b ⟨w.heap.size, 0, ex⟩) (f b) v'

section
variable {P : Program} {ρ : Ren} {s : St} {w : World} {ρd : Operand → Option Value} {ρr : Operand → Value}

/-- a row of cells, as it is made: no more of them than are known -/
theorem orel_row {l : Loc} {row : List Value} {c : Array Value} {e : TypeId} {opn : Bool} (h : LRel ρ row c.toList) (hsh : l.sh = 0) (hex : l.ex = 0) : ORel P ρ l (.cells row e opn) (.cells c e) := by
  have hs : row.length = c.size := by rw [h.1]; simp
  refine ⟨c, (0, 0), rfl, by omega, fun i v hv => ?_, fun sz _ => by rw [hex]; omega, .inl rfl, fun _ => ⟨hex, hsh, hs.symm⟩⟩
  obtain ⟨v', h1, h2⟩ := h.get hv
  exact ⟨v', by rw [hsh, Nat.zero_add]; simpa using h1, h2⟩

theorem repl_eq (z : List Value) : ∀ c, repl c z = (List.range (c * z.length)).map fun i => z[i % z.length]! := by
  intro c
  induction c with
  | zero => simp; rfl
  | succ c ih =>
    have : repl (c + 1) z = z ++ repl c z := rfl
    rw [this, ih]
    rw [show (c + 1) * z.length = z.length + c * z.length from by rw [Nat.succ_mul]; omega]
    rw [List.range_add, List.map_append, List.map_map]
    congr 1
    · apply List.ext_getElem?
      intro i
      by_cases hi : i < z.length
      · simp [hi, Nat.mod_eq_of_lt hi]
      · simp [hi]
    · apply List.map_congr_left
      intro i _
      simp

theorem wrap_small {n : Nat} (h : n < 2 ^ 40) : IntKind.i64.wrap (n : Int) = n := by
  have h1 : (n : Int) % 18446744073709551616 = n := by omega
  have h2 : ¬ ((n : Int) ≥ 9223372036854775808) := by omega
  simp [IntKind.wrap, IntKind.bits, IntKind.signed, h1, h2]

/-- zeros, as the machine lays them -/
theorem zeros_row {z : Value} {sz : Nat} (hl : (cellList z).length = sz) (c : Nat) :
    ∃ zs : Array Value, ((c * sz = 0 ∧ zs = #[]) ∨ (¬ c * sz = 0 ∧ zs = z.cells)) ∧ ((Array.range (c * sz)).map (zs[· % zs.size]!)).toList = repl c (cellList z) := by
  by_cases h0 : c * sz = 0
  · refine ⟨#[], .inl ⟨h0, rfl⟩, ?_⟩
    rw [h0]
    have : repl c (cellList z) = [] := by
      rcases Nat.mul_eq_zero.1 h0 with h | h
      · subst h; rfl
      · have h3 : cellList z = [] := List.eq_nil_of_length_eq_zero (by omega)
        rw [h3]
        clear h0
        induction c with
        | zero => rfl
        | succ c ih => show [] ++ repl c [] = []; simpa using ih
    rw [this]; simp
  · refine ⟨z.cells, .inr ⟨h0, rfl⟩, ?_⟩
    rw [repl_eq _, hl]
    simp only [Array.toList_map, Array.toList_range]
    apply List.map_congr_left
    intro i _
    rw [cellList_eq] at hl ⊢
    simp at hl
    simp [hl, getElem!_def]

def strCells (b : ByteArray) (k : Nat) : Array Value := Array.map (fun c : UInt8 => Value.int .u8 c.toNat) b.data ++ Array.replicate (k - b.size) (.int .u8 0)

theorem strCells_size {b : ByteArray} {k : Nat} (h : b.size ≤ k) : (strCells b k).size = k := by
  have : b.data.size = b.size := rfl
  simp [strCells]; omega

theorem modify_push {α : Type} (a : Array α) (x : α) (f : α → α) : (a.push x).modify a.size f = a.push (f x) := by
  apply Array.ext_getElem?
  intro i
  rw [Array.getElem?_modify, Array.getElem?_push, Array.getElem?_push]
  by_cases h : a.size = i
  · subst h; simp
  · simp [h, Ne.symm h]

theorem evNew_sim (hρ : ∀ x v, ρd x = some v → VRel ρ v (ρr x)) {o : Oper} {obj : DObj} {f : Nat → Value} (h : evNew P ρd o.op = some (obj, f)) (w : World) :
    ∃ o' ex v' w', Made P ρ w obj f (execOp ρr o) o' ex v' w' := by
  obtain ⟨dst, op, ty, pos, after, guard⟩ := o
  simp only at h
  unfold evNew at h
  split at h
  · -- alloc
    rename_i t
    split at h
    · rename_i z hz
      cases h
      refine ⟨.cells z.cells t, 0, .pointer (some ⟨w.heap.size, 0, none⟩), { w with heap := w.heap.push (.cells z.cells t) }, ?_, rfl, rfl, rfl, rfl, fun b hb => ?_, fun b hb => ?_⟩
      · simp [execOp, Instr.alloc, run_zr w hz, newVar, newRow]
      · refine orel_row ?_ rfl rfl
        rw [← cellList_eq]; exact (VRel.of_const (zr_inv hz).2).cells
      · have := VRel.ptr (o := 0) (ρ.ext_same b ⟨w.heap.size, 0, 0⟩); simpa using this
    · cases h
  · -- box
    rename_i t x
    split at h
    · rename_i v hv
      cases h
      refine ⟨.cells (ρr x).cells t, 0, .pointer (some ⟨w.heap.size, 0, none⟩), { w with heap := w.heap.push (.cells (ρr x).cells t) }, ?_, rfl, rfl, rfl, rfl, fun b hb => ?_, fun b hb => ?_⟩
      · simp [execOp, Instr.box, newVar, newRow]
      · refine orel_row ?_ rfl rfl
        rw [← cellList_eq]; exact (hρ _ _ hv).cells.mono (ρ.le_ext _ hb)
      · have := VRel.ptr (o := 0) (ρ.ext_same b ⟨w.heap.size, 0, 0⟩); simpa using this
    · cases h
  · -- a slice's literal
    rename_i t len parts
    split at h
    · rename_i e ps ht hp
      split at h
      · rename_i sz z hs hz
        cases hb : (Nat.ble (len * sz) (2 ^ 24) && Nat.blt len OPEN && Nat.beq (cellList z).length sz) with
        | false => rw [hb] at h; cases h
        | true =>
          rw [hb] at h
          simp only [cond_true] at h
          simp only [Bool.and_eq_true, Nat.ble_eq, Nat.blt_eq] at hb
          split at h
          · rename_i row hrow
            cases h
            obtain ⟨h1, h2⟩ := dParts_sim hρ hp
            obtain ⟨zs, hzs, hzl⟩ := zeros_row (Nat.eq_of_beq_eq_true hb.2) len
            have hzr : LRel ρ (repl len (cellList z)) ((Array.range (len * sz)).map (zs[· % zs.size]!)).toList := by
              rw [hzl]; exact (VRel.of_const (zr_inv hz).2).cells.flatRep len
            obtain ⟨out', h3, h4⟩ := fill_sim (ρ := ρ) (parts' := (parts.map fun (i, x) => (i, ρr x)).toList) rfl hrow hzr (by simpa using h1) (by simpa using h2)
            refine ⟨.cells out' e, 0, .slice (some ⟨w.heap.size, 0, none⟩) len len, { w with heap := w.heap.push (.cells out' e) }, ?_, rfl, rfl, rfl, rfl, fun b hb => ?_, fun b hb' => ?_⟩
            · have hle : ¬ (len * sz > 2 ^ 24) := by omega
              simp only [execOp, Instr.buildSlice, Sem.run_bind, run_ty w ht, Result.andThen_ok, run_sz w hs, if_neg hle]
              rcases hzs with ⟨h0, rfl⟩ | ⟨h0, rfl⟩
              · rw [if_pos h0]
                simp only [Sem.run_bind, Sem.run_pure, Result.andThen_ok]
                rw [h3]
                simp [newRow]
              · rw [if_neg h0]
                simp only [Sem.run_bind, Sem.run_pure, Result.andThen_ok, run_zr w hz]
                rw [h3]
                simp [newRow]
            · exact orel_row (h4.mono (ρ.le_ext _ hb)) rfl rfl
            · have := VRel.slice (o := 0) (n := len) (ρ.ext_same b ⟨w.heap.size, 0, 0⟩) hb.1.2; simpa using this
          · cases h
      · cases h
    · cases h
  · -- make([]T, l, c)
    rename_i t l c
    split at h
    · rename_i e ln cn ht hl hc
      simp only [Option.bind_eq_some_iff] at hl hc
      obtain ⟨lv, hlv, hl⟩ := hl
      obtain ⟨cv, hcv, hc⟩ := hc
      obtain ⟨kl, _, el⟩ := dNat_inv hl (hρ _ _ hlv)
      obtain ⟨kc, _, ec⟩ := dNat_inv hc (hρ _ _ hcv)
      split at h
      · rename_i sz by_ z hs hby hz
        cases hb : (Nat.ble ln cn && Nat.blt cn (2 ^ 40) && Nat.ble (by_ * cn) (2 ^ 40) && Nat.beq (cellList z).length sz) with
        | false => rw [hb] at h; cases h
        | true =>
          rw [hb] at h
          simp only [cond_true] at h
          cases h
          simp only [Bool.and_eq_true, Nat.ble_eq, Nat.blt_eq] at hb
          obtain ⟨⟨⟨b1, b2⟩, b3⟩, b4⟩ := hb
          obtain ⟨zs, hzs, hzl⟩ := zeros_row (Nat.eq_of_beq_eq_true b4) cn
          obtain ⟨ti, hti, hbt⟩ := run_by w hby
          refine ⟨.cells ((Array.range (cn * sz)).map (zs[· % zs.size]!)) e, 0, .slice (some ⟨w.heap.size, 0, none⟩) ln cn, { w with heap := w.heap.push (.cells ((Array.range (cn * sz)).map (zs[· % zs.size]!)) e) }, ?_, rfl, rfl, rfl, rfl, fun b hb => ?_, fun b hb' => ?_⟩
          · have hw1 := wrap_small b2
            have hw2 := wrap_small (n := ln) (by omega)
            have hno : ¬ (((ti.bytes : Int) * (cn : Int)) > 2 ^ 48) := by
              rw [hbt]
              have : ((by_ * cn : Nat) : Int) ≤ 2 ^ 40 := by exact_mod_cast b3
              push_cast at this
              omega
            simp only [execOp, Instr.makeSlice, Sem.run_bind, run_ty w ht, Result.andThen_ok, el, ec, asInt, asIntOf, Sem.run_pure, hti, hw1, hw2]
            rw [if_neg (by simp; omega)]
            simp only [Sem.run_bind, run_askRoom, Result.andThen_ok, run_sz w hs, Int.toNat_natCast]
            rcases hzs with ⟨h0, rfl⟩ | ⟨h0, rfl⟩
            · rw [if_pos h0]
              simp [newRow]
            · rw [if_neg h0]
              simp [newRow, run_zr w hz]
          · refine orel_row ?_ rfl rfl
            rw [hzl]; exact (VRel.of_const (zr_inv hz).2).cells.flatRep cn
          · have := VRel.slice (o := 0) (n := ln) (c := cn) (ρ.ext_same b ⟨w.heap.size, 0, 0⟩) (by unfold OPEN; omega); simpa using this
      · cases h
    · cases h
  · -- a map
    cases h
    refine ⟨.map #[] 0, 0, .map (some w.heap.size), { w with heap := w.heap.push (.map #[] 0) }, ?_, rfl, rfl, rfl, rfl, fun b hb => ?_, fun b hb => ?_⟩
    · simp [execOp, Instr.makeMap]
    · exact ⟨#[], rfl, rfl, fun i e e' x => by simp at x⟩
    · exact VRel.map (ρ.ext_same b ⟨w.heap.size, 0, 0⟩)
  · -- []byte(s)
    rename_i src d x
    split at h
    · rename_i e b hs hd hx
      split at h
      · rename_i he h1s
        cases h
        have hv := (hρ _ _ hx).scalar rfl
        obtain ⟨k, hk⟩ : ∃ k, k = (Question.appendCap b.size 0 e).cut (w.tape w.drawn (Question.appendCap b.size 0 e)) := ⟨_, rfl⟩
        have hle : b.size ≤ k := by rw [hk]; simp only [Question.cut]; omega
        have hsz := strCells_size hle
        refine ⟨.cells (strCells b k) e (k, k + 1), k - b.size, .slice (some ⟨w.heap.size, 0, none⟩) b.size k,
          { w with heap := w.heap.push (.cells (strCells b k) e (k, k + 1)), drawn := w.drawn + 1 }, ?_, rfl, rfl, rfl, rfl, fun c hc => ?_, fun c hc => ?_⟩
        · simp only [execOp, convert, Sem.run_bind, run_ty w hs, run_ty w hd, Result.andThen_ok, hv, run_ty w he, Conv.stringToBytes, run_choose, Question.forced, Bool.false_eq_true, if_false, ← hk, newRow, run_newObj]
          rw [show (Array.map (fun c : UInt8 => Value.int .u8 c.toNat) b.data ++ Array.replicate (k - b.size) (.int .u8 0)) = strCells b k from rfl]
          simp only [Sem.run_pure, Result.andThen_ok, markStringish, Sem.run_bind, run_shape, World.shape?]
          simp [World.freeze, hsz, modify_push]
        · refine ⟨strCells b k, (k, k + 1), rfl, by simp [hsz]; exact hle, fun i v hv => ?_, fun sz hz => ?_, .inr (by simp [hsz]), fun h => by cases h⟩
          · refine ⟨v, ?_, ?_⟩
            · rw [Nat.zero_add]
              have hi : i < b.data.toList.length := by have := (List.getElem?_eq_some_iff.1 hv).1; simpa using this
              simp only [List.getElem?_map] at hv
              unfold strCells
              rw [Array.getElem?_append_left (by simpa using hi)]
              simpa using hv
            · simp only [List.getElem?_map, Option.map_eq_some_iff] at hv
              obtain ⟨c', _, rfl⟩ := hv
              exact .int _ _
          · rw [h1s] at hz
            cases hz
            simp [hsz]
            have : b.data.size = b.size := rfl
            omega
        · have := VRel.sliceOpen (o := 0) (o' := 0) (n := b.size) (c := b.size) (ρ.ext_same c ⟨w.heap.size, 0, k - b.size⟩) (Nat.le_refl _) (.inl rfl)
          have e1 : b.size + (k - b.size) = k := by omega
          rw [e1] at this
          exact this
      · cases h
    · cases h
  · cases h
end
end Go.Det
