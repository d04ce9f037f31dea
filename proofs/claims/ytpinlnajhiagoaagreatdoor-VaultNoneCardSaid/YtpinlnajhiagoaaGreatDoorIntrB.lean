/-
  What is told of some functions is so: strings.Builder.
-/
import Derived.Test.YtpinlnajhiagoaaGreatDoorIntrA
import Derived.Shelf.Strings.Builder1
import Derived.Shelf.Strings.Builder2Cap
set_option linter.unusedVariables false
set_option linter.unusedSimpArgs false
namespace Go.Det
open Go

section
variable {P : Program} {ρ : Ren} {s : St} {w : World}

theorem got_calls (hg : NoGor P) {g : FuncId} {fn : Func} {c : Code} (hf : P.funcs[g]? = some fn) (hb : fn.body = some c) {args' : Array Value} {v : Value} {s' : St} {Q : Ending → World → Prop}
    (h : Calls P g args' w Q) (hQ : ∀ e w', Q e w' → After P ρ s w v s' e w') : CallGot P ρ s w g args' v s' :=
  .inr ⟨callFunc_run hg hf hb args' w, callsIn_wide.2 (h.mono hQ)⟩

theorem ptr0 {b : Nat} {v : Value} (h : VRel ρ (.pointer (some ⟨b, 0, none⟩)) v) : ∃ l, ρ b = some l ∧ v = .pointer (some ⟨l.blk, l.sh, none⟩) := by
  cases h with
  | ptr h => exact ⟨_, h, by simp⟩

/-- a closed row: all of it -/
theorem closed_row (hr : HRel P ρ s w) {b : Nat} {row : List Value} {e : TypeId} (ho : hget s.hp b = some (.cells row e false)) {l : Loc} (hl : ρ b = some l) :
    l.sh = 0 ∧ l.ex = 0 ∧ ∃ c fz, w.heap[l.blk]? = some (.cells c e fz) ∧ c.size = row.length ∧ LRel ρ row c.toList ∧ FzOk c.size fz := by
  obtain ⟨o', hw, c, fz, rfl, c1, c2, c3, c4, c5⟩ := hr.obj _ _ _ ho hl
  obtain ⟨d1, d2, d3⟩ := c5 rfl
  refine ⟨d2, d1, c, fz, hw, d3, ⟨by simp [d3], fun i v v' x y => ?_⟩, c4⟩
  obtain ⟨u, a1, a2⟩ := c2 i v x
  rw [d2, Nat.zero_add] at a1
  simp at y
  rw [a1] at y; cases y; exact a2

theorem two_cells {x y : Value} {c : Array Value} (h : LRel ρ [x, y] c.toList) : ∃ x' y', c = #[x', y'] ∧ VRel ρ x x' ∧ VRel ρ y y' := two h

theorem setCell_heap {w : World} {k : Nat} {c : Array Value} {e : TypeId} {fz : Nat × Nat} (h : w.heap[k]? = some (.cells c e fz)) (i : Nat) (v : Value) :
    (w.setCell ⟨k, i, none⟩ v).heap[k]? = some (.cells (c.setIfInBounds i v) e fz) ∧ (∀ j, j ≠ k → (w.setCell ⟨k, i, none⟩ v).heap[j]? = w.heap[j]?) ∧ (w.setCell ⟨k, i, none⟩ v).heap.size = w.heap.size := by
  refine ⟨?_, fun j hj => ?_, ?_⟩
  · simp [World.setCell, Array.getElem?_modify, h]
  · simp [World.setCell, Array.getElem?_modify, Ne.symm hj]
  · simp [World.setCell]

open Go.Proofs in
theorem copyCheckI_ok (hg : NoGor P) {T : TypeId} {f : FuncId}
    (Hused : ∀ (b : Nat) (w : World), w.cell? ⟨b, 0, none⟩ = some (.pointer (some ⟨b, 0, none⟩)) → Calls P f #[.pointer (some ⟨b, 0, none⟩)] w fun e w' => e = .returned (.tuple #[]) ∧ w' = w)
    (Hfresh : ∀ (b : Nat) (w : World), w.cell? ⟨b, 0, none⟩ = some (.pointer none) → w.shape? b = some (T, 2) → w.frozen? ⟨b, 0, none⟩ = false → Calls P f #[.pointer (some ⟨b, 0, none⟩)] w fun e w' => e = .returned (.tuple #[]) ∧ w' = w.setCell ⟨b, 0, none⟩ (.pointer (some ⟨b, 0, none⟩)))
    {fn : Func} {cd : Code} (hf : P.funcs[f]? = some fn) (hb : fn.body = some cd) {args : List Value} {v : Value} {s' : St}
    (h : copyCheckI T args s = some (v, s')) {args' : Array Value} (hr : HRel P ρ s w) (ha : LRel ρ args args'.toList) : CallGot P ρ s w f args' v s' := by
  unfold copyCheckI at h
  split at h
  rotate_left
  · cases h
  rename_i b
  obtain ⟨a', rfl, hp⟩ := one ha
  obtain ⟨l, hl, rfl⟩ := ptr0 hp
  split at h
  · rename_i x e ho
    cases he : Nat.beq e T with
    | false => rw [he] at h; cases h
    | true =>
      rw [he] at h
      simp only [cond_true, Option.some.injEq, Prod.mk.injEq] at h
      obtain ⟨rfl, rfl⟩ := h
      have := Nat.eq_of_beq_eq_true he
      subst this
      obtain ⟨h0, hx0, c, fz, hw, hsz, hc, hfz⟩ := closed_row hr ho hl
      obtain ⟨x', y', rfl, h1, h2⟩ := two_cells hc
      cases h1
      obtain ⟨l0, l1, l2⟩ := l
      simp only at h0 hw hx0
      subst h0; subst hx0
      have hcell : w.cell? ⟨l0, 0, none⟩ = some (.pointer none) := by simp [World.cell?, hw]
      have hshape : w.shape? l0 = some (e, 2) := by simp [World.shape?, hw]
      have hfr : w.frozen? ⟨l0, 0, none⟩ = false := by
        have := hfz.not 0 (by simp)
        obtain ⟨f1, f2⟩ := fz
        simp only [World.frozen?, hw]
        simp only at this
        simp only [Bool.and_eq_false_iff, decide_eq_false_iff_not]
        omega
      refine got_calls hg hf hb (Hfresh l0 w hcell hshape hfr) fun e2 w' hq => ?_
      obtain ⟨rfl, rfl⟩ := hq
      obtain ⟨k1, k2, k3⟩ := setCell_heap hw 0 (.pointer (some ⟨l0, 0, none⟩))
      have hor : ORel P ρ ⟨l0, 0, 0⟩ (.cells [.pointer (some ⟨b, 0, none⟩), x] e false) (.cells (#[Value.pointer none, y'].setIfInBounds 0 (.pointer (some ⟨l0, 0, none⟩))) e fz) := by
        refine ⟨_, fz, rfl, by simp, fun i v hv => ?_, fun sz _ => by simp, by simpa using hfz, fun _ => ⟨rfl, rfl, by simp⟩⟩
        rcases i with _ | _ | i
        · cases hv
          refine ⟨.pointer (some ⟨l0, 0, none⟩), by simp, ?_⟩
          exact VRel.ptr (o := 0) hl
        · cases hv
          exact ⟨y', by simp, h2⟩
        · cases hv
      obtain ⟨m1, m2⟩ := hr.upd ho hl k1 k2 k3 rfl rfl rfl hor
      exact ⟨ρ, VRel.undef ρ, m1, m2⟩
  · rename_i c x e ho
    cases he : Nat.beq b c with
    | false => rw [he] at h; cases h
    | true =>
      rw [he] at h
      simp only [cond_true, Option.some.injEq, Prod.mk.injEq] at h
      obtain ⟨rfl, rfl⟩ := h
      have := Nat.eq_of_beq_eq_true he
      subst this
      obtain ⟨h0, hx0, c, fz, hw, hsz, hc, hfz⟩ := closed_row hr ho hl
      obtain ⟨x', y', rfl, h1, h2⟩ := two_cells hc
      obtain ⟨l', hl', rfl⟩ := ptr0 h1
      rw [hl] at hl'; cases hl'
      obtain ⟨l0, l1, l2⟩ := l
      simp only at h0 hw hx0
      subst h0; subst hx0
      have hcell : w.cell? ⟨l0, 0, none⟩ = some (.pointer (some ⟨l0, 0, none⟩)) := by simp [World.cell?, hw]
      refine got_calls hg hf hb (Hused l0 w hcell) fun e2 w' hq => ?_
      obtain ⟨rfl, rfl⟩ := hq
      exact ⟨ρ, VRel.undef ρ, hr, Fm.refl _ _ _⟩
  · cases h
end
end Go.Det
