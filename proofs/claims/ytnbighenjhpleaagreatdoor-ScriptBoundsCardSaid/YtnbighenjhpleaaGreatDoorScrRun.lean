/-
  A range over a function whose body leaves at its first round by 'return': the iterator may write a box of its own ahead of the round.
-/
import Derived.RangeFuncFrom
import Derived.RangeFuncNested
import Derived.RangeFuncLeaves
import Derived.RangeFuncBound
import Derived.RangeFuncCalls
import Derived.Shelf.Abstract
import Derived.Shelf.RegionOpen
import Derived.WalkKit
import Derived.OwnWalkIn
import Derived.TacticsInMore
import Derived.LoopNIn
import Derived.LoopIn
import Derived.Test.YtnbighenjhpleaaGreatDoorLaid
set_option linter.unusedVariables false
set_option linter.unusedSimpArgs false
section
namespace Go
open Go.RowKit
variable {F : Fence} {n : Nat} {P : Program}

def oncePost (Ix : World → Prop) (W : World) : Exit → Act → World → Prop
  | .normal, _, _ => False
  | .ret, _, W' => KeepsOthers W W' ∧ Ix W'
  | .exit _, _, _ => False
  | .goto _, _, _ => False
  | .panic _, _, _ => False
  | .outgrown, _, _ => False

/-- What the iterator owes: with a J that abides its own box being written and draws, one call of yield, which says 'no more'. -/
def YieldsOnce (F : Fence) (n : Nat) (P : Program) (g : Nat) (lb : Array Value) (xs : Array Value) (Bx : Nat) (w : World) : Prop :=
  ∀ (l : Nat) (J Jx : World → Prop) (W : World), Below w.heap.size w W →
    (∀ A v, J A → J (A.setCell ⟨Bx, 0, none⟩ v)) → (∀ A B, B.heap = A.heap → B.os = A.os → B.tape = A.tape → B.output = A.output → J A → J B) →
    (∀ W1, J W1 → YieldAt F (n - 1) P l xs W1 fun e W' => e = .returned (.bool false) ∧ Jx W') → J W →
    CallsIn F n P g (#[.func (.yield l) #[] #[]] ++ lb) W fun e W' => (∃ v, e = .returned v) ∧ Jx W'

theorem wpIn_rangeFunc_once {g : Operand} {ps : Array Tmp} {assign body : Code} {Q : Exit → Act → World → Prop} {a : Act} {w : World}
    (hro : F.round = none) (h1 : 1 ≤ n) {gf : Nat} {lb : Array Value} (hg : a.eval g = .func (.func gf) #[] lb) (hFg : F.fn gf) (eg : ∀ args w, (callFunc gf args).run P w = .ok (.enter gf args) w)
    {xs : Array Value} {Bx : Nat} (hseq : YieldsOnce F (n - 1) P gf lb xs Bx w) (hps : xs.size = ps.size)
    (I Ix : World → Prop)
    (hI : OwnFrom w.heap.size (fun (_ : Unit) => I)) (hIx : OwnFrom w.heap.size (fun (_ : Unit) => Ix))
    (hIb : ∀ A v, I A → I (A.setCell ⟨Bx, 0, none⟩ v)) (hIh : ∀ A B, B.heap = A.heap → B.os = A.os → B.tape = A.tape → B.output = A.output → I A → I B)
    (h0 : I w) (a₁ : Act)
    (hassign : ∀ (l : Nat) (W : World) (K : Act → World → Prop), K a₁ W →
      assign.wpIn (F.inRound l) (n - 1 - 1) P (Exit.then K (fun _ _ _ => False)) { tmps := (ps.zip xs).foldl (fun t (p, v) => t.setIfInBounds p v) a.tmps, defers := [] } W)
    (hbody : ∀ (l : Nat) (W : World), I W → body.wpIn (F.inRound l) (n - 1 - 1) P (oncePost Ix W) a₁ W)
    (hstop : ∀ (D : Nat) (W : World), w.heap.size ≤ D → Ix W → W.heap[D]? = some (.deferred (some [])) → Code.ret.wpIn F n P Q { a with defers := { target := .collected D, args := #[] } :: a.defers } W) :
    (Code.rangeFunc g ps assign body).wpIn F n P Q a w := by
  refine wpIn_rangeFunc ?_
  intro fn hfn
  rw [hro]
  obtain ⟨rec, hrec⟩ : ∃ rec : LoopState → Option Code → Loop, rec = fun st pe => { state := st, pending := pe, fn, tmps := a.tmps, params := ps, assign, body, defers := w.heap.size } := ⟨_, rfl⟩
  obtain ⟨W1, hW1⟩ : ∃ W1, (w.alloc (.deferred (some []))).alloc (.loop (rec .ready none)) = W1 := ⟨_, rfl⟩
  have hL1 : W1.heap[w.heap.size + 1]? = some (.loop (rec .ready none)) := by
    rw [← hW1]; have := World.alloc_heap_new (w.alloc (.deferred (some []))) (.loop (rec .ready none)); rwa [World.size_alloc] at this
  have hK1 : W1.heap[w.heap.size]? = some (.deferred (some [])) := by
    rw [← hW1]; exact (Below.heap_alloc _ _ _ (by simp)).trans (World.alloc_heap_new w _)
  have hI1 : I W1 := by rw [← hW1]; exact hI.alloc (s := ()) _ (hI.alloc (s := ()) _ h0)
  have hb1 : Below w.heap.size w W1 := by
    rw [← hW1]; exact ((Below.refl _ w).alloc (Nat.le_refl _) _).alloc (by simp) _
  refine ⟨w.heap.size + 1, [{ target := .collected w.heap.size, args := #[] }], W1, { target := .fn (.func gf) lb, args := #[.func (.yield (w.heap.size + 1)) #[] #[]] }, W1, gf,
    #[.func (.yield (w.heap.size + 1)) #[] #[]] ++ lb, W1, ?_, ?_, ?_, ?_, fun _ => h1, ?_⟩
  · rw [← hW1, hrec]; exact run_enterLoop_outer _ _ _ _ _
  · simp only [resolve, hg]
    simp [go_sem]
  · intro f' hf'; simp [Target.leads] at hf'; subst hf'; exact hFg
  · simp [invoke, go_sem, eg]
  · refine (hseq (w.heap.size + 1)
      (fun W => I W ∧ W.heap[w.heap.size + 1]? = some (.loop (rec .ready none)) ∧ W.heap[w.heap.size]? = some (.deferred (some [])))
      (fun W => Ix W ∧ W.heap[w.heap.size + 1]? = some (.loop (rec .done (some .ret))) ∧ W.heap[w.heap.size]? = some (.deferred (some [])))
      W1 hb1
      (fun A v hs => ⟨hIb A v hs.1, (KeepsOthers.setCell A _ v).same _ _ hs.2.1 rfl, (KeepsOthers.setCell A _ v).same _ _ hs.2.2 rfl⟩)
      (fun A B he h2 h3 h4 hs => ⟨hIh A B he h2 h3 h4 hs.1, by rw [he]; exact hs.2.1, by rw [he]; exact hs.2.2⟩)
      ?_ ⟨hI1, hL1, hK1⟩).mono ?_
    · -- ONE ROUND
      rintro W ⟨hi, hl, hk⟩
      have hlt : w.heap.size + 1 < W.heap.size := (Array.getElem?_eq_some_iff.1 hl).1
      have hy := run_yield (P := P) (args := xs) hl (by rw [hrec]; exact hps)
      rw [hrec] at hy
      refine ⟨fn, _, assign, body, hy, roundIn_of_wpIn hfn (hassign _ W _ ⟨_, run_beginRound hl (by rw [hrec]), ?_⟩)⟩
      have hl2 : (W.putObj (w.heap.size + 1) (.loop { rec .ready none with state := .busy })).heap[w.heap.size + 1]? = some (.loop { rec .ready none with state := .busy }) := World.putObj_heap_same hlt
      have hk2 : (W.putObj (w.heap.size + 1) (.loop { rec .ready none with state := .busy })).heap[w.heap.size]? = some (.deferred (some [])) := (World.putObj_heap_other (by omega)).trans hk
      refine wpIn_mono (hbody _ _ (hI.putObj (s := ()) _ hi (by omega) hl rfl)) ?_
      rintro e a3 W3 hp
      cases e with
      | ret =>
        obtain ⟨hk3, hi3⟩ := hp
        have hl3 := hk3.same _ _ hl2 rfl
        have hr := run_endRound (P := P) (some .ret) hl3
        rw [hrec] at hr
        refine ⟨_, _, hr, rfl, hIx.putObj (s := ()) _ hi3 (by omega) hl3 rfl, ?_, (World.putObj_heap_other (by omega)).trans (hk3.same _ _ hk2 rfl)⟩
        rw [hrec]
        exact World.putObj_heap_same (Array.getElem?_eq_some_iff.1 hl3).1
      | normal => exact hp.elim
      | exit id => exact hp.elim
      | goto t => exact hp.elim
      | panic ch => exact hp.elim
      | outgrown => exact hp.elim
    · -- BEHIND THE ITERATOR
      rintro e W2 ⟨⟨v, rfl⟩, hi, hl, hk⟩
      exact ⟨some .ret, _, by have := run_endLoop (P := P) hl (by rw [hrec]; simp); rw [hrec] at this; exact this, hstop _ _ (Nat.le_refl _) (hIx.putObj (s := ()) _ hi (by omega) hl rfl) ((World.putObj_heap_other (by omega)).trans hk)⟩

#print axioms wpIn_rangeFunc_once
end Go
end
section
namespace Go.Proofs.YtnbighenjhpleaaGreatDoor
open Go.RowKit Go.Shelf
attribute [local go_sem] Oper.semAt_some

theorem cell_lt {W : World} {a : Addr} {v : Value} (h : W.cell? a = some v) : a.block < W.heap.size := by
  obtain ⟨o, ho, _⟩ := cells_of_cell h
  exact (Array.getElem?_eq_some_iff.1 ho).1

set_option maxHeartbeats 1000000 in
set_option maxRecDepth 100000 in
theorem begin_bad (s : ByteArray) (m : Int) (w : World) (hs : s.size < 4294967281) (hm : w.cell? ⟨0, 0, none⟩ = some (.int .i64 m)) (h0 : Lib.countB s ⟨#[32]⟩ = 0) :
    Calls Tryz.prog 29 #[.string s] w fun e w' => e = .returned (.tuple #[.pointer none, .int .i64 4]) ∧ w' = w.alloc (.cells ((Lib.splitB ⟨#[32]⟩ 0 (Lib.countB s ⟨#[32]⟩) s).map Value.string).toArray 9) := by
  go_enter Tryz.func29, Tryz.ntmps29
  go_wp2_with (go_at_call 18; refine (Tryz.strings_Split s ⟨#[32]⟩ m w hs hm (by decide)).mono ?_; rintro e w' ⟨rfl, rfl⟩; simp only [h0])
  go_ret2
  exact ⟨rfl, by rw [h0]⟩

set_option maxHeartbeats 1000000 in
set_option maxRecDepth 100000 in
theorem lines_makes (s : ByteArray) (w : World) :
    Calls Tryz.prog 28 #[.string s] w fun e w' => e = .returned (.func (.func 49) #[] #[.pointer (some ⟨w.heap.size, 0, none⟩)]) ∧ w' = w.alloc (.cells #[.string s] 9) := by
  go_enter Tryz.func28, Tryz.ntmps28
  go_wp2
  go_ret
  exact ⟨rfl, rfl⟩

set_option maxHeartbeats 2000000 in
set_option maxRecDepth 100000 in
theorem lines_once (n Bx : Nat) (s : ByteArray) (m : Int) (w : World) (hs : s.size < 4294967281) (h1 : s ≠ ⟨#[]⟩)
    (hm : w.cell? ⟨0, 0, none⟩ = some (.int .i64 m)) (hc : w.cell? ⟨Bx, 0, none⟩ = some (.string s)) (hf : w.frozen? ⟨Bx, 0, none⟩ = false) :
    YieldsOnce Fence.wide n Tryz.prog 49 #[.pointer (some ⟨Bx, 0, none⟩)] #[.int .i64 1, .string ⟨(Lib.cut s.data.toList [10]).1.toArray⟩] Bx w := by
  intro l J Jx W hB hJb hJh hY hJ
  have hmW := (hB.cell (cell_lt hm)).trans hm
  have hcW := (hB.cell (cell_lt hc)).trans hc
  have hfW := (hB.frozen (p := ⟨Bx, 0, none⟩) (cell_lt hc)).trans hf
  refine callsIn_of_wp Tryz.func49 rfl trivial ?_ rfl
  simp only [Tryz.ntmps49, List.size_toArray, List.length_cons, List.length_nil, Nat.reduceAdd, Nat.reduceSub, Array.replicate_succ, Array.replicate_zero, List.push_toArray, List.append_toArray, List.nil_append, List.cons_append]
  gi_wp2
  gi_loopw [3] (fun p wr => p = .int .i64 1 ∧ wr = W) (fun _ _ => 0)
  case atStart => exact ⟨rfl, rfl⟩
  case round =>
    obtain ⟨rfl, rfl⟩ := hrel
    gi_wp2
    · refine ⟨trivial, fun h => (by cases h), (callsIn_wide.2 (Tryz.strings_Cut s ⟨#[10]⟩ m wr hs hmW)).mono ?_⟩
      rintro e w' ⟨rfl, nn, rfl⟩
      obtain ⟨fn, tmps, assign, body, hy, hR⟩ := hY ((wr.drewN nn).setCell ⟨Bx, 0, none⟩ (.string ⟨(Lib.cut s.data.toList [10]).2.1.toArray⟩)) (hJb _ _ (hJh wr (wr.drewN nn) rfl rfl rfl rfl hJ))
      have hc2 : (wr.drewN nn).cell? ⟨Bx, 0, none⟩ = some (.string s) := hcW
      have hf2 : (wr.drewN nn).frozen? ⟨Bx, 0, none⟩ = false := hfW
      dsimp only
      gi_wp2
      refine ⟨fun h => (by cases h), hR.mono ?_⟩
      rintro e W3 ⟨rfl, hJx3⟩
      gi_wp2
      refine bodyPost_ret (results_none rfl _ _ _) rfl ?_
      exact ⟨⟨_, rfl⟩, hJx3⟩
    · rename_i hne
      exfalso
      apply h1
      obtain ⟨⟨ls⟩⟩ := s
      cases ls with
      | nil => rfl
      | cons x ls => simp at hne
end Go.Proofs.YtnbighenjhpleaaGreatDoor
end
section
namespace Go.Proofs.YtnbighenjhpleaaGreatDoor
open Go.RowKit Go.Shelf
attribute [local go_sem] Oper.semAt_some

theorem cell_of_box_l {W : World} {B : Nat} {v : Value} {t : TypeId} (h : W.heap[B]? = some (.cells #[v] t)) : W.cell? ⟨B, 0, none⟩ = some v ∧ W.frozen? ⟨B, 0, none⟩ = false := by
  constructor <;> simp [World.cell?, World.frozen?, h]
theorem cell_new_l (W : World) (v : Value) (t : TypeId) : (W.alloc (.cells #[v] t)).cell? ⟨W.heap.size, 0, none⟩ = some v ∧ (W.alloc (.cells #[v] t)).frozen? ⟨W.heap.size, 0, none⟩ = false :=
  cell_of_box_l (World.alloc_heap_new W _)
theorem cell_alloc_l {W : World} {a : Addr} {v : Value} (o : Obj) (h : W.cell? a = some v) : (W.alloc o).cell? a = some v := cell_kept h (World.grownBy_alloc W o none) (fun r e => by cases e)
theorem frozen_alloc_l {W : World} {a : Addr} {v : Value} (o : Obj) (h : W.cell? a = some v) (hf : W.frozen? a = false) : (W.alloc o).frozen? a = false := (frozen_kept h (World.grownBy_alloc W o none) (fun r e => by cases e)).trans hf

set_option maxHeartbeats 2000000 in
set_option maxRecDepth 100000 in
theorem run_long1 (s : ByteArray) (w : World) (hs : 262144 < s.size) :
    Calls Tryz.prog 15 #[.string s] w fun e w' => e = .returned (.tuple #[.string ⟨#[]⟩, .int .i64 0, .int .i64 2]) ∧ Below w.heap.size w w' := by
  go_enter Tryz.func15, Tryz.ntmps15
  go_wp2
  refine bodyPost_ret (v := .tuple #[.string ⟨#[]⟩, .int .i64 0, .int .i64 2]) ?_ rfl ⟨rfl, ?_⟩
  · have c0 := cell_new_l w (.string ⟨#[]⟩) 9
    have c1 := cell_new_l (w.alloc (.cells #[.string ⟨#[]⟩] 9)) (.int .i64 0) 3
    have c2 := cell_new_l ((w.alloc (.cells #[.string ⟨#[]⟩] 9)).alloc (.cells #[.int .i64 0] 3)) (.int .i64 2) 29
    simp only [World.size_alloc] at c1 c2
    simp [results, Tryz.f15, go_sem, c2.1, cell_alloc_l _ c1.1, cell_alloc_l _ (cell_alloc_l _ c0.1)]
  · exact (((Below.refl _ w).alloc (Nat.le_refl _) _).alloc (by simp) _).alloc (by simp; omega) _

set_option maxHeartbeats 2000000 in
set_option maxRecDepth 100000 in
theorem run_long2 (s : ByteArray) (w : World) (hs : s.size ≤ 262144) (hc : 4000 ≤ Lib.countByte (Lib.trimSuffix s.data.toList [10]) 10) :
    Calls Tryz.prog 15 #[.string s] w fun e w' => e = .returned (.tuple #[.string ⟨#[]⟩, .int .i64 0, .int .i64 2]) ∧ Below w.heap.size w w' := by
  go_enter Tryz.func15, Tryz.ntmps15
  go_wp2_with (first
    | (go_at_call 27; refine (Tryz.strings_TrimSuffix s ⟨#[10]⟩ _ (by omega)).mono ?_; rintro e w' ⟨rfl, rfl⟩)
    | (go_at_call 26; refine (Tryz.strings_Count_one _ 10 _).mono ?_; rintro e w' ⟨rfl, rfl⟩))
  refine bodyPost_ret (v := .tuple #[.string ⟨#[]⟩, .int .i64 0, .int .i64 2]) ?_ rfl ⟨rfl, ?_⟩
  · have c0 := cell_new_l w (.string ⟨#[]⟩) 9
    have c1 := cell_new_l (w.alloc (.cells #[.string ⟨#[]⟩] 9)) (.int .i64 0) 3
    have c2 := cell_new_l ((w.alloc (.cells #[.string ⟨#[]⟩] 9)).alloc (.cells #[.int .i64 0] 3)) (.int .i64 2) 29
    simp only [World.size_alloc] at c1 c2
    simp [results, Tryz.f15, go_sem, c2.1, cell_alloc_l _ c1.1, cell_alloc_l _ (cell_alloc_l _ c0.1)]
  · exact (((Below.refl _ w).alloc (Nat.le_refl _) _).alloc (by simp) _).alloc (by simp; omega) _
end Go.Proofs.YtnbighenjhpleaaGreatDoor
end
section
namespace Go.Proofs.YtnbighenjhpleaaGreatDoor
open Go.RowKit Go.Shelf
attribute [local go_sem] Oper.semAt_some

theorem toList_ne {s : ByteArray} (h : s ≠ ⟨#[]⟩) : s.toList.isEmpty = false := by
  obtain ⟨⟨ls⟩⟩ := s
  cases ls with
  | nil => exact absurd rfl h
  | cons x ls => simp

set_option maxHeartbeats 2000000 in
set_option maxRecDepth 100000 in
theorem run_bad_in (s : ByteArray) (m : Int) (w : World) (hs : s.size ≤ 262144) (hc : Lib.countByte (Lib.trimSuffix s.data.toList [10]) 10 < 4000) (h1 : s ≠ ⟨#[]⟩)
    (hm : w.cell? ⟨0, 0, none⟩ = some (.int .i64 m)) (hb : Lib.countB ⟨(Lib.cut s.data.toList [10]).1.toArray⟩ ⟨#[32]⟩ = 0) (hbs : (Lib.cut s.data.toList [10]).1.length ≤ 262144) :
    CallsIn Fence.wide 6 Tryz.prog 15 #[.string s] w fun e w' => e = .returned (.tuple #[.string ⟨#[]⟩, .int .i64 1, .int .i64 4]) ∧ Below w.heap.size w w' := by
  refine callsIn_of_wp_marks Tryz.func15 rfl trivial ?_ rfl
  have hne := toList_ne h1
  simp only [Tryz.ntmps15, List.size_toArray, List.length_cons, List.length_nil, Nat.reduceAdd, Nat.reduceSub, Array.replicate_succ, Array.replicate_zero, List.push_toArray, List.append_toArray, List.nil_append, List.cons_append]
  gi_wp2_with (first
    | (refine ⟨trivial, ?_⟩; gi_at_call 27; refine (callsIn_wide.2 (Tryz.strings_TrimSuffix s ⟨#[10]⟩ _ (by omega))).mono ?_; rintro e w' ⟨rfl, rfl⟩)
    | (refine ⟨trivial, ?_⟩; gi_at_call 26; refine (callsIn_wide.2 (Tryz.strings_Count_one _ 10 _)).mono ?_; rintro e w' ⟨rfl, rfl⟩)
    | (refine ⟨trivial, ?_⟩; gi_at_call 28; refine (callsIn_wide.2 (lines_makes s _)).mono ?_; rintro e w' ⟨rfl, rfl⟩))
  have c0 := cell_new_l w (.string ⟨#[]⟩) 9
  have c1 := cell_new_l (w.alloc (.cells #[.string ⟨#[]⟩] 9)) (.int .i64 0) 3
  have c2 := cell_new_l ((w.alloc (.cells #[.string ⟨#[]⟩] 9)).alloc (.cells #[.int .i64 0] 3)) (.int .i64 0) 29
  have c4 := cell_new_l ((((w.alloc (.cells #[.string ⟨#[]⟩] 9)).alloc (.cells #[.int .i64 0] 3)).alloc (.cells #[.int .i64 0] 29)).alloc (.cells #[.pointer none, .slice none 0 0] 57)) (.pointer none) 58
  have c5 := cell_new_l (((((w.alloc (.cells #[.string ⟨#[]⟩] 9)).alloc (.cells #[.int .i64 0] 3)).alloc (.cells #[.int .i64 0] 29)).alloc (.cells #[.pointer none, .slice none 0 0] 57)).alloc (.cells #[.pointer none] 58)) (.string s) 9
  simp only [World.size_alloc] at c1 c2 c4 c5
  have hB0 : Below w.heap.size w ((((((w.alloc (.cells #[.string ⟨#[]⟩] 9)).alloc (.cells #[.int .i64 0] 3)).alloc (.cells #[.int .i64 0] 29)).alloc (.cells #[.pointer none, .slice none 0 0] 57)).alloc (.cells #[.pointer none] 58)).alloc (.cells #[.string s] 9)) :=
    ((((((Below.refl _ w).alloc (Nat.le_refl _) _).alloc (by simp) _).alloc (by simp; omega) _).alloc (by simp; omega) _).alloc (by simp; omega) _).alloc (by simp; omega) _
  have hm0 : w.heap.size ≠ 0 := fun h => by have := cell_lt hm; simp at this; omega
  have hm5 := cell_alloc_l (.cells #[.string s] 9) (cell_alloc_l (.cells #[.pointer none] 58) (cell_alloc_l (.cells #[.pointer none, .slice none 0 0] 57) (cell_alloc_l (.cells #[.int .i64 0] 29) (cell_alloc_l (.cells #[.int .i64 0] 3) (cell_alloc_l (.cells #[.string ⟨#[]⟩] 9) hm)))))
  refine wpIn_rangeFunc_once rfl (by omega) (gf := 49) (lb := #[.pointer (some ⟨w.heap.size + 1 + 1 + 1 + 1 + 1, 0, none⟩)]) rfl trivial (enters_of Tryz.func49 (by kernel_rfl) rfl)
    (lines_once (6 - 1) (w.heap.size + 1 + 1 + 1 + 1 + 1) s m _ (by omega) h1 hm5 c5.1 c5.2) rfl
    (fun W => (W.cell? ⟨w.heap.size, 0, none⟩ = some (.string ⟨#[]⟩) ∧ W.frozen? ⟨w.heap.size, 0, none⟩ = false ∧ W.cell? ⟨w.heap.size + 1, 0, none⟩ = some (.int .i64 0) ∧ W.frozen? ⟨w.heap.size + 1, 0, none⟩ = false ∧
      W.cell? ⟨w.heap.size + 1 + 1, 0, none⟩ = some (.int .i64 0) ∧ W.frozen? ⟨w.heap.size + 1 + 1, 0, none⟩ = false ∧ W.cell? ⟨w.heap.size + 1 + 1 + 1 + 1, 0, none⟩ = some (.pointer none) ∧ W.cell? ⟨0, 0, none⟩ = some (.int .i64 m)) ∧ Below w.heap.size w W)
    (fun W => (W.cell? ⟨w.heap.size, 0, none⟩ = some (.string ⟨#[]⟩) ∧ W.cell? ⟨w.heap.size + 1, 0, none⟩ = some (.int .i64 1) ∧ W.cell? ⟨w.heap.size + 1 + 1, 0, none⟩ = some (.int .i64 4)) ∧ Below w.heap.size w W)
    (OwnFrom.and (Own.from (fun s A B row hs hg hr => ⟨cell_kept hs.1 hg hr, (frozen_kept hs.1 hg hr).trans hs.2.1, cell_kept hs.2.2.1 hg hr, (frozen_kept hs.2.2.1 hg hr).trans hs.2.2.2.1, cell_kept hs.2.2.2.2.1 hg hr, (frozen_kept hs.2.2.2.2.1 hg hr).trans hs.2.2.2.2.2.1, cell_kept hs.2.2.2.2.2.2.1 hg hr, cell_kept hs.2.2.2.2.2.2.2 hg hr⟩) _) (ownFrom_below (Nat.le_refl _) (by simp; omega)))
    (OwnFrom.and (Own.from (fun s A B row hs hg hr => ⟨cell_kept hs.1 hg hr, cell_kept hs.2.1 hg hr, cell_kept hs.2.2 hg hr⟩) _) (ownFrom_below (Nat.le_refl _) (by simp; omega)))
    ?setB ?heapB ?start
    { tmps := #[.string s, undef, .pointer (some ⟨w.heap.size, 0, none⟩), .pointer (some ⟨w.heap.size + 1, 0, none⟩), .pointer (some ⟨w.heap.size + 1 + 1, 0, none⟩), .pointer (some ⟨w.heap.size + 1 + 1 + 1, 0, none⟩), .pointer (some ⟨w.heap.size + 1 + 1 + 1 + 1, 0, none⟩),
        .int .i64 1, .string ⟨(Lib.cut s.data.toList [10]).1.toArray⟩, undef, undef, undef,
        undef, .string s, .int .i64 s.size, .bool (decide (262144 < (s.size : Int))), .bool (decide (262144 < (s.size : Int))), .string s,
        .string ⟨(Lib.trimSuffix s.data.toList [10]).toArray⟩, .int .i64 (Lib.countByte (Lib.trimSuffix s.data.toList [10]) 10),
        .bool (decide (4000 ≤ ((Lib.countByte (Lib.trimSuffix s.data.toList [10]) 10 : Nat) : Int))), .bool (decide (262144 < (s.size : Int)) || decide (4000 ≤ ((Lib.countByte (Lib.trimSuffix s.data.toList [10]) 10 : Nat) : Int))),
        .string s, .bool false, .string s, .func (.func 49) #[] #[.pointer (some ⟨w.heap.size + 1 + 1 + 1 + 1 + 1, 0, none⟩)],
        .int .i64 1, .string ⟨(Lib.cut s.data.toList [10]).1.toArray⟩, undef, undef, undef, undef, undef, undef, undef, undef, undef, undef, undef, undef, undef,
        undef, undef, undef, undef, undef, undef, undef, undef, undef, undef, undef, undef, undef], defers := [] } ?assign ?body ?stop
  case setB =>
    rintro A v ⟨⟨i1, i2, i3, i4, i5, i6, i7, i8⟩, hB⟩
    refine ⟨⟨?_, ?_, ?_, ?_, ?_, ?_, ?_, ?_⟩, hB.setCell (p := ⟨w.heap.size + 1 + 1 + 1 + 1 + 1, 0, none⟩) (by simp; omega) _⟩
    · exact (World.cell?_setCell_other _ _ _ _ (by simp)).trans i1
    · rw [World.frozen?_setCell]; exact i2
    · exact (World.cell?_setCell_other _ _ _ _ (by simp)).trans i3
    · rw [World.frozen?_setCell]; exact i4
    · exact (World.cell?_setCell_other _ _ _ _ (by simp)).trans i5
    · rw [World.frozen?_setCell]; exact i6
    · exact (World.cell?_setCell_other _ _ _ _ (by simp)).trans i7
    · exact (World.cell?_setCell_other _ _ _ _ (by simp)).trans i8
  case heapB =>
    rintro A B he h2 h3 h4 ⟨⟨i1, i2, i3, i4, i5, i6, i7, i8⟩, hB⟩
    have e1 : ∀ a, B.cell? a = A.cell? a := fun a => by simp only [World.cell?, he]
    have e2 : ∀ a, B.frozen? a = A.frozen? a := fun a => by simp only [World.frozen?, he]
    exact ⟨⟨(e1 _).trans i1, (e2 _).trans i2, (e1 _).trans i3, (e2 _).trans i4, (e1 _).trans i5, (e2 _).trans i6, (e1 _).trans i7, (e1 _).trans i8⟩, hB.trans ⟨h2, h3, h4, by rw [he]; exact Nat.le_refl _, fun k _ => by rw [he]⟩⟩
  case start =>
    refine ⟨⟨cell_alloc_l _ (cell_alloc_l _ (cell_alloc_l _ (cell_alloc_l _ (cell_alloc_l _ c0.1)))), frozen_alloc_l _ (cell_alloc_l _ (cell_alloc_l _ (cell_alloc_l _ (cell_alloc_l _ c0.1)))) (frozen_alloc_l _ (cell_alloc_l _ (cell_alloc_l _ (cell_alloc_l _ c0.1))) (frozen_alloc_l _ (cell_alloc_l _ (cell_alloc_l _ c0.1)) (frozen_alloc_l _ (cell_alloc_l _ c0.1) (frozen_alloc_l _ c0.1 c0.2)))),
      cell_alloc_l _ (cell_alloc_l _ (cell_alloc_l _ (cell_alloc_l _ c1.1))), frozen_alloc_l _ (cell_alloc_l _ (cell_alloc_l _ (cell_alloc_l _ c1.1))) (frozen_alloc_l _ (cell_alloc_l _ (cell_alloc_l _ c1.1)) (frozen_alloc_l _ (cell_alloc_l _ c1.1) (frozen_alloc_l _ c1.1 c1.2))),
      cell_alloc_l _ (cell_alloc_l _ (cell_alloc_l _ c2.1)), frozen_alloc_l _ (cell_alloc_l _ (cell_alloc_l _ c2.1)) (frozen_alloc_l _ (cell_alloc_l _ c2.1) (frozen_alloc_l _ c2.1 c2.2)),
      cell_alloc_l _ c4.1, hm5⟩, hB0⟩
  case assign =>
    intro l W K hK
    gi_wp2
    exact hK
  case body =>
    rintro l W ⟨⟨i1, i2, i3, i4, i5, i6, i7, i8⟩, hB⟩
    have hbeg : CallsIn (Fence.wide.inRound l) 3 Tryz.prog 29 #[.string ⟨(Lib.cut s.data.toList [10]).1.toArray⟩] W fun e w' => e = .returned (.tuple #[.pointer none, .int .i64 4]) ∧
        (KeepsOthers W w' ∧ (w'.cell? ⟨w.heap.size, 0, none⟩ = some (.string ⟨#[]⟩) ∧ w'.frozen? ⟨w.heap.size, 0, none⟩ = false ∧ w'.cell? ⟨w.heap.size + 1, 0, none⟩ = some (.int .i64 0) ∧ w'.frozen? ⟨w.heap.size + 1, 0, none⟩ = false ∧
          w'.cell? ⟨w.heap.size + 1 + 1, 0, none⟩ = some (.int .i64 0) ∧ w'.frozen? ⟨w.heap.size + 1 + 1, 0, none⟩ = false) ∧ Below w.heap.size w w') := by
      refine (CallsIn.inRound l (callsIn_wide.2 (begin_bad _ m _ (by simp only [ByteArray.size, List.size_toArray]; omega) i8 hb))).mono ?_
      rintro e w' ⟨rfl, rfl⟩
      exact ⟨rfl, KeepsOthers.alloc _ _, ⟨cell_alloc_l _ i1, frozen_alloc_l _ i1 i2, cell_alloc_l _ i3, frozen_alloc_l _ i3 i4, cell_alloc_l _ i5, frozen_alloc_l _ i5 i6⟩, hB.alloc hB.size _⟩
    gi_wp2_with (refine ⟨trivial, ?_⟩; gi_at_call 29; refine hbeg.mono ?_; clear hbeg i1 i2 i3 i4 i5 i6; rintro e w' ⟨rfl, hK', ⟨i1, i2, i3, i4, i5, i6⟩, hB'⟩)
    refine ⟨hK'.trans (((KeepsOthers.setCell _ _ _).trans (KeepsOthers.setCell _ _ _)).trans (KeepsOthers.setCell _ _ _)), ⟨?_, ?_, ?_⟩,
      ((hB'.setCell (p := ⟨w.heap.size, 0, none⟩) (Nat.le_refl _) _).setCell (p := ⟨w.heap.size + 1, 0, none⟩) (by simp) _).setCell (p := ⟨w.heap.size + 1 + 1, 0, none⟩) (by simp; omega) _⟩
    · rw [World.cell?_setCell_other _ _ _ _ (by simp), World.cell?_setCell_other _ _ _ _ (by simp)]
      exact World.cell?_setCell_same' _ _ _ (by rw [i1]; rfl)
    · rw [World.cell?_setCell_other _ _ _ _ (by simp)]
      exact World.cell?_setCell_same' _ _ _ (by rw [World.cell?_setCell_other _ _ _ _ (by simp), i3]; rfl)
    · exact World.cell?_setCell_same' _ _ _ (by rw [World.cell?_setCell_other _ _ _ _ (by simp), World.cell?_setCell_other _ _ _ _ (by simp), i5]; rfl)
  case stop =>
    rintro D W hD ⟨⟨i1, i2, i3⟩, hB⟩ hK
    gi_wp2
    refine ⟨by simp, .inl ⟨_, _, rfl, run_takeDeferred hK, ?_⟩⟩
    have d1 := cell_kept i1 (grownBy_putObj' _ D (.deferred none)) (fun r e => by cases e; exact ⟨_, hK, rfl⟩)
    have d2 := cell_kept i2 (grownBy_putObj' _ D (.deferred none)) (fun r e => by cases e; exact ⟨_, hK, rfl⟩)
    have d3 := cell_kept i3 (grownBy_putObj' _ D (.deferred none)) (fun r e => by cases e; exact ⟨_, hK, rfl⟩)
    refine ⟨.tuple #[.string ⟨#[]⟩, .int .i64 1, .int .i64 4], ?_, rfl, hB.trans (belowK_b (w := w) (Nat.le_refl _) W D _ _ (by simp at hD; omega) hK rfl rfl)⟩
    simp [results, Tryz.f15, go_sem, d1, d2, d3]

theorem run_bad (s : ByteArray) (m : Int) (w : World) (hs : s.size ≤ 262144) (hc : Lib.countByte (Lib.trimSuffix s.data.toList [10]) 10 < 4000) (h1 : s ≠ ⟨#[]⟩)
    (hm : w.cell? ⟨0, 0, none⟩ = some (.int .i64 m)) (hb : Lib.countB ⟨(Lib.cut s.data.toList [10]).1.toArray⟩ ⟨#[32]⟩ = 0) (hbs : (Lib.cut s.data.toList [10]).1.length ≤ 262144) :
    Calls Tryz.prog 15 #[.string s] w fun e w' => e = .returned (.tuple #[.string ⟨#[]⟩, .int .i64 1, .int .i64 4]) ∧ Below w.heap.size w w' :=
  callsIn_wide.1 (run_bad_in s m w hs hc h1 hm hb hbs)
end Go.Proofs.YtnbighenjhpleaaGreatDoor
end
