/-
  'for k, v := range m' under way, entry by entry.
-/
import Derived.WalkKit
import Derived.Maps.RangeWalk
set_option linter.unusedVariables false
set_option linter.unusedSimpArgs false
namespace Go.Proofs
open Go.RowKit Go.ChangeMaps

section
variable {P : Program} (w : World) {ops : Array Oper} {rest : List Oper} {o : Oper} {a : Act} {Q : Exit → Act → World → Prop}

theorem wpList_range_at (hg : o.guard = none) (m : Operand) (t : TypeId) (hop : o.op = Op.range t m) (k e : TypeId) (ht : P.underlying t = some (.map k e)) (b : Nat) (es : Array MapEntry) (clock : Nat)
    (hm : a.eval m = .map (some b)) (hb : w.heap[b]? = some (.map es clock))
    (hK : wpList P ops Q rest (a.put o.dst (.pointer (some ⟨w.heap.size, 0, none⟩))) (w.alloc (.mapIter (some b) clock #[] clock))) :
    wpList P ops Q (o :: rest) a w := by
  refine wpList_plain hg fun K' hK' => ?_
  have hrun : (Instr.range t (.map (some b))).run P w = .ok (.pointer (some ⟨w.heap.size, 0, none⟩)) (w.alloc (.mapIter (some b) clock #[] clock)) := by
    simp [Instr.range, run_underlying ht, getObj, Sem.run, hb]
  unfold Oper.wp
  simp [execOp, hop, hm, hrun, Result.andThen]
  exact hK' _ _ hK

/-- the world behind a step: the iterator has turned, nothing else -/
structure Stepped (w w2 : World) (r : Nat) (it : Obj) : Prop where
  it : w2.heap[r]? = some it
  rest : ∀ k, k ≠ r → w2.heap[k]? = w.heap[k]?
  size : w2.heap.size = w.heap.size
  tape : w2.tape = w.tape
  os : w2.os = w.os
  output : w2.output = w.output

theorem wpList_next_at (hg : o.guard = none) (it : Operand) (hop : o.op = Op.next it false) (r bm since c0 : Nat) (seen : Array Nat) (es : Array MapEntry) (clock : Nat) (hit : a.eval it = .pointer (some ⟨r, 0, none⟩))
    (hr : w.heap[r]? = some (.mapIter (some bm) since seen c0)) (hb : w.heap[bm]? = some (.map es clock)) (hne : r ≠ bm) (hold : ∀ x ∈ es.toList, x.born < since) (hsc : since ≤ c0) (hn : (es.toList.map (·.born)).Nodup)
    (hDone : (leftOf es seen).size = 0 → wpList P ops Q rest (a.put o.dst (.tuple #[.bool false])) w)
    (hMore : ∀ e ∈ (leftOf es seen).toList, ∀ w2, Stepped w w2 r (.mapIter (some bm) since (seen.push e.born) clock) → (Instr.entry (.pointer (some ⟨r, 0, none⟩))).run P w2 = .ok (.tuple #[e.key, e.val]) w2 →
      wpList P ops Q rest (a.put o.dst (.tuple #[.bool true, e.key, e.val])) w2) :
    wpList P ops Q (o :: rest) a w := by
  refine wpList_plain hg fun K' hK' => ?_
  unfold Oper.wp
  have hlt : r < w.heap.size := (Array.getElem?_eq_some_iff.1 hr).1
  rcases run_next_at (P := P) w o.type r bm since c0 seen es clock hr hb hold hsc with ⟨h0, hrun⟩ | ⟨e, he, w1, hw1, hrun⟩
  · simp [execOp, hop, hit, hrun, Result.andThen]
    exact hK' _ _ (hDone h0)
  · simp [execOp, hop, hit, hrun, Result.andThen]
    have hst0 : ∀ w1 : World, w1.heap = w.heap → w1.tape = w.tape → w1.os = w.os → w1.output = w.output → Stepped w (setBlock w1 r (.mapIter (some bm) since (seen.push e.born) clock)) r (.mapIter (some bm) since (seen.push e.born) clock) := fun w1 h1 h2 h3 h4 =>
      ⟨by simp [setBlock, h1, hlt], fun k hk => by simp [setBlock, h1, Ne.symm hk], by simp [setBlock, h1], h2, h3, h4⟩
    have hst : Stepped w (setBlock w1 r (.mapIter (some bm) since (seen.push e.born) clock)) r (.mapIter (some bm) since (seen.push e.born) clock) := by
      rcases hw1 with rfl | rfl
      · exact hst0 _ rfl rfl rfl rfl
      · exact hst0 _ rfl rfl rfl rfl
    have hmem : e ∈ es.toList := by
      unfold leftOf at he
      simp at he
      simpa using he.1
    exact hK' _ _ (hMore e he _ hst (run_entry_at _ r bm since seen es clock e hst.it ((hst.rest bm (Ne.symm hne)).trans hb) hmem hn))
end
end Go.Proofs
