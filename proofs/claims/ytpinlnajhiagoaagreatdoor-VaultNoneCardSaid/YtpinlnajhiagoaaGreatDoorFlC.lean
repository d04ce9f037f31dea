/-
  (*Disk).Flush of a disk with power: what waits is laid into the row, whatever the order.
-/
import Derived.Test.YtpinlnajhiagoaaGreatDoorFlA
import Derived.Test.YtpinlnajhiagoaaGreatDoorFlB
import Derived.Lib.Hide
set_option linter.unusedVariables false
set_option linter.unusedSimpArgs false
namespace Go.Proofs.YtpinlnajhiagoaaGreatDoor
open Go.RowKit Go.ChangeMaps

theorem setCellHeap {w : World} {k : Nat} {c : Array Value} {e : TypeId} {fz : Nat × Nat} (h : w.heap[k]? = some (.cells c e fz)) (i : Nat) (v : Value) :
    (w.setCell ⟨k, i, none⟩ v).heap[k]? = some (.cells (c.setIfInBounds i v) e fz) ∧ (∀ j, j ≠ k → (w.setCell ⟨k, i, none⟩ v).heap[j]? = w.heap[j]?) ∧ (w.setCell ⟨k, i, none⟩ v).heap.size = w.heap.size := by
  refine ⟨?_, fun j hj => ?_, ?_⟩
  · simp [World.setCell, Array.getElem?_modify, h]
  · simp [World.setCell, Array.getElem?_modify, Ne.symm hj]
  · simp [World.setCell]

/-- the row while the loop is under way: entries that were seen are laid in -/
structure Laying (lo : Nat) (es : Array MapEntry) (seen : Array Nat) (rc rcS : Array Value) : Prop where
  size : rcS.size = rc.size
  laid : ∀ x ∈ es.toList, seen.contains x.born = true → ∀ k : Nat, x.key = .int .i64 k → rcS[lo + k]? = some x.val
  rest : ∀ i, (∀ x ∈ es.toList, ∀ k : Nat, x.key = .int .i64 k → lo + k ≠ i) → rcS[i]? = rc[i]?
  todo : ∀ i, (∀ x ∈ es.toList, seen.contains x.born = true → ∀ k : Nat, x.key = .int .i64 k → lo + k ≠ i) → rcS[i]? = rc[i]?

/-- the world while the loop is under way -/
structure Flushing (w : World) (b m lb lo : Nat) (es : Array MapEntry) (clock : Nat) (rc : Array Value) (e : TypeId) (fz : Nat × Nat) (seen : Array Nat) (wr : World) : Prop where
  it : wr.heap[w.heap.size]? = some (.mapIter (some m) clock seen clock)
  row : ∃ rcS, wr.heap[lb]? = some (.cells rcS e fz) ∧ Laying lo es seen rc rcS
  rest : ∀ k, k < w.heap.size → k ≠ lb → wr.heap[k]? = w.heap[k]?
  size : wr.heap.size = w.heap.size + 1
  tape : wr.tape = w.tape
  os : wr.os = w.os
  output : wr.output = w.output

def FlushPost (w : World) (b m lb lo : Nat) (es : Array MapEntry) (clock : Nat) (rc : Array Value) (e : TypeId) (fz : Nat × Nat) (e' : Ending) (w' : World) : Prop :=
  e' = .returned (.int .i64 0) ∧ ∃ seen w2, Flushing w b m lb lo es clock rc e fz seen w2 ∧ (leftOf es seen).size = 0 ∧ w'.heap = (setBlock w2 m (.map #[] clock)).heap ∧ w'.tape = w.tape ∧ w'.os = w.os ∧ w'.output = w.output

theorem laying_start (lo : Nat) (es : Array MapEntry) (rc : Array Value) : Laying lo es #[] rc rc :=
  ⟨rfl, fun _ _ h => by simp at h, fun _ _ => rfl, fun _ _ => rfl⟩

theorem eq_of_pair {α β : Type} (f : α → β) : ∀ {l : List α}, l.Pairwise (fun x y => f x ≠ f y) → ∀ {x y : α}, x ∈ l → y ∈ l → f x = f y → x = y
  | [], _, x, _, hx, _, _ => by cases hx
  | a :: l, h, x, y, hx, hy, e => by
    rw [List.pairwise_cons] at h
    rcases List.mem_cons.1 hx with e0 | hx
    · subst e0
      rcases List.mem_cons.1 hy with e1 | hy
      · exact e1.symm
      · exact absurd e (h.1 y hy)
    · rcases List.mem_cons.1 hy with e1 | hy
      · exact absurd (by rw [← e1]; exact e.symm) (h.1 x hx)
      · exact eq_of_pair f h.2 hx hy e

theorem laying_step {lo : Nat} {es : Array MapEntry} {seen : Array Nat} {rc rcS : Array Value} (h : Laying lo es seen rc rcS) {x : MapEntry} (hx : x ∈ es.toList) {k : Nat} (hk : x.key = .int .i64 k) (hlt : lo + k < rc.size) (hkn : es.toList.Pairwise (fun x y => x.key ≠ y.key)) (hnd : es.toList.Pairwise (fun x y => x.born ≠ y.born)) :
    Laying lo es (seen.push x.born) rc (rcS.setIfInBounds (lo + k) x.val) := by
  have hsz := h.size
  refine ⟨by simp [hsz], fun y hy hs j hj => ?_, fun i hi => ?_, fun i hi => ?_⟩
  · by_cases e : j = k
    · subst e
      have : y = x := eq_of_pair (·.key) hkn hy hx (by rw [hj, hk])
      subst this
      rw [Array.getElem?_setIfInBounds, if_pos rfl, if_pos (by omega)]
    · rw [Array.getElem?_setIfInBounds, if_neg (by omega)]
      refine h.laid y hy ?_ j hj
      simp at hs ⊢
      rcases hs with hs | hs
      · exact hs
      · have : y = x := eq_of_pair (·.born) hnd hy hx hs
        subst this
        rw [hk] at hj
        injection hj with _ hj
        omega
  · rw [Array.getElem?_setIfInBounds, if_neg (fun e => hi x hx k hk e)]
    exact h.rest i hi
  · rw [Array.getElem?_setIfInBounds, if_neg (fun e => hi x hx (by simp) k hk e)]
    exact h.todo i (fun y hy hs j hj => hi y hy (by simp at hs ⊢; exact .inl hs) j hj)

set_option maxRecDepth 100000 in
theorem flush_at (b m lb lo ln lc : Nat) (es : Array MapEntry) (clock : Nat) (rc : Array Value) (e : TypeId) (fz : Nat × Nat) (x4 x5 x6 x7 x8 : Value) (w : World) (f0 : Nat × Nat) (e0 : TypeId)
    (hb : w.heap[b]? = some (.cells #[.slice (some ⟨lb, lo, none⟩) ln lc, .map (some m), .bool false, .int .i64 (-1), x4, x5, x6, x7, x8] e0 f0))
    (hm : w.heap[m]? = some (.map es clock)) (hl : w.heap[lb]? = some (.cells rc e fz)) (hln : 1 ≤ ln) (hsz : lo + ln ≤ rc.size) (hfz : ∀ i, i < rc.size → ¬(fz.1 ≤ i ∧ i < fz.2)) (hbl : b ≠ lb)
    (hborn : ∀ x ∈ es.toList, x.born < clock) (hnd : es.toList.Pairwise (fun x y => x.born ≠ y.born)) (hkn : es.toList.Pairwise (fun x y => x.key ≠ y.key))
    (hkey : ∀ x ∈ es.toList, ∃ k : Nat, x.key = .int .i64 k ∧ k < ln) (hval : ∀ x ∈ es.toList, ∃ a n c, x.val = .slice a n c) :
    Calls Tryz.prog 9 #[.pointer (some ⟨b, 0, none⟩)] w (FlushPost w b m lb lo es clock rc e fz) := by
  have c0 : w.cell? ⟨b, 0, none⟩ = some (.slice (some ⟨lb, lo, none⟩) ln lc) := by simp [World.cell?, hb]
  have c2 : w.cell? ⟨b, 2, none⟩ = some (.bool false) := by simp [World.cell?, hb]
  have c3 : w.cell? ⟨b, 3, none⟩ = some (.int .i64 (-1)) := by simp [World.cell?, hb]
  have c1 : w.cell? ⟨b, 1, none⟩ = some (.map (some m)) := by simp [World.cell?, hb]
  have hmay := may_at b ln lc _ w c0 c2 (by simp; omega) (by simp; omega)
  have hgoes := goes_at b w c3
  have Hmay := Lib.hid hmay; clear hmay
  have Hgoes := Lib.hid hgoes; clear hgoes
  have Hb := Lib.hid hb; clear hb
  have Hm := Lib.hid hm; clear hm
  have Hl := Lib.hid hl; clear hl
  have Hborn := Lib.hid hborn; clear hborn
  have Hnd := Lib.hid hnd; clear hnd
  have Hkn := Lib.hid hkn; clear hkn
  have Hkey := Lib.hid hkey; clear hkey
  have Hval := Lib.hid hval; clear hval
  have Hfz := Lib.hid hfz; clear hfz
  go_enter Tryz.func9, Tryz.ntmps9
  go_wp2_with (first
    | (refine Hmay.out.mono ?_; rintro e w' ⟨rfl, rfl⟩)
    | (refine Hgoes.out.mono ?_; rintro e w' ⟨rfl, rfl⟩)
    | (at_range; refine wpList_range_at _ rfl _ 79 rfl 3 39 Tryz.underlying79 m es clock rfl Hm.out ?_))
  go_frame
  go_loopw [4] (fun _ wr => ∃ seen, Flushing w b m lb lo es clock rc e fz seen wr) (fun _ wr => wr.rangeLeft m w.heap.size)
  case atStart =>
    refine ⟨#[], ?_⟩
    have hb := Hb.out
    have hm := Hm.out
    have hl := Hl.out
    have l1 : b < w.heap.size := (Array.getElem?_eq_some_iff.1 hb).1
    have l2 : m < w.heap.size := (Array.getElem?_eq_some_iff.1 hm).1
    have l3 : lb < w.heap.size := (Array.getElem?_eq_some_iff.1 hl).1
    have eh : ∀ o : Obj, (w.alloc o).heap = w.heap.push o := fun _ => rfl
    refine ⟨?_, ⟨rc, ?_, laying_start lo es rc⟩, fun k hk _ => ?_, ?_, rfl, rfl, rfl⟩
    · rw [eh]; simp
    · rw [eh, Array.getElem?_push, if_neg (by omega)]; exact hl
    · rw [eh, Array.getElem?_push, if_neg (by omega)]
    · rw [eh]; simp
  case round =>
    obtain ⟨seen, hF⟩ := hrel
    have hb := Hb.out
    have hm := Hm.out
    have hl := Hl.out
    have l1 : b < w.heap.size := (Array.getElem?_eq_some_iff.1 hb).1
    have l2 : m < w.heap.size := (Array.getElem?_eq_some_iff.1 hm).1
    have l3 : lb < w.heap.size := (Array.getElem?_eq_some_iff.1 hl).1
    have hmlb : m ≠ lb := fun e => by subst e; rw [hm] at hl; cases hl
    have mb := (hF.rest b l1 hbl).trans hb
    have mm := (hF.rest m l2 hmlb).trans hm
    clear hb hm hl
    have HF := Lib.hid hF; clear hF
    have Mb := Lib.hid mb; clear mb
    have Mm := Lib.hid mm; clear mm
    go_wp2_with (first
      | (at_next; refine wpList_next_at _ rfl _ rfl w.heap.size m clock clock seen es clock rfl HF.out.it Mm.out (by omega) Hborn.out (Nat.le_refl _) (List.pairwise_map.2 Hnd.out) ?_ ?_))
    · intro hdone
      have d1 : wr.cell? ⟨b, 1, none⟩ = some (.map (some m)) := by
        have := Mb.out
        simp [World.cell?, this]
      have hcl : (Builtin.clear_ #[79] 0 #[.map (some m)]).run Tryz.prog wr = .ok (.tuple #[]) (setBlock wr m (.map #[] clock)) := by
        have := Mm.out
        simp [Builtin.clear_, run_underlying Tryz.underlying79, getObj, setObj, Sem.run, this, setBlock]
      go_wp2
      go_ret
      exact ⟨rfl, seen, wr, HF.out, by rw [hdone]; rfl, rfl, HF.out.tape, HF.out.os, HF.out.output⟩
    · intro x hx w2 hst hen
      have hmem : x ∈ es.toList := by
        unfold leftOf at hx
        simp at hx
        simpa using hx.1
      obtain ⟨k, hk, hkl⟩ := Hkey.out x hmem
      obtain ⟨va, vn, vc, hv⟩ := Hval.out x hmem
      obtain ⟨rcS, hrow, hlay⟩ := HF.out.row
      have hsS := hlay.size
      have r2 : w2.heap[lb]? = some (.cells rcS e fz) := (hst.rest lb (by omega)).trans hrow
      have d0 : w2.cell? ⟨b, 0, none⟩ = some (.slice (some ⟨lb, lo, none⟩) ln lc) := by
        have h2 : w2.heap[b]? = _ := (hst.rest b (by omega)).trans Mb.out
        simp [World.cell?, h2]
      obtain ⟨old, d2⟩ : ∃ old, w2.cell? ⟨lb, lo + k, none⟩ = some old := by
        refine ⟨rcS[lo + k]'(by omega), ?_⟩
        simp [World.cell?, r2]
      have d3 : w2.frozen? ⟨lb, lo + k, none⟩ = false := by
        have h1 := Hfz.out (lo + k) (by omega)
        obtain ⟨z1, z2⟩ := fz
        simp only [World.frozen?, r2]
        simp only at h1
        simp only [Bool.and_eq_false_iff, decide_eq_false_iff_not]
        omega
      rw [hk, hv] at hen ⊢
      have Hk := Lib.hid hk; clear hk
      have Hv := Lib.hid hv; clear hv
      have R2 := Lib.hid r2; clear r2
      have Hrow := Lib.hid hrow; clear hrow
      have HS := Lib.hid hsS; clear hsS
      go_wp2
      have hm3 : m ≠ lb := fun ee => by
        have h1 := Hm.out
        have h2 := Hl.out
        rw [ee, h2] at h1
        cases h1
      obtain ⟨k1, k2, k3⟩ := setCellHeap R2.out (lo + k) (.slice va vn vc)
      have l1 : b < w.heap.size := (Array.getElem?_eq_some_iff.1 Hb.out).1
      have l2 : m < w.heap.size := (Array.getElem?_eq_some_iff.1 Hm.out).1
      have l3 : lb < w.heap.size := (Array.getElem?_eq_some_iff.1 Hl.out).1
      have hst1 := hst.it
      refine ⟨⟨seen.push x.born, ⟨(k2 _ (by omega)).trans hst.it, ⟨_, k1, ?_⟩, fun j hj hne => ?_, ?_, ?_, ?_, ?_⟩⟩, ?_⟩
      · have := laying_step hlay hmem Hk.out (by omega) Hkn.out Hnd.out
        rw [Hv.out] at this
        exact this
      · rw [k2 j hne, hst.rest j (by omega)]
        exact HF.out.rest j hj hne
      · rw [k3, hst.size]; exact HF.out.size
      · exact hst.tape.trans HF.out.tape
      · exact hst.os.trans HF.out.os
      · exact hst.output.trans HF.out.output
      · have e1 : (w2.setCell ⟨lb, lo + k, none⟩ (.slice va vn vc)).rangeLeft m w.heap.size = (leftOf es (seen.push x.born)).size := by
          unfold World.rangeLeft
          rw [k2 m hm3, hst.rest m (by omega), Mm.out, k2 _ (by omega), hst.it]
        have e2 : wr.rangeLeft m w.heap.size = (leftOf es seen).size := by
          unfold World.rangeLeft
          rw [Mm.out, HF.out.it]
        rw [e1, e2]
        exact left_shrinks es seen x (by simpa using hx)
end Go.Proofs.YtpinlnajhiagoaaGreatDoor
