/-
  script.Run at long runs of 'a' and of line ends: what it answers. cofferlaw0.Place.
-/
import Derived.Test.YtnbighenjhpleaaGreatDoorScrRun
import Derived.Lib.SplitLaws
import Derived.Test.YtnbighenjhpleaaGreatDoorBegunRun
import Derived.Laws.MakeOwn
import Derived.Laws.OwnMore
import Derived.Laws.IdiomStrings
set_option linter.unusedVariables false
set_option linter.unusedSimpArgs false
section
namespace Go.Proofs.YtnbighenjhpleaaGreatDoor
open Go.RowKit Go.Shelf

theorem indexByte_rep {x c : UInt8} (h : x ≠ c) : ∀ n, Lib.indexByte (List.replicate n x) c = -1
  | 0 => rfl
  | n + 1 => by
    rw [List.replicate_succ, Lib.indexByte, indexByte_rep h n]
    have h' : (x == c) = false := beq_eq_false_iff_ne.2 h
    simp [h']

theorem countB_one (s : ByteArray) (c : UInt8) : Lib.countB s ⟨#[c]⟩ = s.data.toList.count c := Lib.count_one c s.data.toList

theorem cut_rep {x c : UInt8} (h : x ≠ c) (n : Nat) : Lib.cut (List.replicate n x) [c] = (List.replicate n x, [], false) := by
  rw [Lib.cut, Lib.index_one, indexByte_rep h]
  rfl

theorem cut_line (n : Nat) : (Lib.cut (List.replicate (n + 1) (10 : UInt8)) [10]).1 = [] := by
  rw [Lib.cut, Lib.index_one, List.replicate_succ, Lib.indexByte]
  simp

theorem trim_count_rep {x : UInt8} (h : x ≠ 10) (n : Nat) : Lib.countByte (Lib.trimSuffix (List.replicate n x) [10]) 10 = 0 := by
  have h' : ∀ k, (List.replicate k x).count 10 = 0 := fun k => by
    rw [List.count_replicate]
    have : (x == 10) = false := beq_eq_false_iff_ne.2 h
    simp [this]
  unfold Lib.trimSuffix Lib.countByte
  split
  · rw [List.take_replicate]; exact h' _
  · exact h' _

theorem trim_count_line (n : Nat) : Lib.countByte (Lib.trimSuffix (List.replicate (n + 1) (10 : UInt8)) [10]) 10 = n := by
  have hs : Lib.hasSuffix (List.replicate (n + 1) (10 : UInt8)) [10] = true := by
    unfold Lib.hasSuffix
    rw [List.isSuffixOf_iff_suffix]
    exact ⟨List.replicate n 10, by rw [List.replicate_succ']⟩
  unfold Lib.trimSuffix Lib.countByte
  rw [if_pos hs, List.take_replicate]
  simp

theorem run_as (N : Nat) (m : Int) (w : World) (h1 : 1 ≤ N) (h2 : N ≤ 1000000) (hm : w.cell? ⟨0, 0, none⟩ = some (.int .i64 m)) :
    Calls Tryz.prog 15 #[.string ⟨(List.replicate N (97 : UInt8)).toArray⟩] w fun e w' =>
      e = .returned (.tuple #[.string ⟨#[]⟩, .int .i64 (if 262144 < N then 0 else 1), .int .i64 (if 262144 < N then 2 else 4)]) ∧ Below w.heap.size w w' := by
  have hsz : (⟨(List.replicate N (97 : UInt8)).toArray⟩ : ByteArray).size = N := by simp [ByteArray.size]
  by_cases hN : 262144 < N
  · rw [if_pos hN, if_pos hN]
    exact run_long1 _ w (by rw [hsz]; exact hN)
  · rw [if_neg hN, if_neg hN]
    refine run_bad _ m w (by rw [hsz]; omega) ?_ ?_ hm ?_ ?_
    · show Lib.countByte (Lib.trimSuffix (List.replicate N (97 : UInt8)) [10]) 10 < 4000
      rw [trim_count_rep (by decide)]; decide
    · intro h; rw [h] at hsz; simp [ByteArray.size] at hsz; omega
    · show Lib.countB ⟨(Lib.cut (List.replicate N (97 : UInt8)) [10]).1.toArray⟩ ⟨#[32]⟩ = 0
      rw [cut_rep (by decide), countB_one]
      simp [List.count_replicate]
    · show (Lib.cut (List.replicate N (97 : UInt8)) [10]).1.length ≤ 262144
      rw [cut_rep (by decide)]
      simp; omega

theorem run_lines (N : Nat) (m : Int) (w : World) (h1 : 1 ≤ N) (h2 : N ≤ 5000) (hm : w.cell? ⟨0, 0, none⟩ = some (.int .i64 m)) :
    Calls Tryz.prog 15 #[.string ⟨(List.replicate N (10 : UInt8)).toArray⟩] w fun e w' =>
      e = .returned (.tuple #[.string ⟨#[]⟩, .int .i64 (if 4000 < N then 0 else 1), .int .i64 (if 4000 < N then 2 else 4)]) ∧ Below w.heap.size w w' := by
  obtain ⟨k, rfl⟩ : ∃ k, N = k + 1 := ⟨N - 1, by omega⟩
  have hsz : (⟨(List.replicate (k + 1) (10 : UInt8)).toArray⟩ : ByteArray).size = k + 1 := by simp [ByteArray.size]
  by_cases hN : 4000 < k + 1
  · rw [if_pos hN, if_pos hN]
    refine run_long2 _ w (by rw [hsz]; omega) ?_
    show 4000 ≤ Lib.countByte (Lib.trimSuffix (List.replicate (k + 1) (10 : UInt8)) [10]) 10
    rw [trim_count_line]; omega
  · rw [if_neg hN, if_neg hN]
    refine run_bad _ m w (by rw [hsz]; omega) ?_ ?_ hm ?_ ?_
    · show Lib.countByte (Lib.trimSuffix (List.replicate (k + 1) (10 : UInt8)) [10]) 10 < 4000
      rw [trim_count_line]; omega
    · intro h; rw [h] at hsz; simp [ByteArray.size] at hsz
    · show Lib.countB ⟨(Lib.cut (List.replicate (k + 1) (10 : UInt8)) [10]).1.toArray⟩ ⟨#[32]⟩ = 0
      rw [cut_line]; rfl
    · show (Lib.cut (List.replicate (k + 1) (10 : UInt8)) [10]).1.length ≤ 262144
      rw [cut_line]; decide

theorem tmod_facts (k n : Int) (h1 : 1 ≤ n) : k % n = (k.tmod n) % n ∧ k.tmod n < n ∧ -n < k.tmod n := by
  refine ⟨?_, Int.tmod_lt_of_pos k (by omega), Int.lt_tmod_of_pos k (b := n) (by omega)⟩
  rw [Int.tmod_def, Int.sub_mul_emod_self_left]

theorem place_low (k n : Int) (h1 : 1 ≤ n) (h2 : n ≤ 1000) (hk : k.tmod n < 0) : wrap64 (k.tmod n + n) = k % n := by
  obtain ⟨e0, e1, e2⟩ := tmod_facts k n h1
  rw [e0, ← Int.add_emod_right, Int.emod_eq_of_lt (by omega) (by omega)]
  unfold wrap64
  omega

theorem place_high (k n : Int) (h1 : 1 ≤ n) (hk : ¬ k.tmod n < 0) : k.tmod n = k % n := by
  obtain ⟨e0, e1, e2⟩ := tmod_facts k n h1
  rw [e0, Int.emod_eq_of_lt (by omega) (by omega)]

set_option maxHeartbeats 1000000 in
set_option maxRecDepth 100000 in
theorem place_calls (k n : Int) (w : World) (h0 : -9223372036854775808 ≤ k) (h9 : k ≤ 9223372036854775807) (h1 : 1 ≤ n) (h2 : n ≤ 1000) :
    Calls Tryz.prog 14 #[.int .i64 k, .int .i64 n] w fun e w' => e = .returned (.int .i64 (k % n)) ∧ w' = w := by
  by_cases hk : k.tmod n < 0
  · go_enter Tryz.func14, Tryz.ntmps14
    go_wp2
    go_ret
    exact ⟨congrArg (fun x => Ending.returned (Value.int .i64 x)) (place_low k n h1 h2 hk), rfl⟩
  · go_enter Tryz.func14, Tryz.ntmps14
    go_wp2
    go_ret
    exact ⟨congrArg (fun x => Ending.returned (Value.int .i64 x)) (place_high k n h1 (by omega)), rfl⟩
end Go.Proofs.YtnbighenjhpleaaGreatDoor
end
section
namespace Go.Proofs.YtnbighenjhpleaaGreatDoor
open Go.RowKit Go.Shelf

/-- The first j cells of block B's N are the number v. -/
def Filled (W : World) (B N j : Nat) (v : Int) : Prop := ∃ row : Array Value, W.heap[B]? = some (.cells row 5 (0, 0)) ∧ row.size = N ∧ ∀ i, i < j → row[i]? = some (.int .u8 v)

theorem Filled.again {W : World} {B N j : Nat} {v v' : Int} (h : Filled W B N j v) : Filled W B N 0 v' := by
  obtain ⟨row, h1, h2, _⟩ := h
  exact ⟨row, h1, h2, fun i hi => absurd hi (by omega)⟩

theorem Filled.lt {W : World} {B N j : Nat} {v : Int} (h : Filled W B N j v) : B < W.heap.size := by
  obtain ⟨row, h1, _⟩ := h
  exact (Array.getElem?_eq_some_iff.1 h1).1

theorem Filled.cell {W : World} {B N j : Nat} {v : Int} (h : Filled W B N j v) {i : Nat} (hi : i < N) : ∃ u, W.cell? ⟨B, i, none⟩ = some u := by
  obtain ⟨row, h1, h2, _⟩ := h
  refine ⟨row[i], ?_⟩
  simp [World.cell?, h1, h2, hi]

theorem Filled.frozen {W : World} {B N j : Nat} {v : Int} (h : Filled W B N j v) (i : Nat) : W.frozen? ⟨B, i, none⟩ = false := by
  obtain ⟨row, h1, h2, _⟩ := h
  simp [World.frozen?, h1]

theorem Filled.byte {W : World} {B N j : Nat} {v : Int} (h : Filled W B N j v) {i : Nat} (hi : i < j) : W.cell? ⟨B, i, none⟩ = some (.int .u8 v) := by
  obtain ⟨row, h1, h2, h3⟩ := h
  simp [World.cell?, h1, h3 i hi]

theorem Filled.set {W : World} {B N j : Nat} {v : Int} (h : Filled W B N j v) (hj : j < N) : Filled (W.setCell ⟨B, j, none⟩ (.int .u8 v)) B N (j + 1) v := by
  have hlt := h.lt
  obtain ⟨row, h1, h2, h3⟩ := h
  refine ⟨row.setIfInBounds j (.int .u8 v), ?_, by simpa using h2, fun i hi => ?_⟩
  · simp [World.setCell, Array.getElem?_modify, h1]
  · rw [Array.getElem?_setIfInBounds]
    split
    · subst_vars
      simp [hj]
    · exact h3 i (by omega)

theorem Filled.below {W W' : World} {B N j n₀ : Nat} {v : Int} (h : Filled W B N j v) (hb : Below n₀ W W') (hn : B < n₀) : Filled W' B N j v := by
  obtain ⟨row, h1, h2, h3⟩ := h
  exact ⟨row, (hb.block B hn).trans h1, h2, h3⟩

theorem filled_made (w : World) (N : Nat) (v : Int) : Filled (w.alloc (.cells (madeCells #[.int .u8 0] N) 5)) w.heap.size N 0 v :=
  ⟨_, World.alloc_heap_new w _, size_madeCells _ _, fun i hi => absurd hi (by omega)⟩

theorem info5 : (Tryz.prog.info? 5).map (fun i => (i.zero, i.size, i.bytes)) = some (some (.int .u8 0), 1, 1) := by kernel_rfl

theorem make_row (w : World) (N : Nat) (hN : N ≤ 1000000) :
    (Instr.makeSlice 23 (.int .i64 (N : Int)) (.int .i64 (N : Int))).run Tryz.prog w = .ok (.slice (some ⟨w.heap.size, 0, none⟩) N N) (w.alloc (.cells (madeCells #[.int .u8 0] N) 5)) := by
  obtain ⟨i0, hi, he⟩ := Option.map_eq_some_iff.1 info5
  have hz : i0.zero = some (.int .u8 0) := congrArg (·.1) he
  have h1 : i0.size = 1 := congrArg (·.2.1) he
  have h2 : i0.bytes = 1 := congrArg (·.2.2) he
  have := run_make (P := Tryz.prog) w 23 5 i0 (.int .u8 0) Tryz.underlying23 hi hz .i64 .i64 N N (by omega) (by omega) (by rw [h2]; omega) (by omega)
  rw [h1] at this
  simpa [Value.cells] using this

theorem conv_row {W : World} {B N j : Nat} {v : UInt8} (h : Filled W B N j (v.toNat : Int)) (k : Nat) (hk : k ≤ j) :
    (convert 23 9 (.slice (some ⟨B, 0, none⟩) k N)).run Tryz.prog W = .ok (.string ⟨(List.replicate k v).toArray⟩) W := by
  have := run_convert_bytes_back (P := Tryz.prog) W 23 9 5 ⟨B, 0, none⟩ N (List.replicate k v) Tryz.underlying23 Tryz.underlying5 Tryz.underlying9 (fun i hi => by
    simp only [List.length_replicate] at hi
    simp only [List.getElem_replicate]
    have := h.byte (i := i) (by omega)
    by_cases h0 : i = 0
    · subst h0; simpa [Addr.add] using this
    · simpa [Addr.add, h0] using this)
  rwa [List.length_replicate] at this

set_option maxHeartbeats 4000000 in
set_option maxRecDepth 100000 in
theorem bounds_core (k c x y : Int) (N M : Nat) (m : Int) (w : World) (ka ea kb eb : Int) (hm : w.cell? ⟨0, 0, none⟩ = some (.int .i64 m))
    (hk : ∀ w, Calls Tryz.prog 14 #[.int .i64 k, .int .i64 21] w fun e w' => e = .returned (.int .i64 x) ∧ w' = w)
    (hc : ∀ w, Calls Tryz.prog 14 #[.int .i64 c, .int .i64 20] w fun e w' => e = .returned (.int .i64 y) ∧ w' = w)
    (hra : ∀ w, w.cell? ⟨0, 0, none⟩ = some (.int .i64 m) → Calls Tryz.prog 15 #[.string ⟨Array.replicate N (97 : UInt8)⟩] w fun e w' => e = .returned (.tuple #[.string ⟨#[]⟩, .int .i64 ka, .int .i64 ea]) ∧ Below w.heap.size w w')
    (hrb : ∀ w, w.cell? ⟨0, 0, none⟩ = some (.int .i64 m) → Calls Tryz.prog 15 #[.string ⟨Array.replicate M (10 : UInt8)⟩] w fun e w' => e = .returned (.tuple #[.string ⟨#[]⟩, .int .i64 kb, .int .i64 eb]) ∧ Below w.heap.size w w')
    (hN : wrap64 (262134 + x) = (N : Int)) (hM : wrap64 (3990 + y) = (M : Int)) (hct : c.tmod 20 = y) (hcw : IntKind.i64.wrap c = c)
    (n1 : 262134 ≤ N) (n2 : N ≤ 262154) (m1 : 3990 ≤ M) (m2 : M ≤ 4009)
    (hA : (262144 < N ∧ ka = 0 ∧ ea = 2) ∨ (N ≤ 262144 ∧ ka = 1 ∧ ea = 4)) (hB : (4000 < M ∧ kb = 0 ∧ eb = 2) ∨ (M ≤ 4000 ∧ kb = 1 ∧ eb = 4)) :
    Calls Tryz.prog 6 #[.int .i64 k, .int .u8 c] w fun e w' => e = .returned (.bool true) ∧ Below w.heap.size w w' := by
  have hmk := fun W => make_row W N (by omega)
  go_enter Tryz.func6, Tryz.ntmps6
  go_wp2_with (first
    | (go_at_call 7; refine (begun_calls w).mono ?_; rintro e w1 ⟨rfl, hb1⟩)
    | (go_at_call 14; refine (hk _).mono ?_; rintro e w' ⟨rfl, hw⟩; rw [hw]; clear hw w'))
  have hm1 := (hb1.cell (p := ⟨0, 0, none⟩) (cell_lt hm)).trans hm
  have h01 : 0 < w1.heap.size := cell_lt hm1
  simp only [hN]
  go_loopw [6] (fun p wr => ∃ j : Nat, p = .int .i64 j ∧ j ≤ N ∧ Filled wr w1.heap.size N j 97 ∧ Below w1.heap.size w1 wr) (fun p _ => N - (intOf p).toNat)
  case atStart => exact ⟨0, rfl, Nat.zero_le _, filled_made _ _ _, (Below.refl _ _).alloc (Nat.le_refl _) _⟩
  case round =>
    obtain ⟨j, rfl, hj, hf, hb⟩ := hrel
    by_cases hjN : j < N
    · obtain ⟨u, hu⟩ := hf.cell hjN
      have hz := hf.frozen j
      go_wp2
      go_roundw
      case rel => exact ⟨j + 1, rfl, by omega, hf.set hjN, hb.setCell (p := ⟨w1.heap.size, j, none⟩) (Nat.le_refl _) _⟩
      case measure => simp [intOf]; omega
    · obtain rfl : j = N := by omega
      have hcv := conv_row (v := 97) hf j (Nat.le_refl _)
      have hm2 := (hb.cell (p := ⟨0, 0, none⟩) h01).trans hm1
      have hra2 := hra wr hm2
      clear hmk
      go_wp2_with (go_at_call 15; refine hra2.mono ?_; clear hra2; rintro e w2 ⟨rfl, hb2⟩)
      go_loopw [10] (fun p wr => ∃ j2 : Nat, p = .int .i64 j2 ∧ j2 ≤ j ∧ Filled wr w1.heap.size j j2 10 ∧ Below w1.heap.size w1 wr) (fun p _ => j - (intOf p).toNat)
      case atStart => exact ⟨0, rfl, Nat.zero_le _, (hf.below hb2 hf.lt).again, hb.trans (hb2.mono (Nat.le_of_lt hf.lt))⟩
      case round =>
        obtain ⟨j2, rfl, hj2, hf2, hb3⟩ := hrel
        by_cases hjM : j2 < j
        · obtain ⟨u, hu⟩ := hf2.cell hjM
          have hz := hf2.frozen j2
          go_wp2
          go_roundw
          case rel => exact ⟨j2 + 1, rfl, by omega, hf2.set hjM, hb3.setCell (p := ⟨w1.heap.size, j2, none⟩) (Nat.le_refl _) _⟩
          case measure => simp [intOf]; omega
        · obtain rfl : j2 = j := by omega
          have hcv2 := conv_row (v := 10) hf2 M (by omega)
          have hm3 := (hb3.cell (p := ⟨0, 0, none⟩) h01).trans hm1
          have hrb2 := hrb wr hm3
          have hml : M ≤ j2 := by omega
          clear hra hrb hf hf2 hcv hb2 hm2
          rcases hA with ⟨hA, rfl, rfl⟩ | ⟨hA, rfl, rfl⟩ <;> rcases hB with ⟨hB, rfl, rfl⟩ | ⟨hB, rfl, rfl⟩
          all_goals
            go_wp2_with (first
              | (go_at_call 14; refine (hc _).mono ?_; rintro e w' ⟨rfl, hw⟩; rw [hw]; clear hw w')
              | (go_at_call 15; refine hrb2.mono ?_; clear hrb2; rintro e w3 ⟨rfl, hb4⟩))
            go_ret
            exact ⟨rfl, (hb1.trans (hb3.mono hb1.size)).trans (hb4.mono (Nat.le_trans hb1.size hb3.size))⟩

theorem bounds_walk (k c : Int) (k0 : -9223372036854775808 ≤ k) (k9 : k ≤ 9223372036854775807) (c0 : 0 ≤ c) (c9 : c ≤ 255) (m : Int) (w : World) (hm : w.cell? ⟨0, 0, none⟩ = some (.int .i64 m)) :
    Calls Tryz.prog 6 #[.int .i64 k, .int .u8 c] w fun e w' => e = .returned (.bool true) ∧ Below w.heap.size w w' := by
  obtain ⟨p, hp⟩ : ∃ p : Nat, k % 21 = (p : Int) := ⟨(k % 21).toNat, by omega⟩
  obtain ⟨q, hq⟩ : ∃ q : Nat, c % 20 = (q : Int) := ⟨(c % 20).toNat, by omega⟩
  have hp' : p < 21 := by omega
  have hq' : q < 20 := by omega
  refine bounds_core k c (p : Int) (q : Int) (262134 + p) (3990 + q) m w (if 262144 < 262134 + p then 0 else 1) (if 262144 < 262134 + p then 2 else 4) (if 4000 < 3990 + q then 0 else 1) (if 4000 < 3990 + q then 2 else 4) hm
    (fun w => by have := place_calls k 21 w k0 k9 (by decide) (by decide); rwa [hp] at this)
    (fun w => by have := place_calls c 20 w (by omega) (by omega) (by decide) (by decide); rwa [hq] at this)
    (fun w hw => by have := run_as (262134 + p) m w (by omega) (by omega) hw; rwa [List.toArray_replicate] at this)
    (fun w hw => by have := run_lines (3990 + q) m w (by omega) (by omega) hw; rwa [List.toArray_replicate] at this)
    (by unfold wrap64; omega) (by unfold wrap64; omega) ?_ (by rw [IntKind.wrap_i64]; omega) (by omega) (by omega) (by omega) (by omega) ?_ ?_
  · rw [Int.tmod_eq_emod_of_nonneg c0, hq]
  · by_cases h : 262144 < 262134 + p
    · rw [if_pos h, if_pos h]; exact .inl ⟨h, rfl, rfl⟩
    · rw [if_neg h, if_neg h]; exact .inr ⟨by omega, rfl, rfl⟩
  · by_cases h : 4000 < 3990 + q
    · rw [if_pos h, if_pos h]; exact .inl ⟨h, rfl, rfl⟩
    · rw [if_neg h, if_neg h]; exact .inr ⟨by omega, rfl, rfl⟩
#print axioms bounds_walk
end Go.Proofs.YtnbighenjhpleaaGreatDoor
end
