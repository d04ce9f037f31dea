/-
  What is told of (*Disk).Flush is so.
-/
import Derived.Test.YtpinlnajhiagoaaGreatDoorIntrD
import Derived.Test.YtpinlnajhiagoaaGreatDoorFastC
import Derived.Test.YtpinlnajhiagoaaGreatDoorFlC
set_option linter.unusedVariables false
set_option linter.unusedSimpArgs false
namespace Go.Det
open Go

section
variable {P : Program} {ρ : Ren} {s : St} {w : World}

/-- entries laid into a row -/
structure Merged (lo ln i : Nat) (es : List Ent) (row row' : List Value) : Prop where
  len : row'.length = row.length
  laid : ∀ e ∈ es, ∃ n j, e.key = .int .i64 (.ofNat n) ∧ n < ln ∧ lo + n = i + j ∧ row'[j]? = some e.val
  rest : ∀ j, (∀ e ∈ es, ∀ n, e.key = .int .i64 (.ofNat n) → lo + n ≠ i + j) → row'[j]? = row[j]?
  pair : es.Pairwise (fun x y => x.key ≠ y.key)
  val : ∀ e ∈ es, ∃ a n c, e.val = .slice a n c

theorem mergeO_ok {β : Type} {lo ln : Nat} : ∀ {row : List Value} {i : Nat} {es : List Ent} {k : List Value → Option β} {z : β}, mergeO lo ln row i es k = some z → ∃ row', k row' = some z ∧ Merged lo ln i es row row' := by
  intro row
  induction row with
  | nil =>
    intro i es k z h
    cases es with
    | nil => exact ⟨[], h, ⟨rfl, fun e he => (by cases he), fun _ _ => rfl, .nil, fun e he => (by cases he)⟩⟩
    | cons e es => cases h
  | cons x xs ih =>
    intro i es k z h
    cases es with
    | nil => exact ⟨x :: xs, h, ⟨rfl, fun e he => (by cases he), fun _ _ => rfl, .nil, fun e he => (by cases he)⟩⟩
    | cons e es' =>
      have h' : (ONat.rec (motive := fun _ => Option β) none (fun ik n =>
        Bool.rec (motive := fun _ => Option β) (mergeO lo ln xs (Nat.succ i) (e :: es') (fun r => k (x :: r)))
          (Bool.rec (motive := fun _ => Option β) none (Bool.rec (motive := fun _ => Option β) none (OSl.rec (motive := fun _ => Option β) none (fun _ _ _ => mergeO lo ln xs (Nat.succ i) es' (fun r => k (e.val :: r))) (asSl e.val)) (ikeq ik .i64)) (Nat.ble (Nat.succ n) ln))
          (Nat.beq (Nat.add lo n) i)) (asNat e.key) : Option β) = some z := h
      clear h
      cases hk : asNat e.key with
      | no => rw [hk] at h'; cases h'
      | is ik n =>
        rw [hk] at h'
        simp only at h'
        cases hb : Nat.beq (Nat.add lo n) i with
        | false =>
          rw [hb] at h'
          obtain ⟨r, h1, m⟩ := ih h'
          refine ⟨x :: r, h1, ⟨by simp [m.len], fun e' he' => ?_, fun j hj => ?_, m.pair, m.val⟩⟩
          · obtain ⟨n', j', a1, a2, a3, a4⟩ := m.laid e' he'
            exact ⟨n', j' + 1, a1, a2, by omega, by simpa using a4⟩
          · cases j with
            | zero => rfl
            | succ j =>
              simp only [List.getElem?_cons_succ]
              exact m.rest j (fun e' he' n' hn' => by have := hj e' he' n' hn'; omega)
        | true =>
          rw [hb] at h'
          have hi : lo + n = i := Nat.eq_of_beq_eq_true hb
          cases h1 : Nat.ble (Nat.succ n) ln with
          | false => rw [h1] at h'; cases h'
          | true =>
            rw [h1] at h'
            cases h2 : ikeq ik .i64 with
            | false => rw [h2] at h'; cases h'
            | true =>
              rw [h2] at h'
              have hik := ikeq_eq h2
              subst hik
              have hkey := asNat_is hk
              cases h3 : asSl e.val with
              | no => rw [h3] at h'; cases h'
              | is va vn vc =>
                rw [h3] at h'
                have hval := asSl_is h3
                obtain ⟨r, h4, m⟩ := ih h'
                refine ⟨e.val :: r, h4, ⟨by simp [m.len], fun e' he' => ?_, fun j hj => ?_, ?_, fun e' he' => ?_⟩⟩
                · rcases List.mem_cons.1 he' with rfl | he'
                  · exact ⟨n, 0, hkey, Nat.le_of_ble_eq_true h1, by omega, rfl⟩
                  · obtain ⟨n', j', a1, a2, a3, a4⟩ := m.laid e' he'
                    exact ⟨n', j' + 1, a1, a2, by omega, by simpa using a4⟩
                · cases j with
                  | zero => exact absurd hi (hj e (by simp) n hkey)
                  | succ j =>
                    simp only [List.getElem?_cons_succ]
                    exact m.rest j (fun e' he' n' hn' => by have := hj e' (by simp [he']) n' hn'; omega)
                · rw [List.pairwise_cons]
                  refine ⟨fun e' he' heq => ?_, m.pair⟩
                  obtain ⟨n', j', a1, a2, a3, a4⟩ := m.laid e' he'
                  rw [hkey, a1] at heq
                  injection heq with _ heq
                  injection heq with heq
                  omega
                · rcases List.mem_cons.1 he' with rfl | he'
                  · exact ⟨_, _, _, hval⟩
                  · exact m.val e' he'

theorem bornsOk_ok {ck : Nat} : ∀ {es : List Ent} {last : Nat}, bornsOk ck es last = true → last ≤ ck ∧ (∀ e ∈ es, last ≤ e.born ∧ e.born < ck) ∧ es.Pairwise (fun x y => x.born ≠ y.born)
  | [], last, h => ⟨Nat.le_of_ble_eq_true h, fun e he => (by cases he), .nil⟩
  | e :: es, last, h => by
    have h' : (Bool.rec (motive := fun _ => Bool) false (bornsOk ck es (Nat.succ e.born)) (Nat.ble last e.born) : Bool) = true := h
    obtain ⟨e1, h2⟩ := boolTrue h'
    obtain ⟨a1, a2, a3⟩ := bornsOk_ok h2
    have e1 := Nat.le_of_ble_eq_true e1
    have a1' : e.born < ck := a1
    refine ⟨by omega, fun e' he' => ?_, ?_⟩
    · rcases List.mem_cons.1 he' with rfl | he'
      · exact ⟨e1, a1'⟩
      · have h3 := (a2 e' he').1
        have h3 : e.born + 1 ≤ e'.born := h3
        exact ⟨by omega, (a2 e' he').2⟩
    · rw [List.pairwise_cons]
      refine ⟨fun e' he' heq => ?_, a3⟩
      have h3 : e.born + 1 ≤ e'.born := (a2 e' he').1
      omega

/-- a block of nobody's -/
theorem HRel.garb (hr : HRel P ρ s w) {w1 : World} (h : ∀ k, k < w.heap.size → w1.heap[k]? = w.heap[k]?) (hs : w.heap.size ≤ w1.heap.size) (ht : w1.tape = w.tape) (hos : w1.os = w.os) (ho : w1.output = w.output) :
    HRel P ρ s w1 ∧ Fm ρ s w ρ s w1 := by
  refine ⟨⟨fun b o l hb hl => ?_, hr.inj, hr.dom, hr.nx, hr.top, hr.tab.of fun g hg => by
    obtain ⟨g', hg', hlt⟩ := hr.tab.lt
    rw [hg] at hg'; cases hg'
    exact h g hlt, hr.away⟩, ⟨Ren.le_refl ρ, Nat.le_refl _, (fun c m h k => by rw [k] at h; cases h), fun k hk _ => h k hk, fun _ _ _ => rfl, fun _ _ hd => hd, hs, ht, hos, ho⟩⟩
  obtain ⟨o', hw, hor⟩ := hr.obj b o l hb hl
  exact ⟨o', by rw [h _ (Array.getElem?_eq_some_iff.1 hw).1]; exact hw, hor⟩

theorem slice_rel {b o n c : Nat} {v : Value} (h : VRel ρ (.slice (some ⟨b, o, none⟩) n c) v) (hc : c < OPEN) : ∃ l, ρ b = some l ∧ v = .slice (some ⟨l.blk, l.sh + o, none⟩) n c := by
  generalize hx : Value.slice (some ⟨b, o, none⟩) n c = x at h
  cases h with
  | slice h2 _ => cases hx; exact ⟨_, h2, rfl⟩
  | sliceOpen _ _ _ => cases hx; exact absurd hc (by omega)
  | _ => cases hx

theorem map_rel {m : Nat} {v : Value} (h : VRel ρ (.map (some m)) v) : ∃ l, ρ m = some l ∧ v = .map (some l.blk) := by
  cases h with
  | map h => exact ⟨_, h, rfl⟩

theorem slice_shape {a : Option Addr} {n c : Nat} {v : Value} (h : VRel ρ (.slice a n c) v) : ∃ a' n' c', v = .slice a' n' c' := by
  generalize hx : Value.slice a n c = x at h
  cases h with
  | sliceNil => exact ⟨_, _, _, rfl⟩
  | slice => exact ⟨_, _, _, rfl⟩
  | sliceOpen => exact ⟨_, _, _, rfl⟩
  | _ => cases hx

theorem nine {x0 x1 x2 x3 x4 x5 x6 x7 x8 : Value} {c : Array Value} (h : LRel ρ [x0, x1, x2, x3, x4, x5, x6, x7, x8] c.toList) :
    ∃ y0 y1 y2 y3 y4 y5 y6 y7 y8, c = #[y0, y1, y2, y3, y4, y5, y6, y7, y8] ∧ VRel ρ x0 y0 ∧ VRel ρ x1 y1 ∧ VRel ρ x2 y2 ∧ VRel ρ x3 y3 := by
  obtain ⟨y0, t0, e0, h0, k0⟩ := h.uncons
  obtain ⟨y1, t1, e1, h1, k1⟩ := k0.uncons
  obtain ⟨y2, t2, e2, h2, k2⟩ := k1.uncons
  obtain ⟨y3, t3, e3, h3, k3⟩ := k2.uncons
  obtain ⟨y4, t4, e4, h4, k4⟩ := k3.uncons
  obtain ⟨y5, t5, e5, h5, k5⟩ := k4.uncons
  obtain ⟨y6, t6, e6, h6, k6⟩ := k5.uncons
  obtain ⟨y7, t7, e7, h7, k7⟩ := k6.uncons
  obtain ⟨y8, t8, e8, h8, k8⟩ := k7.uncons
  have := k8.nil_left
  subst this; subst e8; subst e7; subst e6; subst e5; subst e4; subst e3; subst e2; subst e1
  exact ⟨y0, y1, y2, y3, y4, y5, y6, y7, y8, by rw [← Array.toArray_toList (xs := c), e0], h0, h1, h2, h3⟩

open Go.Proofs.YtpinlnajhiagoaaGreatDoor Go.Proofs in
theorem flushI_ok (hg : NoGor Tryz.prog) {fn : Func} {cd : Code} (hf : Tryz.prog.funcs[9]? = some fn) (hb : fn.body = some cd) {args : List Value} {v : Value} {s' : St}
    (h : flushI args s = some (v, s')) {args' : Array Value} (hr : HRel Tryz.prog ρ s w) (ha : LRel ρ args args'.toList) : CallGot Tryz.prog ρ s w 9 args' v s' := by
  unfold flushI at h
  split at h
  rotate_left
  · cases h
  rename_i b
  obtain ⟨a', rfl, hp⟩ := one ha
  obtain ⟨l, hl, rfl⟩ := ptr0 hp
  split at h
  rotate_left
  · cases h
  rename_i rw e0 op hrw
  have ho := asRow_is hrw
  split at h
  rotate_left
  · cases h
  rename_i d0 d1 d2 d3 h9
  split at h
  rotate_left
  · cases h
  rename_i lb lo ln lc m hd0 hd1
  split at h
  rotate_left
  · cases h
  rename_i es ck row e opn hmo hlo
  have hmo := asMap_is hmo
  have hlo := asRow_is hlo
  split at h
  rotate_left
  · cases h
  rename_i ik i hd2 hd3
  cases hc : (!op && ikeq ik .i64 && ibeq i (-1) && Nat.ble 1 ln && Nat.ble (lo + ln) (llen row) && Nat.blt lc OPEN && bornsOk ck es 0 && !(Nat.beq b lb)) with
  | false => rw [hc] at h; cases h
  | true =>
    rw [hc] at h
    simp only [cond_true] at h
    obtain ⟨row', h10, mg⟩ := mergeO_ok h
    simp only [Option.some.injEq, Prod.mk.injEq] at h10
    obtain ⟨rfl, rfl⟩ := h10
    simp only [Bool.and_eq_true, Nat.ble_eq, Bool.not_eq_true'] at hc
    obtain ⟨⟨⟨⟨⟨⟨⟨k1, k2⟩, k3⟩, n1⟩, n2⟩, n3⟩, n4⟩, n5⟩ := hc
    subst k1
    have k2 := ikeq_eq k2
    subst k2
    rw [ibeq_eq] at k3
    have k3 : i = -1 := by simpa using k3
    subst k3
    have n5 := Nat.ne_of_beq_eq_false n5
    have n3 : lc < OPEN := by simpa using n3
    rw [llen_eq] at n2
    obtain ⟨_, bo1, bo2⟩ := bornsOk_ok n4
    have hd0 := asSl_is hd0
    have hd1 := asMp_is hd1
    have hd2 := asBool_ff hd2
    have hd3 := asInt_is hd3
    subst hd0; subst hd1; subst hd2; subst hd3
    obtain ⟨x4, x5, x6, x7, x8, rfl⟩ : ∃ x4 x5 x6 x7 x8, rw = [.slice (some ⟨lb, lo, none⟩) ln lc, .map (some m), .bool false, .int .i64 (-1), x4, x5, x6, x7, x8] := by
      unfold nineOf at h9
      split at h9
      · cases h9; exact ⟨_, _, _, _, _, rfl⟩
      · cases h9
    -- the disk's cells
    obtain ⟨h0, hx0, cc, fz, hw, hsz, hcc, hfz⟩ := closed_row hr ho hl
    obtain ⟨y0, y1, y2, y3, y4, y5, y6, y7, y8, rfl, v0, v1, v2, v3⟩ := nine hcc
    obtain ⟨ll, hll, rfl⟩ := slice_rel v0 n3
    obtain ⟨lm, hlm, rfl⟩ := map_rel v1
    cases v2; cases v3
    obtain ⟨l0, l1, l2⟩ := l
    simp only at h0 hw hx0
    subst h0; subst hx0
    -- the row, the map
    obtain ⟨o1, w1, rc, fr, rfl, c1, c2, c3, c4, c5⟩ := hr.obj _ _ _ hlo hll
    obtain ⟨o2, w2, es', rfl, he⟩ := hr.obj _ _ _ hmo hlm
    have hne : l0 ≠ ll.blk := fun e => n5 (hr.inj _ _ _ _ _ _ ho hlo hl hll e)
    have hlen := he.1
    have pairOf : ∀ (i : Nat) (x : MapEntry), es'.toList[i]? = some x → ∃ y, es[i]? = some y ∧ y ∈ es ∧ VRel ρ y.key x.key ∧ VRel ρ y.val x.val ∧ y.born = x.born := by
      intro i x hx
      have hi := (List.getElem?_eq_some_iff.1 hx).1
      have hi' : i < es.length := by omega
      have := he.2 i es[i] x (List.getElem?_eq_getElem hi') hx
      exact ⟨es[i], List.getElem?_eq_getElem hi', List.getElem_mem hi', this.1, this.2.1, this.2.2⟩
    have pairOf2 : ∀ (i : Nat) (y : Ent), es[i]? = some y → ∃ x, es'.toList[i]? = some x ∧ x ∈ es'.toList ∧ VRel ρ y.key x.key ∧ VRel ρ y.val x.val ∧ y.born = x.born := by
      intro i y hy
      have hi := (List.getElem?_eq_some_iff.1 hy).1
      have hi' : i < es'.toList.length := by omega
      have := he.2 i y (es'.toList[i]) hy (List.getElem?_eq_getElem hi')
      exact ⟨es'.toList[i], List.getElem?_eq_getElem hi', List.getElem_mem hi', this.1, this.2.1, this.2.2⟩
    have ent : ∀ x ∈ es'.toList, ∃ y ∈ es, VRel ρ y.key x.key ∧ VRel ρ y.val x.val ∧ y.born = x.born := by
      intro x hx
      obtain ⟨i, hi⟩ := List.getElem?_of_mem hx
      obtain ⟨y, _, hy, r⟩ := pairOf i x hi
      exact ⟨y, hy, r⟩
    have keyOf : ∀ {y : Ent} {x : MapEntry}, y ∈ es → VRel ρ y.key x.key → x.key = y.key := by
      intro y x hy hv
      obtain ⟨n, j, a1, _⟩ := mg.laid y hy
      rw [a1] at hv ⊢
      generalize x.key = z at hv
      cases hv; rfl
    have mapKey : es'.toList.map (·.key) = es.map (·.key) := by
      apply List.ext_getElem?
      intro i
      rw [List.getElem?_map, List.getElem?_map]
      cases hx : es'.toList[i]? with
      | none =>
        have : es[i]? = none := by
          rw [List.getElem?_eq_none_iff] at hx ⊢; omega
        rw [this]; rfl
      | some x =>
        obtain ⟨y, h1, h2, h3, _⟩ := pairOf i x hx
        rw [h1]; simp [keyOf h2 h3]
    have mapBorn : es'.toList.map (·.born) = es.map (·.born) := by
      apply List.ext_getElem?
      intro i
      rw [List.getElem?_map, List.getElem?_map]
      cases hx : es'.toList[i]? with
      | none =>
        have : es[i]? = none := by
          rw [List.getElem?_eq_none_iff] at hx ⊢; omega
        rw [this]; rfl
      | some x =>
        obtain ⟨y, h1, h2, h3, h4, h5⟩ := pairOf i x hx
        rw [h1]; simp [h5]
    have hkn : es'.toList.Pairwise (fun x y => x.key ≠ y.key) := by
      have := List.pairwise_map.2 mg.pair
      rw [← mapKey] at this
      exact List.pairwise_map.1 this
    have hnd : es'.toList.Pairwise (fun x y => x.born ≠ y.born) := by
      have := List.pairwise_map.2 bo2
      rw [← mapBorn] at this
      exact List.pairwise_map.1 this
    have hborn : ∀ x ∈ es'.toList, x.born < ck := fun x hx => by
      obtain ⟨y, hy, _, _, h5⟩ := ent x hx
      rw [← h5]; exact (bo1 y hy).2
    have hkey : ∀ x ∈ es'.toList, ∃ k : Nat, x.key = .int .i64 k ∧ k < ln := fun x hx => by
      obtain ⟨y, hy, h3, _, _⟩ := ent x hx
      obtain ⟨n, j, a1, a2, _⟩ := mg.laid y hy
      exact ⟨n, (keyOf hy h3).trans a1, a2⟩
    have hval : ∀ x ∈ es'.toList, ∃ a n c, x.val = .slice a n c := fun x hx => by
      obtain ⟨y, hy, _, h4, _⟩ := ent x hx
      obtain ⟨a, n, c, e1⟩ := mg.val y hy
      rw [e1] at h4
      exact slice_shape h4
    refine got_calls hg hf hb (flush_at l0 lm.blk ll.blk (ll.sh + lo) ln lc es' ck rc e fr y4 y5 y6 y7 y8 w fz e0 hw w2 w1 n1 (by omega) c4.not hne hborn hnd hkn hkey hval) fun e2 w' hq => ?_
    obtain ⟨rfl, seen, wS, hF, hdone, q1, q2, q3, q4⟩ := hq
    have hall := all_seen es' seen hdone
    obtain ⟨rcS, hrowS, lay⟩ := hF.row
    have hltl : ll.blk < w.heap.size := (Array.getElem?_eq_some_iff.1 w1).1
    have hltm : lm.blk < w.heap.size := (Array.getElem?_eq_some_iff.1 w2).1
    have hlm2 : lm.blk ≠ ll.blk := fun ee => by rw [ee, w1] at w2; cases w2
    have hmlb : m ≠ lb := fun ee => by subst ee; rw [hmo] at hlo; cases hlo
    -- the iterator
    obtain ⟨g1, g2⟩ := hr.garb (w1 := w.alloc (.mapIter (some lm.blk) ck seen ck)) (fun k hk => by rw [alloc_heap, Array.getElem?_push, if_neg (by omega)]) (by rw [alloc_heap]; simp) rfl rfl rfl
    have same : ∀ k, k ≠ ll.blk → wS.heap[k]? = (w.alloc (.mapIter (some lm.blk) ck seen ck)).heap[k]? := by
      intro k hk
      rw [alloc_heap, Array.getElem?_push]
      by_cases h1 : k = w.heap.size
      · subst h1; rw [if_pos rfl]; exact hF.it
      · rw [if_neg h1]
        rcases Nat.lt_or_ge k w.heap.size with h2 | h2
        · exact hF.rest k h2 hk
        · rw [Array.getElem?_eq_none h2, Array.getElem?_eq_none]
          rw [hF.size]; omega
    have hszS : wS.heap.size = (w.alloc (.mapIter (some lm.blk) ck seen ck)).heap.size := by rw [hF.size, alloc_heap]; simp
    have hor : ORel Tryz.prog ρ ll (.cells row' e opn) (.cells rcS e fr) := by
      have hs := lay.size
      have hln := mg.len
      refine ⟨rcS, fr, rfl, by omega, fun i v hv => ?_, fun sz hsz => by have := c3 sz hsz; omega, by rw [hs]; exact c4, fun hx => by have := c5 hx; rw [hs, hln]; exact this⟩
      by_cases hin : ∃ y ∈ es, ∃ n : Nat, y.key = .int .i64 (.ofNat n) ∧ lo + n = i
      · obtain ⟨y, hy, n, a1, a2⟩ := hin
        obtain ⟨n', j, b1, b2, b3, b4⟩ := mg.laid y hy
        rw [a1] at b1
        injection b1 with _ b1
        injection b1 with b1
        subst b1
        have : j = i := by omega
        subst this
        rw [b4] at hv; cases hv
        obtain ⟨ix, hix⟩ := List.getElem?_of_mem hy
        obtain ⟨x, h1, h2, h3, h4, _⟩ := pairOf2 ix y hix
        refine ⟨x.val, ?_, h4⟩
        have := lay.laid x h2 (hall x h2) n ((keyOf hy h3).trans a1)
        rw [← a2, ← Nat.add_assoc]; exact this
      · have hno : ∀ y ∈ es, ∀ n, y.key = .int .i64 (.ofNat n) → lo + n ≠ 0 + i := fun y hy n a1 a2 => hin ⟨y, hy, n, a1, by omega⟩
        rw [mg.rest i hno] at hv
        obtain ⟨v', d1, d2⟩ := c2 i v hv
        refine ⟨v', ?_, d2⟩
        rw [lay.rest (ll.sh + i) (fun x hx k hk hh => ?_)]
        · exact d1
        · obtain ⟨y, hy, h3, _, _⟩ := ent x hx
          exact hno y hy k ((keyOf hy h3).symm.trans hk) (by omega)
    obtain ⟨m1, m2⟩ := g1.upd (o2 := .cells row' e opn) hlo hll hrowS same hszS (hF.tape.trans rfl) (hF.os.trans rfl) (hF.output.trans rfl) hor
    have hm2 : hget (s.hp.set HD lb (.cells row' e opn)) m = some (.map es ck) := by
      have h1 : hget (s.hp.set HD lb (.cells row' e opn)) m = hget s.hp m := Tr.get_set_other HD _ _ _ _ (by have := hr.dom _ _ hll; have := hr.nx; omega) (by have := hr.dom _ _ hlm; have := hr.nx; omega) (Ne.symm hmlb)
      rw [h1]; exact hmo
    have hwm : wS.heap[lm.blk]? = some (.map es' ck) := (hF.rest _ hltm hlm2).trans w2
    have hltS : lm.blk < wS.heap.size := by rw [hF.size]; omega
    obtain ⟨r1, r2⟩ := m1.upd (o2 := .map [] ck) (o2' := .map #[] ck) (w' := w') hm2 hlm (by rw [q1]; simp [ChangeMaps.setBlock, hltS]) (fun k hk => by rw [q1]; simp [ChangeMaps.setBlock, Ne.symm hk]) (by rw [q1]; simp [ChangeMaps.setBlock]) (q2.trans hF.tape.symm) (q3.trans hF.os.symm) (q4.trans hF.output.symm) ⟨#[], rfl, rfl, fun i e e' h => by simp at h⟩
    exact ⟨ρ, .int _ _, r1, Fm.trans hr (Fm.trans hr g2 m2) r2⟩
end
end Go.Det
