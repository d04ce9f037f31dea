/-
  What is told of strings.Builder's String and grow is so.
-/
import Derived.Test.YtpinlnajhiagoaaGreatDoorIntrC
set_option linter.unusedVariables false
set_option linter.unusedSimpArgs false
namespace Go.Det
open Go

section
variable {P : Program} {ρ : Ren} {s : St} {w : World}

theorem alloc_heap (w : World) (o : Obj) : (w.alloc o).heap = w.heap.push o := rfl

theorem freeze_heap (w : World) (k o n : Nat) : (∀ j, j ≠ k → (w.freeze ⟨k, o, none⟩ n).heap[j]? = w.heap[j]?) ∧ (w.freeze ⟨k, o, none⟩ n).heap.size = w.heap.size ∧ (w.freeze ⟨k, o, none⟩ n).tape = w.tape ∧ (w.freeze ⟨k, o, none⟩ n).os = w.os ∧ (w.freeze ⟨k, o, none⟩ n).output = w.output := by
  unfold World.freeze
  split
  · exact ⟨fun _ _ => rfl, rfl, rfl, rfl, rfl⟩
  · exact ⟨fun j hj => by simp [Array.getElem?_modify, Ne.symm hj], by simp, rfl, rfl, rfl⟩

open Go.Proofs in
theorem builderStringI_ok (hg : NoGor P) {σ : Go.Shelf.Ren} (L : Lays.n169 P σ) (X : Builder.Extra P σ) {fn : Func} {cd : Code} (hf : P.funcs[σ.f 169]? = some fn) (hb : fn.body = some cd) {args : List Value} {v : Value} {s' : St}
    (h : builderStringI (σ.t 72) (σ.t 5) args s = some (v, s')) {args' : Array Value} (hr : HRel P ρ s w) (ha : LRel ρ args args'.toList) : CallGot P ρ s w (σ.f 169) args' v s' := by
  unfold builderStringI at h
  split at h
  rotate_left
  · cases h
  rename_i b
  obtain ⟨a', rfl, hp⟩ := one ha
  obtain ⟨l, hl, rfl⟩ := ptr0 hp
  split at h
  rotate_left
  · cases h
  rename_i x g o n c e ho
  split at h
  rotate_left
  · cases h
  rename_i row e2 opn bs hgo hbs
  cases hc : (Nat.beq e (σ.t 72) && Nat.beq e2 (σ.t 5) && Nat.ble 1 n && Nat.ble n (known c) && Nat.ble n (2 ^ 40)) with
  | false => rw [hc] at h; cases h
  | true =>
    rw [hc] at h
    simp only [cond_true, Option.some.injEq, Prod.mk.injEq] at h
    obtain ⟨rfl, rfl⟩ := h
    simp only [Bool.and_eq_true, Nat.ble_eq] at hc
    obtain ⟨⟨⟨⟨b1, b2⟩, hn1⟩, hn2⟩, hn3⟩ := hc
    have b1 := Nat.eq_of_beq_eq_true b1; subst b1
    have b2 := Nat.eq_of_beq_eq_true b2; subst b2
    obtain ⟨h0, hx0, cc, fz, hw, hsz, hcc, hfz⟩ := closed_row hr ho hl
    obtain ⟨x', y', rfl, h1, h2⟩ := two_cells hcc
    obtain ⟨l0, l1, l2⟩ := l
    simp only at h0 hw hx0
    subst h0; subst hx0
    cases hca : cellsAt s.hp ⟨g, o, none⟩ n with
    | none => rw [hca] at hbs; cases hbs
    | some cs =>
      rw [hca] at hbs
      simp only [Option.bind_some] at hbs
      obtain ⟨lg, hlg, cap, hcap, rfl⟩ : ∃ lg : Loc, ρ g = some lg ∧ ∃ cap, cap ≠ 0 ∧ y' = .slice (some ⟨lg.blk, lg.sh + o, none⟩) n cap := by
        cases h2 with
        | slice hb2 hcO =>
          refine ⟨_, hb2, c, ?_, rfl⟩
          have : known c = c := by
            unfold known isOpen
            have : Nat.ble OPEN c = false := by
              cases hq : Nat.ble OPEN c with
              | false => rfl
              | true => have := Nat.le_of_ble_eq_true hq; omega
            rw [this]; rfl
          omega
        | @sliceOpen _ _ o' _ c0 lq hb2 hnc hoo =>
          have hc0 : c0 + lq.ex ≠ 0 := by omega
          refine ⟨lq, hb2, c0 + lq.ex, hc0, ?_⟩
          rcases hoo with rfl | hz
          · rfl
          · exact absurd hz hc0
      obtain ⟨_, hlen, vs', k1, k2, _⟩ := cellsAt_sim hr hca hlg
      have := bytesOf_plain P hbs k1
      subst this
      obtain ⟨og, hwg, cg, fg, rfl, c1, c2, c3, c4, c5⟩ := hr.obj _ _ _ hgo hlg
      have hon : o + n ≤ row.length := by
        simp only [cellsAt, hgo] at hca
        obtain ⟨t1, t2⟩ := ltake_some hca
        rw [ldrop_eq] at t1
        simp only [List.length_drop] at t1
        omega
      have hcell1 : w.drew.cell? ⟨l0, 1, none⟩ = some (.slice (some ⟨lg.blk, lg.sh + o, none⟩) n cap) := by
        have h' : w.drew.heap[l0]? = _ := hw
        simp [World.cell?, h']
      have hshape : w.shape? lg.blk = some (σ.t 5, cg.size) := by simp [World.shape?, hwg]
      refine got_calls hg hf hb (Builder_String_at L X l0 lg.blk (lg.sh + o) n cap cg.size bs vs' w hcell1 hbs hlen (by omega) hcap (by omega) hshape (by omega) k2) fun e2 w' hq => ?_
      obtain ⟨rfl, q1, q2, q3, q4⟩ := hq
      obtain ⟨z1, z2, z3, z4, z5⟩ := freeze_heap w lg.blk (lg.sh + o) n
      obtain ⟨m1, m2⟩ := hr.del (w' := w') hgo hlg (fun k hk => by rw [q1]; exact z1 k hk) (by rw [q1]; exact z2) (q2.trans z3) (q3.trans z4) (q4.trans z5)
      exact ⟨ρ, .string _, m1, m2⟩

open Go.Proofs in
theorem growI_ok (hg : NoGor P) {σ : Go.Shelf.Ren} (L : Lays.n241 P σ) (X : Builder.Extra P σ) {fn : Func} {cd : Code} (hf : P.funcs[σ.f 241]? = some fn) (hb : fn.body = some cd) {args : List Value} {v : Value} {s' : St}
    (h : growI (σ.t 72) (σ.t 5) args s = some (v, s')) {args' : Array Value} (hr : HRel P ρ s w) (ha : LRel ρ args args'.toList) : CallGot P ρ s w (σ.f 241) args' v s' := by
  unfold growI at h
  split at h
  rotate_left
  · cases h
  rename_i b n
  obtain ⟨a', n', rfl, hp, hn'⟩ := two ha
  cases hn'
  obtain ⟨l, hl, rfl⟩ := ptr0 hp
  split at h
  rotate_left
  · cases h
  rename_i c e ho
  cases hc : (Nat.beq b c && Nat.beq e (σ.t 72) && Nat.ble n (2 ^ 40)) with
  | false => rw [hc] at h; cases h
  | true =>
    rw [hc] at h
    simp only [cond_true] at h
    simp only [Bool.and_eq_true, Nat.ble_eq] at hc
    obtain ⟨⟨b1, b2⟩, hn3⟩ := hc
    have b1 := Nat.eq_of_beq_eq_true b1; subst b1
    have b2 := Nat.eq_of_beq_eq_true b2; subst b2
    split at h
    rotate_left
    · cases h
    rename_i d s1 hs1
    simp only [Option.some.injEq, Prod.mk.injEq] at h
    obtain ⟨rfl, rfl⟩ := h
    obtain ⟨rfl, rfl, hnx⟩ := St.new_inv hs1
    obtain ⟨h0, hx0, cc, fz, hw, hsz, hcc, hfz⟩ := closed_row hr ho hl
    obtain ⟨x', y', rfl, h1, h2⟩ := two_cells hcc
    obtain ⟨lq, hlq, rfl⟩ := ptr0 h1
    rw [hl] at hlq; cases hlq
    cases h2
    obtain ⟨l0, l1, l2⟩ := l
    simp only at h0 hw hx0
    subst h0; subst hx0
    have hlt : l0 < w.heap.size := (Array.getElem?_eq_some_iff.1 hw).1
    refine got_calls hg hf hb (Builder_grow_at L X l0 n w fz (fun i hi => hfz.not i (by simpa using hi)) hw (by omega)) fun e2 w' hq => ?_
    obtain ⟨rfl, cs, hcs, q1, q2, q3, q4⟩ := hq
    -- the new row
    obtain ⟨m1, m2⟩ := hr.add (hp0 := s.hp) (fun _ _ => .inl rfl) (fun _ _ _ => rfl) hnx (l2 := ⟨w.heap.size, 0, cs.size⟩) (o2 := .cells [] (σ.t 5) true) (o2' := .cells cs (σ.t 5)) (w' := w.alloc (.cells cs (σ.t 5))) (by rw [alloc_heap]; simp)
      (fun k hk hne => by rw [alloc_heap, Array.getElem?_push]; simp only at hne; rw [if_neg hne]) (by rw [alloc_heap]; simp) rfl rfl rfl (.inl (Nat.le_refl _))
      (fun c o m hc hm' => by obtain ⟨o'', ho, _⟩ := hr.obj c o m hc hm'; have := (Array.getElem?_eq_some_iff.1 ho).1; simp only; omega)
      ⟨cs, (0, 0), rfl, by simp, fun i v hv => by simp at hv, fun sz hsz => by
        have : szOf P (σ.t 5) = some 1 := by
          unfold szOf
          have := X.sizeByte
          simpa using this
        rw [this] at hsz; cases hsz; simp, .inl rfl, fun h => by cases h⟩
    -- the builder
    have hbn : b < s.nx := hr.dom b _ hl
    have hl2 : (ρ.ext s.nx ⟨w.heap.size, 0, cs.size⟩) b = some ⟨l0, 0, 0⟩ := (m2.le) b _ hl
    have ho2 : hget (s.hp.set HD s.nx (.cells [] (σ.t 5) true)) b = some (.cells [.pointer (some ⟨b, 0, none⟩), .slice none 0 0] (σ.t 72) false) := by
      have : hget (s.hp.set HD s.nx (.cells [] (σ.t 5) true)) b = hget s.hp b := Tr.get_set_other HD _ _ _ _ hnx (by have := hr.nx; omega) (by omega)
      rw [this]; exact ho
    obtain ⟨k1, k2, k3⟩ := setCell_heap hw 1 (.slice (some ⟨w.heap.size, 0, none⟩) 0 cs.size)
    have g1 : w'.heap[l0]? = some (.cells (#[Value.pointer (some ⟨l0, 0, none⟩), .slice none 0 0].setIfInBounds 1 (.slice (some ⟨w.heap.size, 0, none⟩) 0 cs.size)) (σ.t 72) fz) := by
      rw [q1]
      rw [alloc_heap, Array.getElem?_push]
      rw [if_neg (by rw [k3]; omega)]
      exact k1
    have g2 : ∀ k, k ≠ l0 → w'.heap[k]? = (w.alloc (.cells cs (σ.t 5))).heap[k]? := by
      intro k hk
      rw [q1]
      rw [alloc_heap, alloc_heap, Array.getElem?_push, Array.getElem?_push, k3]
      split
      · rfl
      · exact k2 k hk
    have g3 : w'.heap.size = (w.alloc (.cells cs (σ.t 5))).heap.size := by rw [q1, alloc_heap, alloc_heap]; simp [k3]
    have hor : ORel P (ρ.ext s.nx ⟨w.heap.size, 0, cs.size⟩) ⟨l0, 0, 0⟩ (.cells [.pointer (some ⟨b, 0, none⟩), .slice (some ⟨s.nx, 0, none⟩) 0 OPEN] (σ.t 72) false) (.cells (#[Value.pointer (some ⟨l0, 0, none⟩), .slice none 0 0].setIfInBounds 1 (.slice (some ⟨w.heap.size, 0, none⟩) 0 cs.size)) (σ.t 72) fz) := by
      refine ⟨_, fz, rfl, by simp, fun i v hv => ?_, fun sz _ => by simp, by simpa using hfz, fun _ => ⟨rfl, rfl, by simp⟩⟩
      rcases i with _ | _ | i
      · cases hv
        refine ⟨.pointer (some ⟨l0, 0, none⟩), by simp, ?_⟩
        exact VRel.ptr (o := 0) hl2
      · cases hv
        refine ⟨.slice (some ⟨w.heap.size, 0, none⟩) 0 cs.size, by simp, ?_⟩
        have := VRel.sliceOpen (ρ := ρ.ext s.nx ⟨w.heap.size, 0, cs.size⟩) (b := s.nx) (o := 0) (o' := 0) (n := 0) (c := 0) (Ren.ext_same _ _ _) (Nat.le_refl 0) (.inl rfl)
        simpa using this
      · cases hv
    obtain ⟨n1, n2⟩ := m1.upd ho2 hl2 g1 g2 g3 (q2.trans rfl) (q3.trans rfl) (q4.trans rfl) hor
    exact ⟨_, VRel.undef _, n1, Fm.trans hr m2 n2⟩
end
end Go.Det
