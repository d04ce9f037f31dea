/-
  What is told of slices.Sorted(maps.Keys(m)) is so.
-/
import Derived.Test.YtpinlnajhiagoaaGreatDoorIntrE
import Derived.Test.YtpinlnajhiagoaaGreatDoorLaid
set_option linter.unusedVariables false
set_option linter.unusedSimpArgs false
namespace Go.Det
open Go

/-! ### Sorting -/
theorem insN_perm (x : Nat) : ∀ l : List Nat, (insN x l).Perm (x :: l)
  | [] => List.Perm.refl _
  | y :: ys => by
    show (cond (Nat.ble x y) (x :: y :: ys) (y :: insN x ys)).Perm _
    cases Nat.ble x y with
    | true => exact List.Perm.refl _
    | false => exact ((insN_perm x ys).cons y).trans (List.Perm.swap x y ys)
theorem sortN_perm : ∀ l : List Nat, (sortN l).Perm l
  | [] => List.Perm.refl _
  | x :: xs => (insN_perm x (sortN xs)).trans ((sortN_perm xs).cons x)
theorem risN_ok : ∀ {l : List Nat} {last : Nat}, risN l last = true → (∀ x ∈ l, last ≤ x) ∧ l.Pairwise (fun x y => x < y)
  | [], _, _ => ⟨fun x hx => (by cases hx), .nil⟩
  | x :: xs, last, h => by
    obtain ⟨e1, h2⟩ := boolTrue h
    obtain ⟨a1, a2⟩ := risN_ok (l := xs) h2
    have e1 := Nat.le_of_ble_eq_true e1
    refine ⟨fun y hy => ?_, ?_⟩
    · rcases List.mem_cons.1 hy with rfl | hy
      · exact e1
      · have : x + 1 ≤ y := a1 y hy
        omega
    · rw [List.pairwise_cons]
      exact ⟨fun y hy => a1 y hy, a2⟩
theorem keysN_ok : ∀ {es : List Ent} {ks : List Nat}, keysN es = some ks → es.map (·.key) = ks.map (fun n => Value.int .i64 (.ofNat n)) ∧ ∀ n ∈ ks, n ≤ 2 ^ 40
  | [], ks, h => by cases h; exact ⟨rfl, fun n hn => (by cases hn)⟩
  | e :: es, ks, h => by
    have h' : (match asNat e.key, keysN es with
      | .is ik n, some l => cond (ikeq ik .i64 && Nat.ble n (2 ^ 40)) (some (n :: l)) none
      | _, _ => none) = some ks := h
    split at h'
    · rename_i ik n l h1 h2
      cases hc : (ikeq ik .i64 && Nat.ble n (2 ^ 40)) with
      | false => rw [hc] at h'; cases h'
      | true =>
        rw [hc] at h'
        cases h'
        simp only [Bool.and_eq_true, Nat.ble_eq] at hc
        have := ikeq_eq hc.1
        subst this
        obtain ⟨a1, a2⟩ := keysN_ok h2
        refine ⟨by rw [List.map_cons, List.map_cons, a1, asNat_is h1], fun m hm => ?_⟩
        rcases List.mem_cons.1 hm with rfl | hm
        · exact hc.2
        · exact a2 m hm
    · cases h'

section
variable {P : Program} {ρ : Ren} {s : St} {w : World}

theorem fn_rel {g : FuncId} {first cap : Array Value} {v : Value} (h : VRel ρ (.func (.func g) first cap) v) : ∃ a' c' : List Value, v = .func (.func g) a'.toArray c'.toArray ∧ LRel ρ first.toList a' ∧ LRel ρ cap.toList c' := by
  generalize hx : Value.func (.func g) first cap = x at h
  cases h with
  | func f ha hc h k =>
    cases hx
    exact ⟨_, _, rfl, ⟨by simpa using ha, by simpa using h⟩, ⟨by simpa using hc, by simpa using k⟩⟩
  | _ => cases hx

theorem lone {x : Value} {l : List Value} (h : LRel ρ [x] l) : ∃ y, l = [y] ∧ VRel ρ x y := by
  obtain ⟨y, t, e, hv, ht⟩ := h.uncons
  have := ht.nil_left
  subst this
  exact ⟨y, e, hv⟩

theorem garbBelow (hr : HRel P ρ s w) {w' : World} (hb : RowKit.Below w.heap.size w w') : HRel P ρ s w' ∧ Fm ρ s w ρ s w' :=
  hr.garb hb.block hb.size hb.tape hb.os hb.output

/-- a new row that the call has made -/
theorem newRow (hr : HRel P ρ s w) {w' : World} (hb : RowKit.Below w.heap.size w w') {row : List Value} {E : TypeId} {d : Nat} {s' : St} (hs : s.new (.cells row E true) = some (d, s')) {gb cap : Nat} {cur : Array Value} (h1 : w.heap.size ≤ gb) (h2 : w'.heap[gb]? = some (.cells cur E (0, 0)))
    (hplain : ∀ v ∈ row, isPlain v = true) (hle : row.length ≤ cap) (hcur : cur.size = cap) (htake : cur.toList.take row.length = row) (hE : szOf P E = some 1) :
    ∃ ρ', VRel ρ' (.slice (some ⟨d, 0, none⟩) row.length (OPEN + row.length)) (.slice (some ⟨gb, 0, none⟩) row.length cap) ∧ HRel P ρ' s' w' ∧ Fm ρ s w ρ' s' w' := by
  obtain ⟨rfl, rfl, hnx⟩ := St.new_inv hs
  have hltn : ∀ c o m, hget s.hp c = some o → ρ c = some m → m.blk ≠ gb := by
    intro c o m hc hm' ee
    obtain ⟨o'', ho, _⟩ := hr.obj c o m hc hm'
    have := (Array.getElem?_eq_some_iff.1 ho).1
    omega
  obtain ⟨m1, m2⟩ := hr.add (hp0 := s.hp) (fun _ _ => .inl rfl) (fun _ _ _ => rfl) hnx (l2 := ⟨gb, 0, cap - row.length⟩) (o2 := .cells row E true) (o2' := .cells cur E) (w' := w') h2
    (fun k hk _ => hb.block k hk) hb.size hb.tape hb.os hb.output (.inl h1) hltn
    ⟨cur, (0, 0), rfl, by simp only; omega, fun i v hv => by
      have hi := (List.getElem?_eq_some_iff.1 hv).1
      refine ⟨v, ?_, .of_plain (hplain v (List.mem_of_getElem? hv))⟩
      simp only [Nat.zero_add]
      rw [← htake, List.getElem?_take, if_pos hi] at hv
      simpa using hv, fun sz hsz => by rw [hE] at hsz; cases hsz; simp only; omega, .inl rfl, fun h => by cases h⟩
  refine ⟨_, ?_, m1, m2⟩
  have := VRel.sliceOpen (ρ := ρ.ext s.nx ⟨gb, 0, cap - row.length⟩) (b := s.nx) (o := 0) (o' := 0) (n := row.length) (c := row.length) (Ren.ext_same _ _ _) (Nat.le_refl _) (.inl rfl)
  have e : row.length + (cap - row.length) = cap := by omega
  simpa [e] using this

open Go.Proofs Go.Maps Go.Sort in
/-- the machine's map, as the library reads it -/
theorem ownsOf {k : TypeId} (hk : P.underlying k = some (.int .i64)) {b : Nat} {es' : Array MapEntry} {ck : Nat} (hb : w.heap[b]? = some (.map es' ck)) (hborn : ∀ x ∈ es'.toList, x.born < ck) (hnb : (es'.toList.map (·.born)).Nodup) (hnk : (es'.toList.map (·.key)).Nodup)
    {ks : List Nat} (hkeys : es'.toList.map (·.key) = ks.map (fun n => Value.int .i64 (.ofNat n))) (hks : ∀ n ∈ ks, n ≤ 2 ^ 40) (hlen : ks.length ≤ 2 ^ 20) :
    ∃ D0 : DataW Unit, w.ownsMap P k (fun _ => some (.lit (.bool true), [])) b es'.size D0 ∧ Maps.size D0 = ks.length ∧ (intKeys D0).Perm (ks.map Int.ofNat) := by
  have hsz : es'.size = ks.length := by
    have := congrArg List.length hkeys
    simpa using this
  have hread : ∀ x ∈ es'.toList, ∃ n ∈ ks, x.key = .int .i64 (.ofNat n) := by
    intro x hx
    have : x.key ∈ es'.toList.map (·.key) := List.mem_map_of_mem hx
    rw [hkeys] at this
    obtain ⟨n, h1, h2⟩ := List.mem_map.1 this
    exact ⟨n, h1, h2.symm⟩
  have hrd : ∀ x ∈ es'.toList, ∀ n : Nat, n ≤ 2 ^ 40 → x.key = .int .i64 (.ofNat n) → WideElems.rd P k (fun _ => some ((.lit (.bool true) : DataW Unit), [])) x = some (.int .i64 (.ofNat n), .lit (.bool true)) := by
    intro x hx n hn hk'
    have hw : (Lit.int .i64 (.ofNat n)).wf = true := by
      simp [Lit.wf, IntKind.max, IntKind.min, IntKind.signed, IntKind.bits]
      omega
    simp only [WideElems.rd, hk']
    rw [Maps.keyOf_int_mk hk hw]
    rfl
  refine ⟨_, ⟨es', ck, hb, ⟨by rw [hsz]; unfold maxLen; omega, ⟨hborn, hnb, hnk⟩, fun x hx => ?_⟩, Nat.le_refl _, rfl⟩, ?_, ?_⟩
  · obtain ⟨n, h1, h2⟩ := hread x hx
    exact ⟨_, hrd x hx n (hks n h1) h2⟩
  · show (List.foldr DataW.insert [] (es'.toList.map _)).length = _
    rw [Go.length_sorted]
    simp [hsz]
  · show (List.map (fun p : Lit × DataW Unit => intOf p.1) _).Perm _
    refine ((WideShapes.sorted_perm _).map _).trans ?_
    rw [List.map_map]
    have : es'.toList.map ((fun p : Lit × DataW Unit => intOf p.1) ∘ WideElems.rg P k (fun _ => some ((.lit (.bool true) : DataW Unit), []))) = es'.toList.map (fun x => match x.key with | .int _ n => n | _ => 0) := by
      apply List.map_congr_left
      intro x hx
      obtain ⟨n, h1, h2⟩ := hread x hx
      simp only [Function.comp, WideElems.rg, hrd x hx n (hks n h1) h2, Option.getD_some, intOf, h2]
    rw [this]
    have e2 : es'.toList.map (fun x => match x.key with | .int _ n => n | _ => 0) = (es'.toList.map (·.key)).map (fun v => match v with | .int _ n => n | _ => 0) := by rw [List.map_map]; rfl
    rw [e2, hkeys, List.map_map]
    exact List.Perm.refl _

open Go.Proofs Go.Maps Go.Sort in
theorem sortedI_ok (hg : NoGor Tryz.prog) {fn : Func} {cd : Code} (hf : Tryz.prog.funcs[106]? = some fn) (hb : fn.body = some cd) {args : List Value} {v : Value} {s' : St}
    (h : sortedI 210 3 args s = some (v, s')) {args' : Array Value} (hr : HRel Tryz.prog ρ s w) (ha : LRel ρ args args'.toList) : CallGot Tryz.prog ρ s w 106 args' v s' := by
  unfold sortedI at h
  split at h
  rotate_left
  · cases h
  rename_i g first cap
  split at h
  rotate_left
  · cases h
  rename_i b hfi hca
  split at h
  rotate_left
  · cases h
  rename_i rw op e0 hrw
  have ho := asRow_is hrw
  split at h
  rotate_left
  · cases h
  rename_i c
  split at h
  rotate_left
  · cases h
  rename_i m hmp
  have := asMp_is hmp
  subst this
  split at h
  rotate_left
  · cases h
  rename_i es ck hmo
  have hmo := asMap_is hmo
  split at h
  rotate_left
  · cases h
  rename_i ks hks
  cases hc : (Nat.beq g 210 && !e0 && Nat.ble (llen es) (2 ^ 20) && bornsOk ck es 0 && risN (sortN ks) 0) with
  | false => rw [hc] at h; cases h
  | true =>
    rw [hc] at h
    simp only [cond_true] at h
    simp only [Bool.and_eq_true, Nat.ble_eq, Bool.not_eq_true'] at hc
    obtain ⟨⟨⟨⟨k1, k2⟩, k3⟩, k4⟩, k5⟩ := hc
    have k1 := Nat.eq_of_beq_eq_true k1
    subst k1; subst k2
    rw [llen_eq] at k3
    obtain ⟨_, bo1, bo2⟩ := bornsOk_ok k4
    obtain ⟨_, hris⟩ := risN_ok k5
    obtain ⟨hk1, hk2⟩ := keysN_ok hks
    have hlk : ks.length = es.length := by
      have := congrArg List.length hk1
      simpa using this.symm
    -- the arguments
    obtain ⟨a', rfl, hp⟩ := one ha
    obtain ⟨f', c', rfl, hf1, hc1⟩ := fn_rel hp
    rw [hfi] at hf1
    rw [hca] at hc1
    have := hf1.nil_left
    subst this
    obtain ⟨pv, rfl, hpv⟩ := lone hc1
    obtain ⟨l, hl, rfl⟩ := ptr0 hpv
    obtain ⟨h0, hx0, cc, fz, hw, hsz, hcc, hfz⟩ := closed_row hr ho hl
    obtain ⟨mv, hmv, hmr⟩ := lone hcc
    obtain ⟨lm, hlm, rfl⟩ := map_rel hmr
    obtain ⟨o2, w2, es', rfl, he⟩ := hr.obj _ _ _ hmo hlm
    obtain ⟨l0, l1, l2⟩ := l
    simp only at h0 hw hx0
    subst h0; subst hx0
    have hlt0 : l0 < w.heap.size := (Array.getElem?_eq_some_iff.1 hw).1
    have hcell : w.cell? ⟨l0, 0, none⟩ = some (.map (some lm.blk)) := by
      have : cc[0]? = some (.map (some lm.blk)) := by
        have h3 : cc.toList[0]? = some (.map (some lm.blk)) := by rw [hmv]; rfl
        simpa using h3
      simp [World.cell?, hw, this]
    -- its map
    have hlen := he.1
    have hkeyAll : ∀ y ∈ es, ∃ n : Nat, y.key = .int .i64 (.ofNat n) := by
      intro y hy
      have : y.key ∈ es.map (·.key) := List.mem_map_of_mem hy
      rw [hk1] at this
      obtain ⟨n, _, h2⟩ := List.mem_map.1 this
      exact ⟨n, h2.symm⟩
    have mapKey : es'.toList.map (·.key) = es.map (·.key) := by
      apply List.ext_getElem?
      intro i
      rw [List.getElem?_map, List.getElem?_map]
      cases hx : es'.toList[i]? with
      | none =>
        have : es[i]? = none := by
          rw [List.getElem?_eq_none_iff] at hx ⊢; omega
        rw [this]; rfl
      | some x =>
        have hi := (List.getElem?_eq_some_iff.1 hx).1
        have hi' : i < es.length := by omega
        have hrel := he.2 i es[i] x (List.getElem?_eq_getElem hi') hx
        obtain ⟨n, hn⟩ := hkeyAll es[i] (List.getElem_mem hi')
        have h3 := hrel.1
        rw [hn] at h3
        rw [List.getElem?_eq_getElem hi', Option.map_some, Option.map_some, hn]
        generalize x.key = z at h3
        cases h3; rfl
    have mapBorn : es'.toList.map (·.born) = es.map (·.born) := by
      apply List.ext_getElem?
      intro i
      rw [List.getElem?_map, List.getElem?_map]
      cases hx : es'.toList[i]? with
      | none =>
        have : es[i]? = none := by
          rw [List.getElem?_eq_none_iff] at hx ⊢; omega
        rw [this]; rfl
      | some x =>
        have hi := (List.getElem?_eq_some_iff.1 hx).1
        have hi' : i < es.length := by omega
        have hrel := he.2 i es[i] x (List.getElem?_eq_getElem hi') hx
        rw [List.getElem?_eq_getElem hi', Option.map_some, Option.map_some, hrel.2.2]
    have hnk : (es'.toList.map (·.key)).Nodup := by
      rw [mapKey, hk1]
      have h1 : (sortN ks).Pairwise (fun x y => x ≠ y) := hris.imp (fun h => by omega)
      have h2 : ks.Nodup := (sortN_perm ks).nodup_iff.1 h1
      refine List.pairwise_map.2 (h2.imp fun {a b} hne he2 => hne ?_)
      have he3 : Value.int .i64 (.ofNat a) = Value.int .i64 (.ofNat b) := he2
      cases he3
      rfl
    have hnb : (es'.toList.map (·.born)).Nodup := by
      rw [mapBorn]
      exact List.pairwise_map.2 bo2
    have hborn : ∀ x ∈ es'.toList, x.born < ck := by
      intro x hx
      have : x.born ∈ es'.toList.map (·.born) := List.mem_map_of_mem hx
      rw [mapBorn] at this
      obtain ⟨y, hy, h2⟩ := List.mem_map.1 this
      rw [← h2]; exact (bo1 y hy).2
    obtain ⟨D0, hown, hsz0, hperm⟩ := ownsOf (P := Tryz.prog) (w := w) (k := 3) Tryz.underlying3 w2 hborn hnb hnk (mapKey.trans hk1) hk2 (by omega)
    have hseq := AnyZI.keys_gives (ρ := Tryz.keys149_ren) { Tryz.keys149 with } Fence.wide 2 trivial rfl (by omega) l0 lm.blk es'.size D0 w hlt0 hcell hown
    have hcall := AnyZI.sorted_in Tryz.sorted148 Fence.wide 5 trivial trivial trivial trivial rfl (by omega) (Tryz.sorts148 _) (enters_of Tryz.func209 (by kernel_rfl) rfl) 210 #[.pointer (some ⟨l0, 0, none⟩)] trivial (enters_of Tryz.func210 (by kernel_rfl) rfl) _ _ (by rw [hsz0]; unfold maxLen; omega) (by rw [hsz0]; omega) _ hseq
    refine got_calls hg hf hb ((callsIn_wide (n := 5)).1 hcall) fun e2 w' hq => ?_
    obtain ⟨v', ss, rfl, hp1, hrow, hnil, hbel⟩ := hq
    have hsorted : ss.mergeSort (fun x y => decide (x ≤ y)) = (sortN ks).map Int.ofNat := by
      have tr : ∀ a b c : Int, leI a b = true → leI b c = true → leI a c = true := fun a b c h1 h2 => by simp only [leI, decide_eq_true_eq] at *; exact Int.le_trans h1 h2
      have to : ∀ a b : Int, (leI a b || leI b a) = true := fun a b => by simp only [leI, Bool.or_eq_true, decide_eq_true_eq]; exact Int.le_total a b
      refine List.Perm.eq_of_pairwise (le := fun a b => leI a b = true) (fun a b _ _ h1 h2 => ?_) (List.pairwise_mergeSort tr to ss) ?_ ?_
      · simp only [leI, decide_eq_true_eq] at h1 h2
        exact Int.le_antisymm h1 h2
      · refine List.pairwise_map.2 (hris.imp fun {a b} hlt => ?_)
        simp only [leI, decide_eq_true_eq]
        exact Int.ofNat_le.2 (Nat.le_of_lt hlt)
      · exact (List.mergeSort_perm ss leI).trans (hp1.trans (hperm.trans ((sortN_perm ks).map Int.ofNat).symm))
    have hlss : ss.length = (sortN ks).length := by
      have := congrArg List.length hsorted
      simpa using this
    rw [hsorted] at hrow
    split at h
    · rename_i hnilks
      simp only [Option.some.injEq, Prod.mk.injEq] at h
      obtain ⟨rfl, rfl⟩ := h
      have hss : ss = [] := List.eq_nil_of_length_eq_zero (by rw [hlss, hnilks]; rfl)
      have := hnil.2 hss
      subst this
      obtain ⟨g1, g2⟩ := garbBelow hr hbel
      exact ⟨ρ, .sliceNil 0 0 (by unfold OPEN; omega), g1, g2⟩
    · rename_i x xs hcons
      split at h
      rotate_left
      · cases h
      rename_i d s1 hs1
      simp only [Option.some.injEq, Prod.mk.injEq] at h
      obtain ⟨rfl, rfl⟩ := h
      have hne : ss ≠ [] := by
        intro hh
        rw [hh, hcons] at hlss
        cases hlss
      rcases hrow.2 with ⟨hv, _⟩ | ⟨gb, cap2, cur, hv, r1, r2, r3, r4, r5, r6⟩
      · exact absurd (hnil.1 hv) hne
      · subst hv
        rw [hcons] at r6 hlss
        have hE : szOf Tryz.prog 3 = some 1 := by kernel_rfl
        have hrow2 : (List.map encZ (List.map Int.ofNat (x :: xs))) = (x :: xs).map (fun n => Value.int .i64 (.ofNat n)) := by rw [List.map_map]; rfl
        rw [hrow2] at r6
        obtain ⟨ρ', q1, q2, q3⟩ := newRow (P := Tryz.prog) hr hbel hs1 r1 r2 (fun v hv => by
          obtain ⟨n, _, rfl⟩ := List.mem_map.1 hv
          rfl) (by rw [List.length_map, ← hlss]; exact r3) (by omega) (by rw [List.length_map, ← hlss]; simpa using r6) hE
        refine ⟨ρ', ?_, q2, q3⟩
        rw [List.length_map] at q1
        rw [hlss]
        exact q1

open Go.Proofs Go.Maps Go.Sort in
theorem sortedS_ok (hg : NoGor Tryz.prog) {fn : Func} {cd : Code} (hf : Tryz.prog.funcs[146]? = some fn) (hb : fn.body = some cd) {args : List Value} {v : Value} {s' : St}
    (h : sortedS 231 args s = some (v, s')) {args' : Array Value} (hr : HRel Tryz.prog ρ s w) (ha : LRel ρ args args'.toList) : CallGot Tryz.prog ρ s w 146 args' v s' := by
  unfold sortedS at h
  split at h
  rotate_left
  · cases h
  rename_i g first cap
  split at h
  rotate_left
  · cases h
  rename_i b hfi hca
  split at h
  rotate_left
  · cases h
  rename_i rw op e0 hrw
  have ho := asRow_is hrw
  split at h
  rotate_left
  · cases h
  rename_i c
  have fin : ∀ (g0 : g = 213 ∨ True), True := fun _ => trivial
  -- what the machine does, whatever the iterator gives none of
  have key : ∀ (l0 : Nat) (N : Nat), N ≤ 0 → SeqGives Fence.wide 2 Tryz.prog 231 #[.pointer (some ⟨l0, 0, none⟩)] encStr (fun ss : List (List UInt8) => ss = []) N w →
      Calls Tryz.prog 146 #[.func (.func 231) #[] #[.pointer (some ⟨l0, 0, none⟩)]] w fun e w' => e = .returned (.slice none 0 0) ∧ RowKit.Below w.heap.size w w' := by
    intro l0 N hN hseq
    have hcall := AnyZ.sorted_in Tryz.sorted232 Fence.wide 5 trivial trivial trivial trivial rfl (by omega) (Tryz.sorts232 _) (enters_of Tryz.func230 (by kernel_rfl) rfl) 231 #[.pointer (some ⟨l0, 0, none⟩)] trivial (enters_of Tryz.func231 (by kernel_rfl) rfl) _ N (by unfold maxLen; omega) (by omega) _ hseq
    refine ((callsIn_wide (n := 5)).1 hcall).mono fun e2 w' hq => ?_
    obtain ⟨v', ss, rfl, hs, _, hnil, hbel⟩ := hq
    exact ⟨by rw [hnil.2 hs], hbel⟩
  have fin : ∀ (hc : (Nat.beq g 231 && !e0) = true) (hm : ∀ (l0 : Nat) (cv : Value), w.cell? ⟨l0, 0, none⟩ = some cv → l0 < w.heap.size → VRel ρ c cv → ∃ N, N ≤ 0 ∧ SeqGives Fence.wide 2 Tryz.prog 231 #[.pointer (some ⟨l0, 0, none⟩)] encStr (fun ss : List (List UInt8) => ss = []) N w),
      CallGot Tryz.prog ρ s w 146 args' (.slice none 0 0) s := by
    intro hc hm
    simp only [Bool.and_eq_true, Bool.not_eq_true'] at hc
    obtain ⟨k1, k2⟩ := hc
    have k1 := Nat.eq_of_beq_eq_true k1
    subst k1; subst k2
    obtain ⟨a', rfl, hp⟩ := one ha
    obtain ⟨f', c', rfl, hf1, hc1⟩ := fn_rel hp
    rw [hfi] at hf1
    rw [hca] at hc1
    have := hf1.nil_left
    subst this
    obtain ⟨pv, rfl, hpv⟩ := lone hc1
    obtain ⟨l, hl, rfl⟩ := ptr0 hpv
    obtain ⟨h0, hx0, cc, fz, hw, hsz, hcc, hfz⟩ := closed_row hr ho hl
    obtain ⟨mv, hmv, hmr⟩ := lone hcc
    obtain ⟨l0, l1, l2⟩ := l
    simp only at h0 hw hx0
    subst h0; subst hx0
    have hlt0 : l0 < w.heap.size := (Array.getElem?_eq_some_iff.1 hw).1
    have hcell : w.cell? ⟨l0, 0, none⟩ = some mv := by
      have : cc[0]? = some mv := by
        have h3 : cc.toList[0]? = some mv := by rw [hmv]; rfl
        simpa using h3
      simp [World.cell?, hw, this]
    obtain ⟨N, hN, hseq⟩ := hm l0 mv hcell hlt0 hmr
    refine got_calls hg hf hb (key l0 N hN hseq) fun e2 w' hq => ?_
    obtain ⟨rfl, hbel⟩ := hq
    obtain ⟨g1, g2⟩ := garbBelow hr hbel
    exact ⟨ρ, .sliceNil 0 0 (by unfold OPEN; omega), g1, g2⟩
  split at h
  · rename_i hmp
    have := asMp_nil hmp
    subst this
    cases hc : (Nat.beq g 231 && !e0) with
    | false => rw [hc] at h; cases h
    | true =>
      rw [hc] at h
      simp only [cond_true, Option.some.injEq, Prod.mk.injEq] at h
      obtain ⟨rfl, rfl⟩ := h
      refine fin hc fun l0 cv hcell hlt0 hrel => ?_
      cases hrel
      exact ⟨0, Nat.le_refl _, AnyZ.keys_gives_nil (ρ := Tryz.keys233_ren) { Tryz.keys233 with } Fence.wide _ trivial rfl l0 w hlt0 hcell⟩
  · rename_i m hmp
    have := asMp_is hmp
    subst this
    split at h
    rotate_left
    · cases h
    rename_i es ck hmo
    have hmo := asMap_is hmo
    split at h
    rotate_left
    · cases h
    cases hc : (Nat.beq g 231 && !e0) with
    | false => rw [hc] at h; cases h
    | true =>
      rw [hc] at h
      simp only [cond_true, Option.some.injEq, Prod.mk.injEq] at h
      obtain ⟨rfl, rfl⟩ := h
      refine fin hc fun l0 cv hcell hlt0 hrel => ?_
      obtain ⟨lm, hlm, rfl⟩ := map_rel hrel
      obtain ⟨o2, w2, es', rfl, he⟩ := hr.obj _ _ _ hmo hlm
      have hes : es' = #[] := by
        have h3 := he.1
        have h4 : es'.size = 0 := by simpa using h3.symm
        exact Array.eq_empty_of_size_eq_zero h4
      subst hes
      have hown : w.ownsMap Tryz.prog 9 (fun _ => some ((.lit (.bool true) : DataW Unit), [])) lm.blk 0 (.map []) :=
        ⟨#[], ck, w2, ⟨by unfold maxLen; simp, ⟨fun x hx => by simp at hx, by simp, by simp⟩, fun x hx => by simp at hx⟩, Nat.le_refl _, rfl⟩
      have hseq := AnyZ.keys_gives (ρ := Tryz.keys233_ren) { Tryz.keys233 with } Fence.wide 2 trivial rfl (by omega) l0 lm.blk 0 (.map []) w hlt0 hcell hown
      refine ⟨0, Nat.le_refl _, ?_⟩
      have e1 : (fun ss : List (List UInt8) => ss.Perm (strKeys (.map ([] : List (Lit × DataW Unit))))) = (fun ss => ss = []) := by
        funext ss
        exact propext ⟨fun h => List.Perm.eq_nil h, fun h => by subst h; exact List.Perm.refl _⟩
      rw [e1] at hseq
      exact hseq
  · cases h
end
end Go.Det
