/-
  The operations that change what is there.
-/
import Derived.Test.YtpinlnajhiagoaaGreatDoorEvNew
set_option linter.unusedVariables false
set_option linter.unusedSimpArgs false
section
namespace Go.Det
open Go

section
variable {P : Program} {ρ : Ren} {s : St} {w : World} {ρd : Operand → Option Value} {ρr : Operand → Value}

/-- one object is changed -/
theorem HRel.upd (hr : HRel P ρ s w) {b : Nat} {o o2 : DObj} {l : Loc} {o2' : Obj} {w' : World} (hb : hget s.hp b = some o) (hl : ρ b = some l)
    (h1 : w'.heap[l.blk]? = some o2') (h2 : ∀ k, k ≠ l.blk → w'.heap[k]? = w.heap[k]?) (hsz : w'.heap.size = w.heap.size) (ht : w'.tape = w.tape) (hos : w'.os = w.os) (hout : w'.output = w.output)
    (hor : ORel P ρ l o2 o2') : HRel P ρ { s with hp := s.hp.set HD b o2 } w' ∧ Fm ρ s w ρ { s with hp := s.hp.set HD b o2 } w' := by
  have hbn : b < 16 ^ HD := Nat.lt_of_lt_of_le (hr.dom b l hl) hr.nx
  have oth : ∀ c, c < 16 ^ HD → c ≠ b → hget (s.hp.set HD b o2) c = hget s.hp c := fun c hc hne => Tr.get_set_other HD _ _ _ _ hbn hc (Ne.symm hne)
  have same : hget (s.hp.set HD b o2) b = some o2 := Tr.get_set_same HD _ _ _
  have live : ∀ c p m, hget (s.hp.set HD b o2) c = some p → ρ c = some m → ∃ p0, hget s.hp c = some p0 := by
    intro c p m hc hm
    by_cases e : c = b
    · subst e; exact ⟨o, hb⟩
    · rw [oth c (Nat.lt_of_lt_of_le (hr.dom c m hm) hr.nx) e] at hc; exact ⟨p, hc⟩
  refine ⟨⟨?_, ?_, hr.dom, hr.nx, fun c hc hlt => (oth c hlt (fun e => by have := hr.dom b l hl; subst e; simp only at hc; omega)).trans (hr.top c hc hlt), hr.tab.of fun g hg => h2 g (fun e => hr.away b o l hb hl (by rw [hg, e])), fun c p m hc hm => by obtain ⟨p0, hp0⟩ := live c p m hc hm; exact hr.away c p0 m hp0 hm⟩, ⟨Ren.le_refl ρ, Nat.le_refl _, (fun c m h k => by rw [k] at h; cases h), ?_, ?_, ?_, by rw [hsz]; exact Nat.le_refl _, ht, hos, hout⟩⟩
  · intro c p m hc hm
    by_cases e : c = b
    · subst e
      rw [hl] at hm; cases hm
      simp only at hc
      rw [same] at hc; cases hc
      exact ⟨o2', h1, hor⟩
    · simp only at hc
      rw [oth c (Nat.lt_of_lt_of_le (hr.dom c m hm) hr.nx) e] at hc
      obtain ⟨p', hp1, hp2⟩ := hr.obj c p m hc hm
      refine ⟨p', ?_, hp2⟩
      rw [h2 _ (fun e' => e (hr.inj c b p o m l hc hb hm hl e'))]; exact hp1
  · intro c d p q l1 l2 hc hd hl1 hl2 he
    obtain ⟨p0, hp0⟩ := live c p l1 hc hl1
    obtain ⟨q0, hq0⟩ := live d q l2 hd hl2
    exact hr.inj c d p0 q0 l1 l2 hp0 hq0 hl1 hl2 he
  · intro k hk hn
    exact h2 k (fun e => hn b o l hb hl e.symm)
  · intro c hc hn
    exact oth c (Nat.lt_of_lt_of_le hc hr.nx) (fun e => by subst e; rw [hl] at hn; cases hn)
  · intro c hc hn
    have e : c ≠ b := fun e => by subst e; rw [hb] at hn; cases hn
    simp only
    rw [oth c (Nat.lt_of_lt_of_le hc hr.nx) e]; exact hn

theorem VRel.isCell {v v' : Value} (h : VRel ρ v v') : isCell v' = Det.isCell v := by cases h <;> rfl

theorem LRel.all_cell {vs vs' : List Value} (h : LRel ρ vs vs') (hc : vs.all Det.isCell = true) : vs'.all Det.isCell = true := by
  induction vs generalizing vs' with
  | nil => rw [h.nil_left]; rfl
  | cons v vs ih =>
    obtain ⟨v', t', rfl, hv, ht⟩ := h.uncons
    simp only [List.all_cons, Bool.and_eq_true] at hc ⊢
    exact ⟨by rw [hv.isCell]; exact hc.1, ih ht hc.2⟩

/-- cells laid over others -/
theorem putCells_sim (hr : HRel P ρ s w) {a : Addr} {vs vs' : List Value} {h' : Heap} (h : putCells s.hp a vs = some h') {l : Loc} (hl : ρ a.block = some l) (hv : LRel ρ vs vs') :
    a.spot = none ∧ ∃ w', (storeCells ⟨l.blk, l.sh + a.off, none⟩ vs').run P w = .ok () w' ∧ HRel P ρ { s with hp := h' } w' ∧ Fm ρ s w ρ { s with hp := h' } w' := by
  simp only [putCells] at h
  split at h
  rotate_left
  · cases h
  rename_i row e opn hs ho
  split at h
  rotate_left
  · cases h
  rename_i row' hrow
  cases hc : vs.all Det.isCell with
  | false => rw [hc] at h; cases h
  | true =>
    rw [hc] at h
    cases h
    obtain ⟨o', hw, c, fz, rfl, c1, c2, c3, c4, c5⟩ := hr.obj _ _ _ ho hl
    obtain ⟨a1, a2, a3, a4⟩ := lput_some hrow
    have hlen := hv.1
    obtain ⟨c', w', r1, r2, r3, r4, r5, r6, r7, r8, r9, r10⟩ := storeCells_run P l.blk (l.sh + a.off) e fz vs' 0 c w hw (by omega) c4.not (hv.all_cell hc)
    refine ⟨hs, w', r1, ?_⟩
    refine hr.upd ho hl r2 r6 r7 r8 r9 r10 ⟨c', fz, rfl, by omega, fun i v hiv => ?_, fun sz hsz => by have := c3 sz hsz; omega, by rw [r3]; exact c4, fun ho => ⟨(c5 ho).1, (c5 ho).2.1, by rw [r3, (c5 ho).2.2]; omega⟩⟩
    by_cases hi : a.off ≤ i ∧ i < a.off + vs.length
    · have e1 : i = a.off + (i - a.off) := by omega
      rw [e1, a3 _ (by omega)] at hiv
      obtain ⟨v', b1, b2⟩ := hv.get hiv
      refine ⟨v', ?_, b2⟩
      have := r4 (i - a.off) (by omega)
      rw [show l.sh + i = l.sh + a.off + 0 + (i - a.off) from by omega, this, b1]
    · rw [a4 i (by omega)] at hiv
      obtain ⟨v', b1, b2⟩ := c2 i v hiv
      refine ⟨v', ?_, b2⟩
      rw [r5 (l.sh + i) (by omega)]; exact b1

/-! ### Entries of maps -/
theorem dKeyEq_true {kt : TypeId} {x y : Value} (h : dKeyEq P kt x y = some true) : x = y := by
  unfold dKeyEq at h
  split at h
  · exact (veq_inv h).2.2.1 rfl
  · exact (veq_inv h).2.2.1 rfl
  · rename_i n e xs ys ht
    split at h
    · rename_i k he hs
      cases hl : (Nat.beq xs.toList.length n && Nat.beq ys.toList.length n) with
      | false => rw [hl] at h; cases h
      | true =>
        rw [hl] at h
        simp only [cond_true] at h
        have key : ∀ (a b : List Value), ieqs a b = some true → a = b := by
          intro a
          induction a with
          | nil => intro b hb; cases b <;> simp [ieqs] at hb; rfl
          | cons x a ih =>
            intro b hb
            cases b with
            | nil => cases x <;> simp [ieqs] at hb
            | cons y b =>
              cases x <;> cases y <;> try (simp [ieqs] at hb; done)
              rename_i j p j' q
              unfold ieqs at hb
              cases hd : decEq j j' with
              | isFalse hj => simp only [hd] at hb; cases hb
              | isTrue hj =>
                simp only [hd] at hb
                cases hk : decEq p q with
                | isFalse hpq => simp only [hk] at hb; cases hb
                | isTrue hpq => simp only [hk] at hb; rw [ih b hb, hj, hpq]
        have := key _ _ h
        cases xs; cases ys; simp at this; rw [this]
    · cases h
  · cases h

/-- keys: what is one key to the evaluator is one to the machine, bit by bit -/
def keyLike : Value → Bool
  | .int .. | .string _ => true
  | .agg cs => cs.toList.all fun | .int .. => true | _ => false
  | _ => false

theorem ieqs_like : ∀ {a b : List Value}, ieqs a b = some true → a.all (fun | .int .. => true | _ => false) = true
  | [], b, h => rfl
  | x :: a, [], h => by cases x <;> simp [ieqs] at h
  | x :: a, y :: b, h => by
    cases x <;> cases y <;> try (simp [ieqs] at h; done)
    rename_i j p j' q
    unfold ieqs at h
    cases hd : decEq j j' with
    | isFalse hj => simp only [hd] at h; cases h
    | isTrue hj =>
      simp only [hd] at h
      cases hk : decEq p q with
      | isFalse hpq => simp only [hk] at h; cases h
      | isTrue hpq => simp only [hk] at h; simp [ieqs_like h]

theorem dKeyEq_like {kt : TypeId} {x y : Value} (h : dKeyEq P kt x y = some true) : keyLike x = true := by
  unfold dKeyEq at h
  split at h
  · rfl
  · rfl
  · rename_i n e xs ys ht
    split at h
    · rename_i k he hs
      cases hl : (Nat.beq xs.toList.length n && Nat.beq ys.toList.length n) with
      | false => rw [hl] at h; cases h
      | true =>
        rw [hl] at h
        exact ieqs_like h
    · cases h
  · cases h

theorem LRel.ints {a a' : List Value} (h : LRel ρ a a') (hl : a.all (fun | .int .. => true | _ => false) = true) : a' = a := by
  induction a generalizing a' with
  | nil => exact h.nil_left
  | cons v a ih =>
    obtain ⟨v', t', rfl, hv, ht⟩ := h.uncons
    simp only [List.all_cons, Bool.and_eq_true] at hl
    rw [ih ht hl.2]
    cases v <;> simp at hl
    rw [hv.scalar rfl]

theorem VRel.key {x x' : Value} (h : VRel ρ x x') (hk : keyLike x = true) : x' = x := by
  cases x with
  | int k n => exact h.scalar rfl
  | string b => exact h.scalar rfl
  | agg cs =>
    obtain ⟨cs', rfl, hc⟩ := h.agg_inv
    have := hc.ints hk
    cases cs; cases cs'; simp at this; rw [this]
  | _ => simp [keyLike] at hk

theorem sameBits_ints : ∀ {l : List Value}, l.all (fun | .int .. => true | _ => false) = true → ((l.zip l).all fun (x, y) => Instr.sameBits 9999 x y) = true
  | [], _ => rfl
  | v :: l, h => by
    simp only [List.all_cons, Bool.and_eq_true] at h
    simp only [List.zip_cons_cons, List.all_cons, Bool.and_eq_true]
    refine ⟨?_, sameBits_ints h.2⟩
    cases v <;> simp at h
    simp [Instr.sameBits]

theorem sameBits_key {x : Value} (hk : keyLike x = true) : Instr.sameBits 10000 x x = true := by
  rw [show (10000 : Nat) = 9999 + 1 from rfl]
  cases x with
  | int k n => simp [Instr.sameBits]
  | string b => simp only [Instr.sameBits]; rw [ba_beq]; simp
  | agg cs =>
    simp only [Instr.sameBits, beq_self_eq_true, Bool.true_and]
    exact sameBits_ints hk
  | _ => simp [keyLike] at hk

theorem keyStays {k : Value} (hk : keyLike k = true) (w : World) : (Instr.keyThatStays k k).run P w = .ok k w := by
  simp [Instr.keyThatStays, sameBits_key hk]

theorem EntsRel.set {es : List Ent} {es' : Array MapEntry} {i : Nat} {e : Ent} {f : MapEntry → MapEntry} (h : EntsRel ρ es es'.toList) (he : ∀ e', es'[i]? = some e' → EntRel ρ e (f e')) :
    EntsRel ρ (lset es i e) (es'.modify i f).toList := by
  refine ⟨by rw [lset_eq]; simpa using h.1, fun j x x' a b => ?_⟩
  rw [lset_eq, List.getElem?_set] at a
  have b' : (es'.modify i f)[j]? = some x' := by rw [Array.getElem?_toList] at b; exact b
  rw [Array.getElem?_modify] at b'
  by_cases hij : i = j
  · subst hij
    simp only [if_true] at a b'
    split at a
    · cases a
      simp only [Option.map_eq_some_iff] at b'
      obtain ⟨e', h1, rfl⟩ := b'
      exact he e' h1
    · cases a
  · simp only [if_neg hij] at a b'
    exact h.2 j x x' a (by simpa using b')

theorem EntsRel.push {es : List Ent} {es' : Array MapEntry} {e : Ent} {e' : MapEntry} (h : EntsRel ρ es es'.toList) (he : EntRel ρ e e') : EntsRel ρ (es ++ [e]) (es'.push e').toList := by
  have hl := h.1
  refine ⟨by simp [hl], fun j x x' a b => ?_⟩
  rw [List.getElem?_append] at a
  simp only [Array.toList_push, List.getElem?_append] at b
  rw [← hl] at b
  split at a
  · rename_i hj
    rw [if_pos hj] at b
    exact h.2 j x x' a b
  · rename_i hj
    rw [if_neg hj] at b
    cases hq : j - es.length with
    | zero => rw [hq] at a b; simp at a b; subst a; subst b; exact he
    | succ q => rw [hq] at a; simp at a
end
end Go.Det
end
section
namespace Go.Det
open Go

section
variable {P : Program} {ρ : Ren} {s : St} {w : World} {ρd : Operand → Option Value} {ρr : Operand → Value}

/-- one object more (an elder one may be given up) -/
theorem HRel.add (hr : HRel P ρ s w) {hp0 : Heap} (h0 : ∀ c, c < 16 ^ HD → hget hp0 c = hget s.hp c ∨ hget hp0 c = none) (hph : ∀ c, c < s.nx → ρ c = none → hget hp0 c = hget s.hp c)
    (hn : s.nx < 16 ^ HD) {l2 : Loc} {o2 : DObj} {o2' : Obj} {w' : World} (h1 : w'.heap[l2.blk]? = some o2') (h2 : ∀ k, k < w.heap.size → k ≠ l2.blk → w'.heap[k]? = w.heap[k]?)
    (hsz : w.heap.size ≤ w'.heap.size) (ht : w'.tape = w.tape) (hos : w'.os = w.os) (hout : w'.output = w.output)
    (h3 : w.heap.size ≤ l2.blk ∨ ∃ c o m, hget s.hp c = some o ∧ ρ c = some m ∧ m.blk = l2.blk) (h4 : ∀ c o m, hget hp0 c = some o → ρ c = some m → m.blk ≠ l2.blk)
    (h5 : ORel P (ρ.ext s.nx l2) l2 o2 o2') :
    HRel P (ρ.ext s.nx l2) { hp := hp0.set HD s.nx o2, nx := s.nx + 1 } w' ∧ Fm ρ s w (ρ.ext s.nx l2) { hp := hp0.set HD s.nx o2, nx := s.nx + 1 } w' := by
  have hfresh : ρ s.nx = none := by
    cases h : ρ s.nx with
    | none => rfl
    | some l => have := hr.dom _ _ h; omega
  have hle := ρ.le_ext l2 hfresh
  have same : hget (hp0.set HD s.nx o2) s.nx = some o2 := Tr.get_set_same HD _ _ _
  have oth : ∀ c, c < 16 ^ HD → c ≠ s.nx → hget (hp0.set HD s.nx o2) c = hget hp0 c := fun c hc hne => Tr.get_set_other HD _ _ _ _ hn hc (Ne.symm hne)
  have old : ∀ c p m, hget (hp0.set HD s.nx o2) c = some p → ρ c = some m → c ≠ s.nx ∧ hget hp0 c = some p ∧ hget s.hp c = some p := by
    intro c p m hc hm
    have hne : c ≠ s.nx := fun e => by subst e; rw [hfresh] at hm; cases hm
    have hlt : c < 16 ^ HD := by have := hr.dom c m hm; omega
    rw [oth c hlt hne] at hc
    refine ⟨hne, hc, ?_⟩
    rcases h0 c hlt with h | h
    · rw [← h]; exact hc
    · rw [h] at hc; cases hc
  have blk : ∀ c p m, hget s.hp c = some p → ρ c = some m → m.blk < w.heap.size := by
    intro c p m hc hm
    obtain ⟨o', ho', _⟩ := hr.obj c p m hc hm
    exact (Array.getElem?_eq_some_iff.1 ho').1
  refine ⟨⟨?_, ?_, ?_, hn, fun c hc hlt => by
      simp only at hc ⊢
      rw [oth c hlt (by omega)]
      rcases h0 c hlt with h | h
      · rw [h]; exact hr.top c (by omega) hlt
      · exact h, hr.tab.of fun g hg => by
        obtain ⟨g', hg', hlt⟩ := hr.tab.lt
        rw [hg] at hg'; cases hg'
        refine h2 g hlt (fun e => ?_)
        rcases h3 with h3 | ⟨c, o, m, q1, q2, q3⟩
        · omega
        · exact hr.away c o m q1 q2 (by rw [hg, e, q3]), fun c p m hc hm => by
        by_cases e : c = s.nx
        · subst e
          rw [Ren.ext_same] at hm; cases hm
          obtain ⟨g', hg', hlt⟩ := hr.tab.lt
          rcases h3 with h3 | ⟨c, o, m, q1, q2, q3⟩
          · intro hh
            rw [hg'] at hh; cases hh
            omega
          · rw [← q3]; exact hr.away c o m q1 q2
        · rw [Ren.ext_other _ _ e] at hm
          exact hr.away c p m (old c p m hc hm).2.2 hm⟩, ⟨hle, Nat.le_succ _, ?_, ?_, ?_, ?_, hsz, ht, hos, hout⟩⟩
  · intro c p m hc hm
    by_cases e : c = s.nx
    · subst e
      rw [Ren.ext_same] at hm; cases hm
      simp only at hc
      rw [same] at hc; cases hc
      exact ⟨o2', h1, h5⟩
    · rw [Ren.ext_other _ _ e] at hm
      obtain ⟨_, a1, a2⟩ := old c p m hc hm
      obtain ⟨p', b1, b2⟩ := hr.obj c p m a2 hm
      exact ⟨p', by rw [h2 _ (blk c p m a2 hm) (h4 c p m a1 hm)]; exact b1, b2.mono hle⟩
  · intro c d p q m1 m2 hc hd hm1 hm2 he
    by_cases e : c = s.nx <;> by_cases e' : d = s.nx
    · rw [e, e']
    · subst e
      rw [Ren.ext_same] at hm1; cases hm1
      rw [Ren.ext_other _ _ e'] at hm2
      obtain ⟨_, a1, _⟩ := old d q m2 hd hm2
      exact absurd he.symm (h4 d q m2 a1 hm2)
    · subst e'
      rw [Ren.ext_same] at hm2; cases hm2
      rw [Ren.ext_other _ _ e] at hm1
      obtain ⟨_, a1, _⟩ := old c p m1 hc hm1
      exact absurd he (h4 c p m1 a1 hm1)
    · rw [Ren.ext_other _ _ e] at hm1
      rw [Ren.ext_other _ _ e'] at hm2
      exact hr.inj c d p q m1 m2 (old c p m1 hc hm1).2.2 (old d q m2 hd hm2).2.2 hm1 hm2 he
  · intro c m hm
    by_cases e : c = s.nx
    · simp only; omega
    · rw [Ren.ext_other _ _ e] at hm
      have := hr.dom c m hm
      simp only; omega
  · intro c m hm h0
    by_cases e : c = s.nx
    · subst e
      rw [Ren.ext_same] at hm; cases hm
      exact ⟨Nat.le_refl _, h3⟩
    · rw [Ren.ext_other _ _ e] at hm; rw [hm] at h0; cases h0
  · intro k hk hn'
    refine h2 k hk (fun e => ?_)
    rcases h3 with h | ⟨c, o, m, hc, hm, hb⟩
    · omega
    · exact hn' c o m hc hm (hb.trans e.symm)
  · intro c hc hcn
    have hne : c ≠ s.nx := by omega
    simp only
    rw [oth c (by omega) hne]; exact hph c hc hcn
  · intro c hc hcn
    have hne : c ≠ s.nx := by omega
    simp only
    rw [oth c (by omega) hne]
    rcases h0 c (by omega) with h | h
    · rw [h]; exact hcn
    · exact h

theorem HRel.fresh (hr : HRel P ρ s w) : ρ s.nx = none := by
  cases h : ρ s.nx with
  | none => rfl
  | some l => have := hr.dom _ _ h; omega

/-- an object of its own -/
theorem HRel.new (hr : HRel P ρ s w) {obj : DObj} {f : Nat → Value} {m : Sem Next} {o' : Obj} {ex : Nat} {v' : Value} {w' : World} {b : Nat} {s' : St} (hm : Made P ρ w obj f m o' ex v' w') (hs : s.new obj = some (b, s')) :
    b = s.nx ∧ HRel P (ρ.ext s.nx ⟨w.heap.size, 0, ex⟩) s' w' ∧ Fm ρ s w (ρ.ext s.nx ⟨w.heap.size, 0, ex⟩) s' w' ∧ VRel (ρ.ext s.nx ⟨w.heap.size, 0, ex⟩) (f b) v' := by
  simp only [St.new] at hs
  cases hb : Nat.blt s.nx (16 ^ HD) with
  | false => rw [hb] at hs; cases hs
  | true =>
    rw [hb] at hs
    cases hs
    have hn : s.nx < 16 ^ HD := by simpa using hb
    have hpush : w'.heap[w.heap.size]? = some o' := by rw [hm.heap]; simp
    obtain ⟨h1, h2⟩ := hr.add (hp0 := s.hp) (fun _ _ => .inl rfl) (fun _ _ _ => rfl) hn (l2 := ⟨w.heap.size, 0, ex⟩) (o2 := obj) hpush
      (fun k hk hne => by rw [hm.heap, Array.getElem?_push]; simp only at hne; rw [if_neg hne]) (by rw [hm.heap]; simp) hm.tape hm.os hm.output (.inl (Nat.le_refl _))
      (fun c o m hc hm' => by obtain ⟨o'', ho, _⟩ := hr.obj c o m hc hm'; have := (Array.getElem?_eq_some_iff.1 ho).1; simp only; omega) (hm.orel _ hr.fresh)
    exact ⟨rfl, h1, h2, hm.vrel _ hr.fresh⟩

/-! ### Appending -/
theorem growBy_le (n : Nat) : ∀ (r c : Nat), c ≤ 2 * n + 200 → Builtin.growBy n r c ≤ 2 * n + 200
  | 0, c, h => by simpa [Builtin.growBy] using h
  | r + 1, c, h => by
    simp only [Builtin.growBy]
    split
    · exact h
    · exact growBy_le n r _ (by omega)

theorem nextcap_le {n c : Nat} (h : c < n) : Builtin.nextslicecap n c ≤ 2 * n + 200 := by
  unfold Builtin.nextslicecap
  split
  · omega
  · split
    · omega
    · exact growBy_le n 4 c (by omega)

theorem small_grow {need b c : Nat} (h : need * (b + 1) ≤ 2 ^ 40) (hc : c < need) : ¬ (Builtin.nextslicecap need c * b > 2 ^ 48) := by
  have h1 := nextcap_le hc
  have h2 : need * b ≤ need * (b + 1) := Nat.mul_le_mul_left _ (by omega)
  have h3 : b + 1 ≤ need * (b + 1) := Nat.le_mul_of_pos_left _ (by omega)
  have h4 : Builtin.nextslicecap need c * b ≤ (2 * need + 200) * b := Nat.mul_le_mul_right _ h1
  have h5 : (2 * need + 200) * b = 2 * (need * b) + 200 * b := by rw [Nat.add_mul, Nat.mul_assoc]
  omega

theorem small_need {need b : Nat} (h : need * (b + 1) ≤ 2 ^ 40) : need ≤ 2 ^ 40 := by
  have : need ≤ need * (b + 1) := Nat.le_mul_of_pos_right _ (by omega)
  omega

/-- what append does once it knows what is appended -/
def appTail (elem : TypeId) (size n : Nat) (zeros : Bool) (base : Option Addr) (sLen sCap : Nat) (sv x : Value) (appended : Sem (Array Value)) : Sem Value := do
  let need := sLen + n
  if need ≤ sCap then
    let new ← appended
    if let some a := base then storeCells (a.add (sLen * size)) new.toList
    pure (.slice base need sCap)
  else
    if (need : Int) > IntKind.i64.max ∧ (zeros ∨ (← typeInfo elem).bytes = 0) then runtimePanic (.error "growslice: len out of range")
    if Builtin.nextslicecap need sCap * (← typeInfo elem).bytes > 2 ^ 48 then (if zeros then runtimePanic (.error "growslice: len out of range") else do
      if !(← Builtin.mayShare size sLen n base x) then mark .noRoom
      unsupported (.resourceLimit "append: a slice or a string whose bytes no memory bears"))
    let newCap ← choose (.appendCap need sCap elem)
    askRoom (newCap * (← typeInfo elem).bytes)
    let old ← Builtin.firstCells size sLen sv
    let new ← appended
    let rest := Builtin.zeroCells (← zeroValue elem).cells (newCap - need)
    pure (.slice (some (← newRow elem (old ++ new ++ rest))) need newCap)


theorem HRel.heap (hr : HRel P ρ s w) {w1 : World} (h : w1.heap = w.heap) : HRel P ρ s w1 :=
  ⟨fun b o l hb hl => by rw [h]; exact hr.obj b o l hb hl, hr.inj, hr.dom, hr.nx, hr.top, hr.tab.of fun g _ => by rw [h], hr.away⟩

theorem storeCells_nil (a : Addr) (w : World) : (storeCells a []).run P w = .ok () w := rfl

/-- the elements that stand already -/
theorem oldCells_sim (hr : HRel P ρ s w) {size len cap cap' : Nat} {base base' : Option Addr} {old : List Value} (h : srcCells s.hp size len (.slice base len cap) = some old) (hx : VRel ρ (.slice base len cap) (.slice base' len cap')) :
    ∃ old' : List Value, LRel ρ old old' ∧ (∀ w1, w1.heap = w.heap → (Builtin.firstCells size len (.slice base' len cap')).run P w1 = .ok old'.toArray w1) := by
  cases hx with
  | sliceNil _ _ hc =>
    simp [srcCells] at h
    subst h
    exact ⟨[], .nil ρ, fun w1 _ => rfl⟩
  | slice hb hc =>
    obtain ⟨_, _, vs', h1, _, h3⟩ := cellsAt_sim hr h hb
    exact ⟨vs', h1, fun w1 hw => h3 w1 hw⟩
  | sliceOpen hb hn ho =>
    obtain ⟨_, hl, vs', h1, _, h3⟩ := cellsAt_sim hr h hb
    rcases ho with ho | ho
    · subst ho; exact ⟨vs', h1, fun w1 hw => h3 w1 hw⟩
    · have h0 : len = 0 := by omega
      subst h0
      have : vs' = [] := List.eq_nil_of_length_eq_zero (by rw [← h1.1, hl]; simp)
      subst this
      exact ⟨[], h1, fun w1 _ => by simp [Builtin.firstCells, loadCells, loadCellsFrom]⟩

theorem zeroCells_size (zs : Array Value) (n : Nat) : (Builtin.zeroCells zs n).size = n * zs.size := by simp [Builtin.zeroCells]

/-- where it must grow: the machine lays a new row -/
theorem grow_run {e : TypeId} {size by_ n len cap : Nat} {zeros : Bool} {base : Option Addr} {sv x z : Value} {appended : Sem (Array Value)} {new' old' : Array Value} (hby : byOf P e = some by_) (hz : zrOf P e = some z) (hsm : (len + n) * (by_ + 1) ≤ 2 ^ 40)
    (hcap : cap < len + n) (happ : ∀ w1 : World, w1.heap = w.heap → appended.run P w1 = .ok new' w1) (hold : ∀ w1 : World, w1.heap = w.heap → (Builtin.firstCells size len sv).run P w1 = .ok old' w1) :
    ∃ k, len + n ≤ k ∧ (appTail e size n zeros base len cap sv x appended).run P w =
      .ok (.slice (some ⟨w.heap.size, 0, none⟩) (len + n) k) { w with heap := w.heap.push (.cells (old' ++ new' ++ Builtin.zeroCells z.cells (k - (len + n))) e), drawn := w.drawn + 1 } := by
  obtain ⟨ti, hti, hb⟩ := run_by w hby
  obtain ⟨k, hk⟩ : ∃ k, k = (Question.appendCap (len + n) cap e).cut (w.tape w.drawn (Question.appendCap (len + n) cap e)) := ⟨_, rfl⟩
  refine ⟨k, by rw [hk]; simp only [Question.cut]; omega, ?_⟩
  have hn := small_need hsm
  have h1 : ¬ (((len + n : Nat) : Int) > IntKind.i64.max ∧ (zeros = true ∨ ti.bytes = 0)) := by
    rintro ⟨h, _⟩
    rw [IntKind.max_i64] at h
    omega
  have h2 : ¬ (Builtin.nextslicecap (len + n) cap * ti.bytes > 2 ^ 48) := by rw [hb]; exact small_grow hsm hcap
  have htid : ∀ w1 : World, (typeInfo e).run P w1 = .ok ti w1 := by
    intro w1
    obtain ⟨ti', h, _⟩ := run_by w1 hby
    simp only [typeInfo, Sem.run_bind, run_program, Result.andThen_ok] at hti h ⊢
    cases hi : P.info? e with
    | none => rw [hi] at hti; cases hti
    | some i => rw [hi] at hti; simp at hti; subst hti; rfl
  simp only [appTail]
  rw [if_neg (by omega)]
  simp only [Sem.run_bind, hti, Result.andThen_ok]
  rw [if_neg h1]
  simp only [Sem.run_bind, hti, Result.andThen_ok]
  rw [if_neg h2]
  simp only [Sem.run_bind, run_choose, Question.forced, Bool.false_eq_true, if_false, Result.andThen_ok, ← hk, htid, run_askRoom]
  rw [hold { w with drawn := w.drawn + 1 } rfl]
  simp only [Result.andThen_ok]
  rw [happ { w with drawn := w.drawn + 1 } rfl]
  simp only [Result.andThen_ok, run_zr _ hz, newRow, Sem.run_bind, run_newObj, Sem.run_pure]


/-- **append** -/
theorem dAppend_sim (hr : HRel P ρ s w) {e : TypeId} {size by_ len cap cap' n : Nat} {z : Value} {base base' : Option Addr} {new : List Value} {new' : Array Value} {v xv : Value} {s' : St} {zeros : Bool} {appended : Sem (Array Value)}
    (h : dAppend s e size by_ (cellList z).length base len cap n new = some (v, s')) (hs : szOf P e = some size) (hby : byOf P e = some by_) (hz : zrOf P e = some z)
    (hx : VRel ρ (.slice base len cap) (.slice base' len cap')) (hnew : LRel ρ new new'.toList) (happ : ∀ w1 : World, w1.heap = w.heap → appended.run P w1 = .ok new' w1) :
    ∃ v' w' ρ', (appTail e size n zeros base' len cap' (.slice base' len cap') xv appended).run P w = .ok v' w' ∧ VRel ρ' v v' ∧ HRel P ρ' s' w' ∧ Fm ρ s w ρ' s' w' := by
  unfold dAppend at h
  cases hc : (Nat.ble ((len + n) * (by_ + 1)) (2 ^ 40) && Nat.beq (cellList z).length size && Nat.beq new.length (n * size) && new.all Det.isCell) with
  | false => rw [hc] at h; cases h
  | true =>
    rw [hc] at h
    simp only [Bool.and_eq_true, Nat.ble_eq] at hc
    obtain ⟨⟨⟨hsm, hzl⟩, hnl⟩, hcl⟩ := hc
    have hzl := Nat.eq_of_beq_eq_true hzl
    have hnl := Nat.eq_of_beq_eq_true hnl
    have hzc : z.cells.size = size := by rw [← hzl, cellList_eq]; simp
    simp only [Bool.not_true, cond_false] at h
    cases hb : Nat.ble (len + n) (known cap) with
    | true =>
      -- there is room
      rw [hb] at h
      simp only [cond_true] at h
      have hle : len + n ≤ known cap := by simpa using hb
      have hle' : len + n ≤ cap' := by
        cases hx with
        | sliceNil _ _ hc => rw [known_closed hc] at hle; exact hle
        | slice _ hc => rw [known_closed hc] at hle; exact hle
        | sliceOpen hb hn ho => rw [known_open] at hle; omega
      have run : ∀ w', (match base' with
            | some a => storeCells (a.add (len * size)) new'.toList
            | none => pure ()).run P w = .ok () w' → (appTail e size n zeros base' len cap' (.slice base' len cap') xv appended).run P w = .ok (.slice base' (len + n) cap') w' := by
        intro w' hw'
        simp only [appTail]
        rw [if_pos hle']
        simp only [Sem.run_bind, happ w rfl, Result.andThen_ok]
        cases base' with
        | none =>
          simp only [Sem.run_pure] at hw' ⊢
          cases hw'; rfl
        | some a => simp only [Sem.run_bind] at hw' ⊢; rw [hw']; rfl
      split at h
      · -- no base
        cases h
        cases hx with
        | sliceNil _ _ hc =>
          exact ⟨_, w, ρ, run w rfl, .sliceNil _ _ hc, hr, Fm.refl _ _ _⟩
      · rename_i a
        split at h
        rotate_left
        · cases h
        rename_i h' hput
        cases h
        have fin : ∀ (l : Loc), ρ a.block = some l → a.spot = none → (base' = some ⟨l.blk, l.sh + a.off, none⟩ ∨ (new = [] ∧ ∃ b, base' = some b)) → (∀ ρ1 : Ren, ρ = ρ1 → VRel ρ1 (.slice (some a) (len + n) cap) (.slice base' (len + n) cap')) →
            ∃ v' w' ρ', (appTail e size n zeros base' len cap' (.slice base' len cap') xv appended).run P w = .ok v' w' ∧ VRel ρ' (.slice (some a) (len + n) cap) v' ∧ HRel P ρ' { s with hp := h' } w' ∧ Fm ρ s w ρ' { s with hp := h' } w' := by
          intro l hl hsp hbase hv
          have hl' : ρ (a.add (len * size)).block = some l := by rw [addr_add _ _ hsp]; exact hl
          obtain ⟨_, w', hw', hh, hf⟩ := putCells_sim hr hput hl' hnew
          rcases hbase with hbase | ⟨hnil, b, hbase⟩
          · refine ⟨_, w', ρ, run w' ?_, hv ρ rfl, hh, hf⟩
            rw [hbase]
            rw [addr_add _ _ hsp] at hw'
            show (storeCells ((⟨l.blk, l.sh + a.off, none⟩ : Addr).add (len * size)) new'.toList).run P w = _
            rw [addr_add _ _ rfl, Nat.add_assoc]
            exact hw'
          · have hn0 : new'.toList = [] := by
              have := hnew.1
              rw [hnil] at this
              exact List.eq_nil_of_length_eq_zero this.symm
            rw [hn0] at hw'
            rw [storeCells_nil] at hw'
            cases hw'
            refine ⟨_, w, ρ, run w ?_, hv ρ rfl, hh, hf⟩
            rw [hbase, hn0]; rfl
        cases hx with
        | slice hl hc => exact fin _ hl rfl (.inl rfl) (fun _ e => by subst e; exact .slice hl hc)
        | sliceOpen hl hn ho =>
          rw [known_open] at hle
          rcases ho with ho | ho
          · subst ho
            exact fin _ hl rfl (.inl rfl) (fun _ e => by subst e; exact .sliceOpen hl hle (.inl rfl))
          · have hn0 : n = 0 := by omega
            refine fin _ hl rfl (.inr ⟨?_, _, rfl⟩) (fun _ e => by subst e; exact .sliceOpen hl hle (.inr ho))
            exact List.eq_nil_of_length_eq_zero (by rw [hnl, hn0]; simp)
    | false =>
      rw [hb] at h
      simp only [cond_false] at h
      have hgt : known cap < len + n := by
        rcases Nat.lt_or_ge (known cap) (len + n) with h' | h'
        · exact h'
        · have : Nat.ble (len + n) (known cap) = true := by simpa using h'
          rw [hb] at this; cases this
      split at h
      · cases h
      rename_i old hold
      obtain ⟨old', ho1, ho2⟩ := oldCells_sim hr hold hx
      cases hlen : Nat.beq old.length (len * size) with
      | false => rw [hlen] at h; cases h
      | true =>
      rw [hlen] at h
      simp only [Bool.not_true, cond_false] at h
      have hold_len := Nat.eq_of_beq_eq_true hlen
      -- a row of the machine's own behind the heap's end
      have grown : ∀ (hp0 : Heap), (∀ c, c < 16 ^ HD → hget hp0 c = hget s.hp c ∨ hget hp0 c = none) → (∀ c, c < s.nx → ρ c = none → hget hp0 c = hget s.hp c) → cap' < len + n →
          ∀ b s1, St.new { s with hp := hp0 } (.cells (old ++ new) e true) = some (b, s1) →
          ∃ v' w' ρ', (appTail e size n zeros base' len cap' (.slice base' len cap') xv appended).run P w = .ok v' w' ∧ VRel ρ' (.slice (some ⟨b, 0, none⟩) (len + n) (OPEN + (len + n))) v' ∧ HRel P ρ' s1 w' ∧ Fm ρ s w ρ' s1 w' := by
        intro hp0 h0 hph hcap b s1 hnew1
        simp only [St.new] at hnew1
        cases hlt : Nat.blt s.nx (16 ^ HD) with
        | false => rw [hlt] at hnew1; cases hnew1
        | true =>
          rw [hlt] at hnew1
          cases hnew1
          have hlt' : s.nx < 16 ^ HD := by simpa using hlt
          obtain ⟨k, hk, hrun⟩ := grow_run (w := w) (base := base') (x := xv) (zeros := zeros) hby hz hsm hcap happ ho2
          have hsz1 : (old'.toArray ++ new' ++ Builtin.zeroCells z.cells (k - (len + n))).size = (len + n) * size + (k - (len + n)) * size := by
            have e1 : old'.length = len * size := by rw [← ho1.1]; exact hold_len
            have e2 : new'.size = n * size := by have := hnew.1; rw [hnl] at this; simp at this; exact this.symm
            simp [zeroCells_size, hzc, e1, e2, Nat.add_mul, Nat.add_assoc]
          obtain ⟨h1, h2⟩ := hr.add (hp0 := hp0) h0 hph hlt' (l2 := ⟨w.heap.size, 0, k - (len + n)⟩) (o2 := .cells (old ++ new) e true)
            (o2' := .cells (old'.toArray ++ new' ++ Builtin.zeroCells z.cells (k - (len + n))) e)
            (w' := { w with heap := w.heap.push (.cells (old'.toArray ++ new' ++ Builtin.zeroCells z.cells (k - (len + n))) e), drawn := w.drawn + 1 })
            (by simp) (fun j hj hne => by simp only [Array.getElem?_push]; simp only at hne; rw [if_neg hne]) (by simp) rfl rfl rfl (.inl (Nat.le_refl _))
            (fun c o m hc hm => by
              have hcs : hget s.hp c = some o := by
                rcases h0 c (by have := hr.dom c m hm; omega) with h | h
                · rw [← h]; exact hc
                · rw [h] at hc; cases hc
              obtain ⟨o'', ho, _⟩ := hr.obj c o m hcs hm
              have := (Array.getElem?_eq_some_iff.1 ho).1
              simp only; omega)
            (by
              refine ⟨_, (0, 0), rfl, ?_, fun i v hv => ?_, fun sz hsz => ?_, .inl rfl, fun h => by cases h⟩
              · rw [hsz1]; simp [hold_len, hnl, Nat.add_mul]
              · have hall := (ho1.append hnew).mono (ρ.le_ext ⟨w.heap.size, 0, k - (len + n)⟩ hr.fresh)
                obtain ⟨v', a1, a2⟩ := hall.get hv
                refine ⟨v', ?_, a2⟩
                have hi : i < (old' ++ new'.toList).length := (List.getElem?_eq_some_iff.1 a1).1
                rw [Nat.zero_add, Array.getElem?_append_left (by simpa using hi)]
                rw [← Array.getElem?_toList]
                simpa using a1
              · rw [hs] at hsz; cases hsz
                rw [hsz1]; simp [hold_len, hnl, Nat.add_mul])
          refine ⟨_, _, _, hrun, ?_, h1, h2⟩
          have := VRel.sliceOpen (o := 0) (o' := 0) (n := len + n) (c := len + n) (ρ.ext_same s.nx ⟨w.heap.size, 0, k - (len + n)⟩) (Nat.le_refl _) (.inl rfl)
          have e1 : len + n + (k - (len + n)) = k := by omega
          rw [e1] at this
          exact this
      split at h
      rotate_left
      · -- a row that is not open
        rename_i hno
        split at h
        rotate_left
        · cases h
        rename_i b s1 hnew1
        cases h
        refine grown s.hp (fun _ _ => .inl rfl) (fun _ _ _ => rfl) ?_ _ _ hnew1
        cases hx with
        | sliceNil _ _ hc => rw [known_closed hc] at hgt; exact hgt
        | slice _ hc => rw [known_closed hc] at hgt; exact hgt
        | sliceOpen hb hn ho => exact absurd (isOpen_open _) (fun h => hno _ rfl h)
      · rename_i a hopen
        split at h
        rotate_left
        · cases h
        rename_i row e0 hob
        cases hq : (Nat.beq (a.off + known cap * size) row.length && Nat.beq e0 e) with
        | false => rw [hq] at h; cases h
        | true =>
        rw [hq] at h
        simp only [cond_true] at h
        simp only [Bool.and_eq_true] at hq
        have hrow := Nat.eq_of_beq_eq_true hq.1
        have he0 := Nat.eq_of_beq_eq_true hq.2
        subst he0
        split at h
        rotate_left
        · cases h
        rename_i b s1 hnew1
        cases h
        cases hx with
        | slice hb hc => rw [isOpen_closed hc] at hopen; cases hopen
        | @sliceOpen bb oo o' _ c l hbb hn ho =>
        rw [known_open] at hrow hgt
        simp only at hrow hob
        have hblt : bb < 16 ^ HD := by have := hr.dom _ _ hbb; have := hr.nx; omega
        have hdel : ∀ k, k < 16 ^ HD → hget (s.hp.del HD bb) k = if k = bb then none else hget s.hp k := by
          intro k hk
          by_cases e : k = bb
          · subst e; rw [if_pos rfl]; exact Tr.get_del_same HD _ _
          · rw [if_neg e]; exact Tr.get_del_other HD _ _ _ hblt hk (Ne.symm e)
        have h0 : ∀ k, k < 16 ^ HD → hget (s.hp.del HD bb) k = hget s.hp k ∨ hget (s.hp.del HD bb) k = none := by
          intro k hk
          rw [hdel k hk]
          split
          · exact .inr rfl
          · exact .inl rfl
        have hph : ∀ k, k < s.nx → ρ k = none → hget (s.hp.del HD bb) k = hget s.hp k := by
          intro k hk hn'
          rw [hdel k (by have := hr.nx; omega), if_neg (fun e => by subst e; rw [hbb] at hn'; cases hn')]
        rcases Nat.lt_or_ge (c + l.ex) (len + n) with hcap | hcap
        · exact grown _ h0 hph hcap _ _ hnew1
        · -- the machine writes on in place
          have ho : o' = l.sh + oo := by
            rcases ho with h | h
            · exact h
            · omega
          subst ho
          obtain ⟨ob, hw, cs, fz, rfl, c1, c2, c3, c4, c5⟩ := hr.obj _ _ _ hob hbb
          have c3 := c3 size hs
          have hlen' : new'.toList.length = n * size := by rw [← hnew.1, hnl]
          have hroom : (len + n) * size ≤ (c + l.ex) * size := Nat.mul_le_mul_right _ hcap
          rw [Nat.add_mul, Nat.add_mul] at hroom
          simp only [srcCells, cellsAt, hob] at hold
          obtain ⟨t1, t2⟩ := ltake_some hold
          simp only [St.new] at hnew1
          cases hlt : Nat.blt s.nx (16 ^ HD) with
          | false => rw [hlt] at hnew1; cases hnew1
          | true =>
          rw [hlt] at hnew1
          cases hnew1
          have hlt' : s.nx < 16 ^ HD := by simpa using hlt
          have hcells : new'.toList.all Det.isCell = true := hnew.all_cell hcl
          obtain ⟨c', w', r1, r2, r3, r4, r5, r6, r7, r8, r9, r10⟩ := storeCells_run P l.blk (l.sh + oo + len * size) e0 fz new'.toList 0 cs w hw (by omega) c4.not hcells
          obtain ⟨g1, g2⟩ := hr.add (hp0 := s.hp.del HD bb) h0 hph hlt' (l2 := ⟨l.blk, l.sh + oo, c + l.ex - (len + n)⟩) (o2 := .cells (old ++ new) e0 true) (w' := w') r2 (fun k _ hk => r6 k hk) (by omega) r8 r9 r10
            (.inr ⟨bb, _, l, hob, hbb, rfl⟩)
            (fun k o m hk hm he => by
              have hkl : k < 16 ^ HD := by have := hr.dom _ _ hm; omega
              rw [hdel k hkl] at hk
              by_cases e : k = bb
              · rw [if_pos e] at hk; cases hk
              · rw [if_neg e] at hk
                exact e (hr.inj _ _ _ _ _ _ hk hob hm hbb he))
            (by
              refine ⟨c', fz, rfl, ?_, fun i v hv => ?_, fun sz hsz => ?_, by rw [r3]; exact c4, fun h => by cases h⟩
              · rw [r3]; simp [hold_len, hnl]; omega
              · have hext := ρ.le_ext ⟨l.blk, l.sh + oo, c + l.ex - (len + n)⟩ hr.fresh
                by_cases hi : i < old.length
                · rw [List.getElem?_append_left hi] at hv
                  rw [t2, ldrop_eq] at hv
                  rw [List.getElem?_take_of_lt (by omega), List.getElem?_drop] at hv
                  obtain ⟨v', q1, q2⟩ := c2 _ v hv
                  refine ⟨v', ?_, q2.mono hext⟩
                  rw [r5 _ (.inl (by simp only; omega))]
                  simp only
                  rw [Nat.add_assoc]; exact q1
                · rw [List.getElem?_append_right (by omega)] at hv
                  obtain ⟨v', q1, q2⟩ := hnew.get hv
                  refine ⟨v', ?_, q2.mono hext⟩
                  have hj : i - old.length < new'.toList.length := (List.getElem?_eq_some_iff.1 q1).1
                  have := r4 _ hj
                  simp only
                  rw [show l.sh + oo + i = l.sh + oo + len * size + 0 + (i - old.length) from by omega, this]
                  exact q1
              · rw [hs] at hsz; cases hsz
                rw [r3]
                have : (len + n) * size + (c + l.ex - (len + n)) * size = (c + l.ex) * size := by rw [← Nat.add_mul]; congr 1; omega
                rw [Nat.add_mul, Nat.add_mul] at this
                simp only [List.length_append, hold_len, hnl]
                omega)
          refine ⟨.slice (some ⟨l.blk, l.sh + oo, none⟩) (len + n) (c + l.ex), w', _, ?_, ?_, g1, g2⟩
          rotate_left
          · have := VRel.sliceOpen (o := 0) (o' := l.sh + oo) (n := len + n) (c := len + n) (ρ.ext_same s.nx ⟨l.blk, l.sh + oo, c + l.ex - (len + n)⟩) (Nat.le_refl _) (.inl rfl)
            simp only at this
            rw [show len + n + (c + l.ex - (len + n)) = c + l.ex from by omega] at this
            exact this
          · simp only [appTail]
            rw [if_pos hcap]
            simp only [Sem.run_bind, happ w rfl, Result.andThen_ok]
            have : (storeCells ((⟨l.blk, l.sh + oo, none⟩ : Addr).add (len * size)) new'.toList).run P w = .ok () w' := by
              rw [addr_add _ _ rfl]; exact r1
            rw [this]; rfl
end
end Go.Det
end
section
namespace Go.Det
open Go

section
variable {P : Program} {ρ : Ren} {s : St} {w : World} {ρd : Operand → Option Value} {ρr : Operand → Value}

theorem run_getMap {r : Nat} {es : Array MapEntry} {c : Nat} (h : w.heap[r]? = some (.map es c)) : (getObj r).run P w = .ok (.map es c) w := by
  simp [getObj, Sem.run, h]
theorem run_setMap {r : Nat} {es : Array MapEntry} {c : Nat} (o : Obj) (h : w.heap[r]? = some (.map es c)) : (setObj r o).run P w = .ok () { w with heap := w.heap.setIfInBounds r o } := by
  simp [setObj, Sem.run, h]

/-- a map is written anew -/
theorem HRel.mapSet (hr : HRel P ρ s w) {r : Nat} {l : Loc} {o : DObj} {o' : Obj} {es2 : List Ent} {c2 : Nat} {es2' : Array MapEntry} (ho : hget s.hp r = some o) (hl : ρ r = some l) (hw : w.heap[l.blk]? = some o') (he : EntsRel ρ es2 es2'.toList) :
    HRel P ρ { s with hp := s.hp.set HD r (.map es2 c2) } { w with heap := w.heap.setIfInBounds l.blk (.map es2' c2) } ∧
    Fm ρ s w ρ { s with hp := s.hp.set HD r (.map es2 c2) } { w with heap := w.heap.setIfInBounds l.blk (.map es2' c2) } := by
  have hlt := (Array.getElem?_eq_some_iff.1 hw).1
  exact hr.upd ho hl (by simp [hlt]) (fun k hk => by simp [Array.getElem?_setIfInBounds, Ne.symm hk]) (by simp) rfl rfl rfl ⟨es2', rfl, he⟩

/-- an entry's key as it stands is the key asked for -/
theorem same_key {kt : TypeId} {k k' : Value} {e : Ent} {e' : MapEntry} (hk : VRel ρ k k') (he : EntRel ρ e e') (h : dKeyEq P kt k e.key = some true) : k' = e'.key ∧ keyLike k' = true ∧ k' = e.key ∧ k' = k := by
  have h1 := dKeyEq_like h
  have h2 := dKeyEq_true h
  have h3 := hk.key h1
  have h4 := he.1.key (by rw [← h2]; exact h1)
  exact ⟨by rw [h3, h4, h2], by rw [h3]; exact h1, by rw [h3, h2], h3⟩

structure Got (P : Program) (ρ : Ren) (s : St) (w : World) (m : Sem Next) (v : Value) (s' : St) : Prop where
  ex : ∃ v' w' ρ', (m.run P w = .ok (.value v') w' ∨ (v' = undef ∧ m.run P w = .ok .skip w')) ∧ VRel ρ' v v' ∧ HRel P ρ' s' w' ∧ Fm ρ s w ρ' s' w'

theorem Got.value {m : Sem Value} {v v' : Value} {s' : St} {w' : World} {ρ' : Ren} (h : m.run P w = .ok v' w') (hv : VRel ρ' v v') (hh : HRel P ρ' s' w') (hf : Fm ρ s w ρ' s' w') : Got P ρ s w (do pure (Next.value (← m))) v s' :=
  ⟨v', w', ρ', .inl (by simp [h]), hv, hh, hf⟩
theorem Got.skip {m : Sem Unit} {s' : St} {w' : World} {ρ' : Ren} (h : m.run P w = .ok () w') (hh : HRel P ρ' s' w') (hf : Fm ρ s w ρ' s' w') : Got P ρ s w (do m; pure .skip) (.tuple #[]) s' :=
  ⟨undef, w', ρ', .inr ⟨rfl, by simp [h]⟩, .undef _, hh, hf⟩

theorem unit_rel (ρ : Ren) : VRel ρ (.tuple #[]) (.tuple #[]) := VRel.mkTuple (.nil ρ)

theorem mapUpdate_sim (hr : HRel P ρ s w) {t kt el : TypeId} {r : Nat} {k v m' k' v' : Value} {es : List Ent} {c : Nat} {s' : St} {x : Value} (ht : tyOf P t = some (.map kt el)) (ho : hget s.hp r = some (.map es c)) (hm : VRel ρ (.map (some r)) m') (hk : VRel ρ k k') (hv : VRel ρ v v')
    (h : (match dLook P kt k es with
        | some (some (i, e)) => some (.tuple #[], { s with hp := s.hp.set HD r (.map (lset es i { e with val := v }) c) })
        | some none => some (.tuple #[], { s with hp := s.hp.set HD r (.map (es ++ [{ key := k, val := v, born := c }]) (c + 1)) })
        | none => none) = some (x, s')) :
    x = .tuple #[] ∧ ∃ w', (Instr.mapUpdate t m' k' v').run P w = .ok () w' ∧ HRel P ρ s' w' ∧ Fm ρ s w ρ s' w' := by
  obtain ⟨l, hl, rfl⟩ := hm.map_inv
  obtain ⟨o', hw, es', rfl, he⟩ := hr.obj _ _ _ ho hl
  split at h
  · rename_i i e hd
    cases h
    obtain ⟨h1, h2⟩ := dLook_sim hd hk he false w
    rcases h2 with ⟨h2, _⟩ | ⟨j, e1, e', h2, h3, h4, h5, h6, h7⟩
    · cases h2
    cases h2
    obtain ⟨q1, q2, q3, q4⟩ := same_key hk h6 h7
    refine ⟨rfl, _, ?_, hr.mapSet ho hl hw (es2' := es'.modify i fun e => { e with key := k', val := v' }) (he.set fun e'' he'' => ?_)⟩
    · have hst : ((es'[i]?.map (·.key)).getD k') = k' := by
        rw [Array.getElem?_toList] at h5
        rw [h5]; exact q1.symm
      simp only [Instr.mapUpdate, Sem.run_bind, run_ty w ht, Result.andThen_ok, run_getMap hw, h1, h3, hst, keyStays q2, run_setMap _ hw]
    · rw [Array.getElem?_toList] at h5
      rw [h5] at he''; cases he''
      exact ⟨by rw [q1]; exact h6.1, hv, h6.2.2⟩
  · rename_i hd
    cases h
    obtain ⟨h1, h2⟩ := dLook_sim hd hk he false w
    rcases h2 with ⟨_, h3⟩ | ⟨j, e1, e', h2, _⟩
    · refine ⟨rfl, _, ?_, hr.mapSet ho hl hw (es2' := es'.push { key := k', val := v', born := c }) (he.push ⟨hk, hv, rfl⟩)⟩
      simp only [Instr.mapUpdate, Sem.run_bind, run_ty w ht, Result.andThen_ok, run_getMap hw, h1, h3, run_setMap _ hw]
    · cases h2
  · cases h

theorem mapEntry_sim (hr : HRel P ρ s w) {t kt el : TypeId} {r : Nat} {k m' k' : Value} {es : List Ent} {c : Nat} {s' : St} {x : Value} (ht : tyOf P t = some (.map kt el)) (ho : hget s.hp r = some (.map es c)) (hm : VRel ρ (.map (some r)) m') (hk : VRel ρ k k')
    (h : (match dLook P kt k es with
        | some (some (_, e)) => some (.tuple #[e.val, goInt e.born], { s with hp := s.hp.set HD r (.map es c) })
        | some none => match zrOf P el with
          | some z => some (.tuple #[z, goInt c], { s with hp := s.hp.set HD r (.map (es ++ [{ key := k, val := z, born := c }]) (c + 1)) })
          | none => none
        | none => none) = some (x, s')) :
    ∃ x' w', (Instr.mapEntry t m' k').run P w = .ok x' w' ∧ VRel ρ x x' ∧ HRel P ρ s' w' ∧ Fm ρ s w ρ s' w' := by
  obtain ⟨l, hl, rfl⟩ := hm.map_inv
  obtain ⟨o', hw, es', rfl, he⟩ := hr.obj _ _ _ ho hl
  split at h
  · rename_i i e hd
    cases h
    obtain ⟨h1, h2⟩ := dLook_sim hd hk he false w
    rcases h2 with ⟨h2, _⟩ | ⟨j, e1, e', h2, h3, h4, h5, h6, h7⟩
    · cases h2
    cases h2
    obtain ⟨q1, q2, q3, q4⟩ := same_key hk h6 h7
    rw [Array.getElem?_toList] at h5
    have hst : ((es'[i]?.map (·.key)).getD k') = k' := by rw [h5]; exact q1.symm
    have hbn : ((Option.map (fun x : MapEntry => (x.born : Int)) es'[i]?).getD 0) = (e.born : Int) := by rw [h5]; simp [h6.2.2]
    refine ⟨.tuple #[e'.val, goInt e.born], _, ?_, VRel.mkTuple (a := [e.val, goInt e.born]) (a' := [e'.val, goInt e.born]) (.cons h6.2.1 (.single (goInt_rel _ _))), hr.mapSet ho hl hw (es2' := es'.modify i fun e => { e with key := k' }) ?_⟩
    · simp only [Instr.mapEntry, Sem.run_bind, run_ty w ht, Result.andThen_ok, run_getMap hw, h1, h3, hst, keyStays q2, run_setMap _ hw, Sem.run_pure, hbn]
    · have : es'.modify i (fun e => { e with key := k' }) = es' := by
        apply Array.ext_getElem?
        intro j
        rw [Array.getElem?_modify]
        split
        · rename_i hij; subst hij
          rw [h5]; simp [q1]
        · rfl
      rw [this]; exact he
  · rename_i hd
    split at h
    rotate_left
    · cases h
    rename_i z hz
    cases h
    obtain ⟨h1, h2⟩ := dLook_sim hd hk he false w
    rcases h2 with ⟨_, h3⟩ | ⟨j, e1, e', h2, _⟩
    · have hzz : VRel ρ z z := .of_const (zr_inv hz).2
      refine ⟨.tuple #[z, goInt c], _, ?_, VRel.mkTuple (a := [z, goInt c]) (a' := [z, goInt c]) (.cons hzz (.single (goInt_rel _ _))), hr.mapSet ho hl hw (es2' := es'.push { key := k', val := z, born := c }) (he.push ⟨hk, hzz, rfl⟩)⟩
      simp only [Instr.mapEntry, Sem.run_bind, run_ty w ht, Result.andThen_ok, run_getMap hw, h1, h3, run_zr w hz, run_setMap _ hw, Sem.run_pure]
    · cases h2
  · cases h

theorem born_find : ∀ {es : List Ent} {es' : List MapEntry} (b : Nat), EntsRel ρ es es' → es'.findIdx? (fun e => (e.born : Int) == (b : Int)) = es.findIdx? (fun e => Nat.beq e.born b)
  | [], [], _, _ => rfl
  | [], _ :: _, _, h => by have := h.1; simp at this
  | _ :: _, [], _, h => by have := h.1; simp at this
  | e :: es, e' :: es', b, h => by
    have h0 := (h.2 0 e e' rfl rfl).2.2
    have ht : EntsRel ρ es es' := ⟨by simpa using h.1, fun i x x' a b => h.2 (i + 1) x x' (by simpa using a) (by simpa using b)⟩
    have ih := born_find b ht
    have hb : ((e'.born : Int) == (b : Int)) = Nat.beq e.born b := by
      rw [← h0]
      cases hq : Nat.beq e.born b with
      | true => have := Nat.eq_of_beq_eq_true hq; subst this; simp
      | false => have := Nat.ne_of_beq_eq_false hq; simp; omega
    simp only [List.findIdx?_cons, hb, ih]

theorem entryStore_sim (hr : HRel P ρ s w) {t : TypeId} {r b : Nat} {v m' b' v' bv : Value} {es : List Ent} {c : Nat} {s' : St} {x : Value} (ho : hget s.hp r = some (.map es c)) (hm : VRel ρ (.map (some r)) m') (hbv : dNat bv = some b) (hb : VRel ρ bv b') (hv : VRel ρ v v')
    (h : (match es.findIdx? (fun e => Nat.beq e.born b) with
        | some i => match lget es i with
          | some e => some (.tuple #[], { s with hp := s.hp.set HD r (.map (lset es i { e with val := v }) c) })
          | none => none
        | none => none) = some (x, s')) :
    x = .tuple #[] ∧ ∃ w', (Instr.entryStore t m' b' v').run P w = .ok () w' ∧ HRel P ρ s' w' ∧ Fm ρ s w ρ s' w' := by
  obtain ⟨l, hl, rfl⟩ := hm.map_inv
  obtain ⟨o', hw, es', rfl, he⟩ := hr.obj _ _ _ ho hl
  obtain ⟨k, rfl, rfl⟩ := dNat_inv hbv hb
  split at h
  rotate_left
  · cases h
  rename_i i hi
  split at h
  rotate_left
  · cases h
  rename_i e hle
  cases h
  have hf := born_find (ρ := ρ) b he
  rw [hi] at hf
  have hfa : es'.findIdx? (fun e => (e.born : Int) == (b : Int)) = some i := by rw [← hf, ← List.findIdx?_toArray, Array.toArray_toList]
  refine ⟨rfl, _, ?_, hr.mapSet ho hl hw (es2' := es'.modify i fun e => { e with val := v' }) (he.set fun e'' he'' => ?_)⟩
  · simp only [Instr.entryStore, Sem.run_bind, run_getMap hw, Result.andThen_ok, asInt, asIntOf, Sem.run_pure, hfa, run_setMap _ hw]
  · rw [lget_eq] at hle
    have := he.2 i e e'' hle (by simpa using he'')
    exact ⟨this.1, hv, this.2.2⟩

theorem store_sim (hr : HRel P ρ s w) {t : TypeId} {n : Nat} {a : Addr} {h' : Heap} {a' v v' : Value} (hs : szOf P t = some n) (hn : (cellList v).length = n) (h : putCells s.hp a (cellList v) = some h') (ha : VRel ρ (.pointer (some a)) a') (hv : VRel ρ v v') :
    ∃ w', (Instr.storeAt t a' v').run P w = .ok () w' ∧ HRel P ρ { s with hp := h' } w' ∧ Fm ρ s w ρ { s with hp := h' } w' := by
  obtain ⟨l, hl, hsp, rfl⟩ := ha.ptr_inv
  obtain ⟨_, w', h1, h2, h3⟩ := putCells_sim hr h hl hv.cells
  refine ⟨w', ?_, h2, h3⟩
  have hsz : v'.cells.size = n := by rw [← hn, hv.cells.1, cellList_eq]; simp
  rw [cellList_eq] at h1
  simp [Instr.storeAt, Instr.sureAddr, storeVar, run_sz w hs, hsz, h1]

/-! ### Builtins -/
theorem srcLen_run {x x' : Value} {n : Nat} (h : srcLen x = some n) (hx : VRel ρ x x') (w : World) : (Builtin.lenOf x').run P w = .ok n w := by
  unfold srcLen at h
  split at h
  · cases h
    cases hx <;> rfl
  · cases h
    cases hx; rfl
  · cases h

theorem strCells_first {n : Nat} {b : ByteArray} {l : List UInt8} (h : ltake n b.data.toList = some l) : ((b.extract 0 n).data.map fun b => Value.int .u8 b.toNat).toList = l.map fun b => Value.int .u8 b.toNat := by
  obtain ⟨h1, h2⟩ := ltake_some h
  rw [h2]
  simp [ByteArray.extract, ByteArray.copySlice]

/-- what is copied, or appended -/
theorem src_sim (hr : HRel P ρ s w) {size n : Nat} {x x' : Value} {m : Nat} {cs : List Value} (h : srcCells s.hp size n x = some cs) (hx : VRel ρ x x') (hm : srcLen x = some m) (hle : n ≤ m) :
    ∃ cs' : List Value, LRel ρ cs cs' ∧ (∀ w1, w1.heap = w.heap → (Builtin.firstCells size n x').run P w1 = .ok cs'.toArray w1) := by
  unfold srcCells at h
  split at h
  · cases h
    cases hx
    exact ⟨[], .nil ρ, fun w1 _ => rfl⟩
  · cases hx with
    | slice hb hc =>
      obtain ⟨_, _, vs', h1, _, h3⟩ := cellsAt_sim hr h hb
      exact ⟨vs', h1, fun w1 hw => h3 w1 hw⟩
    | sliceOpen hb hn ho =>
      obtain ⟨_, hl, vs', h1, _, h3⟩ := cellsAt_sim hr h hb
      rcases ho with ho | ho
      · subst ho; exact ⟨vs', h1, fun w1 hw => h3 w1 hw⟩
      · simp only [srcLen, Option.some.injEq] at hm
        have h0 : n = 0 := by omega
        subst h0
        have : vs' = [] := List.eq_nil_of_length_eq_zero (by rw [← h1.1, hl]; simp)
        subst this
        exact ⟨[], h1, fun w1 _ => by simp [Builtin.firstCells, loadCells, loadCellsFrom]⟩
  · simp only [Option.map_eq_some_iff] at h
    obtain ⟨l, hl, rfl⟩ := h
    cases hx
    refine ⟨l.map (fun b => .int .u8 b.toNat), LRel.of_plain (by simp [isPlain]), fun w1 _ => ?_⟩
    rw [← strCells_first hl, Array.toArray_toList]; rfl
  · cases h

theorem zeroCells_list (z : Value) (n : Nat) : (Builtin.zeroCells z.cells n).toList = repl n (cellList z) := by
  rw [repl_eq, cellList_eq]
  simp [Builtin.zeroCells]
  intro a _
  rw [getElem!_def]
  cases z.cells[a % z.cells.size]? <;> rfl

theorem repl_len (l : List Value) : ∀ n, (repl n l).length = n * l.length := by
  intro n; rw [repl_eq]; simp

theorem copy_sim (hr : HRel P ρ s w) {ts : Array TypeId} {t e : TypeId} {size m len cap : Nat} {base : Option Addr} {x d' x' v : Value} {s' : St} {ty : TypeId} (h0 : ts[0]? = some t) (ht : tyOf P t = some (.slice e)) (hs : szOf P e = some size) (hm : srcLen x = some m)
    (h : (match srcCells s.hp size (min m len) x, base with
        | some cs, some a => match putCells s.hp a cs with
          | some h => some (goInt (min m len : Nat), { s with hp := h })
          | none => none
        | some _, none => some (goInt (min m len : Nat), s)
        | none, _ => none) = some (v, s'))
    (hd : VRel ρ (.slice base len cap) d') (hx : VRel ρ x x') :
    ∃ v' w', (Builtin.copy_ ts ty #[d', x']).run P w = .ok v' w' ∧ VRel ρ v v' ∧ HRel P ρ s' w' ∧ Fm ρ s w ρ s' w' := by
  have e0 : (Nat.min m len) = min m len := rfl
  cases hcs : srcCells s.hp size (min m len) x with
  | none => rw [hcs] at h; cases base <;> cases h
  | some cs =>
  rw [hcs] at h
  obtain ⟨cs', hc, hrun⟩ := src_sim hr hcs hx hm (Nat.min_le_left _ _)
  cases base with
  | some a =>
    simp only at h
    split at h
    rotate_left
    · cases h
    rename_i h' hp
    cases h
    have fin : ∀ (l : Loc) (a' : Addr) (c' : Nat), ρ a.block = some l → (a' = ⟨l.blk, l.sh + a.off, none⟩ ∨ len = 0) → d' = .slice (some a') len c' →
        ∃ v' w', (Builtin.copy_ ts ty #[d', x']).run P w = .ok v' w' ∧ VRel ρ (goInt (min m len : Nat)) v' ∧ HRel P ρ { s with hp := h' } w' ∧ Fm ρ s w ρ { s with hp := h' } w' := by
      intro l a' c' hl ha hdd
      subst hdd
      obtain ⟨_, w', h1, h2, h3⟩ := putCells_sim hr hp hl hc
      have hw' : (storeCells a' cs').run P w = .ok () w' := by
        rcases ha with ha | ha
        · rw [ha]; exact h1
        · subst ha
          have hl0 : cs.length = 0 := by
            unfold srcCells at hcs
            split at hcs
            · cases hcs; rfl
            · simp only [cellsAt] at hcs
              split at hcs
              · have := (ltake_some hcs).2
                subst this; simp
              · cases hcs
            · simp only [Option.map_eq_some_iff] at hcs
              obtain ⟨l, hl, rfl⟩ := hcs
              have := (ltake_some hl).2
              subst this; simp
            · cases hcs
          have : cs' = [] := List.eq_nil_of_length_eq_zero (by rw [← hc.1]; exact hl0)
          subst this
          exact h1
      refine ⟨goInt (min m len : Nat), w', ?_, goInt_rel _ _, h2, h3⟩
      simp only [Builtin.copy_, h0]
      simp [run_ty w ht, srcLen_run hm hx w, run_sz w hs, e0, hrun w rfl, hw']
    cases hd with
    | slice hb hc => exact fin _ _ _ hb (.inl rfl) rfl
    | sliceOpen hb hn ho =>
      rcases ho with ho | ho
      · exact fin _ _ _ hb (.inl (by rw [ho])) rfl
      · exact fin _ _ _ hb (.inr (by omega)) rfl
  | none =>
    cases h
    cases hd with
    | sliceNil _ _ hcc =>
    refine ⟨goInt (min m len : Nat), w, ?_, goInt_rel _ _, hr, Fm.refl _ _ _⟩
    simp only [Builtin.copy_, h0]
    simp [run_ty w ht, srcLen_run hm hx w, run_sz w hs, e0, hrun w rfl]

theorem eraseIdx_rel {es : List Ent} {es' : List MapEntry} (h : EntsRel ρ es es') (i : Nat) : EntsRel ρ (es.eraseIdx i) (es'.eraseIdx i) := by
  refine ⟨by simp [List.length_eraseIdx, h.1], fun j x x' a b => ?_⟩
  rw [List.getElem?_eraseIdx] at a b
  split at a
  · rename_i hj; rw [if_pos hj] at b; exact h.2 _ _ _ a b
  · rename_i hj; rw [if_neg hj] at b; exact h.2 _ _ _ a b

theorem delete_sim (hr : HRel P ρ s w) {ts : Array TypeId} {t kt el : TypeId} {ty : TypeId} {r : Nat} {k m' k' : Value} {es : List Ent} {c : Nat} {s' : St} {x : Value} (h0 : ts[0]? = some t) (ht : tyOf P t = some (.map kt el)) (ho : hget s.hp r = some (.map es c)) (hm : VRel ρ (.map (some r)) m') (hk : VRel ρ k k')
    (h : (match dLook P kt k es with
        | some (some (i, _)) => some (.tuple #[], { s with hp := s.hp.set HD r (.map (es.eraseIdx i) c) })
        | some none => some (.tuple #[], { s with hp := s.hp.set HD r (.map es c) })
        | none => none) = some (x, s')) :
    ∃ v' w', (Builtin.delete_ ts ty #[m', k']).run P w = .ok v' w' ∧ VRel ρ x v' ∧ HRel P ρ s' w' ∧ Fm ρ s w ρ s' w' := by
  obtain ⟨l, hl, rfl⟩ := hm.map_inv
  obtain ⟨o', hw, es', rfl, he⟩ := hr.obj _ _ _ ho hl
  split at h
  · rename_i i e hd
    cases h
    obtain ⟨h1, h2⟩ := dLook_sim hd hk he es'.isEmpty w
    rcases h2 with ⟨h2, _⟩ | ⟨j, e1, e', h2, h3, h4, h5, h6, h7⟩
    · cases h2
    cases h2
    refine ⟨.tuple #[], _, ?_, unit_rel ρ, hr.mapSet ho hl hw (es2' := es'.eraseIdxIfInBounds i) (by simpa using eraseIdx_rel he i)⟩
    simp only [Builtin.delete_, h0]
    simp [run_ty w ht, run_getMap hw, h1, h3, run_setMap _ hw]
  · rename_i hd
    cases h
    obtain ⟨h1, h2⟩ := dLook_sim hd hk he es'.isEmpty w
    rcases h2 with ⟨_, h3⟩ | ⟨j, e1, e', h2, _⟩
    · refine ⟨.tuple #[], _, ?_, unit_rel ρ, hr.mapSet ho hl hw (es2' := es') he⟩
      simp only [Builtin.delete_, h0]
      simp [run_ty w ht, run_getMap hw, h1, h3, run_setMap _ hw]
    · cases h2
  · cases h

theorem clear_map_sim (hr : HRel P ρ s w) {ts : Array TypeId} {t kt el : TypeId} {ty : TypeId} {r : Nat} {m' : Value} {es : List Ent} {c : Nat} (h0 : ts[0]? = some t) (ht : tyOf P t = some (.map kt el)) (ho : hget s.hp r = some (.map es c)) (hm : VRel ρ (.map (some r)) m') :
    ∃ w', (Builtin.clear_ ts ty #[m']).run P w = .ok (.tuple #[]) w' ∧ HRel P ρ { s with hp := s.hp.set HD r (.map [] c) } w' ∧ Fm ρ s w ρ { s with hp := s.hp.set HD r (.map [] c) } w' := by
  obtain ⟨l, hl, rfl⟩ := hm.map_inv
  obtain ⟨o', hw, es', rfl, he⟩ := hr.obj _ _ _ ho hl
  refine ⟨_, ?_, hr.mapSet ho hl hw (es2' := #[]) ⟨rfl, fun i e e' h => by simp at h⟩⟩
  simp only [Builtin.clear_, h0]
  simp [run_ty w ht, run_getMap hw, run_setMap _ hw]

theorem clear_nil_sim {ts : Array TypeId} {t e : TypeId} {ty : TypeId} {b b' : Option Addr} {n c c' : Nat} (h0 : ts[0]? = some t) (ht : tyOf P t = some (.slice e)) (h : b' = none ∨ n = 0) (w : World) :
    (Builtin.clear_ ts ty #[.slice b' n c']).run P w = .ok (.tuple #[]) w := by
  simp only [Builtin.clear_, h0]
  rcases h with h | h
  · subst h; simp [run_ty w ht]
  · subst h
    cases b' <;> simp [run_ty w ht]

theorem clear_slice_sim (hr : HRel P ρ s w) {ts : Array TypeId} {t e : TypeId} {ty : TypeId} {a : Addr} {n cap : Nat} {x' z : Value} {h' : Heap} (h0 : ts[0]? = some t) (ht : tyOf P t = some (.slice e)) (hz : zrOf P e = some z) (hx : VRel ρ (.slice (some a) n cap) x')
    (hp : putCells s.hp a (repl n (cellList z)) = some h') :
    ∃ w', (Builtin.clear_ ts ty #[x']).run P w = .ok (.tuple #[]) w' ∧ HRel P ρ { s with hp := h' } w' ∧ Fm ρ s w ρ { s with hp := h' } w' := by
  have hcells : LRel ρ (repl n (cellList z)) (repl n (cellList z)) := by
    have h1 : LRel ρ (cellList z) (cellList z) := (VRel.of_const (zr_inv hz).2).cells
    refine ⟨rfl, fun i v v' a b => ?_⟩
    rw [a] at b; cases b
    rw [repl_eq] at a
    simp only [List.getElem?_map, Option.map_eq_some_iff] at a
    obtain ⟨j, hj, rfl⟩ := a
    have hlen : 0 < (cellList z).length := by
      rcases Nat.eq_zero_or_pos (cellList z).length with h | h
      · rw [h] at hj; simp at hj
      · exact h
    have hlt := Nat.mod_lt j hlen
    have : (cellList z)[j % (cellList z).length]? = some (cellList z)[j % (cellList z).length]! := by simp [hlt]
    exact h1.2 _ _ _ this this
  have fin : ∀ (l : Loc) (a' : Addr) (c' : Nat), ρ a.block = some l → (a' = ⟨l.blk, l.sh + a.off, none⟩ ∨ n = 0) → x' = .slice (some a') n c' →
      ∃ w', (Builtin.clear_ ts ty #[x']).run P w = .ok (.tuple #[]) w' ∧ HRel P ρ { s with hp := h' } w' ∧ Fm ρ s w ρ { s with hp := h' } w' := by
    intro l a' c' hl ha hdd
    subst hdd
    obtain ⟨_, w', h1, h2, h3⟩ := putCells_sim hr hp hl hcells
    refine ⟨w', ?_, h2, h3⟩
    rcases Nat.eq_zero_or_pos n with hn | hn
    · subst hn
      have : w' = w := by
        have e0 : repl 0 (cellList z) = [] := rfl
        rw [e0, storeCells_nil] at h1
        cases h1; rfl
      subst this
      exact clear_nil_sim (b := none) (c := 0) h0 ht (.inr rfl) _
    · rcases ha with ha | ha
      · subst ha
        have hzl := zeroCells_list z n
        have : ((Builtin.zeroCells z.cells n).toList) = repl n (cellList z) := hzl
        simp only [Builtin.clear_, h0]
        obtain ⟨n, rfl⟩ := Nat.exists_eq_succ_of_ne_zero (Nat.ne_of_gt hn)
        simp [run_ty w ht, run_zr w hz, this, h1]
      · omega
  cases hx with
  | slice hb hc => exact fin _ _ _ hb (.inl rfl) rfl
  | sliceOpen hb hn ho =>
    rcases ho with ho | ho
    · exact fin _ _ _ hb (.inl (by rw [ho])) rfl
    · exact fin _ _ _ hb (.inr (by omega)) rfl

theorem append_run {ts : Array TypeId} {t0 t1 e : TypeId} {ty : TypeId} {base : Option Addr} {len cap size n : Nat} {x : Value} (h0 : ts[0]? = some t0) (ht : tyOf P t0 = some (.slice e)) (hs : szOf P e = some size) (h1 : ts[1]? = some t1) {d : TypeDesc} (hd : tyOf P t1 = some d) (hni : ∀ k, d ≠ .int k)
    (hn : (Builtin.lenOf x).run P w = .ok n w) :
    (Builtin.append_ ts ty #[.slice base len cap, x]).run P w = (appTail e size n false base len cap (.slice base len cap) x (Builtin.firstCells size n x)).run P w := by
  have hz : (match d with | .int _ => true | _ => false) = false := by
    cases d <;> first | rfl | exact absurd rfl (hni _)
  simp only [Builtin.append_, h0, h1]
  simp only [Sem.run_bind, Sem.run_pure, Result.andThen_ok, List.getElem?_toArray, List.getElem?_cons_zero, List.getElem?_cons_succ, run_ty w ht, run_sz w hs, run_ty w hd]
  simp only [hz, Sem.run_bind, hn, Result.andThen_ok, Bool.false_eq_true, if_false, Bool.not_false, if_true]
  simp only [appTail, Bool.false_eq_true, if_false]
  try rfl

theorem dAppend_slice (hr : HRel P ρ s w) {ts : Array TypeId} {t0 t1 e : TypeId} {ty : TypeId} {base : Option Addr} {len cap size by_ n : Nat} {x d' x' z v : Value} {s' : St} {new : List Value} (h0 : ts[0]? = some t0) (ht : tyOf P t0 = some (.slice e)) (hs : szOf P e = some size)
    (hby : byOf P e = some by_) (hz : zrOf P e = some z) (h1 : ts[1]? = some t1) {d : TypeDesc} (hd : tyOf P t1 = some d) (hni : ∀ k, d ≠ .int k)
    (hx : VRel ρ (.slice base len cap) d') (hx' : VRel ρ x x') (hn : srcLen x = some n) (hnew : srcCells s.hp size n x = some new) (h : dAppend s e size by_ (cellList z).length base len cap n new = some (v, s')) :
    ∃ v' w' ρ', (Builtin.append_ ts ty #[d', x']).run P w = .ok v' w' ∧ VRel ρ' v v' ∧ HRel P ρ' s' w' ∧ Fm ρ s w ρ' s' w' := by
  obtain ⟨cs', hc, hrun⟩ := src_sim hr hnew hx' hn (Nat.le_refl _)
  obtain ⟨base', cap', rfl⟩ : ∃ base' cap', d' = .slice base' len cap' := by cases hx <;> exact ⟨_, _, rfl⟩
  obtain ⟨v', w', ρ', r1, r2, r3, r4⟩ := dAppend_sim (zeros := false) (xv := x') hr h hs hby hz hx (new' := cs'.toArray) (by simpa using hc) hrun
  exact ⟨v', w', ρ', by rw [append_run h0 ht hs h1 hd hni (srcLen_run hn hx' w)]; exact r1, r2, r3, r4⟩

theorem dAppend_make (hr : HRel P ρ s w) {ts : Array TypeId} {t0 t1 e : TypeId} {ty : TypeId} {base : Option Addr} {len cap size by_ n : Nat} {x d' x' z v : Value} {s' : St} {k : IntKind} (h0 : ts[0]? = some t0) (ht : tyOf P t0 = some (.slice e)) (hs : szOf P e = some size)
    (hby : byOf P e = some by_) (hz : zrOf P e = some z) (h1 : ts[1]? = some t1) (hd : tyOf P t1 = some (.int k)) (hzl : (cellList z).length = size)
    (hx : VRel ρ (.slice base len cap) d') (hx' : VRel ρ x x') (hn : dNat x = some n) (hlt : n < 2 ^ 40) (hb : n * by_ ≤ 2 ^ 40) (h : dAppend s e size by_ (cellList z).length base len cap n (repl n (cellList z)) = some (v, s')) :
    ∃ v' w' ρ', (Builtin.append_ ts ty #[d', x']).run P w = .ok v' w' ∧ VRel ρ' v v' ∧ HRel P ρ' s' w' ∧ Fm ρ s w ρ' s' w' := by
  obtain ⟨kk, rfl, rfl⟩ := dNat_inv hn hx'
  obtain ⟨base', cap', rfl⟩ : ∃ base' cap', d' = .slice base' len cap' := by cases hx <;> exact ⟨_, _, rfl⟩
  obtain ⟨ti, hti, hbt⟩ := run_by w hby
  have hcells : LRel ρ (repl n (cellList z)) (Builtin.zeroCells z.cells n).toList := by
    rw [zeroCells_list]
    have h1 : LRel ρ (cellList z) (cellList z) := (VRel.of_const (zr_inv hz).2).cells
    refine ⟨rfl, fun i v v' a b => ?_⟩
    rw [a] at b; cases b
    rw [repl_eq] at a
    simp only [List.getElem?_map, Option.map_eq_some_iff] at a
    obtain ⟨j, hj, rfl⟩ := a
    have hlen : 0 < (cellList z).length := by
      rcases Nat.eq_zero_or_pos (cellList z).length with h | h
      · rw [h] at hj; simp at hj
      · exact h
    have hlt := Nat.mod_lt j hlen
    have : (cellList z)[j % (cellList z).length]? = some (cellList z)[j % (cellList z).length]! := by simp [hlt]
    exact h1.2 _ _ _ this this
  have happ : ∀ w1 : World, w1.heap = w.heap → ((if n * size = 0 then pure #[] else do pure (Builtin.zeroCells (← zeroValue e).cells n) : Sem (Array Value))).run P w1 = .ok (Builtin.zeroCells z.cells n) w1 := by
    intro w1 _
    split
    · rename_i h0'
      have : Builtin.zeroCells z.cells n = #[] := by
        apply Array.eq_empty_of_size_eq_zero
        rw [zeroCells_size]
        have : z.cells.size = size := by rw [← hzl, cellList_eq]; simp
        rw [this]; exact h0'
      rw [this]; rfl
    · simp [run_zr w1 hz]
  obtain ⟨v', w', ρ', r1, r2, r3, r4⟩ := dAppend_sim (zeros := true) (xv := .int kk (n : Int)) hr h hs hby hz hx hcells happ
  refine ⟨v', w', ρ', ?_, r2, r3, r4⟩
  rw [← r1]
  have hw : IntKind.i64.wrap (n : Int) = n := wrap_small hlt
  have h48 : ¬ ((n : Int) * (ti.bytes : Int) > 2 ^ 48) := by
    have : ((n * by_ : Nat) : Int) ≤ 2 ^ 40 := by exact_mod_cast hb
    rw [hbt]
    push_cast at this
    omega
  simp only [Builtin.append_, h0, h1]
  simp only [Sem.run_bind, Sem.run_pure, Result.andThen_ok, List.getElem?_toArray, List.getElem?_cons_zero, List.getElem?_cons_succ, run_ty w ht, run_sz w hs, run_ty w hd]
  simp only [asInt, asIntOf, Sem.run_bind, Sem.run_pure, Result.andThen_ok, hw, if_true, if_false, Bool.not_true, Bool.false_eq_true, hti, h48, Int.not_lt.2 (Int.natCast_nonneg n), Int.toNat_natCast]
  simp only [appTail, if_true]
  try rfl
end
end Go.Det
end
section
namespace Go.Det
open Go

section
variable {P : Program} {ρ : Ren} {s : St} {w : World} {ρd : Operand → Option Value} {ρr : Operand → Value}

theorem builtin_exec {b : Builtin} {args : Array Operand} {ats : Array TypeId} {dst : Option Nat} {ty : TypeId} {pos after guard} {vs : List Value} {m : Sem Value}
    (h : (args.map ρr) = vs.toArray) (hb : ∀ cs, builtin b ats ty cs vs.toArray = (do pure (Next.value (← m)))) :
    (execOp ρr ⟨dst, .call { callee := .builtin b, args, argTypes := ats }, ty, pos, after, guard⟩).run P w = (do pure (Next.value (← m)) : Sem Next).run P w := by
  simp only [execOp, resolve, Sem.run_bind, Sem.run_pure, Result.andThen_ok, invoke]
  rw [h, hb]
  simp only [Sem.run_bind, Sem.run_pure]

theorem Got.congr {m m' : Sem Next} {v : Value} {s' : St} (h : m'.run P w = m.run P w) (g : Got P ρ s w m v s') : Got P ρ s w m' v s' := by
  obtain ⟨v', w', ρ', h1, h2⟩ := g
  exact ⟨v', w', ρ', by rw [h]; exact h1, h2⟩

/-- the row's end is marked: no cell of it turns -/
theorem mark_sim (hr : HRel P ρ s w) {b : Nat} {row : List Value} {e : TypeId} {l : Loc} (ho : hget s.hp b = some (.cells row e false)) (hl : ρ b = some l) (o : Nat) :
    ∃ w', (markStringish ⟨l.blk, o, none⟩).run P w = .ok () w' ∧ HRel P ρ { s with hp := s.hp.set HD b (.cells row e false) } w' ∧ Fm ρ s w ρ { s with hp := s.hp.set HD b (.cells row e false) } w' := by
  obtain ⟨o', hw, c, fz, rfl, c1, c2, c3, c4, c5⟩ := hr.obj _ _ _ ho hl
  have hsh : w.shape? l.blk = some (e, c.size) := by unfold World.shape?; rw [hw]
  have hrun : (markStringish ⟨l.blk, o, none⟩).run P w = .ok () (w.freeze ⟨l.blk, c.size, none⟩ 1) := by
    simp [markStringish, hsh]
  obtain ⟨f1, f2⟩ := fz
  refine ⟨_, hrun, hr.upd ho hl (o2' := .cells c e (if f1 == f2 then (c.size, c.size + 1) else (min f1 c.size, max f2 (c.size + 1)))) ?_ ?_ ?_ ?_ ?_ ?_ ⟨c, _, rfl, c1, c2, c3, ?_, c5⟩⟩
  · unfold World.freeze
    rw [if_neg (by decide)]
    simp [Array.getElem?_modify, hw]
  · intro k hk
    unfold World.freeze
    rw [if_neg (by decide)]
    simp [Array.getElem?_modify, Ne.symm hk]
  · unfold World.freeze
    rw [if_neg (by decide)]
    simp
  · unfold World.freeze
    rw [if_neg (by decide)]
  · unfold World.freeze
    rw [if_neg (by decide)]
  · unfold World.freeze
    rw [if_neg (by decide)]
  · rcases c4 with c4 | c4
    · simp only at c4
      subst c4
      rw [if_pos (by simp)]
      exact .inr (Nat.le_refl _)
    · simp only at c4
      split
      · exact .inr (Nat.le_refl _)
      · exact .inr (by simp only; omega)

theorem evEff_sim (hr : HRel P ρ s w) (hρ : ∀ x v, ρd x = some v → VRel ρ v (ρr x)) {o : Oper} {v : Value} {s' : St} (h : evEff P ρd s o.op = some (v, s')) : Got P ρ s w (execOp ρr o) v s' := by
  obtain ⟨dst, op, ty, pos, after, guard⟩ := o
  simp only at h
  have upd : ∀ (t : TypeId) (m k x : Operand), (match tyOf P t, ρd m, ρd k, ρd x with
    | some (.map kt _), some (.map (some r)), some k, some v => match hget s.hp r with
      | some (.map es c) => match dLook P kt k es with
        | some (some (i, e)) => some (.tuple #[], { s with hp := s.hp.set HD r (.map (lset es i { e with val := v }) c) })
        | some none => some (.tuple #[], { s with hp := s.hp.set HD r (.map (es ++ [{ key := k, val := v, born := c }]) (c + 1)) })
        | none => none
      | _ => none
    | _, _, _, _ => none) = some (v, s') → Got P ρ s w (do Instr.mapUpdate t (ρr m) (ρr k) (ρr x); pure .skip) v s' := by
    intro t m k x h
    split at h
    rotate_left
    · cases h
    rename_i kt el r k0 v0 ht hm hk hv
    split at h
    rotate_left
    · cases h
    rename_i es c ho
    obtain ⟨rfl, w', h1, h2, h3⟩ := mapUpdate_sim hr ht ho (hρ _ _ hm) (hρ _ _ hk) (hρ _ _ hv) h
    exact .skip h1 h2 h3
  unfold evEff at h
  split at h
  · -- store
    rename_i t a x
    split at h
    rotate_left
    · cases h
    rename_i a0 v0 ha hv
    split at h
    rotate_left
    · cases h
    rename_i n hs
    cases hb : Nat.beq (cellList v0).length n with
    | false => rw [hb] at h; cases h
    | true =>
    rw [hb] at h
    simp only [cond_true] at h
    split at h
    rotate_left
    · cases h
    rename_i h' hp
    cases h
    obtain ⟨w', h1, h2, h3⟩ := store_sim hr hs (Nat.eq_of_beq_eq_true hb) hp (hρ _ _ ha) (hρ _ _ hv)
    exact .skip h1 h2 h3
  · exact upd _ _ _ _ h
  · exact upd _ _ _ _ h
  · -- mapEntry
    rename_i t m k
    split at h
    rotate_left
    · cases h
    rename_i kt el r k0 ht hm hk
    split at h
    rotate_left
    · cases h
    rename_i es c ho
    obtain ⟨x', w', h1, h2, h3, h4⟩ := mapEntry_sim hr ht ho (hρ _ _ hm) (hρ _ _ hk) h
    exact .value h1 h2 h3 h4
  · -- entryStore
    rename_i t m b x
    split at h
    rotate_left
    · cases h
    rename_i r b0 v0 hm hb hv
    split at h
    rotate_left
    · cases h
    rename_i es c ho
    cases hb0 : ρd b with
    | none => rw [hb0] at hb; cases hb
    | some bv =>
    rw [hb0] at hb
    obtain ⟨rfl, w', h1, h2, h3⟩ := entryStore_sim (t := t) hr ho (hρ _ _ hm) hb (hρ _ _ hb0) (hρ _ _ hv) h
    exact .skip h1 h2 h3
  · -- a range over a map
    rename_i t x
    split at h
    · rename_i k e ht hx
      split at h
      rotate_left
      · cases h
      rename_i b s1 hs
      cases h
      have hv := (hρ _ _ hx).plain rfl
      have hm : Made P ρ w .iter (fun b => .pointer (some ⟨b, 0, none⟩)) (execOp ρr { dst := dst, op := .range t x, type := ty, pos := pos, after := after, guard := guard }) (.mapIter none 0 #[] 0) 0 (.pointer (some ⟨w.heap.size, 0, none⟩)) { w with heap := w.heap.push (.mapIter none 0 #[] 0) } := by
        refine ⟨?_, rfl, rfl, rfl, rfl, fun b hb => ?_, fun b hb => ?_⟩
        · simp [execOp, Instr.range, run_ty w ht, hv]
        · exact ⟨rfl, 0, rfl⟩
        · have := VRel.ptr (o := 0) (ρ.ext_same b ⟨w.heap.size, 0, 0⟩); simpa using this
      obtain ⟨rfl, h1, h2, h3⟩ := hr.new hm hs
      exact ⟨_, _, _, .inl hm.run, h3, h1, h2⟩
    · rename_i k e m ht hx
      split at h
      rotate_left
      · cases h
      rename_i es ck ho
      split at h
      rotate_left
      · cases h
      rename_i b s1 hs
      cases h
      obtain ⟨l, hl, e0⟩ := (hρ _ _ hx).map_inv
      obtain ⟨o', hw, es', rfl, _⟩ := hr.obj _ _ _ ho hl
      have hm : Made P ρ w (.iterOf m) (fun b => .pointer (some ⟨b, 0, none⟩)) (execOp ρr { dst := dst, op := .range t x, type := ty, pos := pos, after := after, guard := guard }) (.mapIter (some l.blk) ck #[] ck) 0 (.pointer (some ⟨w.heap.size, 0, none⟩)) { w with heap := w.heap.push (.mapIter (some l.blk) ck #[] ck) } := by
        refine ⟨?_, rfl, rfl, rfl, rfl, fun b hb => ?_, fun b hb => ?_⟩
        · simp [execOp, Instr.range, run_ty w ht, e0, getObj, Sem.run, hw]
        · exact ⟨rfl, l, ck, ρ.le_ext _ hb _ _ hl, rfl⟩
        · have := VRel.ptr (o := 0) (ρ.ext_same b ⟨w.heap.size, 0, 0⟩); simpa using this
      obtain ⟨rfl, h1, h2, h3⟩ := hr.new hm hs
      exact ⟨_, _, _, .inl hm.run, h3, h1, h2⟩
    · cases h
  · -- next
    rename_i it
    split at h
    rotate_left
    · cases h
    rename_i r sp hit
    have hv := hρ _ _ hit
    obtain ⟨l, hl, _, e⟩ := hv.ptr_inv
    split at h
    · rename_i ho
      cases h
      obtain ⟨o', hw, hsh, n, rfl⟩ := hr.obj _ _ _ ho hl
      refine Got.value (v' := .tuple #[.bool false]) (w' := w) (ρ' := ρ) ?_ (VRel.mkTuple (a := [.bool false]) (a' := [.bool false]) (.single (.bool _))) hr (Fm.refl _ _ _)
      rw [e]
      simp only [hsh]
      simp [Instr.next, getObj, Sem.run, hw]
    · rename_i m ho
      split at h
      rotate_left
      · cases h
      rename_i ck hom
      cases h
      obtain ⟨o', hw, hsh, lm, n, hlm, rfl⟩ := hr.obj _ _ _ ho hl
      obtain ⟨o2, hw2, es', rfl, he, _⟩ := hr.obj _ _ _ hom hlm
      have hes : es' = #[] := by
        have : es'.toList.length = 0 := he.symm
        exact Array.toList_inj.1 (List.eq_nil_of_length_eq_zero this)
      subst hes
      refine Got.value (v' := .tuple #[.bool false]) (w' := w) (ρ' := ρ) ?_ (VRel.mkTuple (a := [.bool false]) (a' := [.bool false]) (.single (.bool _))) hr (Fm.refl _ _ _)
      rw [e]
      simp only [hsh]
      simp [Instr.next, getObj, Sem.run, hw, hw2]
      intro hf; cases hf
    · cases h
  · -- builtins
    rename_i b args ats
    split at h
    · -- append
      rename_i base len cap x e hv ht0
      have hl := vals_arr hρ hv
      obtain ⟨d', t', e1, hd, hl⟩ := hl.uncons
      obtain ⟨x', t'', rfl, hx, hl⟩ := hl.uncons
      have := hl.nil_left; subst this
      have hargs : args.map ρr = [d', x'].toArray := by rw [← e1, Array.toArray_toList]
      cases h0 : ats[0]? with
      | none => simp [h0] at ht0
      | some t0 =>
      simp only [h0, Option.bind_some] at ht0
      cases h1 : ats[1]? with
      | none => simp [h1] at h
      | some t1 =>
      simp only [h1, Option.bind_some] at h
      have fin : ∀ v1 w1 ρ1, (Builtin.append_ ats ty #[d', x']).run P w = .ok v1 w1 → VRel ρ1 v v1 → HRel P ρ1 s' w1 → Fm ρ s w ρ1 s' w1 →
          Got P ρ s w (execOp ρr ⟨dst, .call { callee := .builtin .append, args, argTypes := ats }, ty, pos, after, guard⟩) v s' :=
        fun v1 w1 ρ1 a b c d => (Got.value a b c d).congr (builtin_exec hargs fun _ => rfl)
      have sl : ∀ {size by_ : Nat} {z : Value} {dd : TypeDesc}, szOf P e = some size → byOf P e = some by_ → zrOf P e = some z → tyOf P t1 = some dd → (∀ k, dd ≠ .int k) →
          (match srcLen x with
            | some n => match srcCells s.hp size n x with
              | some new => dAppend s e size by_ (cellList z).length base len cap n new
              | none => none
            | none => none) = some (v, s') → Got P ρ s w (execOp ρr ⟨dst, .call { callee := .builtin .append, args, argTypes := ats }, ty, pos, after, guard⟩) v s' := by
        intro size by_ z dd hs hb hz hdd hni h
        split at h
        rotate_left
        · cases h
        rename_i n hn
        split at h
        rotate_left
        · cases h
        rename_i new hnew
        obtain ⟨v1, w1, ρ1, a, b, c, d⟩ := dAppend_slice (ty := ty) hr h0 ht0 hs hb hz h1 hdd hni hd hx hn hnew h
        exact fin v1 w1 ρ1 a b c d
      split at h
      · rename_i size by_ z _ hs hb hz hdd
        exact sl hs hb hz hdd (fun k => by simp) h
      · rename_i size by_ z hs hb hz hdd
        exact sl hs hb hz hdd (fun k => by simp) h
      · rename_i size by_ z k hs hb hz hdd
        split at h
        rotate_left
        · cases h
        rename_i n hn
        cases hc : (Nat.blt n (2 ^ 40) && Nat.ble (n * by_) (2 ^ 40)) with
        | false => rw [hc] at h; cases h
        | true =>
        rw [hc] at h
        simp only [cond_true] at h
        simp only [Bool.and_eq_true, Nat.blt_eq, Nat.ble_eq] at hc
        have hzl : (cellList z).length = size := by
          unfold dAppend at h
          cases hq : (Nat.ble ((len + n) * (by_ + 1)) (2 ^ 40) && Nat.beq (cellList z).length size && Nat.beq (repl n (cellList z)).length (n * size) && (repl n (cellList z)).all Det.isCell) with
          | false => rw [hq] at h; cases h
          | true =>
            simp only [Bool.and_eq_true] at hq
            exact Nat.eq_of_beq_eq_true hq.1.1.2
        obtain ⟨v1, w1, ρ1, a, b, c, d⟩ := dAppend_make (ty := ty) hr h0 ht0 hs hb hz h1 hdd hzl hd hx hn hc.1 hc.2 h
        exact fin v1 w1 ρ1 a b c d
      · cases h
    · -- copy
      rename_i base len cap x e hv ht0
      have hl := vals_arr hρ hv
      obtain ⟨d', t', e1, hd, hl⟩ := hl.uncons
      obtain ⟨x', t'', rfl, hx, hl⟩ := hl.uncons
      have := hl.nil_left; subst this
      have hargs : args.map ρr = [d', x'].toArray := by rw [← e1, Array.toArray_toList]
      cases h0 : ats[0]? with
      | none => simp [h0] at ht0
      | some t0 =>
      simp only [h0, Option.bind_some] at ht0
      split at h
      rotate_left
      · cases h
      rename_i size m hs hm
      obtain ⟨v1, w1, a, b, c, d⟩ := copy_sim (ty := ty) hr h0 ht0 hs hm h hd hx
      exact (Got.value a b c d).congr (builtin_exec hargs fun _ => rfl)
    · -- clear: a map
      rename_i r kt el hv ht0
      have hl := vals_arr hρ hv
      obtain ⟨d', t', e1, hd, hl⟩ := hl.uncons
      have := hl.nil_left; subst this
      have hargs : args.map ρr = [d'].toArray := by rw [← e1, Array.toArray_toList]
      cases h0 : ats[0]? with
      | none => simp [h0] at ht0
      | some t0 =>
      simp only [h0, Option.bind_some] at ht0
      split at h
      rotate_left
      · cases h
      rename_i es c ho
      cases h
      obtain ⟨w1, a, c, d⟩ := clear_map_sim (ty := ty) hr h0 ht0 ho hd
      exact (Got.value a (unit_rel ρ) c d).congr (builtin_exec hargs fun _ => rfl)
    · rename_i n cap e hv ht0
      cases h
      have hl := vals_arr hρ hv
      obtain ⟨d', t', e1, hd, hl⟩ := hl.uncons
      have := hl.nil_left; subst this
      have hargs : args.map ρr = [d'].toArray := by rw [← e1, Array.toArray_toList]
      cases h0 : ats[0]? with
      | none => simp [h0] at ht0
      | some t0 =>
      simp only [h0, Option.bind_some] at ht0
      cases hd with
      | sliceNil _ _ hc => exact (Got.value (clear_nil_sim (ty := ty) (b := none) (c := 0) h0 ht0 (.inl rfl) w) (unit_rel ρ) hr (Fm.refl _ _ _)).congr (builtin_exec hargs fun _ => rfl)
    · rename_i base cap e _ hv ht0
      cases h
      have hl := vals_arr hρ hv
      obtain ⟨d', t', e1, hd, hl⟩ := hl.uncons
      have := hl.nil_left; subst this
      have hargs : args.map ρr = [d'].toArray := by rw [← e1, Array.toArray_toList]
      cases h0 : ats[0]? with
      | none => simp [h0] at ht0
      | some t0 =>
      simp only [h0, Option.bind_some] at ht0
      obtain ⟨base', cap', rfl⟩ : ∃ base' cap', d' = .slice base' 0 cap' := by cases hd <;> exact ⟨_, _, rfl⟩
      exact (Got.value (clear_nil_sim (ty := ty) (b := none) (c := 0) h0 ht0 (.inr rfl) w) (unit_rel ρ) hr (Fm.refl _ _ _)).congr (builtin_exec hargs fun _ => rfl)
    · rename_i a n cap e _ hv ht0
      have hl := vals_arr hρ hv
      obtain ⟨d', t', e1, hd, hl⟩ := hl.uncons
      have := hl.nil_left; subst this
      have hargs : args.map ρr = [d'].toArray := by rw [← e1, Array.toArray_toList]
      cases h0 : ats[0]? with
      | none => simp [h0] at ht0
      | some t0 =>
      simp only [h0, Option.bind_some] at ht0
      split at h
      rotate_left
      · cases h
      rename_i z hz
      split at h
      rotate_left
      · cases h
      rename_i h' hp
      cases h
      obtain ⟨w1, a, c, d⟩ := clear_slice_sim (ty := ty) hr h0 ht0 hz hd hp
      exact (Got.value a (unit_rel ρ) c d).congr (builtin_exec hargs fun _ => rfl)
    · -- delete
      rename_i r k kt el hv ht0
      have hl := vals_arr hρ hv
      obtain ⟨d', t', e1, hd, hl⟩ := hl.uncons
      obtain ⟨x', t'', rfl, hx, hl⟩ := hl.uncons
      have := hl.nil_left; subst this
      have hargs : args.map ρr = [d', x'].toArray := by rw [← e1, Array.toArray_toList]
      cases h0 : ats[0]? with
      | none => simp [h0] at ht0
      | some t0 =>
      simp only [h0, Option.bind_some] at ht0
      split at h
      rotate_left
      · cases h
      rename_i es c ho
      obtain ⟨v1, w1, a, b, c, d⟩ := delete_sim (ty := ty) hr h0 ht0 ho hd hx h
      exact (Got.value a b c d).congr (builtin_exec hargs fun _ => rfl)
    · cases h
  · -- a slice of bytes to its own type
    rename_i src dst x
    cases hb : Nat.beq src dst with
    | false => rw [hb] at h; cases h
    | true =>
    rw [hb] at h
    simp only [cond_true] at h
    have hsd := Nat.eq_of_beq_eq_true hb
    subst hsd
    split at h
    rotate_left
    · cases h
    rename_i e a n c ht hx
    split at h
    rotate_left
    · cases h
    rename_i row e0 he ho
    cases h
    have hv := hρ _ _ hx
    obtain ⟨l, o2, c', hl, e1⟩ : ∃ l o2 c', ρ a.block = some l ∧ ρr x = .slice (some ⟨l.blk, o2, none⟩) n c' := by
      generalize ρr x = y at hv
      cases hv with
      | slice h1 h2 => exact ⟨_, _, _, h1, rfl⟩
      | sliceOpen h1 h2 h3 => exact ⟨_, _, _, h1, rfl⟩
    obtain ⟨w', h1, h2, h3⟩ := mark_sim hr ho hl (P := P) o2
    refine Got.value (v' := ρr x) (w' := w') (ρ' := ρ) ?_ hv h2 h3
    rw [e1]
    simp only [convert, Sem.run_bind, run_ty w ht, Result.andThen_ok, run_ty w he, beq_self_eq_true, h1, Sem.run_pure]
  · cases h
end
end Go.Det
end
