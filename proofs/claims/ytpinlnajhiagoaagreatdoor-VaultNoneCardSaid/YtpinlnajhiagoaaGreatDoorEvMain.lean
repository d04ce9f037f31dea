/-
  The evaluator tells what the machine does.
-/
import Derived.Test.YtpinlnajhiagoaaGreatDoorEvDrawn
set_option linter.unusedVariables false
set_option linter.unusedSimpArgs false
namespace Go.Det
open Go

section
variable {P : Program} {rec : Rec} {I : Intr}

abbrev Post (P : Program) (ρ : Ren) (s : St) (w : World) (e : Ex) (fr' : Fr) (s' : St) : Exit → Act → World → Prop :=
  fun e2 a' w' => ∃ ρ', ExRel e e2 ∧ Fm ρ s w ρ' s' w' ∧ HRel P ρ' s' w' ∧ FRel ρ' fr' a'

theorem Post.normal {ρ : Ren} {s : St} {w : World} {fr' : Fr} {s' : St} {ρ' : Ren} {a' : Act} {w' : World} (h1 : HRel P ρ' s' w') (h2 : Fm ρ s w ρ' s' w') (h3 : FRel ρ' fr' a') : Post P ρ s w .normal fr' s' .normal a' w' := ⟨ρ', rfl, h2, h1, h3⟩

theorem Post.trans {ρ ρ1 : Ren} {s s1 : St} {w w1 : World} {e : Ex} {fr' : Fr} {s' : St} {e2 : Exit} {a' : Act} {w' : World} (hr : HRel P ρ s w) (h : Fm ρ s w ρ1 s1 w1) (k : Post P ρ1 s1 w1 e fr' s' e2 a' w') : Post P ρ s w e fr' s' e2 a' w' := by
  obtain ⟨ρ', k1, k2, k3, k4⟩ := k
  exact ⟨ρ', k1, Fm.trans hr h k2, k3, k4⟩

/-- the statement of Sim for one code and one result -/
def Sim1 (P : Program) (c : Code) (fr : Fr) (s : St) (e : Ex) (fr' : Fr) (s' : St) : Prop := fr'.rd = fr.rd ∧ fr'.nt = fr.nt ∧
  ∀ ro n ρ a w, (ro = none ∨ fr.rd = true) → HRel P ρ s w → FRel ρ fr a → c.wpIn (FAt ro) n P (Post P ρ s w e fr' s') a w

theorem evOpd_rel {ρ : Ren} {fr : Fr} {a : Act} (h : FRel ρ fr a) {x : Operand} {v : Value} (hv : evOpd fr x = some v) : VRel ρ v (a.eval x) := evOpd_sim h.slot hv

theorem sim_seq (hrec : Sim P rec) {a b : Code} {fr : Fr} {s : St} {e : Ex} {fr' : Fr} {s' : St} (h : (match rec a fr s with
    | some (.normal, fr', s') => rec b fr' s'
    | r => r) = some (e, fr', s')) : Sim1 P (.seq a b) fr s e fr' s' := by
  split at h
  · rename_i fr1 s1 ha
    obtain ⟨a1, a2, a3⟩ := hrec _ _ _ _ _ _ ha
    obtain ⟨b1, b2, b3⟩ := hrec _ _ _ _ _ _ h
    refine ⟨b1.trans a1, b2.trans a2, fun ro n ρ ac w hro hr hf => wpIn_seq (wpIn_mono (a3 ro n ρ ac w hro hr hf) fun e2 a' w' hq => ?_)⟩
    obtain ⟨ρ', k1, k2, k3, k4⟩ := hq
    cases k1
    exact wpIn_mono (b3 ro n ρ' a' w' (by rw [a1]; exact hro) k3 k4) fun e3 a2 w2 hq => Post.trans hr k2 hq
  · rename_i hne
    obtain ⟨a1, a2, a3⟩ := hrec _ _ _ _ _ _ h
    refine ⟨a1, a2, fun ro n ρ ac w hro hr hf => wpIn_seq (wpIn_mono (a3 ro n ρ ac w hro hr hf) fun e2 a' w' hq => ?_)⟩
    obtain ⟨ρ', k1, k⟩ := hq
    cases e with
    | normal => exact absurd h (hne fr' s')
    | exit id => cases k1; exact ⟨ρ', rfl, k⟩
    | ret => cases k1; exact ⟨ρ', rfl, k⟩

theorem sim_block (hrec : Sim P rec) {id : Nat} {a : Code} {fr : Fr} {s : St} {e : Ex} {fr' : Fr} {s' : St} (h : (match rec a fr s with
    | some (.exit j, fr', s') => cond (Nat.beq j id) (some (.normal, fr', s')) (some (.exit j, fr', s'))
    | r => r) = some (e, fr', s')) : Sim1 P (.block id a) fr s e fr' s' := by
  split at h
  · rename_i j fr1 s1 ha
    obtain ⟨a1, a2, a3⟩ := hrec _ _ _ _ _ _ ha
    cases hb : Nat.beq j id with
    | true =>
      rw [hb] at h; cases h
      have := Nat.eq_of_beq_eq_true hb; subst this
      refine ⟨a1, a2, fun ro n ρ ac w hro hr hf => wpIn_block (wpIn_mono (a3 ro n ρ ac w hro hr hf) fun e2 a' w' hq => ?_)⟩
      obtain ⟨ρ', k1, k⟩ := hq
      cases k1
      simp only [Exit.inBlock, if_true]
      exact ⟨ρ', rfl, k⟩
    | false =>
      rw [hb] at h; cases h
      have hne := Nat.ne_of_beq_eq_false hb
      refine ⟨a1, a2, fun ro n ρ ac w hro hr hf => wpIn_block (wpIn_mono (a3 ro n ρ ac w hro hr hf) fun e2 a' w' hq => ?_)⟩
      obtain ⟨ρ', k1, k⟩ := hq
      cases k1
      simp only [Exit.inBlock, if_neg hne]
      exact ⟨ρ', rfl, k⟩
  · rename_i hne
    obtain ⟨a1, a2, a3⟩ := hrec _ _ _ _ _ _ h
    refine ⟨a1, a2, fun ro n ρ ac w hro hr hf => wpIn_block (wpIn_mono (a3 ro n ρ ac w hro hr hf) fun e2 a' w' hq => ?_)⟩
    obtain ⟨ρ', k1, k⟩ := hq
    cases e with
    | normal => cases k1; exact ⟨ρ', rfl, k⟩
    | exit j => exact absurd h (hne j fr' s')
    | ret => cases k1; exact ⟨ρ', rfl, k⟩

theorem least {p : Nat → Prop} (h : ∃ m, p m) : ∃ m, p m ∧ ∀ k, p k → m ≤ k := by
  obtain ⟨m, hm⟩ := h
  induction m using Nat.strongRecOn with
  | _ m ih =>
    by_cases hk : ∃ k, k < m ∧ p k
    · obtain ⟨k, h1, h2⟩ := hk
      exact ih k h1 h2
    · refine ⟨m, hm, fun k hp => ?_⟩
      rcases Nat.lt_or_ge k m with h | h
      · exact absurd ⟨k, h, hp⟩ hk
      · exact h

/-- the loop: the fuel falls -/
theorem sim_loop {R : Rules} {n : Nat} (hrec : ∀ m, m ≤ n → Sim R.P (eval R m)) {c : Code} {fr : Fr} {s : St} {e : Ex} {fr' : Fr} {s' : St} (h : step R (eval R n) (.loop c) fr s = some (e, fr', s')) : Sim1 R.P (.loop c) fr s e fr' s' := by
  classical
  have hk : ∀ m, m ≤ n → ∀ (fr : Fr) (s : St), step R (eval R m) (.loop c) fr s = some (e, fr', s') → fr'.rd = fr.rd ∧ fr'.nt = fr.nt := by
    intro m
    induction m with
    | zero => intro _ fr s h; simp only [step, eval] at h; cases h
    | succ m ih =>
      intro hm fr s h
      simp only [step] at h
      split at h
      · rename_i fr1 s1 ha
        obtain ⟨a1, a2, _⟩ := hrec _ hm _ _ _ _ _ _ ha
        obtain ⟨b1, b2⟩ := ih (by omega) fr1 s1 h
        exact ⟨b1.trans a1, b2.trans a2⟩
      · obtain ⟨a1, a2, _⟩ := hrec _ hm _ _ _ _ _ _ h
        exact ⟨a1, a2⟩
  obtain ⟨r1, r2⟩ := hk n (Nat.le_refl _) fr s h
  refine ⟨r1, r2, fun ro nn ρ a w hro hr hf => ?_⟩
  let J : Nat → Act → World → Prop := fun m a1 w1 => m ≤ n ∧ ∃ fr1 s1 ρ1, step R (eval R m) (.loop c) fr1 s1 = some (e, fr', s') ∧ HRel R.P ρ1 s1 w1 ∧ FRel ρ1 fr1 a1 ∧ Fm ρ s w ρ1 s1 w1 ∧ fr1.rd = fr.rd
  refine wpIn_loop (fun a1 w1 => ∃ m, J m a1 w1) (fun a1 w1 => if hx : ∃ m, J m a1 w1 then Classical.choose (least hx) else 0) ⟨n, Nat.le_refl _, fr, s, ρ, h, hr, hf, Fm.refl _ _ _, rfl⟩ ?_
  intro a1 w1 hx
  obtain ⟨hm, fr1, s1, ρ1, h1, h2, h3, h4, h5⟩ := (Classical.choose_spec (least hx)).1
  generalize hmm : Classical.choose (least hx) = m at hm h1
  have hstep := h1
  simp only [step] at h1
  split at h1
  · rename_i fr2 s2 hc
    obtain ⟨q1, q2, q3⟩ := hrec m hm _ _ _ _ _ _ hc
    refine wpIn_mono (q3 ro nn ρ1 a1 w1 (by rw [h5]; exact hro) h2 h3) fun e2 a2 w2 hq => ?_
    obtain ⟨ρ2, k1, k2, k3, k4⟩ := hq
    cases k1
    cases m with
    | zero => simp only [eval] at hc; cases hc
    | succ m =>
      have hJ : J m a2 w2 := ⟨by omega, fr2, s2, ρ2, h1, k3, k4, Fm.trans hr h4 k2, q1.trans h5⟩
      refine ⟨⟨m, hJ⟩, ?_⟩
      rw [dif_pos ⟨m, hJ⟩, dif_pos hx, hmm]
      exact Nat.lt_succ_of_le ((Classical.choose_spec (least ⟨m, hJ⟩)).2 m hJ)
  · rename_i hne
    obtain ⟨q1, q2, q3⟩ := hrec m hm _ _ _ _ _ _ h1
    refine wpIn_mono (q3 ro nn ρ1 a1 w1 (by rw [h5]; exact hro) h2 h3) fun e2 a2 w2 hq => ?_
    obtain ⟨ρ2, k1, k2⟩ := hq
    cases e with
    | normal => exact absurd h1 (hne fr' s')
    | exit j => cases k1; exact Post.trans hr h4 ⟨ρ2, rfl, k2⟩
    | ret => cases k1; exact Post.trans hr h4 ⟨ρ2, rfl, k2⟩

/-- an object laid -/
theorem HRel.lay {ρ : Ren} {s : St} {w : World} (hr : HRel P ρ s w) {obj : DObj} {o' : Obj} {b : Nat} {s' : St} (hs : s.new obj = some (b, s')) (ho : ORel P (ρ.ext s.nx ⟨w.heap.size, 0, 0⟩) ⟨w.heap.size, 0, 0⟩ obj o') :
    b = s.nx ∧ HRel P (ρ.ext s.nx ⟨w.heap.size, 0, 0⟩) s' { w with heap := w.heap.push o' } ∧ Fm ρ s w (ρ.ext s.nx ⟨w.heap.size, 0, 0⟩) s' { w with heap := w.heap.push o' } := by
  obtain ⟨rfl, rfl, hn⟩ := St.new_inv hs
  obtain ⟨h1, h2⟩ := hr.add (hp0 := s.hp) (fun _ _ => .inl rfl) (fun _ _ _ => rfl) hn (l2 := ⟨w.heap.size, 0, 0⟩) (o2 := obj) (o2' := o') (w' := { w with heap := w.heap.push o' }) (by simp)
    (fun k hk hne => by simp only [Array.getElem?_push]; simp only at hne; rw [if_neg hne]) (by simp) rfl rfl rfl (.inl (Nat.le_refl _))
    (fun c o m hc hm' => by obtain ⟨o'', ho, _⟩ := hr.obj c o m hc hm'; have := (Array.getElem?_eq_some_iff.1 ho).1; simp only; omega) ho
  exact ⟨rfl, h1, h2⟩

/-- a loop's record behind the loop -/
theorem endLoop_sim {ρ : Ren} {s : St} {w : World} (hr : HRel P ρ s w) {l : Nat} {L : Loc} (hl : ρ l = some L) {fn' tm nt pp aa bb rdy pend dd} (ho : hget s.hp l = some (.loop fn' tm nt pp aa bb rdy pend dd)) (hor : rdy = true ∨ pend.isSome = true) :
    ∃ w4, (Instr.endLoop L.blk).run P w = .ok pend w4 ∧ HRel P ρ { s with hp := s.hp.del HD l } w4 ∧ Fm ρ s w ρ { s with hp := s.hp.del HD l } w4 := by
  obtain ⟨o', hw, r, rfl, h1, h2, h3, h4, h5, h6, h7, h8, h9, _⟩ := hr.obj _ _ _ ho hl
  have hgl : (Instr.getLoop L.blk).run P w = .ok r w := by simp [Instr.getLoop, getObj, Sem.run, hw]
  have hnb : (r.state == LoopState.busy) = false := by
    rw [h6]
    rcases hor with rfl | hp
    · rfl
    · cases pend with
      | none => cases hp
      | some c => cases rdy with
        | true => rfl
        | false => rfl
  obtain ⟨k1, k2⟩ := hr.del (w' := { w with heap := w.heap.setIfInBounds L.blk (.loop { r with state := .exhausted }) }) ho hl (fun k hk => by simp [Ne.symm hk]) (by simp) rfl rfl rfl
  refine ⟨_, ?_, k1, k2⟩
  have : (setObj L.blk (.loop { r with state := .exhausted })).run P w = .ok () { w with heap := w.heap.setIfInBounds L.blk (.loop { r with state := .exhausted }) } := by
    simp [setObj, Sem.run, hw]
  simp only [Instr.endLoop, Sem.run_bind, hgl, Result.andThen_ok, hnb, Bool.false_eq_true, if_false, this, Sem.run_pure]
  rw [h7]

/-- a range over a function -/
theorem sim_range (hrec : Sim P rec) (hg : NoGor P) (hI : IntrOk P I) {g : Operand} {ps : Array Tmp} {asg body : Code} {fr : Fr} {s : St} {e : Ex} {fr' : Fr} {s' : St} (h : step ⟨P, I⟩ rec (.rangeFunc g ps asg body) fr s = some (e, fr', s')) :
    Sim1 P (.rangeFunc g ps asg body) fr s e fr' s' := by
  simp only [step] at h
  split at h
  rotate_left
  · cases h
  rename_i f first cap hgv
  split at h
  rotate_left
  · cases h
  rename_i d s1 hd
  split at h
  rotate_left
  · cases h
  rename_i l s2 hl
  cases hbd : ((P.funcs[f]?).bind (·.body)) with
  | none => rw [hbd] at h; cases h
  | some bd =>
  rw [hbd] at h
  simp only [Option.isSome_some, cond_true] at h
  split at h
  rotate_left
  · cases h
  rename_i x s3 he
  have hrd : fr.rd = false := by
    cases hq : fr.rd with
    | false => rfl
    | true => rw [hq] at hgv; cases hgv
  rw [hrd] at hgv
  simp only [cond_false] at hgv
  obtain ⟨fn, hfn, hfb⟩ : ∃ fn, P.funcs[f]? = some fn ∧ fn.body = some bd := by
    cases hq : P.funcs[f]? with
    | none => rw [hq] at hbd; cases hbd
    | some fn => rw [hq] at hbd; exact ⟨fn, rfl, hbd⟩
  -- the frame behind it
  have after : fr'.rd = fr.rd ∧ fr'.nt = fr.nt := by
    split at h
    · cases h; exact ⟨rfl, rfl⟩
    · obtain ⟨a1, a2, _⟩ := hrec _ _ _ _ _ _ h
      exact ⟨a1, a2⟩
    · cases h
  refine ⟨after.1, after.2, fun ro n ρ a w hro hr hf => ?_⟩
  have hro : ro = none := by rw [hrd] at hro; simpa using hro
  subst hro
  refine wpIn_rangeFunc fun fnid _ => ?_
  -- the function's value
  have hv := evOpd_rel hf hgv
  obtain ⟨first, rfl⟩ : ∃ l : List Value, first = l.toArray := ⟨first.toList, by simp⟩
  obtain ⟨cap, rfl⟩ : ∃ l : List Value, cap = l.toArray := ⟨cap.toList, by simp⟩
  generalize hgv' : a.eval g = gv at hv
  cases hv with
  | @func _ _ fa' _ cc' v1 v2 v3 v4 =>
  have hff : LRel ρ first fa' := ⟨v1, v3⟩
  have hcc : LRel ρ cap cc' := ⟨v2, v4⟩
  -- the two objects
  obtain ⟨rfl, m1, m2⟩ := hr.lay (o' := .deferred (some [])) hd rfl
  have hsl : SlotRel ((ρ.ext s.nx ⟨w.heap.size, 0, 0⟩).ext s1.nx ⟨(w.heap.push (.deferred (some []))).size, 0, 0⟩) fr.tm a.tmps := (hf.slot.mono m2.le).mono (Ren.le_ext _ _ m1.fresh)
  obtain ⟨rfl, m3, m4⟩ := m1.lay (o' := .loop { state := .ready, pending := none, fn := fnid, tmps := a.tmps, params := ps, assign := asg, body, defers := w.heap.size }) hl
    ⟨_, rfl, hsl, hf.size, rfl, rfl, rfl, rfl, rfl, hf.nt, fun _ => rfl, rfl⟩
  have m5 := Fm.trans hr m2 m4
  have hl2 : ((ρ.ext s.nx ⟨w.heap.size, 0, 0⟩).ext s1.nx ⟨(w.heap.push (.deferred (some []))).size, 0, 0⟩) s1.nx = some ⟨(w.heap.push (.deferred (some []))).size, 0, 0⟩ := Ren.ext_same _ _ _
  have hargs : LRel ((ρ.ext s.nx ⟨w.heap.size, 0, 0⟩).ext s1.nx ⟨(w.heap.push (.deferred (some []))).size, 0, 0⟩) (first ++ [.func (.yield s1.nx) #[] #[]] ++ cap)
      (fa'.toArray ++ #[Value.func (.yield (w.heap.push (.deferred (some []))).size) #[] #[]] ++ cc'.toArray).toList := by
    have := ((hff.mono m5.le).append (.single (.yield hl2))).append (hcc.mono m5.le)
    simpa using this
  have hget := enter_sim hrec hg hI he m3 hargs
  have hcf := callFunc_run hg hfn hfb (fa'.toArray ++ #[Value.func (.yield (w.heap.push (.deferred (some []))).size) #[] #[]] ++ cc'.toArray) { w with heap := (w.heap.push (.deferred (some []))).push (.loop { state := .ready, pending := none, fn := fnid, tmps := a.tmps, params := ps, assign := asg, body, defers := w.heap.size }) }
  rcases hget with ⟨v', w', hbad, _⟩ | ⟨_, hcall⟩
  · rw [hcf] at hbad; cases hbad
  refine ⟨(w.heap.push (.deferred (some []))).size, [{ target := .collected w.heap.size, args := #[] }], { w with heap := (w.heap.push (.deferred (some []))).push (.loop { state := .ready, pending := none, fn := fnid, tmps := a.tmps, params := ps, assign := asg, body, defers := w.heap.size }) }, { target := .fn (.func f) cc'.toArray, args := fa'.toArray ++ #[.func (.yield (w.heap.push (.deferred (some []))).size) #[] #[]] }, { w with heap := (w.heap.push (.deferred (some []))).push (.loop { state := .ready, pending := none, fn := fnid, tmps := a.tmps, params := ps, assign := asg, body, defers := w.heap.size }) }, f, _, _, ?_, ?_, fun _ _ => trivial, hcf, by simp [FAt], ?_⟩
  · have e0 : (FAt none).round = none := rfl
    rw [e0]
    rfl
  · have hm : (#[Operand.const (Value.func (Fn.yield (w.heap.push (Obj.deferred (some []))).size) #[] #[])]).map a.eval = #[Value.func (Fn.yield (w.heap.push (Obj.deferred (some []))).size) #[] #[]] := by
      rw [List.map_toArray]; rfl
    simp only [resolve, hgv', Deferred.ofValue, Sem.run_pure, hm]
  · refine (callsIn_at (n := n - 1) hcall).mono fun en w3 hq => ?_
    cases en with
    | panicked c => exact hq.elim
    | outgrown => exact hq.elim
    | returned v' =>
      obtain ⟨ρ3, _, n2, n3⟩ := hq
      have fm := Fm.trans hr m5 n3
      have hl3 := n3.le _ _ hl2
      have hd3 : ρ3 s.nx = some ⟨w.heap.size, 0, 0⟩ := n3.le _ _ (m4.le _ _ (Ren.ext_same _ _ _))
      have hfr : FRel ρ3 { fr with df := { target := .collected s.nx, args := #[] } :: fr.df } { a with defers := [{ target := .collected w.heap.size, args := #[] }] ++ a.defers } :=
        ⟨hf.slot.mono fm.le, hf.size, hf.nt, .mark hd3 (hf.df.mono fm.le)⟩
      have fin := fun {fn' tm nt pp aa bb rdy pend dd} (ho : hget s3.hp s1.nx = some (.loop fn' tm nt pp aa bb rdy pend dd)) hor => endLoop_sim n2 hl3 ho hor
      split at h
      · rename_i ho
        cases h
        obtain ⟨w4, k1, k2, k3⟩ := fin ho (.inl rfl)
        exact ⟨none, w4, k1, Post.normal k2 (Fm.trans hr fm k3) hfr⟩
      · rename_i c _ ho
        obtain ⟨w4, k1, k2, k3⟩ := fin ho (.inr rfl)
        obtain ⟨_, _, q3⟩ := hrec _ _ _ _ _ _ h
        refine ⟨some c, w4, k1, wpIn_mono (q3 none n ρ3 _ w4 (.inl rfl) k2 hfr) fun e2 a2 w5 hq => Post.trans hr (Fm.trans hr fm k3) hq⟩
      · cases h

theorem sim_step {R : Rules} (hm : R.P.follows .mixedOrders = true) (hg : NoGor R.P) (hI : IntrOk R.P R.I) {n : Nat} (hrec : ∀ m, m ≤ n → Sim R.P (eval R m)) {c : Code} {fr : Fr} {s : St} {e : Ex} {fr' : Fr} {s' : St} (h : step R (eval R n) c fr s = some (e, fr', s')) : Sim1 R.P c fr s e fr' s' := by
  have hr0 := hrec n (Nat.le_refl _)
  cases c with
  | skip =>
    simp only [step, Option.some.injEq, Prod.mk.injEq] at h
    obtain ⟨rfl, rfl, rfl⟩ := h
    exact ⟨rfl, rfl, fun ro n ρ a w hro hr hf => wpIn_skip (Post.normal hr (Fm.refl _ _ _) hf)⟩
  | region id ops draw =>
    cases draw with
    | false =>
      simp only [step, Option.map_eq_some_iff, Prod.mk.injEq, Prod.exists] at h
      obtain ⟨f, s1, h, rfl, rfl, rfl⟩ := h
      obtain ⟨a1, a2, a3⟩ := evOps_sim (P := R.P) (I := R.I) (k := 0) hr0 hg hI rfl h
      refine ⟨a1, a2, fun ro n ρ a w hro hr hf => wpIn_region ?_⟩
      have := a3 ro n ρ a w (Post R.P ρ s w .normal f s1) hro hr hf (fun ρ' a' w' k1 k2 k3 => Post.normal k1 k2 k3)
      rw [List.range_eq_range']
      simpa using this
    | true =>
      simp only [step] at h
      split at h
      rotate_left
      · cases h
      rename_i st hsc
      simp only [Option.map_eq_some_iff, Prod.mk.injEq, Prod.exists] at h
      obtain ⟨f, s1, h, rfl, rfl, rfl⟩ := h
      obtain ⟨a1, a2, a3⟩ := region_drawn (P := R.P) (I := R.I) (id := id) hm hr0 hg hI hsc h
      exact ⟨a1, a2, fun ro n ρ a w hro hr hf => a3 ro n ρ a w _ hro hr hf (fun ρ' a' w' k1 k2 k3 => Post.normal k1 k2 k3)⟩
  | seq a b => exact sim_seq hr0 h
  | cond x a b =>
    simp only [step] at h
    split at h
    · rename_i hx
      obtain ⟨a1, a2, a3⟩ := hr0 _ _ _ _ _ _ h
      exact ⟨a1, a2, fun ro n ρ a w hro hr hf => wpIn_cond_true ((evOpd_rel hf hx).scalar rfl) (a3 ro n ρ a w hro hr hf)⟩
    · rename_i hx
      obtain ⟨a1, a2, a3⟩ := hr0 _ _ _ _ _ _ h
      exact ⟨a1, a2, fun ro n ρ a w hro hr hf => wpIn_cond_false ((evOpd_rel hf hx).scalar rfl) (a3 ro n ρ a w hro hr hf)⟩
    · cases h
  | block id a => exact sim_block hr0 h
  | loop a => exact sim_loop hrec h
  | exit id =>
    simp only [step, Option.some.injEq, Prod.mk.injEq] at h
    obtain ⟨rfl, rfl, rfl⟩ := h
    exact ⟨rfl, rfl, fun ro n ρ a w hro hr hf => wpIn_exit ⟨ρ, rfl, Fm.refl _ _ _, hr, hf⟩⟩
  | ret =>
    simp only [step, Option.some.injEq, Prod.mk.injEq] at h
    obtain ⟨rfl, rfl, rfl⟩ := h
    exact ⟨rfl, rfl, fun ro n ρ a w hro hr hf => wpIn_ret ⟨ρ, rfl, Fm.refl _ _ _, hr, hf⟩⟩
  | rangeFunc g ps asg body => exact sim_range (P := R.P) (I := R.I) hr0 hg hI h
  | _ => simp [step] at h

theorem sim_eval {R : Rules} (hm : R.P.follows .mixedOrders = true) (hg : NoGor R.P) (hI : IntrOk R.P R.I) : ∀ n m, m ≤ n → Sim R.P (eval R m) := by
  intro n
  induction n with
  | zero =>
    intro m hmm c fr s e fr' s' h
    have : m = 0 := by omega
    subst this
    simp only [eval] at h
    cases h
  | succ n ih =>
    intro m hmm
    cases m with
    | zero => exact ih 0 (by omega)
    | succ m =>
      intro c fr s e fr' s' h
      exact sim_step hm hg hI (n := m) (fun k hk => ih k (by omega)) h

/-- THE MAIN LAW: what the evaluator says of a call, the machine does. -/
theorem run_sim {R : Rules} (hm : R.P.follows .mixedOrders = true) (hg : NoGor R.P) (hI : IntrOk R.P R.I) {n : Nat} {g : FuncId} {args : List Value} {s s' : St} {v : Value} (h : run R n g args s = some (v, s')) {ρ : Ren} {w : World} {args' : Array Value} (hr : HRel R.P ρ s w) (ha : LRel ρ args args'.toList) :
    CallGot R.P ρ s w g args' v s' :=
  enter_sim (I := R.I) (sim_eval hm hg hI n n (Nat.le_refl _)) hg hI h hr ha
end
end Go.Det
