/-
  A round of a range over a function; one operation.
-/
import Derived.Test.YtpinlnajhiagoaaGreatDoorEvCall
set_option linter.unusedVariables false
set_option linter.unusedSimpArgs false
namespace Go.Det
open Go

section
variable {P : Program} {ρ : Ren} {s : St} {w : World} {rec : Rec} {I : Intr}

theorem setLoop_sim (hr : HRel P ρ s w) {l : Nat} {L : Loc} (hl : ρ l = some L) {was ready : Bool} {pend : Option Code} {s2 : St} (h : setLoop s l was ready pend = some s2) (hp : ready = true → pend = none) :
    ∃ r : Loop, w.heap[L.blk]? = some (.loop r) ∧ (was = true → r.state = .ready ∧ r.pending = none) ∧
      HRel P ρ s2 { w with heap := w.heap.setIfInBounds L.blk (.loop { r with state := stateOf ready pend, pending := pend }) } ∧
      Fm ρ s w ρ s2 { w with heap := w.heap.setIfInBounds L.blk (.loop { r with state := stateOf ready pend, pending := pend }) } := by
  unfold setLoop at h
  split at h
  rotate_left
  · cases h
  rename_i fn tm nt ps asg body rdy pd d ho
  cases hc : (!was || rdy) with
  | false => rw [hc] at h; cases h
  | true =>
  rw [hc] at h
  cases h
  obtain ⟨o', hw, r, rfl, h1, h2, h3, h4, h5, h6, h7, h8, h9, _⟩ := hr.obj _ _ _ ho hl
  have hlt := (Array.getElem?_eq_some_iff.1 hw).1
  obtain ⟨k1, k2⟩ := hr.upd (o2 := .loop fn tm nt ps asg body ready pend d) (o2' := .loop { r with state := stateOf ready pend, pending := pend })
    (w' := { w with heap := w.heap.setIfInBounds L.blk (.loop { r with state := stateOf ready pend, pending := pend }) }) ho hl (by simp [hlt]) (fun k hk => by simp [Ne.symm hk]) (by simp) rfl rfl rfl
    ⟨_, rfl, h1, h2, h3, h4, h5, rfl, rfl, h8, hp, rfl⟩
  refine ⟨r, hw, fun hwas => ?_, k1, k2⟩
  subst hwas
  simp at hc
  subst hc
  have := h9 rfl
  subst this
  exact ⟨h6, h7⟩

theorem zipSet : ∀ {ps : List Nat} {args args' : List Value} {tm : Tr SD Value} {tmps : Array Value}, LRel ρ args args' → SlotRel ρ tm tmps → tmps.size ≤ 16 ^ SD → (∀ p ∈ ps, p < tmps.size) →
    SlotRel ρ ((ps.zip args).foldl (fun t (p, v) => t.set SD p v) tm) ((ps.zip args').foldl (fun t (p, v) => t.setIfInBounds p v) tmps) ∧
    ((ps.zip args').foldl (fun t (p, v) => t.setIfInBounds p v) tmps).size = tmps.size
  | [], _, _, _, _, _, h, _, _ => ⟨h, rfl⟩
  | p :: ps, [], args', tm, tmps, ha, h, _, _ => by
    have := ha.nil_left; subst this
    exact ⟨h, rfl⟩
  | p :: ps, v :: args, args', tm, tmps, ha, h, hs, hp => by
    obtain ⟨v', t', rfl, hv, ht⟩ := ha.uncons
    have hlt : p < tmps.size := hp p (by simp)
    obtain ⟨h1, h2⟩ := zipSet (ps := ps) (tm := tm.set SD p v) (tmps := tmps.setIfInBounds p v') ht (h.put hlt hs hv) (by simpa using hs) (fun q hq => by simpa using hp q (by simp [hq]))
    exact ⟨h1, by rw [List.zip_cons_cons, List.foldl_cons, h2]; simp⟩

theorem round_sim (hrec : Sim P rec) {l : Nat} {L : Loc} {args : List Value} {args' : Array Value} {v : Value} {s' : St} (h : round rec l args s = some (v, s')) (hr : HRel P ρ s w) (hl : ρ l = some L) (ha : LRel ρ args args'.toList) (ro : Option Nat) (n : Nat) :
    ∃ f tmps assign body, (Instr.yield L.blk args').run P w = .ok (.round L.blk f tmps assign body) w ∧ RoundIn (FAt ro) n P L.blk f tmps assign body w (After P ρ s w v s') := by
  unfold round at h
  split at h
  rotate_left
  · cases h
  rename_i fn tm nt ps asg body rdy pd d ho
  cases hc : (Nat.beq ps.length args.length && ps.all fun p => Nat.blt p nt) with
  | false => rw [hc] at h; cases h
  | true =>
  rw [hc] at h
  simp only [cond_true] at h
  simp only [Bool.and_eq_true, List.all_eq_true, Nat.blt_eq] at hc
  obtain ⟨hlen, hps⟩ := hc
  have hlen := Nat.eq_of_beq_eq_true hlen
  obtain ⟨o', hw, r, rfl, h1, h2, h3, h4, h5, h6, h7, h8, h9, _⟩ := hr.obj _ _ _ ho hl
  split at h
  rotate_left
  · cases h
  rename_i fr s1 hasg
  split at h
  rotate_left
  · cases h
  rename_i s2 hset
  split at h
  rotate_left
  · cases h
  rename_i e fr' s3 hbody
  have hsz : args'.size = r.params.size := by
    have a1 := ha.1
    have a2 : r.params.toList.length = ps.length := by rw [h3]
    simp at a1 a2
    omega
  refine ⟨r.fn, (r.params.zip args').foldl (fun tmps (t, a) => tmps.setIfInBounds t a) r.tmps, r.assign, r.body, ?_, ?_⟩
  · have hgl : (Instr.getLoop L.blk).run P w = .ok r w := by simp [Instr.getLoop, getObj, Sem.run, hw]
    simp only [Instr.yield, Sem.run_bind, hgl, Result.andThen_ok]
    rw [if_neg (by rw [hsz]; simp)]
    rfl
  · obtain ⟨z1, z2⟩ := zipSet (ps := ps) (args := args) (args' := args'.toList) ha h1 (by rw [h2]; exact h8) (fun p hp => by rw [h2]; exact hps p hp)
    have hz : (r.params.zip args').foldl (fun tmps (t, a) => tmps.setIfInBounds t a) r.tmps = (ps.zip args'.toList).foldl (fun t (p, v) => t.setIfInBounds p v) r.tmps := by
      rw [← h3, ← Array.foldl_toList, Array.toList_zip]
    obtain ⟨q1, q2, q3⟩ := hrec _ _ _ _ _ _ hasg
    refine roundIn_of_wpIn (F := FAt ro) trivial ?_
    rw [h4, h5]
    refine wpIn_mono (q3 (some L.blk) n ρ { tmps := (r.params.zip args').foldl (fun tmps (t, a) => tmps.setIfInBounds t a) r.tmps, defers := [] } w (.inr rfl) hr ⟨by rw [hz]; exact z1, by simp only; rw [hz, z2, h2], h8, .nil⟩) ?_
    intro e2 a1 w1 hq
    obtain ⟨ρ1, x1, x2, x3, x4⟩ := hq
    cases x1
    obtain ⟨r1, y1, y2, y3, y4⟩ := setLoop_sim x3 (x2.le _ _ hl) hset (by simp)
    obtain ⟨y5, y6⟩ := y2 rfl
    have hgl1 : (Instr.getLoop L.blk).run P w1 = .ok r1 w1 := by simp [Instr.getLoop, getObj, Sem.run, y1]
    have hbeg : (Instr.beginRound L.blk).run P w1 = .ok () { w1 with heap := w1.heap.setIfInBounds L.blk (.loop { r1 with state := stateOf false none, pending := none }) } := by
      have e1 : ({ r1 with state := stateOf false none, pending := none } : Loop) = { r1 with state := .busy } := by
        have : stateOf false none = .busy := rfl
        rw [this, ← y6]
      rw [e1]
      simp only [Instr.beginRound, Sem.run_bind, hgl1, Result.andThen_ok]
      simp [setObj, Sem.run, y1, y5]
    refine ⟨_, hbeg, ?_⟩
    obtain ⟨b1, b2, b3⟩ := hrec _ _ _ _ _ _ hbody
    refine wpIn_mono (b3 (some L.blk) n ρ1 a1 _ (.inr (by rw [q1])) y3 x4) ?_
    intro e3 a2 w3 hq
    obtain ⟨ρ2, u1, u2, u3, u4⟩ := hq
    have hl2 : ρ2 l = some L := u2.le _ _ (x2.le _ _ hl)
    have fm : Fm ρ s w ρ2 s3 w3 := Fm.trans hr (Fm.trans hr x2 y4) u2
    -- the round's end
    have fin : ∀ (b : Bool) (pend : Option Code), (b = pend.isNone) → (setLoop s3 l false b pend).map (fun s4 => ((.bool b : Value), s4)) = some (v, s') →
        ∃ v' w', (Instr.endRound L.blk pend).run P w3 = .ok v' w' ∧ After P ρ s w v s' (.returned v') w' := by
      intro b pend hb hm
      simp only [Option.map_eq_some_iff, Prod.mk.injEq] at hm
      obtain ⟨s4, hs4, rfl, rfl⟩ := hm
      obtain ⟨r2, g1, _, g3, g4⟩ := setLoop_sim u3 hl2 hs4 (fun hb' => by subst hb'; cases pend with
        | none => rfl
        | some _ => simp at hb)
      have hgl2 : (Instr.getLoop L.blk).run P w3 = .ok r2 w3 := by simp [Instr.getLoop, getObj, Sem.run, g1]
      refine ⟨.bool b, _, ?_, ρ2, .bool b, g3, Fm.trans hr fm g4⟩
      simp only [Instr.endRound, Sem.run_bind, hgl2, Result.andThen_ok]
      cases pend with
      | none => simp at hb; subst hb; simp [setObj, Sem.run, g1, stateOf]
      | some c => simp at hb; subst hb; simp [setObj, Sem.run, g1, stateOf]
    cases e with
    | normal =>
      cases u1
      exact fin true none rfl h
    | ret =>
      cases u1
      exact fin false (some .ret) rfl h
    | exit id =>
      cases u1
      exact fin false (some (.exit id)) rfl h
end
end Go.Det
