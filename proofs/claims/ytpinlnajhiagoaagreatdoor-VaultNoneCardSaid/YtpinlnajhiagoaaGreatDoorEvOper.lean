/-
  One operation: what the evaluator says, the machine does.
-/
import Derived.Test.YtpinlnajhiagoaaGreatDoorEvRound
set_option linter.unusedVariables false
set_option linter.unusedSimpArgs false
section
namespace Go.Det
open Go

section
variable {P : Program} {rec : Rec} {I : Intr}

/-- the operands alone -/
noncomputable def only (o : Op) (f : Operand → Option Value) : Operand → Option Value := by
  classical exact fun x => if x ∈ o.operands then f x else none

theorem only_eq (o : Op) (f : Operand → Option Value) : ∀ x ∈ o.operands, only o f x = f x := by
  intro x hx; simp [only, hx]

theorem only_some {o : Op} {f : Operand → Option Value} {x : Operand} {v : Value} (h : only o f x = some v) : x ∈ o.operands ∧ f x = some v := by
  unfold only at h
  split at h
  · rename_i hx; exact ⟨hx, h⟩
  · cases h

theorem wpIn_of_run {o : Oper} {ro : Option Nat} {n : Nat} {a : Act} {w w' : World} {r : Next} {next : Act → World → Prop} {Q : Exit → Act → World → Prop} (hd : ∀ c, o.op ≠ .defer c) (hr : (execOp a.eval o).run P w = .ok r w')
    (h : o.uponIn (FAt ro) n P a next Q (.ok r w')) : o.wpIn (FAt ro) n P a w next Q := by
  refine ⟨fun f _ => trivial, ?_⟩
  rw [Oper.semAt_eq _ _ _ hd, hr]; exact h

theorem wpIn_of_got {ρ : Ren} {s : St} {o : Oper} {ro : Option Nat} {n : Nat} {a : Act} {w : World} {next : Act → World → Prop} {Q : Exit → Act → World → Prop} {v : Value} {s' : St} (hd : ∀ c, o.op ≠ .defer c) (g : Got P ρ s w (execOp a.eval o) v s')
    (hn : ∀ v' ρ' w', VRel ρ' v v' → HRel P ρ' s' w' → Fm ρ s w ρ' s' w' → next (a.put o.dst v') w') : o.wpIn (FAt ro) n P a w next Q := by
  obtain ⟨v', w', ρ', h1, h2, h3, h4⟩ := g
  rcases h1 with h1 | ⟨rfl, h1⟩
  · exact wpIn_of_run hd h1 (hn v' ρ' w' h2 h3 h4)
  · exact wpIn_of_run hd h1 (hn _ ρ' w' h2 h3 h4)

theorem wpIn_call {ρ : Ren} {s : St} {o : Oper} {ro : Option Nat} {n : Nat} {a : Act} {w : World} {next : Act → World → Prop} {Q : Exit → Act → World → Prop} {v : Value} {s' : St} {g : FuncId} {args : Array Value} (hd : ∀ c, o.op ≠ .defer c)
    (he : (execOp a.eval o).run P w = (callFunc g args).run P w) (c : CallGot P ρ s w g args v s') (hn : ∀ v' ρ' w', VRel ρ' v v' → HRel P ρ' s' w' → Fm ρ s w ρ' s' w' → next (a.put o.dst v') w') : o.wpIn (FAt ro) n P a w next Q := by
  rcases c with ⟨v', w', h1, ρ', h2, h3, h4⟩ | ⟨h1, h2⟩
  · exact wpIn_of_run hd (he.trans h1) (hn v' ρ' w' h2 h3 h4)
  · refine wpIn_of_run hd (he.trans h1) ⟨by simp [FAt], (callsIn_at h2).mono fun e w' hq => ?_⟩
    cases e with
    | returned v' => obtain ⟨ρ', a1, a2, a3⟩ := hq; exact hn v' ρ' w' a1 a2 a3
    | panicked c => exact hq.elim
    | outgrown => exact hq.elim

theorem exec_callee {ρ : Ren} {fr : Fr} {a : Act} {c : Call} {dst ty pos after guard} {r : Sum (FuncId × List Value) (Nat × List Value)} (hρ : ∀ x ∈ c.operands, ∀ v, evOpd fr x = some v → VRel ρ v (a.eval x)) (h : callee (evOpd fr) c = some r) :
    (∃ f args args', r = .inl (f, args) ∧ LRel ρ args args'.toList ∧ ∀ w, (execOp a.eval ⟨dst, .call c, ty, pos, after, guard⟩).run P w = (callFunc f args').run P w) ∨
    (∃ l L args args', r = .inr (l, args) ∧ ρ l = some L ∧ LRel ρ args args'.toList ∧ ∀ w, (execOp a.eval ⟨dst, .call c, ty, pos, after, guard⟩).run P w = (Instr.yield L.blk args').run P w) := by
  have hρ' : ∀ x v, only (.call c) (evOpd fr) x = some v → VRel ρ v (a.eval x) := fun x v hx => hρ x (only_some hx).1 v (only_some hx).2
  rw [← callee_congr (ρ1 := only (.call c) (evOpd fr)) (fun x hx => only_eq _ _ x hx)] at h
  unfold callee at h
  split at h
  rotate_left
  · cases h
  rename_i g hc
  split at h
  · rename_i f first cap vs hg hvs
    cases h
    left
    have hv := hρ' _ _ hg
    have ha := vals_arr hρ' hvs
    obtain ⟨first, rfl⟩ : ∃ l : List Value, first = l.toArray := ⟨first.toList, by simp⟩
    obtain ⟨cap, rfl⟩ : ∃ l : List Value, cap = l.toArray := ⟨cap.toList, by simp⟩
    generalize hgv : a.eval g = gv at hv
    cases hv with
    | @func _ _ fa' _ cc' h1 h2 h3 h4 =>
      refine ⟨f, _, fa'.toArray ++ c.args.map a.eval ++ cc'.toArray, rfl, ?_, fun w => ?_⟩
      · have hf : LRel ρ first fa' := ⟨h1, h3⟩
        have hcp : LRel ρ cap cc' := ⟨h2, h4⟩
        simpa using (hf.append ha).append hcp
      · simp only [execOp, resolve, hc, Sem.run_bind, hgv, Deferred.ofValue, Sem.run_pure, Result.andThen_ok, invoke]
  · rename_i l f1 c1 vs hg hvs
    cases h
    right
    have hv := hρ' _ _ hg
    have ha := vals_arr hρ' hvs
    generalize hgv : a.eval g = gv at hv
    cases hv with
    | @yield _ L hl =>
      refine ⟨l, L, _, #[] ++ c.args.map a.eval, rfl, hl, by simpa using ha, fun w => ?_⟩
      simp only [execOp, resolve, hc, Sem.run_bind, hgv, Deferred.ofValue, Sem.run_pure, Result.andThen_ok, invoke]
  · cases h

theorem evOper_sim (hrec : Sim P rec) (hg : NoGor P) (hI : IntrOk P I) {fr fr' : Fr} {s s' : St} {o : Oper} {v : Value} (h : evOper ⟨P, I⟩ rec fr s o = some (v, fr', s')) :
    fr' = { fr with df := fr'.df } ∧ ∀ ro n ρ a w (next : Act → World → Prop) Q, (ro = none ∨ fr.rd = true) → HRel P ρ s w → (∀ x ∈ o.op.operands, ∀ v, evOpd fr x = some v → VRel ρ v (a.eval x)) → DfRel ρ fr.df a.defers →
      (∀ v' ρ' w' ds, VRel ρ' v v' → HRel P ρ' s' w' → Fm ρ s w ρ' s' w' → DfRel ρ' fr'.df ds → next (({ a with defers := ds } : Act).put o.dst v') w') → o.wpIn (FAt ro) n P a w next Q := by
  obtain ⟨dst, op, ty, pos, after, guard⟩ := o
  unfold evOper at h
  simp only at h
  -- an operation that is no call of a function and no defer
  have plain : ∀ {ρ : Ren} {a : Act} {w : World} {ro : Option Nat} {n : Nat} {next : Act → World → Prop} {Q : Exit → Act → World → Prop} {v : Value} {s' : St}, (∀ c, op ≠ .defer c) → Got P ρ s w (execOp a.eval ⟨dst, op, ty, pos, after, guard⟩) v s' → DfRel ρ fr.df a.defers →
      (∀ v' ρ' w' ds, VRel ρ' v v' → HRel P ρ' s' w' → Fm ρ s w ρ' s' w' → DfRel ρ' fr.df ds → next (({ a with defers := ds } : Act).put dst v') w') → Oper.wpIn (FAt ro) n P ⟨dst, op, ty, pos, after, guard⟩ a w next Q := by
    intro ρ a w ro n next Q v s' hd g hdf hn
    exact wpIn_of_got hd g fun v' ρ' w' h1 h2 h3 => hn v' ρ' w' a.defers h1 h2 h3 (hdf.mono h3.le)
  have hval : ∀ {ρ : Ren} {a : Act} {w : World} {v : Value}, HRel P ρ s w → (∀ x ∈ op.operands, ∀ v, evOpd fr x = some v → VRel ρ v (a.eval x)) → evVal P (evOpd fr) s.hp op = some v → Got P ρ s w (execOp a.eval ⟨dst, op, ty, pos, after, guard⟩) v s := by
    intro ρ a w v hr hop hv
    rw [← evVal_congr (ρ1 := only op (evOpd fr)) (fun x hx => only_eq _ _ x hx)] at hv
    obtain ⟨v', h1, h2⟩ := evVal_sim (o := ⟨dst, op, ty, pos, after, guard⟩) hr (fun x v hx => hop x (only_some hx).1 v (only_some hx).2) hv
    exact ⟨v', w, ρ, .inl h1, h2, hr, Fm.refl _ _ _⟩
  have heff : ∀ {ρ : Ren} {a : Act} {w : World} {v : Value} {s' : St}, HRel P ρ s w → (∀ x ∈ op.operands, ∀ v, evOpd fr x = some v → VRel ρ v (a.eval x)) → evEff P (evOpd fr) s op = some (v, s') → Got P ρ s w (execOp a.eval ⟨dst, op, ty, pos, after, guard⟩) v s' := by
    intro ρ a w v s' hr hop hv
    rw [← evEff_congr (ρ1 := only op (evOpd fr)) (fun x hx => only_eq _ _ x hx)] at hv
    exact evEff_sim (o := ⟨dst, op, ty, pos, after, guard⟩) hr (fun x v hx => hop x (only_some hx).1 v (only_some hx).2) hv
  split at h
  · -- defer
    rename_i c
    split at h
    rotate_left
    · cases h
    rename_i g vs hc hvs
    split at h
    rotate_left
    · cases h
    rename_i f first cap hgv
    cases h
    refine ⟨rfl, fun ro n ρ a w next Q hro hr hop hdf hn => ?_⟩
    cases hrd : fr.rd with
    | true => rw [hrd] at hvs; cases hvs
    | false =>
    rw [hrd] at hvs hro
    simp only [cond_false] at hvs
    have hro : ro = none := by simpa using hro
    subst hro
    have hρ' : ∀ x v, only (.defer c) (evOpd fr) x = some v → VRel ρ v (a.eval x) := fun x v hx => hop x (only_some hx).1 v (only_some hx).2
    have ho1 := callArgs (c := c) (ρ1 := only (.defer c) (evOpd fr)) (ρ2 := evOpd fr) (fun x hx => only_eq (.defer c) _ x hx)
    rw [← ho1.2 g hc] at hgv
    rw [← vals_congr ho1.1] at hvs
    have hv := hρ' _ _ hgv
    have ha := vals_arr hρ' hvs
    obtain ⟨first, rfl⟩ : ∃ l : List Value, first = l.toArray := ⟨first.toList, by simp⟩
    obtain ⟨cap, rfl⟩ : ∃ l : List Value, cap = l.toArray := ⟨cap.toList, by simp⟩
    generalize hgv' : a.eval g = gv at hv
    cases hv with
    | @func _ _ fa' _ cc' h1 h2 h3 h4 =>
      have hf : LRel ρ first fa' := ⟨h1, h3⟩
      have hcp : LRel ρ cap cc' := ⟨h2, h4⟩
      refine ⟨fun f _ => trivial, ?_⟩
      have run : (execOp a.eval ⟨dst, .defer c, ty, pos, after, guard⟩).run P w = .ok (.defer { target := .fn (.func f) cc'.toArray, args := fa'.toArray ++ c.args.map a.eval }) w := by
        simp only [execOp, resolve, hc, Sem.run_bind, hgv', Deferred.ofValue, Sem.run_pure, Result.andThen_ok]
      have e0 : (FAt none).round = none := rfl
      rw [e0, Oper.semAt_none, run]
      exact hn undef ρ w _ (.undef _) hr (Fm.refl _ _ _) (.fn (by simpa using hcp) (by simpa using hf.append ha) hdf)
  · -- calls
    rename_i c
    split at h
    · rename_i b hb
      split at h
      · rename_i v1 s1 he
        cases h
        exact ⟨rfl, fun ro n ρ a w next Q hro hr hop hdf hn => plain (by simp) (heff hr hop he) hdf hn⟩
      · simp only [Option.map_eq_some_iff, Prod.mk.injEq] at h
        obtain ⟨v1, he, rfl, rfl, rfl⟩ := h
        exact ⟨rfl, fun ro n ρ a w next Q hro hr hop hdf hn => plain (by simp) (hval hr hop he) hdf hn⟩
    · split at h
      · rename_i f args hcl
        simp only [Option.map_eq_some_iff, Prod.mk.injEq, Prod.exists] at h
        obtain ⟨v1, s1, he, rfl, rfl, rfl⟩ := h
        refine ⟨rfl, fun ro n ρ a w next Q hro hr hop hdf hn => ?_⟩
        rcases exec_callee (P := P) (dst := dst) (ty := ty) (pos := pos) (after := after) (guard := guard) hop hcl with ⟨f', ar, ar', e1, e2, e3⟩ | ⟨l, L, ar, ar', e1, _⟩
        · cases e1
          exact wpIn_call (by simp) (e3 w) (enter_sim hrec hg hI he hr e2) fun v' ρ' w' h1 h2 h3 => hn v' ρ' w' a.defers h1 h2 h3 (hdf.mono h3.le)
        · cases e1
      · rename_i l args hcl
        simp only [Option.map_eq_some_iff, Prod.mk.injEq, Prod.exists] at h
        obtain ⟨v1, s1, he, rfl, rfl, rfl⟩ := h
        refine ⟨rfl, fun ro n ρ a w next Q hro hr hop hdf hn => ?_⟩
        rcases exec_callee (P := P) (dst := dst) (ty := ty) (pos := pos) (after := after) (guard := guard) hop hcl with ⟨f', ar, ar', e1, _⟩ | ⟨l', L, ar, ar', e1, e2, e3, e4⟩
        · cases e1
        · cases e1
          obtain ⟨f, tmps, assign, body, k1, k2⟩ := round_sim hrec he hr e2 e3 ro (n - 1)
          refine wpIn_of_run (by simp) ((e4 w).trans k1) ⟨by simp [FAt], k2.mono fun e w' hq => ?_⟩
          cases e with
          | returned v' => obtain ⟨ρ', a1, a2, a3⟩ := hq; exact hn v' ρ' w' a.defers a1 a2 a3 (hdf.mono a3.le)
          | panicked c => exact hq.elim
          | outgrown => exact hq.elim
      · cases h
  · -- the others
    rename_i hnd hnc
    have hd : ∀ c, op ≠ .defer c := fun c e => hnd c e
    split at h
    · rename_i v1 he
      cases h
      exact ⟨rfl, fun ro n ρ a w next Q hro hr hop hdf hn => plain hd (hval hr hop he) hdf hn⟩
    · split at h
      · rename_i obj f he
        split at h
        rotate_left
        · cases h
        rename_i b s1 hnew
        cases h
        refine ⟨rfl, fun ro n ρ a w next Q hro hr hop hdf hn => ?_⟩
        rw [← evNew_congr (ρ1 := only op (evOpd fr)) (fun x hx => only_eq _ _ x hx)] at he
        obtain ⟨o', ex, v', w', hm⟩ := evNew_sim (o := ⟨dst, op, ty, pos, after, guard⟩) (ρr := a.eval) (fun x v hx => hop x (only_some hx).1 v (only_some hx).2) he w
        obtain ⟨rfl, k1, k2, k3⟩ := hr.new hm hnew
        exact plain hd ⟨v', w', _, .inl hm.run, k3, k1, k2⟩ hdf hn
      · split at h
        rotate_left
        · cases h
        rename_i v1 s1 he
        cases h
        exact ⟨rfl, fun ro n ρ a w next Q hro hr hop hdf hn => plain hd (heff hr hop he) hdf hn⟩
end
end Go.Det
end
section
namespace Go.Det
open Go

section
variable {P : Program} {rec : Rec} {I : Intr}

/-- the slots that an operation looks at are related -/
def Looks (ρ : Ren) (ops : List Oper) (fr : Fr) (a : Act) (o : Oper) : Prop := ∀ t v, t ∈ looks ops o → fr.get t = some v → VRel ρ v (a.tmps.getD t undef)

theorem Looks.of_slot {ρ : Ren} {ops : List Oper} {fr : Fr} {a : Act} {o : Oper} (h : SlotRel ρ fr.tm a.tmps) : Looks ρ ops fr a o := fun _ _ _ hv => Fr.get_sim h hv

theorem looks_opd {ops : List Oper} {o : Oper} {t : Nat} (h : Operand.tmp t ∈ o.op.operands) : t ∈ looks ops o :=
  List.mem_append_left _ (List.mem_filterMap.2 ⟨.tmp t, by simpa using h, rfl⟩)

theorem Looks.opd {ρ : Ren} {ops : List Oper} {fr : Fr} {a : Act} {o : Oper} (h : Looks ρ ops fr a o) : ∀ x ∈ o.op.operands, ∀ v, evOpd fr x = some v → VRel ρ v (a.eval x) := by
  intro x hx v hv
  cases x with
  | tmp t => exact h t v (looks_opd hx) hv
  | const c =>
    simp only [evOpd] at hv
    cases hc : plainConst c with
    | false => simp [hc] at hv
    | true => simp [hc] at hv; subst hv; exact .of_const hc
  | global g => simp [evOpd] at hv
  | func f => simp [evOpd] at hv; subst hv; exact .mkFunc f (.nil ρ) (.nil ρ)

theorem wanted_sim {ρ : Ren} {ops : Array Oper} {fr : Fr} {a : Act} {o : Oper} {b : Bool} (h : Looks ρ ops.toList fr a o) (hw : wanted ops.toList fr o = some b) : Region.wanted o (yielded ops a.tmps) = b := by
  unfold wanted at hw
  unfold Region.wanted
  cases hg : o.guard with
  | none => rw [hg] at hw; simpa using hw
  | some jw =>
    obtain ⟨j, want⟩ := jw
    rw [hg] at hw
    simp only at hw ⊢
    rw [lget_eq, Array.getElem?_toList] at hw
    cases ht : (ops[j]?).bind (·.dst) with
    | none => rw [ht] at hw; cases hw
    | some t =>
      rw [ht] at hw
      simp only at hw
      have hl : t ∈ looks ops.toList o := by
        refine List.mem_append_right _ ?_
        rw [hg]
        simp only [lget_eq, Array.getElem?_toList, ht]
        simp
      cases hv : fr.get t with
      | none => rw [hv] at hw; cases hw
      | some v =>
        rw [hv] at hw
        have hr := h t v hl hv
        have hy : yielded ops a.tmps j = match a.tmps[t]? with
          | some (.bool b) => some b
          | _ => none := by
          unfold yielded
          rw [ht]; rfl
        rw [hy]
        rw [Array.getD_eq_getD_getElem?] at hr
        cases v with
        | bool c =>
          simp only [Option.some.injEq] at hw
          subst hw
          cases hq : a.tmps[t]? with
          | none =>
            rw [hq] at hr
            have : Option.getD (none : Option Value) undef = undef := rfl
            rw [this] at hr
            cases hr
          | some u =>
            rw [hq] at hr
            simp only [Option.getD_some] at hr
            cases hr
            cases c <;> cases want <;> rfl
        | _ =>
          all_goals
            simp only [Option.some.injEq] at hw
            subst hw
            cases hq : a.tmps[t]? with
            | none => rfl
            | some u =>
              rw [hq] at hr
              simp only [Option.getD_some] at hr
              cases hr <;> rfl

theorem evStep_inv {ops : List Oper} {fr fr' : Fr} {s s' : St} {o : Oper} (h : evStep ⟨P, I⟩ rec ops fr s o = some (fr', s')) :
    (∃ v fr1, wanted ops fr o = some true ∧ evOper ⟨P, I⟩ rec fr s o = some (v, fr1, s') ∧ fr1.set o.dst v = some fr') ∨
    (wanted ops fr o = some false ∧ s' = s ∧ fr.set o.dst undef = some fr') := by
  unfold evStep at h
  split at h
  · rename_i hw
    split at h
    · rename_i v fr1 s1 he
      simp only [Option.map_eq_some_iff, Prod.mk.injEq] at h
      obtain ⟨f, hf, rfl, rfl⟩ := h
      exact .inl ⟨v, fr1, hw, he, hf⟩
    · cases h
  · rename_i hw
    simp only [Option.map_eq_some_iff, Prod.mk.injEq] at h
    obtain ⟨f, hf, rfl, rfl⟩ := h
    exact .inr ⟨hw, rfl, hf⟩
  · cases h

theorem Fr.set_inv {fr fr' : Fr} {d : Option Nat} {v : Value} (h : fr.set d v = some fr') : fr'.rd = fr.rd ∧ fr'.nt = fr.nt ∧ fr'.df = fr.df ∧
    ((d = none ∧ fr'.tm = fr.tm) ∨ ∃ t, d = some t ∧ t < fr.nt ∧ fr'.tm = fr.tm.set SD t v) := by
  cases d with
  | none => simp [Fr.set] at h; subst h; exact ⟨rfl, rfl, rfl, .inl ⟨rfl, rfl⟩⟩
  | some d =>
    simp only [Fr.set] at h
    cases hb : Nat.blt d fr.nt with
    | false => rw [hb] at h; cases h
    | true => rw [hb] at h; cases h; exact ⟨rfl, rfl, rfl, .inr ⟨d, rfl, by simpa using hb, rfl⟩⟩

theorem evStep_sim (hrec : Sim P rec) (hg : NoGor P) (hI : IntrOk P I) {ops : Array Oper} {fr fr' : Fr} {s s' : St} {o : Oper} {i : Nat} (ho : ops[i]? = some o) (h : evStep ⟨P, I⟩ rec ops.toList fr s o = some (fr', s')) :
    fr'.rd = fr.rd ∧ fr'.nt = fr.nt ∧ ∃ v, ((o.dst = none ∧ fr'.tm = fr.tm) ∨ ∃ t, o.dst = some t ∧ t < fr.nt ∧ fr'.tm = fr.tm.set SD t v) ∧
    ∀ ro n ρ a w (K : Act → World → Prop) Q, (ro = none ∨ fr.rd = true) → HRel P ρ s w → Looks ρ ops.toList fr a o → DfRel ρ fr.df a.defers →
      (∀ v' ρ' w' ds, VRel ρ' v v' → HRel P ρ' s' w' → Fm ρ s w ρ' s' w' → DfRel ρ' fr'.df ds → K (({ a with defers := ds } : Act).put o.dst v') w') → wpOpIn (FAt ro) n P ops Q i K a w := by
  rcases evStep_inv h with ⟨v, fr1, hw, he, hs⟩ | ⟨hw, rfl, hs⟩
  · obtain ⟨e1, e2⟩ := evOper_sim hrec hg hI he
    obtain ⟨s1, s2, s3, s4⟩ := Fr.set_inv hs
    have t1 : fr1.rd = fr.rd := by rw [e1]
    have t2 : fr1.nt = fr.nt := by rw [e1]
    have t3 : fr1.tm = fr.tm := by rw [e1]
    refine ⟨s1.trans t1, s2.trans t2, v, by rw [← t2, ← t3]; exact s4, fun ro n ρ a w K Q hro hr hl hdf hK => ?_⟩
    unfold wpOpIn
    simp only [ho, wanted_sim hl hw, if_true]
    refine e2 ro n ρ a w K Q hro hr hl.opd hdf fun v' ρ' w' ds k1 k2 k3 k4 => hK v' ρ' w' ds k1 k2 k3 (by rw [s3]; exact k4)
  · obtain ⟨s1, s2, s3, s4⟩ := Fr.set_inv hs
    refine ⟨s1, s2, undef, s4, fun ro n ρ a w K Q hro hr hl hdf hK => ?_⟩
    unfold wpOpIn
    simp only [ho, wanted_sim hl hw, Bool.false_eq_true, if_false]
    exact ⟨fun f _ => trivial, hK undef ρ w a.defers (.undef _) hr (Fm.refl _ _ _) (by rw [s3]; exact hdf)⟩

theorem FRel.step {ρ ρ' : Ren} {fr fr' : Fr} {a : Act} {d : Option Nat} {v v' : Value} {ds : List Deferred} (h : FRel ρ fr a) (hle : ρ.le ρ') (hnt : fr'.nt = fr.nt) (hs : (d = none ∧ fr'.tm = fr.tm) ∨ ∃ t, d = some t ∧ t < fr.nt ∧ fr'.tm = fr.tm.set SD t v) (hv : VRel ρ' v v')
    (hdf : DfRel ρ' fr'.df ds) : FRel ρ' fr' (({ a with defers := ds } : Act).put d v') := by
  rcases hs with ⟨rfl, ht⟩ | ⟨t, rfl, hlt, ht⟩
  · exact ⟨by rw [ht]; exact h.slot.mono hle, by rw [hnt]; exact h.size, by rw [hnt]; exact h.nt, hdf⟩
  · refine ⟨?_, by rw [hnt]; simp [Act.put, h.size], by rw [hnt]; exact h.nt, hdf⟩
    rw [ht]
    exact (h.slot.mono hle).put (by rw [h.size]; exact hlt) (by rw [h.size]; exact h.nt) hv

theorem evOps_sim (hrec : Sim P rec) (hg : NoGor P) (hI : IntrOk P I) {ops : Array Oper} : ∀ {rem : List Oper} {k : Nat} {fr fr' : Fr} {s s' : St}, rem = ops.toList.drop k → evOps ⟨P, I⟩ rec ops.toList rem fr s = some (fr', s') →
    fr'.rd = fr.rd ∧ fr'.nt = fr.nt ∧ ∀ ro n ρ a w Q, (ro = none ∨ fr.rd = true) → HRel P ρ s w → FRel ρ fr a → (∀ ρ' a' w', HRel P ρ' s' w' → Fm ρ s w ρ' s' w' → FRel ρ' fr' a' → Q .normal a' w') →
      wpOpsIn (FAt ro) n P ops Q (List.range' k (ops.size - k)) a w
  | [], k, fr, fr', s, s', hk, h => by
    simp only [evOps, Option.some.injEq, Prod.mk.injEq] at h
    obtain ⟨rfl, rfl⟩ := h
    refine ⟨rfl, rfl, fun ro n ρ a w Q hro hr hf hQ => ?_⟩
    have : ops.size - k = 0 := by
      have := congrArg List.length hk
      simp at this; omega
    rw [this]
    exact hQ ρ a w hr (Fm.refl _ _ _) hf
  | o :: rem, k, fr, fr', s, s', hk, h => by
    simp only [evOps] at h
    split at h
    rotate_left
    · cases h
    rename_i fr1 s1 hs
    have hlt : k < ops.size := by
      have := congrArg List.length hk
      simp at this; omega
    have ho : ops[k]? = some o := by
      rw [← Array.getElem?_toList]
      have : (ops.toList.drop k)[0]? = some o := by rw [← hk]; rfl
      simpa using this
    have hrem : rem = ops.toList.drop (k + 1) := by
      have : (ops.toList.drop k).drop 1 = rem := by rw [← hk]; rfl
      rw [← this, List.drop_drop]
    obtain ⟨a1, a2, v, a3, a4⟩ := evStep_sim hrec hg hI ho hs
    obtain ⟨b1, b2, b3⟩ := evOps_sim hrec hg hI hrem h
    refine ⟨b1.trans a1, b2.trans a2, fun ro n ρ a w Q hro hr hf hQ => ?_⟩
    have e : ops.size - k = (ops.size - (k + 1)) + 1 := by omega
    rw [e, List.range'_succ, wpOpsIn_cons]
    refine a4 ro n ρ a w _ Q hro hr (.of_slot hf.slot) hf.df fun v' ρ' w' ds k1 k2 k3 k4 => ?_
    exact b3 ro n ρ' _ w' Q (by rw [a1]; exact hro) k2 (hf.step k3.le a2 a3 k1 k4) fun ρ2 a2 w2 m1 m2 m3 => hQ ρ2 a2 w2 m1 (Fm.trans hr k3 m2) m3
end
end Go.Det
end
