/-
  Calls: a function entered, its deferred calls, its results; a round; one operation.
-/
import Derived.Test.YtpinlnajhiagoaaGreatDoorEvCong
import Derived.RangeFuncLeaves
set_option linter.unusedVariables false
set_option linter.unusedSimpArgs false
section
namespace Go.Det
open Go

def FAt (ro : Option Nat) : Fence := { fn := fun _ => True, depth := none, alive := false, round := ro }
theorem room_at (ro : Option Nat) (n : Nat) : (FAt ro).room n := fun _ h => by simp [FAt] at h

theorem callsIn_at {ro : Option Nat} {n m : Nat} {P : Program} {f : FuncId} {args : Array Value} {w : World} {R : Ending → World → Prop} (h : CallsIn (FAt none) m P f args w R) : CallsIn (FAt ro) n P f args w R :=
  ⟨trivial, fun cs _ => h.2 cs (room_at _ _)⟩

def ExRel : Ex → Exit → Prop
  | .normal, e => e = .normal
  | .exit id, e => e = .exit id
  | .ret, e => e = .ret

abbrev Rec := Code → Fr → St → Option (Ex × Fr × St)

def Sim (P : Program) (rec : Rec) : Prop := ∀ c fr s e fr' s', rec c fr s = some (e, fr', s') → fr'.rd = fr.rd ∧ fr'.nt = fr.nt ∧
  ∀ ro n ρ a w, (ro = none ∨ fr.rd = true) → HRel P ρ s w → FRel ρ fr a →
    c.wpIn (FAt ro) n P (fun e2 a' w' => ∃ ρ', ExRel e e2 ∧ Fm ρ s w ρ' s' w' ∧ HRel P ρ' s' w' ∧ FRel ρ' fr' a') a w

/-- what a call comes to -/
def After (P : Program) (ρ : Ren) (s : St) (w : World) (v : Value) (s' : St) : Ending → World → Prop
  | .returned v', w' => ∃ ρ', VRel ρ' v v' ∧ HRel P ρ' s' w' ∧ Fm ρ s w ρ' s' w'
  | _, _ => False

def CallGot (P : Program) (ρ : Ren) (s : St) (w : World) (g : FuncId) (args' : Array Value) (v : Value) (s' : St) : Prop :=
  (∃ v' w', (callFunc g args').run P w = .ok (.value v') w' ∧ After P ρ s w v s' (.returned v') w') ∨
  ((callFunc g args').run P w = .ok (.enter g args') w ∧ CallsIn (FAt none) 0 P g args' w (After P ρ s w v s'))

def IntrOk (P : Program) (I : Intr) : Prop := ∀ g args s v s', I g args s = some (v, s') → ∀ ρ w (args' : Array Value), HRel P ρ s w → LRel ρ args args'.toList → CallGot P ρ s w g args' v s'

def NoGor (P : Program) : Prop := ∀ (g : Nat) fn, P.funcs[g]? = some fn → fn.body.isSome = true → (fn.name == "runtime.NumGoroutine") = false

section
variable {P : Program} {ρ : Ren} {s : St} {w : World}

theorem Fm.le_world {ρ' : Ren} {s' : St} {w' : World} (h : Fm ρ s w ρ' s' w') : ρ.le ρ' := h.le

theorem HRel.del (hr : HRel P ρ s w) {b : Nat} {o : DObj} {l : Loc} {w' : World} (hb : hget s.hp b = some o) (hl : ρ b = some l) (h2 : ∀ k, k ≠ l.blk → w'.heap[k]? = w.heap[k]?)
    (hsz : w'.heap.size = w.heap.size) (ht : w'.tape = w.tape) (hos : w'.os = w.os) (hout : w'.output = w.output) :
    HRel P ρ { s with hp := s.hp.del HD b } w' ∧ Fm ρ s w ρ { s with hp := s.hp.del HD b } w' := by
  have hbn : b < 16 ^ HD := Nat.lt_of_lt_of_le (hr.dom b l hl) hr.nx
  have oth : ∀ c, c < 16 ^ HD → c ≠ b → hget (s.hp.del HD b) c = hget s.hp c := fun c hc hne => Tr.get_del_other HD _ _ _ hbn hc (Ne.symm hne)
  have same : hget (s.hp.del HD b) b = none := Tr.get_del_same HD _ _
  have live : ∀ c p, c < 16 ^ HD → hget (s.hp.del HD b) c = some p → c ≠ b ∧ hget s.hp c = some p := by
    intro c p hc h
    have hne : c ≠ b := fun e => by subst e; rw [same] at h; cases h
    exact ⟨hne, by rw [← oth c hc hne]; exact h⟩
  have lt : ∀ c m, ρ c = some m → c < 16 ^ HD := fun c m h => Nat.lt_of_lt_of_le (hr.dom c m h) hr.nx
  refine ⟨⟨?_, ?_, hr.dom, hr.nx, ?_, hr.tab.of fun g hg => h2 g (fun e => hr.away b o l hb hl (by rw [hg, e])), fun c p m hc hm => hr.away c p m (live c p (lt c m hm) hc).2 hm⟩, ⟨Ren.le_refl ρ, Nat.le_refl _, (fun c m h k => by rw [k] at h; cases h), ?_, ?_, ?_, by rw [hsz]; exact Nat.le_refl _, ht, hos, hout⟩⟩
  · intro c p m hc hm
    obtain ⟨hne, h⟩ := live c p (lt c m hm) hc
    obtain ⟨p', hp1, hp2⟩ := hr.obj c p m h hm
    exact ⟨p', by rw [h2 _ (fun e' => hne (hr.inj c b p o m l h hb hm hl e'))]; exact hp1, hp2⟩
  · intro c d p q l1 l2 hc hd hl1 hl2 he
    exact hr.inj c d p q l1 l2 (live c p (lt c l1 hl1) hc).2 (live d q (lt d l2 hl2) hd).2 hl1 hl2 he
  · intro c hc hlt
    by_cases e : c = b
    · subst e; exact same
    · simp only; rw [oth c hlt e]; exact hr.top c hc hlt
  · intro k hk hn
    exact h2 k (fun e => hn b o l hb hl e.symm)
  · intro c hc hn
    exact oth c (Nat.lt_of_lt_of_le hc hr.nx) (fun e => by subst e; rw [hl] at hn; cases hn)
  · intro c hc hn
    simp only
    by_cases e : c = b
    · subst e; exact same
    · rw [oth c (Nat.lt_of_lt_of_le hc hr.nx) e]; exact hn

/-! ### Entering -/
theorem fromList_get (l : List Value) : l.length ≤ 16 ^ SD → ∀ t, t < 16 ^ SD → (fromList l).get SD t = l[t]? := by
  have key : ∀ (m : List Value) (k : Nat) (tr : Tr SD Value) (pre : List Value), pre.length = k → k + m.length ≤ 16 ^ SD → (∀ t, t < 16 ^ SD → tr.get SD t = pre[t]?) →
      ∀ t, t < 16 ^ SD → (m.foldl (fun (x : Nat × Tr SD Value) v => (x.1 + 1, x.2.set SD x.1 v)) (k, tr)).2.get SD t = (pre ++ m)[t]? := by
    intro m
    induction m with
    | nil => intro k tr pre _ _ h t ht; simpa using h t ht
    | cons v m ih =>
      intro k tr pre hk hle h t ht
      rw [List.foldl_cons]
      have := ih (k + 1) (tr.set SD k v) (pre ++ [v]) (by simp [hk]) (by simp at hle; omega) (fun u hu => ?_) t ht
      · simpa using this
      · by_cases e : u = k
        · subst e; rw [Tr.get_set_same]; simp [← hk]
        · rw [Tr.get_set_other SD tr k u v (by simp at hle; omega) hu (Ne.symm e), h u hu]
          by_cases hlt : u < pre.length
          · rw [List.getElem?_append_left hlt]
          · rw [List.getElem?_append_right (by omega), List.getElem?_eq_none (by omega), List.getElem?_eq_none (by simp; omega)]
  intro hl t ht
  have := key l 0 (Tr.nil SD) [] rfl (by omega) (fun t _ => by rw [Tr.get_nil]; simp) t ht
  simpa [fromList] using this

theorem enterFr_sim {fn : Func} {args : List Value} {args' : Array Value} {fr : Fr} (h : enterFr fn args = some fr) (ha : LRel ρ args args'.toList) :
    fr.rd = false ∧ fr.nt = fn.ntmps ∧ FRel ρ fr { tmps := args' ++ Array.replicate (fn.ntmps - args'.size) undef, defers := [] } := by
  unfold enterFr at h
  cases hc : (Nat.ble fn.ntmps (16 ^ SD) && Nat.ble args.length fn.ntmps) with
  | false => rw [hc] at h; cases h
  | true =>
    rw [hc] at h
    cases h
    simp only [Bool.and_eq_true, Nat.ble_eq] at hc
    have hsz : args'.size = args.length := by have := ha.1; simpa using this.symm
    refine ⟨rfl, rfl, ⟨fun t v ht hv => ?_, by simp [hsz]; omega, hc.1, .nil⟩⟩
    simp only at hv
    rw [fromList_get _ (by omega) t ht] at hv
    obtain ⟨v', h1, h2⟩ := ha.get hv
    have hlt : t < args'.size := by rw [hsz]; exact (List.getElem?_eq_some_iff.1 hv).1
    have : (args' ++ Array.replicate (fn.ntmps - args'.size) undef).getD t undef = v' := by
      rw [Array.getD_eq_getD_getElem?, Array.getElem?_append_left hlt]
      rw [Array.getElem?_toList] at h1
      rw [h1]; rfl
    simp only [this]; exact h2

/-! ### Results -/
theorem Fr.get_sim {fr : Fr} {tmps : Array Value} (h : SlotRel ρ fr.tm tmps) {t : Nat} {v : Value} (hv : fr.get t = some v) : VRel ρ v (tmps.getD t undef) := by
  simp only [Fr.get] at hv
  cases hb : Nat.blt t (16 ^ SD) with
  | false => rw [hb] at hv; cases hv
  | true => rw [hb] at hv; exact h t v (by simpa using hb) hv

def resVar (tmps : Array Value) : ResultVar → Sem Value
  | .tmp t => pure (tmps.getD t undef)
  | .cell a t => do loadVar t (← asAddr (tmps.getD a undef))

theorem results_eq (fn : Func) (tmps : Array Value) : results fn tmps = (do
    let vs ← fn.results.mapM (resVar tmps)
    pure (if h : vs.size = 1 then vs[0] else .tuple vs)) := by
  have : (fun (x : ResultVar) => (match x with
      | .tmp t => pure (tmps.getD t undef)
      | .cell a t => do loadVar t (← asAddr (tmps.getD a undef)) : Sem Value)) = resVar tmps := by
    funext x; cases x <;> rfl
  unfold results
  rw [← this]
  rfl

theorem resVals_sim (hr : HRel P ρ s w) {fr : Fr} {tmps : Array Value} (h : SlotRel ρ fr.tm tmps) : ∀ {l : List ResultVar} {vs : List Value}, resVals P fr s.hp l = some vs →
    ∃ vs', LRel ρ vs vs' ∧ (l.mapM (resVar tmps)).run P w = .ok vs' w
  | [], vs, hv => by simp [resVals] at hv; subst hv; exact ⟨[], .nil ρ, rfl⟩
  | .tmp t :: l, vs, hv => by
    simp only [resVals] at hv
    split at hv
    rotate_left
    · cases hv
    rename_i v r h1 h2
    cases hv
    obtain ⟨vs', i1, i2⟩ := resVals_sim hr h h2
    exact ⟨_ :: vs', .cons (Fr.get_sim h h1) i1, by simp only [List.mapM_cons, Sem.run_bind, resVar, Sem.run_pure, Result.andThen_ok, i2]⟩
  | .cell a t :: l, vs, hv => by
    simp only [resVals] at hv
    split at hv
    rotate_left
    · cases hv
    rename_i v r h1 h2
    cases hv
    obtain ⟨vs', i1, i2⟩ := resVals_sim hr h h2
    cases hg : fr.get a with
    | none => rw [hg] at h1; cases h1
    | some u =>
      rw [hg] at h1
      obtain ⟨v', _, hv', b, hb, hl⟩ := dLoad_sim hr h1 (Fr.get_sim h hg)
      have ha : (asAddr (tmps.getD a undef)).run P w = .ok b w := by rw [hb]; rfl
      exact ⟨v' :: vs', .cons hv' i1, by simp only [List.mapM_cons, Sem.run_bind, resVar, Sem.run_pure, Result.andThen_ok, ha, hl, i2]⟩

theorem resOf_sim (hr : HRel P ρ s w) {fn : Func} {fr : Fr} {tmps : Array Value} {v : Value} (h : SlotRel ρ fr.tm tmps) (hv : resOf P fn fr s.hp = some v) :
    ∃ v', (results fn tmps).run P w = .ok v' w ∧ VRel ρ v v' := by
  unfold resOf at hv
  have run : ∀ vs', (fn.results.toList.mapM (resVar tmps)).run P w = .ok vs' w →
      (results fn tmps).run P w = .ok (if h : vs'.toArray.size = 1 then vs'.toArray[0] else .tuple vs'.toArray) w := by
    intro vs' hm
    rw [results_eq, Array.mapM_eq_mapM_toList]
    simp only [map_eq_pure_bind, Sem.run_bind, hm, Result.andThen_ok, Sem.run_pure]
  split at hv
  · rename_i u hu
    cases hv
    obtain ⟨vs', h1, h2⟩ := resVals_sim hr h hu
    obtain ⟨v', t', rfl, hv, ht⟩ := h1.uncons
    have := ht.nil_left; subst this
    exact ⟨v', by rw [run _ h2]; rfl, hv⟩
  · rename_i vs hne hu
    cases hv
    obtain ⟨vs', h1, h2⟩ := resVals_sim hr h hu
    refine ⟨.tuple vs'.toArray, ?_, .mkTuple h1⟩
    rw [run _ h2, dif_neg]
    intro h
    have hl : vs.length = 1 := by rw [h1.1]; simpa using h
    match vs, hl with
    | [x], _ => exact hne x rfl
  · cases hv
end
end Go.Det
end
section
namespace Go.Det
open Go

section
variable {P : Program} {ρ : Ren} {s : St} {w : World} {rec : Rec} {I : Intr}

theorem callFunc_run (hg : NoGor P) {g : FuncId} {fn : Func} {c : Code} (hf : P.funcs[g]? = some fn) (hb : fn.body = some c) (args : Array Value) (w : World) : (callFunc g args).run P w = .ok (.enter g args) w := by
  have h1 := hg g fn hf (by rw [hb]; rfl)
  simp only [callFunc, Sem.run_bind, run_program, Result.andThen_ok, hf, h1, hb]
  simp

theorem SlotRel.le {ρ' : Ren} (hle : ρ.le ρ') {tm : Tr SD Value} {tmps : Array Value} (h : SlotRel ρ tm tmps) : SlotRel ρ' tm tmps := h.mono hle

/-- the deferred calls, one behind the other -/
theorem leave_sim (hrec : Sim P rec) (hg : NoGor P) {fn : Func} {tmps : Array Value} {Q : Ending → World → Prop} {s'' : St} : ∀ {ds ds' : List Deferred} {s : St} {w : World} {ρ : Ren}, enter.leave ⟨P, I⟩ rec ds s = some s'' → DfRel ρ ds ds' → HRel P ρ s w →
    (∀ ρ2 w2, HRel P ρ2 s'' w2 → Fm ρ s w ρ2 s'' w2 → ∃ v, (results fn tmps).run P w2 = .ok v w2 ∧ Q (.returned v) w2) →
    LeavesInM (FAt none) 0 P fn tmps Q ds' .returning w
  | [], ds', s, w, ρ, h, hd, hr, hk => by
    cases hd
    simp only [enter.leave, Option.some.injEq] at h
    subst h
    exact hk ρ w hr (Fm.refl _ _ _)
  | d :: ds, ds', s, w, ρ, h, hd, hr, hk => by
    cases hd with
    | @fn f cap cap' args args' _ ds' hc ha hd =>
      simp only [enter.leave] at h
      split at h
      rotate_left
      · cases h
      rename_i fn' hf
      split at h
      rotate_left
      · cases h
      rename_i c fr hb he
      have harr : LRel ρ (args.toList ++ cap.toList) (args' ++ cap').toList := by simpa using ha.append hc
      obtain ⟨e1, e2, e3⟩ := enterFr_sim he harr
      -- the deferred call's body
      have go : ∀ e fr' s', rec c fr s = some (e, fr', s') → (e = .normal ∨ e = .ret) → (match fr'.df, resOf P fn' fr' s'.hp with
            | [], some _ => enter.leave ⟨P, I⟩ rec ds s'
            | _, _ => none) = some s'' → LeavesInM (FAt none) 0 P fn tmps Q ({ target := .fn (.func f) cap', args := args' } :: ds') .returning w := by
        intro e fr' s' hrc hee h
        split at h
        rotate_left
        · cases h
        rename_i v hdf hres
        refine ⟨by simp, .inr ⟨by simp [FAt], .func f, cap', f, args' ++ cap', rfl, ?_, fun g _ => trivial, ?_⟩⟩
        · show (callFunc f (args' ++ cap')).run P w = _
          exact callFunc_run hg hf hb _ w
        · have hw := (hrec _ _ _ _ _ _ hrc).2.2 none 0 ρ _ w (.inl rfl) hr e3
          refine CallsDIn.mono (callsDIn_of_wp (R := fun e w' => match e with
              | .returned _ => LeavesInM (FAt none) 0 P fn tmps Q ds' .returning w'
              | _ => False) hf hb trivial (wpIn_mono hw fun e2 a' w' hq => ?_)) ?_
          · obtain ⟨ρ', x1, x2, x3, x4⟩ := hq
            have hd' : a'.defers = [] := by have := x4.df; rw [hdf] at this; generalize a'.defers = q at this ⊢; cases this; rfl
            obtain ⟨v', y1, y2⟩ := resOf_sim x3 x4.slot hres
            have hl := leave_sim (fn := fn) (tmps := tmps) (Q := Q) hrec hg h (hd.mono x2.le) x3 (fun ρ2 w2 z1 z2 => hk ρ2 w2 z1 (Fm.trans hr x2 z2))
            rcases hee with rfl | rfl
            · cases x1; exact ⟨hd', v', y1, hl⟩
            · cases x1; exact ⟨hd', v', y1, hl⟩
          · intro e u' w' hq
            obtain ⟨rfl, hq⟩ := hq
            cases e with
            | returned v => exact hq
            | panicked c => exact hq.elim
            | outgrown => exact hq.elim
      split at h
      · rename_i fr' s' hrc; exact go _ _ _ hrc (.inl rfl) h
      · rename_i fr' s' hrc; exact go _ _ _ hrc (.inr rfl) h
      · cases h
    | @mark b l args args' _ ds' hb hd =>
      simp only [enter.leave] at h
      split at h
      rotate_left
      · cases h
      rename_i ho
      obtain ⟨o', hw, rfl⟩ := hr.obj _ _ _ ho hb
      have hlt := (Array.getElem?_eq_some_iff.1 hw).1
      obtain ⟨h1, h2⟩ := hr.del (w' := { w with heap := w.heap.setIfInBounds l.blk (.deferred none) }) ho hb (fun k hk => by simp [Array.getElem?_setIfInBounds, Ne.symm hk]) (by simp) rfl rfl rfl
      refine ⟨by simp, .inl ⟨l.blk, { w with heap := w.heap.setIfInBounds l.blk (.deferred none) }, rfl, ?_, ?_⟩⟩
      · simp [Instr.takeDeferred, getObj, setObj, Sem.run, hw]
      · exact leave_sim hrec hg h (hd.mono h2.le) h1 (fun ρ2 w2 z1 z2 => hk ρ2 w2 z1 (Fm.trans hr h2 z2))

/-- a function entered -/
theorem enter_sim (hrec : Sim P rec) (hg : NoGor P) (hI : IntrOk P I) {g : FuncId} {args : List Value} {args' : Array Value} {v : Value} {s' : St} (h : enter ⟨P, I⟩ rec g args s = some (v, s')) (hr : HRel P ρ s w) (ha : LRel ρ args args'.toList) :
    CallGot P ρ s w g args' v s' := by
  unfold enter at h
  split at h
  · rename_i r hi
    cases h
    exact hI g args s v s' hi ρ w args' hr ha
  · split at h
    rotate_left
    · cases h
    rename_i fn hf
    split at h
    rotate_left
    · cases h
    rename_i c fr hb he
    obtain ⟨e1, e2, e3⟩ := enterFr_sim he ha
    refine .inr ⟨callFunc_run hg hf hb _ w, ?_⟩
    have go : ∀ e fr' s1, rec c fr s = some (e, fr', s1) → (e = .normal ∨ e = .ret) → (match enter.leave ⟨P, I⟩ rec fr'.df s1 with
          | some s'' => (resOf P fn fr' s''.hp).map fun v => (v, s'')
          | none => none) = some (v, s') → CallsIn (FAt none) 0 P g args' w (After P ρ s w v s') := by
      intro e fr' s1 hrc hee h
      split at h
      rotate_left
      · cases h
      rename_i s'' hlv
      simp only [Option.map_eq_some_iff, Prod.mk.injEq] at h
      obtain ⟨v0, hres, rfl, rfl⟩ := h
      have hw := (hrec _ _ _ _ _ _ hrc).2.2 none 0 ρ _ w (.inl rfl) hr e3
      refine callsIn_of_wp_marks hf hb trivial (wpIn_mono hw fun e2 a' w' hq => ?_)
      obtain ⟨ρ', x1, x2, x3, x4⟩ := hq
      have hl : LeavesInM (FAt none) 0 P fn a'.tmps (After P ρ s w v0 s'') a'.defers .returning w' := by
        refine leave_sim hrec hg hlv x4.df x3 (fun ρ2 w2 z1 z2 => ?_)
        obtain ⟨v', y1, y2⟩ := resOf_sim z1 (x4.slot.mono z2.le) hres
        exact ⟨v', y1, ρ2, y2, z1, Fm.trans hr x2 z2⟩
      rcases hee with rfl | rfl
      · cases x1; exact hl
      · cases x1; exact hl
    split at h
    · rename_i fr' s1 hrc; exact go _ _ _ hrc (.inl rfl) h
    · rename_i fr' s1 hrc; exact go _ _ _ hrc (.inr rfl) h
    · cases h
end
end Go.Det
end
