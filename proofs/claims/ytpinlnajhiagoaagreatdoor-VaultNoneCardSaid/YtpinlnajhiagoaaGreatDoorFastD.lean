/-
  The fast form: calls, regions, code, functions.
-/
import Derived.Test.YtpinlnajhiagoaaGreatDoorFastC
set_option linter.unusedVariables false
set_option linter.unusedSimpArgs false
namespace Go.Det
open Go

/-- from some fuel on -/
def Ev {α : Type} (f : Nat → Option α) (r : α) : Prop := ∃ N, ∀ n, N ≤ n → f n = some r

theorem Ev.of {α : Type} {f : Nat → Option α} {r : α} (h : ∀ n, f n = some r) : Ev f r := ⟨0, fun n _ => h n⟩
theorem Ev.map {α β : Type} {f : Nat → Option α} {g : Nat → Option β} {r : α} {q : β} (h : Ev f r) (hg : ∀ n, f n = some r → g n = some q) : Ev g q := by
  obtain ⟨N, h⟩ := h
  exact ⟨N, fun n hn => hg n (h n hn)⟩
theorem Ev.map2 {α β γ : Type} {f : Nat → Option α} {f2 : Nat → Option γ} {g : Nat → Option β} {r : α} {r2 : γ} {q : β} (h : Ev f r) (h2 : Ev f2 r2) (hg : ∀ n, f n = some r → f2 n = some r2 → g n = some q) : Ev g q := by
  obtain ⟨N, h⟩ := h
  obtain ⟨M, h2⟩ := h2
  exact ⟨max N M, fun n hn => hg n (h n (by omega)) (h2 n (by omega))⟩
theorem Ev.succ {α : Type} {f : Nat → Option α} {r : α} (h : Ev (fun n => f (n + 1)) r) : Ev f r := by
  obtain ⟨N, h⟩ := h
  refine ⟨N + 1, fun n hn => ?_⟩
  obtain ⟨m, rfl⟩ : ∃ m, n = m + 1 := ⟨n - 1, by omega⟩
  exact h m (by omega)

section
variable {P : Program} {J : Jntr}

abbrev RJ (P : Program) (J : Jntr) : Rules := ⟨P, Jntr.I J⟩

/-- a deferred function ran -/
def DfrRan (R : Rules) (f : FuncId) (args : List Value) (h : Hp) (nx : Nat) (h' : Hp) (nx' : Nat) : Prop :=
  ∃ fn c fr e fr', R.P.funcs[f]? = some fn ∧ fn.body = some c ∧ enterFr fn args = some fr ∧ (e = .normal ∨ e = .ret) ∧ Ev (fun n => eval R n c fr ⟨h, nx⟩) (e, fr', ⟨h', nx'⟩) ∧ fr'.df = [] ∧ (resOf R.P fn fr' h').isSome = true

structure HdOk (R : Rules) (C : Hd) : Prop where
  call : ∀ g args h nx k, C.call g args h nx k = true → ∃ v h' nx', Ev (fun n => enter R (eval R n) g args ⟨h, nx⟩) (v, ⟨h', nx'⟩) ∧ k v h' nx' = true
  rnd : ∀ l args h nx k, C.rnd l args h nx k = true → ∃ v h' nx', Ev (fun n => round (eval R n) l args ⟨h, nx⟩) (v, ⟨h', nx'⟩) ∧ k v h' nx' = true
  dfr : ∀ f args h nx k, C.dfr f args h nx k = true → ∃ h' nx', DfrRan R f args h nx h' nx' ∧ k h' nx' = true

theorem finC_ok {nt : Nat} {dst : Option Nat} {v : Value} {s : Sl} {k : Sl → Bool} (h : (finC nt dst).run v s k = true) (df : Df) (rd : Bool) : ∃ s', Fr.set ⟨s, nt, df, rd⟩ dst v = some ⟨s', nt, df, rd⟩ ∧ k s' = true := by
  cases dst with
  | none => exact ⟨s, rfl, h⟩
  | some d =>
    simp only [finC] at h
    cases hd : Nat.blt d nt with
    | false => rw [hd] at h; cases h
    | true =>
      rw [hd] at h
      simp only [cond_true, Clo.use_eq] at h
      rw [sput_run] at h
      exact ⟨_, by simp only [Fr.set, hd, cond_true], h⟩

/-- what an operation does -/
def OpDid (R : Rules) (nt : Nat) (rd : Bool) (o : Oper) (s : Sl) (m : Ms) (k : K) : Prop :=
  ∃ v df' s' st, Ev (fun n => evOper R (eval R n) ⟨s, nt, m.df, rd⟩ ⟨m.h, m.nx⟩ o) (v, ⟨s, nt, df', rd⟩, st) ∧ Fr.set ⟨s, nt, df', rd⟩ o.dst v = some ⟨s', nt, df', rd⟩ ∧ k s' ⟨m.C, df', st.hp, st.nx⟩ = true

theorem slowCall_ok {C : Hd} (hC : HdOk (RJ P J) C) {c : Call} {s : Sl} {df : Df} {h : Hp} {nx nt : Nat} {rd : Bool} {k : KM} (hk : (slowCall c).run s ⟨C, df, h, nx⟩ k = true) :
    ∃ v st, Ev (fun n => match callee (evOpd ⟨s, nt, df, rd⟩) c with
      | some (.inl (f, args)) => (enter (RJ P J) (eval (RJ P J) n) f args ⟨h, nx⟩).map fun (v, s') => (v, (⟨s, nt, df, rd⟩ : Fr), s')
      | some (.inr (l, args)) => (round (eval (RJ P J) n) l args ⟨h, nx⟩).map fun (v, s') => (v, (⟨s, nt, df, rd⟩ : Fr), s')
      | none => none) (v, ⟨s, nt, df, rd⟩, st) ∧ k v ⟨C, df, st.hp, st.nx⟩ = true := by
  obtain ⟨r, e1, hk⟩ := optSome hk
  rw [← opdF_eq s nt df rd, e1]
  cases r with
  | inl x =>
    obtain ⟨f, args⟩ := x
    obtain ⟨v, h', nx', he, hk⟩ := hC.call _ _ _ _ _ hk
    exact ⟨v, ⟨h', nx'⟩, he.map fun n e => by simp only [e, Option.map_some], hk⟩
  | inr x =>
    obtain ⟨l, args⟩ := x
    obtain ⟨v, h', nx', he, hk⟩ := hC.rnd _ _ _ _ _ hk
    exact ⟨v, ⟨h', nx'⟩, he.map fun n e => by simp only [e, Option.map_some], hk⟩

theorem ofEff_ok {nt : Nat} {dst : Option Nat} {c : EffC} {s : Sl} {m : Ms} {k : K} (h : (ofEff nt dst c).run s m k = true) : c.run s m (fun v m' => (finC nt dst).run v s (fun s' => k s' m')) = true := h
theorem ofVal_ok {nt : Nat} {dst : Option Nat} {c : ValC} {s : Sl} {m : Ms} {k : K} (h : (ofVal nt dst c).run s m k = true) : c.run s m (fun v => (finC nt dst).run v s (fun s' => k s' m)) = true := h

theorem callC_ok {C : Hd} (hC : HdOk (RJ P J) C) {o : Oper} {c : Call} (ho : o.op = .call c) {s : Sl} {df : Df} {h : Hp} {nx nt : Nat} {rd : Bool} {k : KM} (hk : (callC P c).run s ⟨C, df, h, nx⟩ k = true) :
    ∃ v st, Ev (fun n => evOper (RJ P J) (eval (RJ P J) n) ⟨s, nt, df, rd⟩ ⟨h, nx⟩ o) (v, ⟨s, nt, df, rd⟩, st) ∧ k v ⟨C, df, st.hp, st.nx⟩ = true := by
  have hop : ∀ n, evOper (RJ P J) (eval (RJ P J) n) ⟨s, nt, df, rd⟩ ⟨h, nx⟩ o = match c.callee with
    | .builtin _ => match evEff P (evOpd ⟨s, nt, df, rd⟩) ⟨h, nx⟩ o.op with
      | some (v, s') => some (v, ⟨s, nt, df, rd⟩, s')
      | none => (evVal P (evOpd ⟨s, nt, df, rd⟩) h o.op).map fun v => (v, ⟨s, nt, df, rd⟩, ⟨h, nx⟩)
    | _ => match callee (evOpd ⟨s, nt, df, rd⟩) c with
      | some (.inl (f, args)) => (enter (RJ P J) (eval (RJ P J) n) f args ⟨h, nx⟩).map fun (v, s') => (v, (⟨s, nt, df, rd⟩ : Fr), s')
      | some (.inr (l, args)) => (round (eval (RJ P J) n) l args ⟨h, nx⟩).map fun (v, s') => (v, (⟨s, nt, df, rd⟩ : Fr), s')
      | none => none := by
    intro n
    unfold evOper
    rw [ho]
    rfl
  simp only [hop]
  clear hop
  unfold callC at hk
  split at hk
  · rename_i f hf
    simp only [Clo.use_eq] at hk
    obtain ⟨vs, e1, hk⟩ := valsC_ok hk
    obtain ⟨v, h', nx', he, hk⟩ := hC.call _ _ _ _ _ hk
    have e2 : callee (evOpd ⟨s, nt, df, rd⟩) c = some (.inl (f, vs)) := by
      simp only [callee, hf, evOpd]
      rw [← opdF_eq s nt df rd, e1]
      simp
    refine ⟨v, ⟨h', nx'⟩, he.map fun n e => ?_, hk⟩
    rw [hf]
    simp only [e2, e, Option.map_some]
  · rename_i b hb
    obtain ⟨v, st, e1, hk⟩ := builtinC_ok hb hk
    refine ⟨v, st, Ev.of fun n => ?_, hk⟩
    rw [hb]
    simp only [ho]
    unfold slowBuiltin at e1
    rw [← opdF_eq s nt df rd]
    split at e1
    · rename_i r hr
      cases e1
      rw [hr]
    · rename_i hr
      rw [hr]
      simp only
      cases hv : evVal P (opdF s) h (.call c) with
      | none => rw [hv] at e1; cases e1
      | some v' => rw [hv] at e1; cases e1; rfl
  · rename_i h1 h2
    obtain ⟨v, st, e1, hk⟩ := slowCall_ok (P := P) (J := J) (nt := nt) (rd := rd) hC hk
    refine ⟨v, st, e1.map fun n e => ?_, hk⟩
    split
    · rename_i b hb; exact absurd hb (h2 b)
    · exact e

theorem slowOper_ev {C : Hd} {o : Oper} (hc : ∀ c, o.op ≠ .call c) (hd : ∀ c, o.op ≠ .defer c) {s : Sl} {df : Df} {h : Hp} {nx nt : Nat} {rd : Bool} {v : Value} {st : St} (e : slowOper P s h nx o.op = some (v, st)) (n : Nat) :
    evOper (RJ P J) (eval (RJ P J) n) ⟨s, nt, df, rd⟩ ⟨h, nx⟩ o = some (v, ⟨s, nt, df, rd⟩, st) := by
  unfold slowOper at e
  rw [opdF_eq s nt df rd] at e
  unfold evOper
  generalize o.op = op at *
  split
  · rename_i c; exact absurd rfl (hd c)
  · rename_i c; exact absurd rfl (hc c)
  · simp only
    split at e
    · rename_i v' hv; cases e; rw [hv]
    · rename_i hv
      rw [hv]
      simp only
      split at e
      · rename_i obj f hn
        rw [hn]
        simp only
        split at e
        · rename_i b s' hs; cases e; rw [hs]
        · cases e
      · rename_i hn
        rw [hn]
        simp only
        rw [e]

theorem evVal_ev {o : Oper} (hc : ∀ c, o.op ≠ .call c) (hd : ∀ c, o.op ≠ .defer c) {s : Sl} {df : Df} {h : Hp} {nx nt : Nat} {rd : Bool} {v : Value} (e : evVal P (opdF s) h o.op = some v) (n : Nat) :
    evOper (RJ P J) (eval (RJ P J) n) ⟨s, nt, df, rd⟩ ⟨h, nx⟩ o = some (v, ⟨s, nt, df, rd⟩, ⟨h, nx⟩) := by
  rw [opdF_eq s nt df rd] at e
  unfold evOper
  generalize o.op = op at *
  split
  · rename_i c; exact absurd rfl (hd c)
  · rename_i c; exact absurd rfl (hc c)
  · simp only [e]

theorem fnOf_is {v : Value} {f : FuncId} {first cap : List Value} (h : fnOf v = some (f, first, cap)) : v = .func (.func f) first.toArray cap.toArray := by
  unfold fnOf at h
  split at h
  · cases h; simp
  · cases h

theorem deferC_ok {o : Oper} {c : Call} (ho : o.op = .defer c) {s : Sl} {m : Ms} {nt : Nat} {k : K} (h : (deferC nt o.dst c).run s m k = true) : OpDid (RJ P J) nt false o s m k := by
  unfold deferC at h
  split at h
  · rename_i g hg
    simp only [Clo.use_eq] at h
    obtain ⟨vs, e1, h⟩ := valsC_ok h
    obtain ⟨v, e2, h⟩ := optSome h
    obtain ⟨x, e3, h⟩ := optSome h
    obtain ⟨f, first, cap⟩ := x
    obtain ⟨C, df, hp, nx⟩ := m
    have e4 := fnOf_is e3
    subst e4
    obtain ⟨s', e5, hk⟩ := finC_ok h ({ target := .fn (.func f) cap.toArray, args := (first ++ vs).toArray } :: df) false
    have e2' : opdF s g = some _ := e2
    refine ⟨_, _, s', ⟨hp, nx⟩, Ev.of fun n => ?_, e5, hk⟩
    unfold evOper
    rw [ho]
    simp only [hg, cond_false]
    rw [← opdF_eq s nt df false, e1]
    simp only [e2']
  · cases h

theorem operC0_ok {nt : Nat} {rd : Bool} {o : Oper} {s : Sl} {m : Ms} {k : K} (hC : HdOk (RJ P J) m.C) (h : (operC0 P nt rd o).run s m k = true) : OpDid (RJ P J) nt rd o s m k := by
  unfold operC0 at h
  split at h
  · rename_i c ho
    cases rd with
    | true => cases h
    | false => exact deferC_ok ho h
  · rename_i c ho
    obtain ⟨C, df, hp, nx⟩ := m
    obtain ⟨v, st, e1, hk⟩ := callC_ok (nt := nt) (rd := rd) hC ho (ofEff_ok h)
    obtain ⟨s', e2, hk⟩ := finC_ok hk df rd
    exact ⟨v, df, s', st, e1, e2, hk⟩
  · rename_i hd hc
    have hd' : ∀ c, o.op ≠ .defer c := fun c e => hd c e
    have hc' : ∀ c, o.op ≠ .call c := fun c e => hc c e
    cases hv : isVal P o.op with
    | true =>
      rw [hv] at h
      obtain ⟨v, e1, hk⟩ := valC_ok (ofVal_ok h)
      obtain ⟨s', e2, hk⟩ := finC_ok hk m.df rd
      obtain ⟨C, df, hp, nx⟩ := m
      exact ⟨v, df, s', ⟨hp, nx⟩, Ev.of fun n => evVal_ev hc' hd' e1 n, e2, hk⟩
    | false =>
      rw [hv] at h
      obtain ⟨v, st, e1, hk⟩ := effC_ok (ofEff_ok h)
      obtain ⟨s', e2, hk⟩ := finC_ok hk m.df rd
      exact ⟨v, m.df, s', st, Ev.of fun n => slowOper_ev (C := m.C) hc' hd' e1 n, e2, hk⟩

/-- what a step does -/
def StepDid (R : Rules) (nt : Nat) (rd : Bool) (ops : List Oper) (o : Oper) (s : Sl) (m : Ms) (k : K) : Prop :=
  ∃ df' s' st, Ev (fun n => evStep R (eval R n) ops ⟨s, nt, m.df, rd⟩ ⟨m.h, m.nx⟩ o) (⟨s', nt, df', rd⟩, st) ∧ k s' ⟨m.C, df', st.hp, st.nx⟩ = true

theorem stepDid_true {nt : Nat} {rd : Bool} {ops : List Oper} {o : Oper} {s : Sl} {m : Ms} {k : K} (hw : wanted ops ⟨s, nt, m.df, rd⟩ o = some true) (h : OpDid (RJ P J) nt rd o s m k) : StepDid (RJ P J) nt rd ops o s m k := by
  obtain ⟨v, df', s', st, e1, e2, hk⟩ := h
  refine ⟨df', s', st, e1.map fun n e => ?_, hk⟩
  simp only [evStep, hw, e, e2, Option.map_some]

theorem stepDid_false {nt : Nat} {rd : Bool} {ops : List Oper} {o : Oper} {s : Sl} {m : Ms} {k : K} (hw : wanted ops ⟨s, nt, m.df, rd⟩ o = some false) (h : (undefC nt o.dst).run s m k = true) : StepDid (RJ P J) nt rd ops o s m k := by
  obtain ⟨s', e2, hk⟩ := finC_ok (k := fun s' => k s' m) h m.df rd
  refine ⟨m.df, s', ⟨m.h, m.nx⟩, Ev.of fun n => ?_, hk⟩
  simp only [evStep, hw, e2, Option.map_some]

theorem guardAt_none {ops : List Oper} {o : Oper} (h : guardAt ops o = some none) (fr : Fr) : wanted ops fr o = some true := by
  unfold guardAt at h
  unfold wanted
  split at h
  · rename_i hg; rw [hg]
  · rename_i j want hg
    rw [hg]
    split at h
    · rename_i t ht
      cases hb : Nat.blt t (16 ^ SD) <;> rw [hb] at h <;> cases h
    · cases h

theorem guardAt_some {ops : List Oper} {o : Oper} {t : Nat} {want : Bool} (h : guardAt ops o = some (some (t, want))) {s : Sl} {nt : Nat} {df : Df} {rd : Bool} {b : Bool} (hs : (sget t).run s = some (.bool b)) :
    wanted ops ⟨s, nt, df, rd⟩ o = some (b == want) := by
  unfold guardAt at h
  unfold wanted
  split at h
  · cases h
  · rename_i j w hg
    rw [hg]
    simp only
    split at h
    · rename_i t' ht
      rw [ht]
      cases hb : Nat.blt t' (16 ^ SD) with
      | false => rw [hb] at h; cases h
      | true =>
        rw [hb] at h
        cases h
        rw [sget_run] at hs
        simp only [Fr.get, hb, cond_true, hs]
    · cases h

theorem guardAt_not {ops : List Oper} {o : Oper} {t : Nat} {want : Bool} (h : guardAt ops o = some (some (t, want))) {s : Sl} {nt : Nat} {df : Df} {rd : Bool} {x : Option Value} (hs : (sget t).run s = x) (hv : ∃ v, x = some v ∧ v ≠ .bool want) :
    wanted ops ⟨s, nt, df, rd⟩ o = some false := by
  obtain ⟨v, rfl, hv⟩ := hv
  unfold guardAt at h
  unfold wanted
  split at h
  · cases h
  · rename_i j w hg
    rw [hg]
    simp only
    split at h
    · rename_i t' ht
      rw [ht]
      cases hb : Nat.blt t' (16 ^ SD) with
      | false => rw [hb] at h; cases h
      | true =>
        rw [hb] at h
        cases h
        rw [sget_run] at hs
        simp only [Fr.get, hb, cond_true, hs]
        cases v with
        | bool b =>
          have : b ≠ want := fun e => hv (by rw [e])
          simp [this]
        | _ => rfl
    · cases h

theorem operC_ok {nt : Nat} {rd : Bool} {ops : List Oper} {o : Oper} {s : Sl} {m : Ms} {k : K} (hC : HdOk (RJ P J) m.C) (h : (operC P nt rd ops o).run s m k = true) : StepDid (RJ P J) nt rd ops o s m k := by
  unfold operC at h
  split at h
  · rename_i hg
    exact stepDid_true (guardAt_none hg _) (operC0_ok hC h)
  · rename_i t hg
    simp only [Clo.use_eq] at h
    rcases OBool.way h with ⟨_, h⟩ | ⟨e1, h⟩ | ⟨e1, h⟩
    · cases h
    · exact stepDid_true (guardAt_some hg (asWantT_tt e1)) (operC0_ok hC h)
    · exact stepDid_false (guardAt_not hg rfl (asWantT_ff e1)) h
  · rename_i t hg
    simp only [Clo.use_eq] at h
    rcases OBool.way h with ⟨_, h⟩ | ⟨e1, h⟩ | ⟨e1, h⟩
    · cases h
    · exact stepDid_false (guardAt_not hg rfl (asWantF_tt e1)) h
    · exact stepDid_true (guardAt_some hg (asWantF_ff e1)) (operC0_ok hC h)
  · cases h

theorem opsC_ok {nt : Nat} {rd : Bool} {ops : List Oper} : ∀ {l : List Oper} {s : Sl} {m : Ms} {k : K}, HdOk (RJ P J) m.C → (opsC P nt rd ops l).run s m k = true →
    ∃ df' s' st, Ev (fun n => evOps (RJ P J) (eval (RJ P J) n) ops l ⟨s, nt, m.df, rd⟩ ⟨m.h, m.nx⟩) (⟨s', nt, df', rd⟩, st) ∧ k s' ⟨m.C, df', st.hp, st.nx⟩ = true
  | [], s, m, k, _, h => ⟨m.df, s, ⟨m.h, m.nx⟩, Ev.of fun _ => rfl, h⟩
  | o :: l, s, m, k, hC, h => by
    obtain ⟨df1, s1, st1, e1, h⟩ := operC_ok (k := fun s' m' => tick ((opsC P nt rd ops l).run s' m' k)) hC h
    obtain ⟨df2, s2, st2, e2, hk⟩ := opsC_ok (l := l) (m := ⟨m.C, df1, st1.hp, st1.nx⟩) hC h
    refine ⟨df2, s2, st2, e1.map2 e2 fun n a b => ?_, hk⟩
    simp only [evOps, a]
    exact b
end
end Go.Det
