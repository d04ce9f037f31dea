/-
  The fast form: drawn regions, code.
-/
import Derived.Test.YtpinlnajhiagoaaGreatDoorFastD
set_option linter.unusedVariables false
set_option linter.unusedSimpArgs false
namespace Go.Det
open Go

section
variable {P : Program} {J : Jntr}

theorem sameC_ok {x y : Value} (h : sameC x y = true) : sameVal x y = true := by
  unfold sameC at h
  rcases OInt.way h with ⟨_, h⟩ | ⟨kx, nx, e1, h⟩
  · exact h
  rcases OInt.way h with ⟨_, h⟩ | ⟨ky, ny, e2, h⟩
  · exact h
  obtain ⟨e3, h3⟩ := boolTrue h
  have e4 := asInt_is e1; subst e4
  have e5 := asInt_is e2; subst e5
  have e6 := ikeq_eq e3; subst e6
  rw [ibeq_eq] at h3
  have e7 : nx = ny := by simpa using h3
  subst e7
  have d1 : decEq kx kx = isTrue rfl := by cases kx <;> rfl
  simp only [sameVal, veq, d1]
  split
  · rfl
  · rename_i hne
    exfalso
    apply hne
    congr 1
    split
    · rfl
    · rename_i hq _
      exact absurd rfl hq

/-- one operation tells the same -/
def again1Is (P : Program) (o : Oper) (fr : Fr) (h : Heap) : Bool := match evVal P (evOpd fr) h o.op with
  | some v => match o.dst with
    | some d => match fr.get d with
      | some u => sameVal v u
      | none => false
    | none => true
  | none => (evNew P (evOpd fr) o.op).isSome

theorem again1_ok {o : Oper} {s : Sl} {m : Ms} (h : (again1 P o).run s m = true) (nt : Nat) (rd : Bool) : again1Is P o ⟨s, nt, m.df, rd⟩ m.h = true := by
  unfold again1 at h
  cases hv : isVal P o.op with
  | true =>
    rw [hv] at h
    simp only [cond_true] at h
    split at h
    · rename_i d hd
      cases hb : Nat.blt d (16 ^ SD) with
      | false => rw [hb] at h; cases h
      | true =>
        rw [hb] at h
        simp only [cond_true, Clo.use_eq] at h
        obtain ⟨v, e1, h⟩ := valC_ok h
        obtain ⟨u, e2, h⟩ := optSome h
        rw [opdF_eq s nt m.df rd] at e1
        rw [sget_run] at e2
        simp only [again1Is, e1, hd, Fr.get, hb, cond_true, e2]
        exact sameC_ok h
    · rename_i hd
      simp only [Clo.use_eq] at h
      obtain ⟨v, e1, h⟩ := valC_ok h
      rw [opdF_eq s nt m.df rd] at e1
      simp only [again1Is, e1, hd]
  | false =>
    rw [hv] at h
    simp only [cond_false] at h
    rw [opdF_eq s nt m.df rd] at h
    exact h

theorem evAgain_cons (ops : List Oper) (fr : Fr) (h : Heap) (o : Oper) (l : List Oper) : evAgain (RJ P J) ops fr h (o :: l) = ((match wanted ops fr o with
    | some true => again1Is P o fr h
    | some false => true
    | none => false) && evAgain (RJ P J) ops fr h l) := rfl

theorem againC_ok {ops : List Oper} {s : Sl} {m : Ms} (nt : Nat) (rd : Bool) : ∀ {l : List Oper}, (againC P ops l).run s m = true → evAgain (RJ P J) ops ⟨s, nt, m.df, rd⟩ m.h l = true
  | [], _ => rfl
  | o :: l, h => by
    rw [evAgain_cons]
    have h' : (match guardAt ops o with
      | some none => (⟨fun s h => Bool.rec (motive := fun _ => Bool) false ((againC P ops l).run s h) ((again1 P o).run s h)⟩ : Clo (Sl → Ms → Bool))
      | some (some (t, true)) => ⟨fun s h => OBool.rec (motive := fun _ => Bool) false (Bool.rec (motive := fun _ => Bool) false ((againC P ops l).run s h) ((again1 P o).run s h)) ((againC P ops l).run s h) (asWantT ((sget t).run s))⟩
      | some (some (t, false)) => ⟨fun s h => OBool.rec (motive := fun _ => Bool) false ((againC P ops l).run s h) (Bool.rec (motive := fun _ => Bool) false ((againC P ops l).run s h) ((again1 P o).run s h)) (asWantF ((sget t).run s))⟩
      | none => ⟨fun _ _ => false⟩).run s m = true := h
    clear h
    split at h'
    · rename_i hg
      obtain ⟨e1, e2⟩ := boolTrue h'
      rw [guardAt_none hg]
      simp only [again1_ok e1 nt rd, againC_ok nt rd e2, Bool.and_self]
    · rename_i t hg
      rcases OBool.way h' with ⟨_, h⟩ | ⟨e, h⟩ | ⟨e, h⟩
      · cases h
      · obtain ⟨e1, e2⟩ := boolTrue h
        rw [guardAt_some hg (asWantT_tt e)]
        simp only [beq_self_eq_true, again1_ok e1 nt rd, againC_ok nt rd e2, Bool.and_self]
      · rw [guardAt_not hg rfl (asWantT_ff e)]
        simp only [againC_ok nt rd h]; rfl
    · rename_i t hg
      rcases OBool.way h' with ⟨_, h⟩ | ⟨e, h⟩ | ⟨e, h⟩
      · cases h
      · rw [guardAt_not hg rfl (asWantF_tt e)]
        simp only [againC_ok nt rd h]; rfl
      · obtain ⟨e1, e2⟩ := boolTrue h
        rw [guardAt_some hg (asWantF_ff e)]
        simp only [beq_self_eq_true, again1_ok e1 nt rd, againC_ok nt rd e2, Bool.and_self]
    · cases h'

theorem stepsC_cons (nt : Nat) (rd : Bool) (ops : List Oper) (r : Rop) (l done : List Rop) : stepsC P nt rd ops (r :: l) done = cond (isWriter r.o.op)
      ⟨fun s m k => (operC P nt rd ops r.o).run s m (fun s' m' => Bool.rec (motive := fun _ => Bool) false (tick ((stepsC P nt rd ops l (done ++ [r])).run s' m' k)) ((againC P ops (againOf done r.anc)).run s' m'))⟩
      ⟨fun s m k => (operC P nt rd ops r.o).run s m (fun s' m' => tick ((stepsC P nt rd ops l (done ++ [r])).run s' m' k))⟩ := rfl

theorem stepsC_ok {nt : Nat} {rd : Bool} {ops : List Oper} : ∀ {l done : List Rop} {s : Sl} {m : Ms} {k : K}, HdOk (RJ P J) m.C → (stepsC P nt rd ops l done).run s m k = true →
    ∃ df' s' st, Ev (fun n => evSteps (RJ P J) (eval (RJ P J) n) ops done l ⟨s, nt, m.df, rd⟩ ⟨m.h, m.nx⟩) (⟨s', nt, df', rd⟩, st) ∧ k s' ⟨m.C, df', st.hp, st.nx⟩ = true
  | [], done, s, m, k, _, h => ⟨m.df, s, ⟨m.h, m.nx⟩, Ev.of fun _ => rfl, h⟩
  | r :: l, done, s, m, k, hC, h => by
    rw [stepsC_cons] at h
    cases hw : isWriter r.o.op with
    | true =>
      rw [hw] at h
      obtain ⟨df1, s1, st1, e1, h⟩ := operC_ok hC h
      obtain ⟨ea, h⟩ := boolTrue h
      have ea' := againC_ok (J := J) nt rd ea
      obtain ⟨df2, s2, st2, e2, hk⟩ := stepsC_ok (l := l) (m := ⟨m.C, df1, st1.hp, st1.nx⟩) hC h
      refine ⟨df2, s2, st2, e1.map2 e2 fun n a b => ?_, hk⟩
      simp only [evSteps, a, hw, cond_true]
      rw [ea']
      exact b
    | false =>
      rw [hw] at h
      obtain ⟨df1, s1, st1, e1, h⟩ := operC_ok hC h
      obtain ⟨df2, s2, st2, e2, hk⟩ := stepsC_ok (l := l) (m := ⟨m.C, df1, st1.hp, st1.nx⟩) hC h
      refine ⟨df2, s2, st2, e1.map2 e2 fun n a b => ?_, hk⟩
      simp only [evSteps, a, hw, cond_false]
      exact b

/-- who goes on behind a piece of code -/
def goesOn (kn : K) (ke : Nat → K) (kr : K) (s : Sl) (m : Ms) : Ex → Bool
  | .normal => kn s m
  | .exit id => ke id s m
  | .ret => kr s m

def CodeDid (R : Rules) (nt : Nat) (rd : Bool) (c : Code) (s : Sl) (m : Ms) (kn : K) (ke : Nat → K) (kr : K) : Prop :=
  ∃ e df' s' st, Ev (fun n => eval R n c ⟨s, nt, m.df, rd⟩ ⟨m.h, m.nx⟩) (e, ⟨s', nt, df', rd⟩, st) ∧ goesOn kn ke kr s' ⟨m.C, df', st.hp, st.nx⟩ e = true

theorem eval_succ (R : Rules) (n : Nat) (c : Code) (fr : Fr) (s : St) : eval R (n + 1) c fr s = step R (eval R n) c fr s := rfl

theorem evalEv {R : Rules} {c : Code} {fr : Fr} {s : St} {r : Ex × Fr × St} (h : Ev (fun n => step R (eval R n) c fr s) r) : Ev (fun n => eval R n c fr s) r := Ev.succ h

theorem isDone {o : Option DObj} (h : asLoop o = .done) : ∃ fn tm nt ps asg body d, o = some (.loop fn tm nt ps asg body true none d) := by
  unfold asLoop at h
  split at h
  · exact ⟨_, _, _, _, _, _, _, rfl⟩
  · cases h
  · cases h
  · cases h
theorem isExit {o : Option DObj} {id : Nat} (h : asLoop o = .exit id) : ∃ fn tm nt ps asg body rdy d, o = some (.loop fn tm nt ps asg body rdy (some (.exit id)) d) := by
  unfold asLoop at h
  split at h
  · cases h
  · cases h; exact ⟨_, _, _, _, _, _, _, _, rfl⟩
  · cases h
  · cases h
theorem isRet {o : Option DObj} (h : asLoop o = .ret) : ∃ fn tm nt ps asg body rdy d, o = some (.loop fn tm nt ps asg body rdy (some .ret) d) := by
  unfold asLoop at h
  split at h
  · cases h
  · cases h
  · exact ⟨_, _, _, _, _, _, _, _, rfl⟩
  · cases h

theorem rnth_eq {α : Type} : ∀ (n : Nat) (l : List α), rnth n l = l[n]?
  | 0, [] => rfl
  | 0, _ :: _ => rfl
  | n + 1, [] => rfl
  | n + 1, _ :: xs => (rnth_eq n xs).trans (by simp)
theorem fnAt_eq (g : FuncId) : fnAt P g = P.funcs[g]? := by
  unfold fnAt; rw [rnth_eq]; simp

theorem rangeC_ok {nt : Nat} {g : Operand} {ps : Array Tmp} {asg body : Code} {s : Sl} {m : Ms} {kn : K} {ke : Nat → K} {kr : K} (hC : HdOk (RJ P J) m.C)
    (h : (rangeC P nt g ps asg body).run s m kn ke kr = true) : CodeDid (RJ P J) nt false (.rangeFunc g ps asg body) s m kn ke kr := by
  obtain ⟨C, df, hp, nx⟩ := m
  obtain ⟨r, e1, h⟩ := optSome h
  obtain ⟨f, first, cap⟩ := r
  obtain ⟨b1, h⟩ := boolTrue h
  obtain ⟨b2, h⟩ := boolTrue h
  rw [hput_run, hput_run] at h
  obtain ⟨v, h3, nx3, ec, h⟩ := hC.call _ _ _ _ _ h
  have hg : evOpd ⟨s, nt, df, false⟩ g = some (.func (.func f) first.toArray cap.toArray) := by
    rw [← opdF_eq s nt df false]
    cases ho : (opdC g).run s with
    | none => rw [ho] at e1; cases e1
    | some x =>
      rw [ho] at e1
      have := fnOf_is e1
      show (opdC g).run s = _
      rw [ho, this]
  have hle : nx + 2 ≤ 16 ^ HD := Nat.le_of_ble_eq_true b1
  have n1 : St.new ⟨hp, nx⟩ .defers = some (nx, ⟨hp.set HD nx .defers, nx + 1⟩) := by
    have : Nat.blt nx (16 ^ HD) = true := by simp; omega
    simp only [St.new, this, cond_true]
  have n2 : St.new ⟨hp.set HD nx .defers, nx + 1⟩ (.loop f s nt ps.toList asg body true none nx) = some (nx + 1, ⟨(hp.set HD nx .defers).set HD (nx + 1) (.loop f s nt ps.toList asg body true none nx), nx + 1 + 1⟩) := by
    have : Nat.blt (nx + 1) (16 ^ HD) = true := by simp; omega
    simp only [St.new, this, cond_true]
  rw [fnAt_eq] at b2
  have hs : ∀ n, step (RJ P J) (eval (RJ P J) n) (.rangeFunc g ps asg body) ⟨s, nt, df, false⟩ ⟨hp, nx⟩ = match enter (RJ P J) (eval (RJ P J) n) f (first ++ [.func (.yield (nx + 1)) #[] #[]] ++ cap) ⟨(hp.set HD nx .defers).set HD (nx + 1) (.loop f s nt ps.toList asg body true none nx), nx + 1 + 1⟩ with
      | some (_, s3) => match hget s3.hp (nx + 1) with
        | some (.loop _ _ _ _ _ _ true none _) => some (.normal, ⟨s, nt, { target := .collected nx, args := #[] } :: df, false⟩, { s3 with hp := s3.hp.del HD (nx + 1) })
        | some (.loop _ _ _ _ _ _ _ (some c) _) => eval (RJ P J) n c ⟨s, nt, { target := .collected nx, args := #[] } :: df, false⟩ { s3 with hp := s3.hp.del HD (nx + 1) }
        | _ => none
      | none => none := by
    intro n
    simp only [step, cond_false, hg, n1, n2, b2, cond_true]
    rfl
  rcases hl : asLoop ((tget HD (Nat.succ nx)).run h3) with _ | _ | id | _
  · rw [hl] at h; cases h
  · rw [hl] at h
    rw [hdel_run] at h
    rw [hget_run] at hl
    obtain ⟨fn', tm', nt', ps', asg', body', d', ho⟩ := isDone hl
    refine ⟨.normal, _, s, ⟨h3.del HD (nx + 1), nx3⟩, evalEv (ec.map fun n e => ?_), h⟩
    refine (hs n).trans ?_
    have ecn : enter (RJ P J) (eval (RJ P J) n) f (first ++ [.func (.yield (nx + 1)) #[] #[]] ++ cap) ⟨(hp.set HD nx .defers).set HD (nx + 1) (.loop f s nt ps.toList asg body true none nx), nx + 1 + 1⟩ = some (v, ⟨h3, nx3⟩) := e
    rw [ecn]
    simp only [ho]
  · rw [hl] at h
    replace h : (tput HD (Nat.succ nx)).run h3 none (fun h4 => ke id s ⟨C, { target := .collected nx, args := #[] } :: df, h4, nx3⟩) = true := h
    rw [hdel_run] at h
    rw [hget_run] at hl
    obtain ⟨fn', tm', nt', ps', asg', body', rdy', d', ho⟩ := isExit hl
    refine ⟨.exit id, _, s, ⟨h3.del HD (nx + 1), nx3⟩, evalEv ?_, h⟩
    obtain ⟨N, ec⟩ := ec
    refine ⟨N + 1, fun n hn => ?_⟩
    refine (hs n).trans ?_
    have ecn : enter (RJ P J) (eval (RJ P J) n) f (first ++ [.func (.yield (nx + 1)) #[] #[]] ++ cap) ⟨(hp.set HD nx .defers).set HD (nx + 1) (.loop f s nt ps.toList asg body true none nx), nx + 1 + 1⟩ = some (v, ⟨h3, nx3⟩) := ec n (by omega)
    rw [ecn]
    obtain ⟨n', rfl⟩ : ∃ n', n = n' + 1 := ⟨n - 1, by omega⟩
    simp only [ho, eval_succ, step]
  · rw [hl] at h
    replace h : (tput HD (Nat.succ nx)).run h3 none (fun h4 => kr s ⟨C, { target := .collected nx, args := #[] } :: df, h4, nx3⟩) = true := h
    rw [hdel_run] at h
    rw [hget_run] at hl
    obtain ⟨fn', tm', nt', ps', asg', body', rdy', d', ho⟩ := isRet hl
    refine ⟨.ret, _, s, ⟨h3.del HD (nx + 1), nx3⟩, evalEv ?_, h⟩
    obtain ⟨N, ec⟩ := ec
    refine ⟨N + 1, fun n hn => ?_⟩
    refine (hs n).trans ?_
    have ecn : enter (RJ P J) (eval (RJ P J) n) f (first ++ [.func (.yield (nx + 1)) #[] #[]] ++ cap) ⟨(hp.set HD nx .defers).set HD (nx + 1) (.loop f s nt ps.toList asg body true none nx), nx + 1 + 1⟩ = some (v, ⟨h3, nx3⟩) := ec n (by omega)
    rw [ecn]
    obtain ⟨n', rfl⟩ : ∃ n', n = n' + 1 := ⟨n - 1, by omega⟩
    simp only [ho, eval_succ, step]

theorem loopN_ok {nt : Nat} {rd : Bool} {a : Code} {c : CodeC} (ih : ∀ {s : Sl} {m : Ms} {kn : K} {ke : Nat → K} {kr : K}, HdOk (RJ P J) m.C → c.run s m kn ke kr = true → CodeDid (RJ P J) nt rd a s m kn ke kr) {ke : Nat → K} {kr : K} :
    ∀ (L : Nat) {s : Sl} {m : Ms}, HdOk (RJ P J) m.C → (Nat.rec (motive := fun _ => K) (fun _ _ => false) (fun _ ih s m => c.run s m ih ke kr) L s m : Bool) = true →
      CodeDid (RJ P J) nt rd (.loop a) s m (fun _ _ => false) ke kr
  | 0, s, m, _, h => by cases h
  | L + 1, s, m, hC, h => by
    obtain ⟨e, df1, s1, st1, e1, h⟩ := ih hC h
    cases e with
    | normal =>
      obtain ⟨e2, df2, s2, st2, e3, h⟩ := loopN_ok ih L (m := ⟨m.C, df1, st1.hp, st1.nx⟩) hC h
      refine ⟨e2, df2, s2, st2, evalEv (e1.map2 e3 fun n x y => ?_), h⟩
      simp only [step, x]
      exact y
    | exit id =>
      refine ⟨.exit id, df1, s1, st1, evalEv (e1.map fun n x => ?_), h⟩
      simp only [step, x]
    | ret =>
      refine ⟨.ret, df1, s1, st1, evalEv (e1.map fun n x => ?_), h⟩
      simp only [step, x]

theorem loopC_run (c : CodeC) (s : Sl) (m : Ms) (kn : K) (ke : Nat → K) (kr : K) : ∃ L, (loopC c).run s m kn ke kr = Nat.rec (motive := fun _ => K) (fun _ _ => false) (fun _ ih s m => c.run s m ih ke kr) L s m := by
  unfold loopC
  generalize LOOPS = L
  exact ⟨L, rfl⟩

theorem loopC_ok {nt : Nat} {rd : Bool} {a : Code} {c : CodeC} (ih : ∀ {s : Sl} {m : Ms} {kn : K} {ke : Nat → K} {kr : K}, HdOk (RJ P J) m.C → c.run s m kn ke kr = true → CodeDid (RJ P J) nt rd a s m kn ke kr)
    {s : Sl} {m : Ms} {kn : K} {ke : Nat → K} {kr : K} (hC : HdOk (RJ P J) m.C) (h : (loopC c).run s m kn ke kr = true) : CodeDid (RJ P J) nt rd (.loop a) s m kn ke kr := by
  obtain ⟨L, e⟩ := loopC_run c s m kn ke kr
  rw [e] at h
  obtain ⟨e, df1, s1, st1, e1, h⟩ := loopN_ok ih L hC h
  cases e with
  | normal => cases h
  | exit j => exact ⟨_, df1, s1, st1, e1, h⟩
  | ret => exact ⟨_, df1, s1, st1, e1, h⟩

theorem codeC_loop (nt : Nat) (rd : Bool) (a : Code) : codeC P nt rd (.loop a) = loopC (codeC P nt rd a) := rfl

theorem codeC_ok {nt : Nat} {rd : Bool} : ∀ (c : Code) {s : Sl} {m : Ms} {kn : K} {ke : Nat → K} {kr : K}, HdOk (RJ P J) m.C → (codeC P nt rd c).run s m kn ke kr = true → CodeDid (RJ P J) nt rd c s m kn ke kr := by
  intro c
  induction c with
  | skip =>
    intro s m kn ke kr hC h
    exact ⟨.normal, m.df, s, ⟨m.h, m.nx⟩, evalEv (Ev.of fun _ => rfl), h⟩
  | region id ops draw =>
    intro s m kn ke kr hC h
    cases draw with
    | false =>
      obtain ⟨df', s', st, e1, hk⟩ := opsC_ok hC h
      refine ⟨.normal, df', s', st, evalEv (e1.map fun n x => ?_), hk⟩
      simp only [step, x, Option.map_some]
    | true =>
      have h' : (match sched ops.toList with
        | some rs => (⟨fun s m kn _ _ => (stepsC P nt rd ops.toList rs []).run s m kn⟩ : CodeC)
        | none => failC).run s m kn ke kr = true := h
      split at h'
      · rename_i rs hrs
        obtain ⟨df', s', st, e1, hk⟩ := stepsC_ok hC h'
        refine ⟨.normal, df', s', st, evalEv (e1.map fun n x => ?_), hk⟩
        simp only [step, hrs, x, Option.map_some]
      · cases h'
  | seq a b iha ihb =>
    intro s m kn ke kr hC h
    obtain ⟨e, df1, s1, st1, e1, h⟩ := iha (kn := fun s m => (codeC P nt rd b).run s m kn ke kr) hC h
    cases e with
    | normal =>
      obtain ⟨e2, df2, s2, st2, e3, h⟩ := ihb (m := ⟨m.C, df1, st1.hp, st1.nx⟩) hC h
      refine ⟨e2, df2, s2, st2, evalEv (e1.map2 e3 fun n x y => ?_), h⟩
      simp only [step, x]
      exact y
    | exit id =>
      refine ⟨.exit id, df1, s1, st1, evalEv (e1.map fun n x => ?_), h⟩
      simp only [step, x]
    | ret =>
      refine ⟨.ret, df1, s1, st1, evalEv (e1.map fun n x => ?_), h⟩
      simp only [step, x]
  | cond x a b iha ihb =>
    intro s m kn ke kr hC h
    rcases OBool.way h with ⟨_, h⟩ | ⟨e1, h⟩ | ⟨e1, h⟩
    · cases h
    · obtain ⟨e, df1, s1, st1, e2, h⟩ := iha hC h
      have e3 : evOpd ⟨s, nt, m.df, rd⟩ x = some (.bool true) := by rw [← opdC_run]; exact asBoolO_tt e1
      refine ⟨e, df1, s1, st1, evalEv (e2.map fun n y => ?_), h⟩
      simp only [step, e3, y]
    · obtain ⟨e, df1, s1, st1, e2, h⟩ := ihb hC h
      have e3 : evOpd ⟨s, nt, m.df, rd⟩ x = some (.bool false) := by rw [← opdC_run]; exact asBoolO_ff e1
      refine ⟨e, df1, s1, st1, evalEv (e2.map fun n y => ?_), h⟩
      simp only [step, e3, y]
  | block id a iha =>
    intro s m kn ke kr hC h
    obtain ⟨e, df1, s1, st1, e1, h⟩ := iha (ke := fun j s m => Bool.rec (motive := fun _ => Bool) (ke j s m) (kn s m) (Nat.beq j id)) hC h
    cases e with
    | normal =>
      refine ⟨.normal, df1, s1, st1, evalEv (e1.map fun n x => ?_), h⟩
      simp only [step, x]
    | exit j =>
      rcases boolWay h with ⟨e2, h⟩ | ⟨e2, h⟩
      · refine ⟨.exit j, df1, s1, st1, evalEv (e1.map fun n x => ?_), h⟩
        simp only [step, x, e2, cond_false]
      · refine ⟨.normal, df1, s1, st1, evalEv (e1.map fun n x => ?_), h⟩
        simp only [step, x, e2, cond_true]
    | ret =>
      refine ⟨.ret, df1, s1, st1, evalEv (e1.map fun n x => ?_), h⟩
      simp only [step, x]
  | loop a iha =>
    intro s m kn ke kr hC h
    rw [codeC_loop] at h
    exact loopC_ok iha hC h
  | rangeFunc g ps asg body _ _ =>
    intro s m kn ke kr hC h
    cases rd with
    | true => cases h
    | false => exact rangeC_ok hC h
  | exit id =>
    intro s m kn ke kr hC h
    exact ⟨.exit id, m.df, s, ⟨m.h, m.nx⟩, evalEv (Ev.of fun _ => rfl), h⟩
  | ret =>
    intro s m kn ke kr hC h
    exact ⟨.ret, m.df, s, ⟨m.h, m.nx⟩, evalEv (Ev.of fun _ => rfl), h⟩
  | scope a _ => intro s m kn ke kr hC h; cases h
  | label l => intro s m kn ke kr hC h; cases h
  | goto l => intro s m kn ke kr hC h; cases h
  | refuse w => intro s m kn ke kr hC h; cases h
end
end Go.Det
