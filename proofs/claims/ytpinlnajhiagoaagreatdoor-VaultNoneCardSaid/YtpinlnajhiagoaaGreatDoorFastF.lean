/-
  The fast form: functions; what it tells is so.
-/
import Derived.Test.YtpinlnajhiagoaaGreatDoorFastE
set_option linter.unusedVariables false
set_option linter.unusedSimpArgs false
namespace Go.Det
open Go

section
variable {P : Program} {J : Jntr}

theorem argsK_ok : ∀ {l : List Value} {i : Nat} {s : Sl} {k : Sl → Bool}, argsK l i s k = true → k (l.foldl (fun (x : Nat × Tr SD Value) v => (x.1 + 1, x.2.set SD x.1 v)) (i, s)).2 = true
  | [], i, s, k, h => h
  | v :: l, i, s, k, h => by
    have h' : (sput i).run s (some v) (fun s' => argsK l (Nat.succ i) s' k) = true := h
    rw [sput_run] at h'
    exact argsK_ok (l := l) (i := i + 1) (s := s.set SD i v) h'

theorem leaveK_ok {C : Hd} (hC : HdOk (RJ P J) C) : ∀ {df : Df} {h : Hp} {nx : Nat} {k : Hp → Nat → Bool}, leaveK C df h nx k = true →
    ∃ st, Ev (fun n => enter.leave (RJ P J) (eval (RJ P J) n) df ⟨h, nx⟩) st ∧ k st.hp st.nx = true
  | [], h, nx, k, hk => ⟨⟨h, nx⟩, Ev.of fun _ => by unfold enter.leave; rfl, hk⟩
  | d :: ds, h, nx, k, hk => by
    have hk' : (ODef.rec (motive := fun _ => Bool) false (fun b => Bool.rec (motive := fun _ => Bool) false ((tput HD b).run h none (fun h' => leaveK C ds h' nx k)) (isDefers ((tget HD b).run h)))
      (fun f args => C.dfr f args h nx (fun h nx => leaveK C ds h nx k)) (asDef d) : Bool) = true := hk
    clear hk
    cases ha : asDef d with
    | no => rw [ha] at hk'; cases hk'
    | col b =>
      rw [ha] at hk'
      obtain ⟨e1, hk⟩ := boolTrue hk'
      rw [hdel_run] at hk
      rw [hget_run] at e1
      obtain ⟨st, e2, hk⟩ := leaveK_ok hC hk
      refine ⟨st, e2.map fun n e => ?_, hk⟩
      unfold asDef at ha
      split at ha
      · rename_i b' args
        cases ha
        unfold enter.leave
        unfold isDefers at e1
        split at e1
        · rename_i ho
          simp only [ho]
          exact e
        · cases e1
      · cases ha
      · cases ha
    | fn f args =>
      rw [ha] at hk'
      obtain ⟨h', nx', hr, hk⟩ := hC.dfr _ _ _ _ _ hk'
      obtain ⟨fn, c, fr, e, fr', r1, r2, r3, r4, r5, r6, r7⟩ := hr
      obtain ⟨st, e2, hk⟩ := leaveK_ok hC hk
      refine ⟨st, r5.map2 e2 fun n x y => ?_, hk⟩
      unfold asDef at ha
      split at ha
      · cases ha
      · rename_i f' cap args'
        cases ha
        unfold enter.leave
        simp only [r1, r2, r3]
        cases hro : resOf P fn fr' h' with
        | none => rw [hro] at r7; cases r7
        | some u =>
          rcases r4 with rfl | rfl
          · simp only [x, r6, hro]; exact y
          · simp only [x, r6, hro]; exact y
      · cases ha

theorem resL_ok {s : Sl} {h : Hp} (nt : Nat) (df : Df) (rd : Bool) : ∀ {l : List ResultVar} {k : List Value → Bool}, (resL P l).run s h k = true → ∃ vs, resVals P ⟨s, nt, df, rd⟩ h l = some vs ∧ k vs = true
  | [], k, hk => ⟨[], rfl, hk⟩
  | .tmp t :: l, k, hk => by
    obtain ⟨v, e1, hk⟩ := optSome hk
    obtain ⟨vs, e2, hk⟩ := resL_ok nt df rd (l := l) (k := fun vs => k (v :: vs)) hk
    have e1' : Fr.get ⟨s, nt, df, rd⟩ t = some v := (opdC_run (.tmp t) s nt df rd).symm.trans e1
    exact ⟨v :: vs, by simp only [resVals, e1', e2], hk⟩
  | .cell a t :: l, k, hk => by
    obtain ⟨v, e1, hk⟩ := optSome hk
    obtain ⟨vs, e2, hk⟩ := resL_ok nt df rd (l := l) (k := fun vs => k (v :: vs)) hk
    have e1' : (Fr.get ⟨s, nt, df, rd⟩ a).bind (dLoad P h t) = some v := (congrArg (fun x => x.bind (dLoad P h t)) (opdC_run (.tmp a) s nt df rd)).symm.trans e1
    exact ⟨v :: vs, by simp only [resVals, e1', e2], hk⟩

theorem resVals_len {fr : Fr} {h : Hp} : ∀ {l : List ResultVar} {vs : List Value}, resVals P fr h l = some vs → vs.length = l.length
  | [], vs, e => by cases e; rfl
  | .tmp t :: l, vs, e => by
    simp only [resVals] at e
    split at e
    · rename_i v r h1 h2; cases e; simp [resVals_len h2]
    · cases e
  | .cell a t :: l, vs, e => by
    simp only [resVals] at e
    split at e
    · rename_i v r h1 h2; cases e; simp [resVals_len h2]
    · cases e

theorem resC_ok {fn : Func} {s : Sl} {h : Hp} {k : Value → Bool} (hk : (resC P fn.results.toList).run s h k = true) (nt : Nat) (df : Df) (rd : Bool) : ∃ v, resOf P fn ⟨s, nt, df, rd⟩ h = some v ∧ k v = true := by
  unfold resC at hk
  unfold resOf
  split at hk
  · rename_i r hl
    obtain ⟨vs, e1, hk⟩ := resL_ok nt df rd hk
    have hlen := resVals_len e1
    rw [hl] at hlen
    match vs, hlen with
    | [v], _ => rw [e1]; exact ⟨v, rfl, hk⟩
  · rename_i hne
    obtain ⟨vs, e1, hk⟩ := resL_ok nt df rd hk
    have hlen := resVals_len e1
    rw [e1]
    refine ⟨.tuple vs.toArray, ?_, hk⟩
    split
    · rename_i v hv
      cases hv
      exfalso
      match hq : fn.results.toList, hlen with
      | [r], _ => exact hne r hq
    · rename_i vs' _ hv; cases hv; rfl
    · rename_i hv; cases hv

/-- the body of a function, entered -/
theorem enterFr_ok {fn : Func} {args : List Value} (h1 : Nat.ble fn.ntmps (16 ^ SD) = true) (h2 : Nat.ble (llen args) fn.ntmps = true) :
    enterFr fn args = some ⟨(args.foldl (fun (x : Nat × Tr SD Value) v => (x.1 + 1, x.2.set SD x.1 v)) (0, Tr.nil SD)).2, fn.ntmps, [], false⟩ := by
  rw [llen_eq] at h2
  simp only [enterFr, h1, h2, Bool.and_self, cond_true, fromList]

theorem bodyC_ok {C : Hd} (hC : HdOk (RJ P J) C) {g : FuncId} {args : List Value} {h : Hp} {nx : Nat} {k : KV} (hk : (bodyC P g).run C args h nx k = true) :
    ∃ fn c v st, P.funcs[g]? = some fn ∧ fn.body = some c ∧ Ev (fun n => match enterFr fn args with
      | some fr => match eval (RJ P J) n c fr ⟨h, nx⟩ with
        | some (.normal, fr', s') | some (.ret, fr', s') => match enter.leave (RJ P J) (eval (RJ P J) n) fr'.df s' with
          | some s'' => (resOf P fn fr' s''.hp).map fun v => (v, s'')
          | none => none
        | _ => none
      | none => none) (v, st) ∧ k v st.hp st.nx = true := by
  unfold bodyC at hk
  rw [fnAt_eq] at hk
  split at hk
  rotate_left
  · cases hk
  rename_i fn hfn
  split at hk
  rotate_left
  · cases hk
  rename_i c hc
  cases h1 : Nat.ble fn.ntmps (16 ^ SD) with
  | false => rw [h1] at hk; cases hk
  | true =>
    rw [h1] at hk
    obtain ⟨h2, hk⟩ := boolTrue hk
    replace hk := argsK_ok hk
    obtain ⟨e, df', s', st, e1, hk⟩ := codeC_ok c (m := ⟨C, [], h, nx⟩) hC hk
    have key : ∀ (hk : leaveK C df' st.hp st.nx (fun h nx => (resC P fn.results.toList).run s' h fun v => k v h nx) = true) (he : e = .normal ∨ e = .ret),
        ∃ v st2, Ev (fun n => match enterFr fn args with
          | some fr => match eval (RJ P J) n c fr ⟨h, nx⟩ with
            | some (.normal, fr', s') | some (.ret, fr', s') => match enter.leave (RJ P J) (eval (RJ P J) n) fr'.df s' with
              | some s'' => (resOf P fn fr' s''.hp).map fun v => (v, s'')
              | none => none
            | _ => none
          | none => none) (v, st2) ∧ k v st2.hp st2.nx = true := by
      intro hk he
      obtain ⟨st2, e2, hk⟩ := leaveK_ok hC hk
      obtain ⟨v, e3, hk⟩ := resC_ok hk fn.ntmps df' false
      refine ⟨v, st2, e1.map2 e2 fun n x y => ?_, hk⟩
      rw [enterFr_ok h1 h2]
      rcases he with rfl | rfl
      · simp only [x]; rw [y]; simp only [e3, Option.map_some]
      · simp only [x]; rw [y]; simp only [e3, Option.map_some]
    cases e with
    | normal =>
      obtain ⟨v, st2, e2, hk⟩ := key hk (.inl rfl)
      exact ⟨fn, c, v, st2, hfn, hc, e2, hk⟩
    | exit id => cases hk
    | ret =>
      obtain ⟨v, st2, e2, hk⟩ := key hk (.inr rfl)
      exact ⟨fn, c, v, st2, hfn, hc, e2, hk⟩

theorem fnC_ok {C : Hd} (hC : HdOk (RJ P J) C) {g : FuncId} {args : List Value} {h : Hp} {nx : Nat} {k : KV} (hk : (fnC P J g).run C args h nx k = true) :
    ∃ v h' nx', Ev (fun n => enter (RJ P J) (eval (RJ P J) n) g args ⟨h, nx⟩) (v, ⟨h', nx'⟩) ∧ k v h' nx' = true := by
  have body : (RJ P J).I g args ⟨h, nx⟩ = none → (bodyC P g).run C args h nx k = true → ∃ v h' nx', Ev (fun n => enter (RJ P J) (eval (RJ P J) n) g args ⟨h, nx⟩) (v, ⟨h', nx'⟩) ∧ k v h' nx' = true := by
    intro hi hk
    obtain ⟨fn, c, v, st, h1, h2, e, hk⟩ := bodyC_ok hC hk
    refine ⟨v, st.hp, st.nx, e.map fun n x => ?_, hk⟩
    unfold enter
    rw [hi]
    simp only [h1, h2]
    cases hf : enterFr fn args with
    | none => rw [hf] at x; cases x
    | some fr => rw [hf] at x; exact x
  unfold fnC at hk
  split at hk
  · rename_i f hf
    rcases optWay hk with ⟨e1, hk⟩ | ⟨r, e1, hk⟩
    · exact body (by simp only [RJ, Jntr.I, hf, Option.bind_some, e1]) hk
    · obtain ⟨v, st, e2, hk⟩ := takeVS_ok hk
      cases e2
      refine ⟨v, st.hp, st.nx, Ev.of fun n => ?_, hk⟩
      unfold enter
      have : (RJ P J).I g args ⟨h, nx⟩ = some (v, st) := by simp only [RJ, Jntr.I, hf, Option.bind_some, e1]
      rw [this]
  · rename_i hf
    exact body (by simp only [RJ, Jntr.I, hf, Option.bind_none]) hk

theorem putLoop_ok {h : Hp} {l : Nat} {was ready : Bool} {pend : Option Code} {k : Hp → Bool} (hk : putLoop h l was ready pend k = true) (nx : Nat) : ∃ h', setLoop ⟨h, nx⟩ l was ready pend = some ⟨h', nx⟩ ∧ k h' = true := by
  unfold putLoop at hk
  rw [hget_run] at hk
  unfold setLoop
  split at hk
  · rename_i fn tm nt ps asg body rdy p d ho
    cases hc : (!was || rdy) with
    | false => rw [hc] at hk; cases hk
    | true =>
      rw [hc] at hk
      simp only [cond_true] at hk
      rw [hput_run] at hk
      refine ⟨_, ?_, hk⟩
      simp only [ho, hc, cond_true]
  · cases hk

theorem roundK_ok {C : Hd} (hC : HdOk (RJ P J) C) {l : Nat} {args : List Value} {h : Hp} {nx : Nat} {k : KV} (hk : roundK P C l args h nx k = true) :
    ∃ v h' nx', Ev (fun n => round (eval (RJ P J) n) l args ⟨h, nx⟩) (v, ⟨h', nx'⟩) ∧ k v h' nx' = true := by
  unfold roundK at hk
  rw [hget_run] at hk
  split at hk
  · rename_i fn tm nt ps asg body rdy p d ho
    cases hc : (Nat.beq ps.length args.length && ps.all fun p => Nat.blt p nt) with
    | false => rw [hc] at hk; cases hk
    | true =>
      rw [hc] at hk
      simp only [cond_true] at hk
      obtain ⟨e, df1, s1, st1, e1, hk⟩ := codeC_ok asg (m := ⟨C, [], h, nx⟩) hC hk
      cases e with
      | exit id => cases hk
      | ret => cases hk
      | normal =>
        obtain ⟨h2, e2, hk⟩ := putLoop_ok hk st1.nx
        obtain ⟨e, df3, s3, st3, e3, hk⟩ := codeC_ok body (m := ⟨C, df1, h2, st1.nx⟩) hC hk
        have e2' : setLoop st1 l true false none = some ⟨h2, st1.nx⟩ := e2
        cases e with
        | normal =>
          obtain ⟨h4, e4, hk⟩ := putLoop_ok hk st3.nx
          have e4' : setLoop st3 l false true none = some ⟨h4, st3.nx⟩ := e4
          refine ⟨_, _, _, e1.map2 e3 fun n x y => ?_, hk⟩
          unfold round
          simp only [ho, hc, cond_true]
          simp only [setParams] at x
          simp only [x, e2']
          simp only at y
          simp only [y, e4', Option.map_some]
        | exit id =>
          obtain ⟨h4, e4, hk⟩ := putLoop_ok hk st3.nx
          have e4' : setLoop st3 l false false (some (.exit id)) = some ⟨h4, st3.nx⟩ := e4
          refine ⟨_, _, _, e1.map2 e3 fun n x y => ?_, hk⟩
          unfold round
          simp only [ho, hc, cond_true]
          simp only [setParams] at x
          simp only [x, e2']
          simp only at y
          simp only [y, e4', Option.map_some]
        | ret =>
          obtain ⟨h4, e4, hk⟩ := putLoop_ok hk st3.nx
          have e4' : setLoop st3 l false false (some .ret) = some ⟨h4, st3.nx⟩ := e4
          refine ⟨_, _, _, e1.map2 e3 fun n x y => ?_, hk⟩
          unfold round
          simp only [ho, hc, cond_true]
          simp only [setParams] at x
          simp only [x, e2']
          simp only at y
          simp only [y, e4', Option.map_some]
  · cases hk

theorem dfrC_ok {C : Hd} (hC : HdOk (RJ P J) C) {g : FuncId} {args : List Value} {h : Hp} {nx : Nat} {k : Hp → Nat → Bool} (hk : (dfrC P g).run C args h nx k = true) : ∃ h' nx', DfrRan (RJ P J) g args h nx h' nx' ∧ k h' nx' = true := by
  unfold dfrC at hk
  rw [fnAt_eq] at hk
  split at hk
  rotate_left
  · cases hk
  rename_i fn hfn
  split at hk
  rotate_left
  · cases hk
  rename_i c hc
  cases h1 : Nat.ble fn.ntmps (16 ^ SD) with
  | false => rw [h1] at hk; cases hk
  | true =>
    rw [h1] at hk
    obtain ⟨h2, hk⟩ := boolTrue hk
    replace hk := argsK_ok hk
    obtain ⟨e, df', s', st, e1, hk⟩ := codeC_ok c (m := ⟨C, [], h, nx⟩) hC hk
    have key : ∀ (hk : (List.rec (motive := fun _ => Bool) ((resC P fn.results.toList).run s' st.hp fun _ => k st.hp st.nx) (fun _ _ _ => false) df' : Bool) = true) (he : e = .normal ∨ e = .ret),
        ∃ h' nx', DfrRan (RJ P J) g args h nx h' nx' ∧ k h' nx' = true := by
      intro hk he
      cases df' with
      | cons => cases hk
      | nil =>
        obtain ⟨v, e3, hk⟩ := resC_ok hk fn.ntmps [] false
        exact ⟨st.hp, st.nx, ⟨fn, c, _, e, ⟨s', fn.ntmps, [], false⟩, hfn, hc, enterFr_ok h1 h2, he, e1, rfl, by show (resOf P fn _ _).isSome = true; rw [e3]; rfl⟩, hk⟩
    cases e with
    | normal => exact key hk (.inl rfl)
    | exit id => cases hk
    | ret => exact key hk (.inr rfl)

theorem hdC_ok : ∀ n, HdOk (RJ P J) (hdC P J n)
  | 0 => by
    constructor
    · intro _ _ _ _ _ h; cases h
    · intro _ _ _ _ _ h; cases h
    · intro _ _ _ _ _ h; cases h
  | n + 1 => ⟨fun _ _ _ _ _ h => fnC_ok (hdC_ok n) h, fun _ _ _ _ _ h => roundK_ok (hdC_ok n) h, fun _ _ _ _ _ h => dfrC_ok (hdC_ok n) h⟩

/-- what the fast form tells, the evaluator tells -/
theorem fast_run {n : Nat} {g : FuncId} {args : List Value} {h : Hp} {nx : Nat} {k : KV} (hk : (hdC P J n).call g args h nx k = true) :
    ∃ m v s', run ⟨P, Jntr.I J⟩ m g args ⟨h, nx⟩ = some (v, s') ∧ k v s'.hp s'.nx = true := by
  obtain ⟨v, h', nx', ⟨N, e⟩, hk⟩ := (hdC_ok n).call _ _ _ _ _ hk
  exact ⟨N, v, ⟨h', nx'⟩, e N (Nat.le_refl _), hk⟩
end
end Go.Det
