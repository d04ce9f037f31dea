/-
  The fast form: operations that read, compute, or change memory.
-/
import Derived.Test.YtpinlnajhiagoaaGreatDoorFastA
set_option linter.unusedVariables false
set_option linter.unusedSimpArgs false
namespace Go.Det
open Go

section
variable {P : Program}

theorem opdC_run (x : Operand) (s : Sl) (nt : Nat) (df : Df) (rd : Bool) : (opdC x).run s = evOpd ⟨s, nt, df, rd⟩ x := by
  cases x with
  | tmp t =>
    simp only [opdC, evOpd, Fr.get]
    cases Nat.blt t (16 ^ SD) with
    | true => exact sget_run t s
    | false => rfl
  | const v =>
    simp only [opdC, evOpd]
    cases plainConst v <;> rfl
  | global g => rfl
  | func f => rfl

theorem opdF_eq (s : Sl) (nt : Nat) (df : Df) (rd : Bool) : opdF s = evOpd ⟨s, nt, df, rd⟩ := funext fun x => opdC_run x s nt df rd

theorem valsC_ok {s : Sl} : ∀ {l : List Operand} {k : List Value → Bool}, (valsC l).run s k = true → ∃ vs, vals (opdF s) l = some vs ∧ k vs = true
  | [], k, h => ⟨[], rfl, h⟩
  | x :: xs, k, h => by
    obtain ⟨v, e, h⟩ := optSome h
    obtain ⟨vs, e2, hk⟩ := valsC_ok (l := xs) h
    refine ⟨v :: vs, ?_, hk⟩
    have e' : opdF s x = some v := e
    simp only [vals, e', e2]

theorem slowVal_ok {o : Op} {s : Sl} {m : Ms} {k : Value → Bool} (h : (slowVal P o).run s m k = true) : ∃ v, evVal P (opdF s) m.h o = some v ∧ k v = true := optSome h

theorem lnth_some : ∀ {n : Nat} {l : List Value} {v : Value}, lnth n l = some v → ltake 1 (ldrop n l) = some [v]
  | 0, [], _, h => by cases h
  | 0, x :: xs, v, h => by cases h; rfl
  | n + 1, [], _, h => by cases h
  | n + 1, x :: xs, v, h => lnth_some (n := n) (l := xs) h

theorem ixTy_arr {t : TypeId} {n s : Nat} (h : ixTy P t = .arr n s) : ∃ e, tyOf P t = some (.array n e) ∧ szOf P e = some s := by
  unfold ixTy at h
  split at h
  · rename_i n' e ht
    split at h
    · rename_i s' hs
      cases h; exact ⟨e, ht, hs⟩
    · cases h
  · split at h <;> cases h
  · cases h
theorem ixTy_sl {t : TypeId} {s : Nat} (h : ixTy P t = .sl s) : ∃ e, tyOf P t = some (.slice e) ∧ szOf P e = some s := by
  unfold ixTy at h
  split at h
  · split at h <;> cases h
  · rename_i e ht
    split at h
    · rename_i s' hs
      cases h; exact ⟨e, ht, hs⟩
    · cases h
  · cases h

theorem mapTy_is {t : TypeId} {ik : IntKind} {e : TypeId} (h : mapTy P t = some (ik, e)) : ∃ kt, tyOf P t = some (.map kt e) ∧ tyOf P kt = some (.int ik) := by
  unfold mapTy at h
  split at h
  · rename_i kt e' ht
    cases hi : intTy P kt with
    | none => rw [hi] at h; cases h
    | some k =>
      rw [hi] at h; cases h
      refine ⟨kt, ht, ?_⟩
      unfold intTy at hi
      split at hi
      · rename_i k' hk; cases hi; exact hk
      · cases hi
  · cases h

theorem ekey_succ {ik : IntKind} {e : Ent} {m : Nat} (h : ekey ik e = m + 1) : e.key = .int ik (.ofNat m) := by
  unfold ekey at h
  split at h
  · rename_i k' n hn
    cases hq : ikeq ik k' with
    | false => rw [hq] at h; simp at h
    | true =>
      rw [hq] at h; simp at h
      have := ikeq_eq hq; subst this
      rw [asNat_is hn, h]
  · simp at h

theorem findE_ok {kt : TypeId} {ik : IntKind} (hk : tyOf P kt = some (.int ik)) {n : Nat} {N : Bool} {Y : Nat → Ent → Bool} : ∀ {es : List Ent} {i : Nat},
    (List.rec (motive := fun _ => Nat → Bool) (fun _ => N) (fun e _ ih i => Bool.rec (motive := fun _ => Bool) (Bool.rec (motive := fun _ => Bool) (ih (Nat.succ i)) false (Nat.beq (ekey ik e) 0)) (Y i e) (Nat.beq (ekey ik e) (Nat.succ n))) es i : Bool) = true →
    (dFindK P kt (.int ik (.ofNat n)) es i = some none ∧ N = true) ∨ ∃ j e, dFindK P kt (.int ik (.ofNat n)) es i = some (some (j, e)) ∧ Y j e = true := by
  intro es
  induction es with
  | nil => intro i h; exact .inl ⟨rfl, h⟩
  | cons e es ih =>
    intro i h
    have hkey : ∀ m, ekey ik e = m + 1 → dKeyEq P kt (.int ik (.ofNat n)) e.key = some (decide (n = m)) := by
      intro m hm
      rw [ekey_succ hm]
      simp only [dKeyEq, hk, veq]
      have : decEq ik ik = isTrue rfl := by cases ik <;> rfl
      rw [this]
      simp only
      congr 1
      split <;> rename_i hx _
      · simp at hx; simp; omega
      · simp at hx; simp; omega
    rcases boolWay h with ⟨e1, h⟩ | ⟨e1, hy⟩
    · rcases boolWay h with ⟨e2, hr⟩ | ⟨_, hr⟩
      · have h2 := Nat.ne_of_beq_eq_false e2
        have h1 := Nat.ne_of_beq_eq_false e1
        obtain ⟨m, hm⟩ : ∃ m, ekey ik e = m + 1 := ⟨ekey ik e - 1, by omega⟩
        have hne : ¬ n = m := by intro hh; apply h1; rw [hm, hh]
        have := hkey m hm
        simp only [hne, decide_false] at this
        simp only [dFindK, this]
        exact ih hr
      · cases hr
    · have h1 := Nat.eq_of_beq_eq_true e1
      have := hkey n h1
      simp only [decide_true] at this
      refine .inr ⟨i, e, ?_, hy⟩
      simp only [dFindK, this]

theorem keyOk_int {kt : TypeId} {ik : IntKind} (hk : tyOf P kt = some (.int ik)) (n : Int) : dKeyOk P kt (.int ik n) = true := by
  simp only [dKeyOk, hk]

theorem dLook_int {kt : TypeId} {ik : IntKind} (hk : tyOf P kt = some (.int ik)) (n : Int) (es : List Ent) : dLook P kt (.int ik n) es = dFindK P kt (.int ik n) es 0 := by
  simp only [dLook, keyOk_int hk, cond_true]

theorem ptrAdd_eq {off c b : Nat} {spot : Option Nat} {k : Value → Bool} (h : ptrAdd off c b spot k = true) : k (.pointer (some ((⟨b, off, spot⟩ : Addr).add c))) = true := by
  unfold ptrAdd at h
  rcases optWay h with ⟨rfl, h⟩ | ⟨_, _, h⟩
  · rw [forceN_eq] at h
    have : (⟨b, off, none⟩ : Addr).add c = ⟨b, off + c, none⟩ := by
      unfold Addr.add
      split
      · rename_i hc; subst hc; rfl
      · rfl
    rw [this]; exact h
  · cases h

theorem fieldOff_is {t : TypeId} {f c : Nat} (h : fieldOff P t f = some c) : ∃ fs fl n, tyOf P t = some (.struct fs) ∧ fs[f]? = some fl ∧ szOf P fl.type = some (n + 1) ∧ c = fl.offset := by
  unfold fieldOff at h
  split at h
  · rename_i fs ht
    split at h
    · rename_i fl hf
      split at h
      · rename_i n hs
        cases h; exact ⟨fs, fl, n, ht, hf, hs, rfl⟩
      · cases h
    · cases h
  · cases h

theorem oneTy_is {t : TypeId} (h : oneTy P t = true) : aggOf P t = some false ∧ ∃ n, szOf P t = some n := by
  unfold oneTy at h
  split at h
  · rename_i n h1 h2; exact ⟨h1, n, h2⟩
  · cases h

theorem lookup_ok {t : TypeId} {m k : Operand} {ok : Bool} {ik : IntKind} {e : TypeId} (hm : mapTy P t = some (ik, e)) {z : Value} (hz : zrOf P e = some z) {s : Sl} {mm : Ms} {kk : Value → Bool}
    (h : Option.rec (motive := fun _ => Bool) false (fun vm => Option.rec (motive := fun _ => Bool) false (fun vk => ONat.rec (motive := fun _ => Bool) ((slowVal P (.lookup t m k ok)).run s mm kk) (fun ik' n =>
          Bool.rec (motive := fun _ => Bool) false
          (OMp.rec (motive := fun _ => Bool) false (kk (cond ok (.tuple #[z, .bool false]) z)) (fun r => OMap.rec (motive := fun _ => Bool) false (fun es _ => findE ik (Nat.succ n) es false (kk (cond ok (.tuple #[z, .bool false]) z)) (fun _ x => kk (cond ok (.tuple #[x.val, .bool true]) x.val))) (asMap ((tget HD r).run (Ms.h mm)))) (asMp vm)) (ikeq ik ik')) (asNat vk)) ((opdC k).run s)) ((opdC m).run s) = true) :
    ∃ v, evVal P (opdF s) mm.h (.lookup t m k ok) = some v ∧ kk v = true := by
  obtain ⟨kt, h1, h2⟩ := mapTy_is hm
  obtain ⟨vm, em, h⟩ := optSome h
  obtain ⟨vk, ek, h⟩ := optSome h
  have em' : opdF s m = some vm := em
  have ek' : opdF s k = some vk := ek
  rcases ONat.way h with ⟨_, h⟩ | ⟨ik', n, e1, h⟩
  · exact slowVal_ok h
  obtain ⟨e2, h9⟩ := boolTrue h
  have e3 := asNat_is e1; subst e3
  have e4 := ikeq_eq e2; subst e4
  rcases OMp.way h9 with ⟨_, h⟩ | ⟨e5, hk⟩ | ⟨r, e5, h8⟩
  · cases h
  · have e6 := asMp_nil e5; subst e6
    refine ⟨_, ?_, hk⟩
    simp only [evVal, h1, em', ek', dMap, dLook_int h2, dFindK, hz, Option.map_some]
  · have e6 := asMp_is e5; subst e6
    rcases OMap.way h8 with ⟨_, h⟩ | ⟨es, c, e7, h7⟩
    · cases h
    have e8 := asMap_is e7
    rw [hget_run] at e8
    rcases findE_ok h2 h7 with ⟨f1, hk⟩ | ⟨j, x, f1, hk⟩
    · refine ⟨_, ?_, hk⟩
      simp only [evVal, h1, em', ek', dMap, e8, dLook_int h2, f1, hz, Option.map_some]
    · refine ⟨_, ?_, hk⟩
      simp only [evVal, h1, em', ek', dMap, e8, dLook_int h2, f1]

theorem valC_ok {o : Op} {s : Sl} {m : Ms} {k : Value → Bool} (h : (valC P o).run s m k = true) : ∃ v, evVal P (opdF s) m.h o = some v ∧ k v = true := by
  cases o with
  | move x => obtain ⟨v, e, hk⟩ := optSome h; exact ⟨v, e, hk⟩
  | assign x => obtain ⟨v, e, hk⟩ := optSome h; exact ⟨v, e, hk⟩
  | pick c a b =>
    rcases OBool.way h with ⟨_, h⟩ | ⟨e1, h⟩ | ⟨e1, h⟩
    · cases h
    · obtain ⟨v, e, hk⟩ := optSome h
      have e' : opdF s c = some (.bool true) := asBoolO_tt e1
      refine ⟨v, ?_, hk⟩
      simp only [evVal, e']; exact e
    · obtain ⟨v, e, hk⟩ := optSome h
      have e' : opdF s c = some (.bool false) := asBoolO_ff e1
      refine ⟨v, ?_, hk⟩
      simp only [evVal, e']; exact e
  | nilCheck x =>
    obtain ⟨v, e, h⟩ := optSome h
    have e' : opdF s x = some v := e
    rcases OPtr.way h with ⟨_, h⟩ | ⟨_, h⟩ | ⟨b, o, sp, e1, hk⟩
    · exact slowVal_ok h
    · cases h
    · have e2 := asPtr_is e1; subst e2
      refine ⟨_, ?_, hk⟩
      simp only [evVal, e']
  | binOp op t x y ty =>
    obtain ⟨a, e1, h⟩ := optSome h
    obtain ⟨b, e2, h⟩ := optSome h
    obtain ⟨v, e3, hk⟩ := binC_ok op t a b k h
    have e1' : opdF s x = some a := e1
    have e2' : opdF s y = some b := e2
    refine ⟨v, ?_, hk⟩
    simp only [evVal, e1', e2', e3]
  | unOp op t x =>
    cases op with
    | not =>
      rcases OBool.way h with ⟨_, h⟩ | ⟨e1, hk⟩ | ⟨e1, hk⟩
      · exact slowVal_ok h
      · have e' : opdF s x = some (.bool true) := asBoolO_tt e1
        refine ⟨_, ?_, hk⟩
        simp only [evVal, e', isScalar, cond_true]; rfl
      · have e' : opdF s x = some (.bool false) := asBoolO_ff e1
        refine ⟨_, ?_, hk⟩
        simp only [evVal, e', isScalar, cond_true]; rfl
    | _ => exact slowVal_ok h
  | convert src dst x =>
    simp only [valC] at h
    split at h
    · rename_i d kd h1 h2
      obtain ⟨v, e, h⟩ := optSome h
      have e' : opdF s x = some v := e
      rcases ONat.way h with ⟨_, h⟩ | ⟨k0, n, e1, h⟩
      · exact slowVal_ok h
      rw [forceN_eq] at h
      rcases boolWay h with ⟨_, h⟩ | ⟨e4, hk⟩
      · exact slowVal_ok h
      have e2 := asNat_is e1; subst e2
      refine ⟨_, ?_, hk⟩
      have hw := wrap_nat kd n (Nat.le_of_ble_eq_true e4)
      simp only [evVal, e', dConvert, h1, h2]
      exact congrArg (fun i => some (Value.int kd i)) hw
    · exact slowVal_ok h
  | fieldAddr t x f =>
    simp only [valC] at h
    split at h
    · rename_i c hc
      obtain ⟨v, e, h⟩ := optSome h
      have e' : opdF s x = some v := e
      rcases OPtr.way h with ⟨_, h⟩ | ⟨_, h⟩ | ⟨b, o, sp, e1, hk⟩
      · cases h
      · cases h
      · have e2 := asPtr_is e1; subst e2
        replace hk := ptrAdd_eq hk
        obtain ⟨fs, fl, n, h1, h2, h3, rfl⟩ := fieldOff_is hc
        refine ⟨_, ?_, hk⟩
        simp only [evVal, h1, e', h2, h3]
    · cases h
  | indexAddr t x i =>
    simp only [valC] at h
    split at h
    · rename_i n sz hty
      obtain ⟨el, h1, h2⟩ := ixTy_arr hty
      obtain ⟨v, e, h⟩ := optSome h
      obtain ⟨vi, ei, h⟩ := optSome h
      have e' : opdF s x = some v := e
      have ei' : opdF s i = some vi := ei
      rcases OPtr.way h with ⟨_, h⟩ | ⟨_, h⟩ | ⟨b, o, sp, e1, h⟩
      · cases h
      · cases h
      · have e2 := asPtr_is e1; subst e2
        rcases ONat.way h with ⟨_, h⟩ | ⟨k0, j, e3, h⟩
        · cases h
        obtain ⟨e4, hk⟩ := boolTrue h
        have e5 := asNat_is e3; subst e5
        replace hk := ptrAdd_eq hk
        have hlt : Nat.blt j n = true := e4
        refine ⟨_, ?_, hk⟩
        simp only [evVal, e', ei', dIndexAddr, h1, dNat, h2, hlt, cond_true]; rfl
    · rename_i sz hty
      obtain ⟨el, h1, h2⟩ := ixTy_sl hty
      obtain ⟨v, e, h⟩ := optSome h
      obtain ⟨vi, ei, h⟩ := optSome h
      have e' : opdF s x = some v := e
      have ei' : opdF s i = some vi := ei
      rcases OSl.way h with ⟨_, h⟩ | ⟨a, n, c, e6, h⟩
      · cases h
      have e7 := asSl_is e6; subst e7
      rcases OPtr.way h with ⟨_, h⟩ | ⟨_, h⟩ | ⟨b, o, sp, e1, h⟩
      · cases h
      · cases h
      · have e2 := ptrO_is e1; subst e2
        rcases ONat.way h with ⟨_, h⟩ | ⟨k0, j, e3, h⟩
        · cases h
        obtain ⟨e4, hk⟩ := boolTrue h
        have e5 := asNat_is e3; subst e5
        replace hk := ptrAdd_eq hk
        have hlt : Nat.blt j n = true := e4
        refine ⟨_, ?_, hk⟩
        simp only [evVal, e', ei', dIndexAddr, h1, dNat, h2, hlt, cond_true]; rfl
    · cases h
  | load t a =>
    simp only [valC] at h
    cases ho : oneTy P t with
    | false => rw [ho] at h; exact slowVal_ok h
    | true =>
      rw [ho] at h
      obtain ⟨h1, n, h2⟩ := oneTy_is ho
      obtain ⟨v, e, h⟩ := optSome h
      have e' : opdF s a = some v := e
      rcases OPtr.way h with ⟨_, h⟩ | ⟨_, h⟩ | ⟨b, o, sp, e1, h⟩
      · cases h
      · cases h
      · have e2 := asPtr_is e1; subst e2
        rcases optWay h with ⟨e3, h⟩ | ⟨_, _, h⟩
        · subst e3
          rcases ORow.way h with ⟨_, h⟩ | ⟨row, el, op, e4, h⟩
          · cases h
          have e5 := asRow_is e4
          rw [hget_run] at e5
          obtain ⟨w, e6, hk⟩ := optSome h
          refine ⟨w, ?_, hk⟩
          simp only [evVal, e', dLoad, h1, h2, cellsAt, e5, lnth_some e6]
        · cases h
  | lookup t m' k' ok =>
    simp only [valC] at h
    split at h
    · rename_i ik e hm
      split at h
      · rename_i z hz
        exact lookup_ok hm hz h
      · exact slowVal_ok h
    · exact slowVal_ok h
  | _ => exact slowVal_ok h
end
end Go.Det
