/-
  The fast form: operations.
-/
import Derived.Test.YtpinlnajhiagoaaGreatDoorFastB
set_option linter.unusedVariables false
set_option linter.unusedSimpArgs false
namespace Go.Det
open Go

section
variable {P : Program}

theorem takeVS_ok {r : Option (Value × St)} {k : KV} (h : takeVS r k = true) : ∃ v s', r = some (v, s') ∧ k v s'.hp s'.nx = true := by
  cases r with
  | none => cases h
  | some r => obtain ⟨v, s'⟩ := r; cases s'; exact ⟨v, _, rfl, h⟩

theorem slowEff_ok {o : Op} {s : Sl} {m : Ms} {k : KM} (h : (slowEff P o).run s m k = true) : ∃ v s', slowOper P s m.h m.nx o = some (v, s') ∧ k v ⟨m.C, m.df, s'.hp, s'.nx⟩ = true := by
  cases m
  exact takeVS_ok h
theorem slowBlt_ok {o : Op} {s : Sl} {m : Ms} {k : KM} (h : (slowBlt P o).run s m k = true) : ∃ v s', slowBuiltin P s m.h m.nx o = some (v, s') ∧ k v ⟨m.C, m.df, s'.hp, s'.nx⟩ = true := by
  cases m
  exact takeVS_ok h

theorem lput1_ok {v : Value} : ∀ {n : Nat} {l : List Value} {k : List Value → Bool}, lput1 n v l k = true → ∃ r, lput n [v] l = some r ∧ k r = true
  | 0, [], k, h => by cases h
  | 0, x :: xs, k, h => ⟨v :: xs, rfl, h⟩
  | n + 1, [], k, h => by cases h
  | n + 1, x :: xs, k, h => by
    obtain ⟨r, e, hk⟩ := lput1_ok (n := n) (l := xs) (k := fun r => k (x :: r)) h
    exact ⟨x :: r, by simp only [lput, e], hk⟩

theorem putCells_one {h : Hp} {b o : Nat} {row r : List Value} {e : TypeId} {op : Bool} {v : Value} (hg : hget h b = some (.cells row e op)) (hl : lput o [v] row = some r) (hv : isCell v = true) :
    putCells h ⟨b, o, none⟩ [v] = some (h.set HD b (.cells r e op)) := by
  simp only [putCells, hg, hl, List.all_cons, hv, List.all_nil, Bool.and_self, cond_true]

theorem mapUpdate_ok {t : TypeId} {m k x : Operand} {ik : IntKind} {e : TypeId} (hm : mapTy P t = some (ik, e)) {s : Sl} {mm : Ms} {kk : KM}
    (h : Option.rec (motive := fun _ => Bool) false (fun vm => Option.rec (motive := fun _ => Bool) false (fun vk => Option.rec (motive := fun _ => Bool) false (fun vx => ONat.rec (motive := fun _ => Bool) ((slowEff P (.mapUpdate t m k x)).run s mm kk) (fun ik' n =>
        Bool.rec (motive := fun _ => Bool) false
        (OMp.rec (motive := fun _ => Bool) false false (fun r => Ms.rec (motive := fun _ => Bool) (fun C df h nx => OMap.rec (motive := fun _ => Bool) false (fun es c =>
          findE ik (Nat.succ n) es false ((tput HD r).run h (some (.map (lsnoc es ⟨vk, vx, c⟩) (Nat.succ c))) (fun h' => kk (.tuple #[]) ⟨C, df, h', nx⟩))
            (fun i e => (tput HD r).run h (some (.map (lsetR i ⟨e.key, vx, e.born⟩ es) c)) (fun h' => kk (.tuple #[]) ⟨C, df, h', nx⟩))) (asMap ((tget HD r).run h))) mm) (asMp vm)) (ikeq ik ik')) (asNat vk)) ((opdC x).run s)) ((opdC k).run s)) ((opdC m).run s) = true) :
    ∃ v s', slowOper P s mm.h mm.nx (.mapUpdate t m k x) = some (v, s') ∧ kk v ⟨mm.C, mm.df, s'.hp, s'.nx⟩ = true := by
  obtain ⟨kt, h1, h2⟩ := mapTy_is hm
  obtain ⟨vm, em, h⟩ := optSome h
  obtain ⟨vk, ek, h⟩ := optSome h
  obtain ⟨vx, ex, h⟩ := optSome h
  have em' : opdF s m = some vm := em
  have ek' : opdF s k = some vk := ek
  have ex' : opdF s x = some vx := ex
  rcases ONat.way h with ⟨_, h⟩ | ⟨ik', n, e1, h⟩
  · exact slowEff_ok h
  obtain ⟨e2, h9⟩ := boolTrue h
  have e3 := asNat_is e1; subst e3
  have e4 := ikeq_eq e2; subst e4
  rcases OMp.way h9 with ⟨_, h⟩ | ⟨e5, h⟩ | ⟨r, e5, h8⟩
  · cases h
  · cases h
  have e6 := asMp_is e5; subst e6
  obtain ⟨C, df, hp, nx⟩ := mm
  rcases OMap.way h8 with ⟨_, h⟩ | ⟨es, c, e7, h7⟩
  · cases h
  have e8 := asMap_is e7
  rw [hget_run] at e8
  rcases findE_ok h2 h7 with ⟨f1, hk⟩ | ⟨j, y, f1, hk⟩
  · rw [hput_run] at hk
    have e9 : lsnoc es ⟨.int ik (.ofNat n), vx, c⟩ = es ++ [⟨.int ik (.ofNat n), vx, c⟩] := by
      clear f1 hk h7 e7 e8
      induction es with
      | nil => rfl
      | cons y ys ih => exact congrArg (y :: ·) ih
    rw [e9] at hk
    refine ⟨_, ⟨_, nx⟩, ?_, hk⟩
    have a1 : evVal P (opdF s) hp (.mapUpdate t m k x) = none := rfl
    have a2 : evNew P (opdF s) (.mapUpdate t m k x) = none := rfl
    simp only [slowOper, a1, a2, evEff, h1, em', ek', ex', e8, dLook_int h2, f1]
    rfl
  · rw [hput_run] at hk
    have e9 : ∀ (j : Nat) (z : Ent) (es : List Ent), lsetR j z es = lset es j z := by
      intro j
      induction j with
      | zero => intro z es; cases es <;> rfl
      | succ j ih => intro z es; cases es with
        | nil => rfl
        | cons y ys => exact congrArg (y :: ·) (ih z ys)
    rw [e9] at hk
    refine ⟨_, ⟨_, nx⟩, ?_, hk⟩
    have a1 : evVal P (opdF s) hp (.mapUpdate t m k x) = none := rfl
    have a2 : evNew P (opdF s) (.mapUpdate t m k x) = none := rfl
    simp only [slowOper, a1, a2, evEff, h1, em', ek', ex', e8, dLook_int h2, f1]
    rfl

theorem effC_ok {o : Op} {s : Sl} {m : Ms} {k : KM} (h : (effC P o).run s m k = true) : ∃ v s', slowOper P s m.h m.nx o = some (v, s') ∧ k v ⟨m.C, m.df, s'.hp, s'.nx⟩ = true := by
  cases o with
  | store t a x =>
    simp only [effC] at h
    split at h
    · rename_i hsz
      obtain ⟨p, e1, h⟩ := optSome h
      obtain ⟨v, e2, h⟩ := optSome h
      have e1' : opdF s a = some p := e1
      have e2' : opdF s x = some v := e2
      rcases OPtr.way h with ⟨_, h⟩ | ⟨_, h⟩ | ⟨b, o, sp, e3, h⟩
      · cases h
      · cases h
      rcases boolWay h with ⟨_, h⟩ | ⟨e4, h4⟩
      · exact slowEff_ok h
      have e5 := asPtr_is e3; subst e5
      rcases optWay h4 with ⟨e6, h6⟩ | ⟨_, _, h⟩
      · subst e6
        obtain ⟨C, df, hp, nx⟩ := m
        rcases ORow.way h6 with ⟨_, h⟩ | ⟨row, el, op, e7, h7⟩
        · cases h
        have e8 := asRow_is e7
        rw [hget_run] at e8
        obtain ⟨r, e9, hk⟩ := lput1_ok h7
        rw [hput_run] at hk
        refine ⟨_, ⟨_, nx⟩, ?_, hk⟩
        have a1 : evVal P (opdF s) hp (.store t a x) = none := rfl
        have a2 : evNew P (opdF s) (.store t a x) = none := rfl
        have hc := cellList_one e4
        have hp' := putCells_one e8 e9 (by rw [← oneCell_eq]; exact e4)
        simp only [slowOper, a1, a2, evEff, e1', e2', hsz, hc, List.length_singleton, hp']
        rfl
      · cases h
    · exact slowEff_ok h
  | mapUpdate t m' k' x =>
    simp only [effC] at h
    split at h
    · rename_i ik e hm
      exact mapUpdate_ok hm h
    · exact slowEff_ok h
  | makeSlice t l c =>
    simp only [effC] at h
    split at h
    rotate_left
    · exact slowEff_ok h
    rename_i hix
    split at h
    rotate_left
    · exact slowEff_ok h
    rename_i e hty
    split at h
    rotate_left
    · exact slowEff_ok h
    rename_i by_ z hby hz
    obtain ⟨e', ht', hs'⟩ := ixTy_sl hix
    rw [hty] at ht'; cases ht'
    simp only [Clo.use_eq] at h
    cases hone : oneCell z with
    | false => rw [hone] at h; exact slowEff_ok h
    | true =>
      rw [hone] at h
      obtain ⟨vl, e1, h⟩ := optSome h
      obtain ⟨vc, e2, h⟩ := optSome h
      have e1' : opdF s l = some vl := e1
      have e2' : opdF s c = some vc := e2
      rcases ONat.way h with ⟨_, h⟩ | ⟨_, nl, e3, h⟩
      · cases h
      rcases ONat.way h with ⟨_, h⟩ | ⟨_, nc, e4, h⟩
      · cases h
      obtain ⟨b1, h⟩ := boolTrue h
      obtain ⟨b2, h⟩ := boolTrue h
      obtain ⟨b3, h5⟩ := boolTrue h
      have e5 := asNat_is e3; subst e5
      have e6 := asNat_is e4; subst e6
      obtain ⟨C, df, hp, nx⟩ := m
      obtain ⟨b4, hk⟩ := boolTrue h5
      rw [hput_run] at hk
      refine ⟨.slice (some ⟨nx, 0, none⟩) nl nc, ⟨hp.set HD nx (.cells (repl nc [z]) e false), nx + 1⟩, ?_, hk⟩
      have a1 : evVal P (opdF s) hp (.makeSlice t l c) = none := rfl
      have b2' : Nat.blt nc (2 ^ 40) = true := b2
      have b4' : Nat.blt nx (16 ^ HD) = true := b4
      have b3' : Nat.ble (by_ * nc) (2 ^ 40) = true := b3
      have a2 : evNew P (opdF s) (.makeSlice t l c) = some (.cells (repl nc [z]) e false, fun b => .slice (some ⟨b, 0, none⟩) nl nc) := by
        simp only [evNew, hty, e1', e2', Option.bind_some, dNat, hs', hby, hz, cellList_one hone, List.length_singleton, b1, b2', b3']
        rfl
      simp only [slowOper, a1, a2, St.new, b4', cond_true]
  | _ => exact slowEff_ok h

theorem ldropK_eq : ∀ (n : Nat) (l : List Value) (k : List Value → Bool), ldropK n l k = true → k (ldrop n l) = true
  | 0, l, k, h => h
  | n + 1, [], k, h => by cases h
  | n + 1, x :: xs, k, h => ldropK_eq n xs k h

theorem overK_ok : ∀ {n : Nat} {src dst : List Value} {k : List Value → Bool}, overK n src dst k = true → ∃ cs r, ltake n src = some cs ∧ lover cs dst = some r ∧ cs.all isCell = true ∧ k r = true
  | 0, src, dst, k, h => ⟨[], dst, by cases src <;> rfl, rfl, rfl, h⟩
  | n + 1, [], dst, k, h => by cases h
  | n + 1, x :: xs, [], k, h => by cases h
  | n + 1, x :: xs, y :: ys, k, h => by
    obtain ⟨e1, h⟩ := boolTrue h
    obtain ⟨cs, r, e2, e3, e4, hk⟩ := overK_ok (n := n) (src := xs) (dst := ys) (k := fun r => k (x :: r)) h
    refine ⟨x :: cs, x :: r, by simp only [ltake, e2], by simp only [lover, e3], ?_, hk⟩
    rw [List.all_cons, e4, ← oneCell_eq, e1]; rfl

theorem spliceK_ok : ∀ {d n : Nat} {src dst : List Value} {k : List Value → Bool}, spliceK d n src dst k = true → ∃ cs r, ltake n src = some cs ∧ lput d cs dst = some r ∧ cs.all isCell = true ∧ k r = true
  | 0, n, src, dst, k, h => by
    obtain ⟨cs, r, e2, e3, e4, hk⟩ := overK_ok h
    exact ⟨cs, r, e2, by simpa only [lput] using e3, e4, hk⟩
  | d + 1, n, src, [], k, h => by cases h
  | d + 1, n, src, y :: ys, k, h => by
    obtain ⟨cs, r, e2, e3, e4, hk⟩ := spliceK_ok (d := d) (dst := ys) (k := fun r => k (y :: r)) h
    exact ⟨cs, y :: r, e2, by simp only [lput, e3], e4, hk⟩

theorem llen_eq {α : Type} (l : List α) : llen l = l.length := by
  induction l with
  | nil => rfl
  | cons x xs ih => exact congrArg Nat.succ ih

theorem allOne_eq (l : List Value) : allOne l = l.all isCell := by
  induction l with
  | nil => rfl
  | cons x xs ih =>
    show Bool.rec (motive := fun _ => Bool) false (allOne xs) (oneCell x) = _
    rw [List.all_cons, ← oneCell_eq, ih]
    cases oneCell x <;> rfl

theorem ltake_len : ∀ (l : List Value), ltake l.length l = some l
  | [] => rfl
  | x :: xs => by simp only [List.length_cons, ltake, ltake_len xs]
theorem lover_len : ∀ {l m : List Value}, l.length = m.length → lover l m = some l
  | [], [], _ => rfl
  | x :: xs, y :: ys, h => by
    have := lover_len (l := xs) (m := ys) (by simpa using h)
    simp only [lover, this]
  | [], _ :: _, h => by simp at h
  | _ :: _, [], h => by simp at h

theorem copyK0_ok {o d n : Nat} {src dst : List Value} {k : List Value → Bool} (h : copyK0 o d n src dst k = true) : ∃ cs r, ltake n (ldrop o src) = some cs ∧ lput d cs dst = some r ∧ cs.all isCell = true ∧ k r = true :=
  spliceK_ok (ldropK_eq _ _ _ h)

theorem copyK_ok {o d n : Nat} {src dst : List Value} {k : List Value → Bool} (h : copyK o d n src dst k = true) : ∃ cs r, ltake n (ldrop o src) = some cs ∧ lput d cs dst = some r ∧ cs.all isCell = true ∧ k r = true := by
  rcases boolWay h with ⟨_, h⟩ | ⟨e1, h⟩
  · exact copyK0_ok h
  rcases boolWay h with ⟨_, h⟩ | ⟨e2, h⟩
  · exact copyK0_ok h
  rcases boolWay h with ⟨_, h⟩ | ⟨e3, h⟩
  · exact copyK0_ok h
  obtain ⟨e4, hk⟩ := boolTrue h
  have f1 := Nat.eq_of_beq_eq_true e1
  have f2 := Nat.eq_of_beq_eq_true e2
  have f3 := Nat.eq_of_beq_eq_true e3
  rw [llen_eq] at f2 f3
  have g1 : o = 0 := by have : o + d = 0 := f1; omega
  have g2 : d = 0 := by have : o + d = 0 := f1; omega
  subst g1; subst g2
  refine ⟨src, src, ?_, ?_, by rw [← allOne_eq]; exact e4, hk⟩
  · rw [← f2]; show ltake src.length (ldrop 0 src) = _; rw [show ldrop 0 src = src from by cases src <;> rfl]; exact ltake_len src
  · have := lover_len (l := src) (m := dst) (by rw [f2, f3])
    cases src <;> simpa only [lput] using this

theorem builtinC_ok {c : Call} {b : Builtin} (hc : c.callee = .builtin b) {s : Sl} {m : Ms} {k : KM} (h : (builtinC P c b).run s m k = true) :
    ∃ v s', slowBuiltin P s m.h m.nx (.call c) = some (v, s') ∧ k v ⟨m.C, m.df, s'.hp, s'.nx⟩ = true := by
  obtain ⟨cal, args, ats⟩ := c
  simp only at hc
  subst hc
  unfold builtinC at h
  simp only at h
  split at h
  · -- len
    rename_i x hl
    cases hlt : lenTy P ats with
    | false => rw [hlt] at h; exact slowBlt_ok h
    | true =>
      rw [hlt] at h
      simp only [cond_true, Clo.use_eq] at h
      obtain ⟨v, e1, h⟩ := optSome h
      have e1' : opdF s x = some v := e1
      rcases OSl.way h with ⟨_, h⟩ | ⟨a, n, cp, e2, hk⟩
      · cases h
      have e3 := asSl_is e2; subst e3
      obtain ⟨C, df, hp, nx⟩ := m
      refine ⟨_, ⟨hp, nx⟩, ?_, hk⟩
      obtain ⟨e, he⟩ : ∃ e, ats[0]?.bind (tyOf P) = some (.slice e) := by
        unfold lenTy at hlt
        split at hlt
        · exact ⟨_, by assumption⟩
        · cases hlt
      have a1 : evEff P (opdF s) ⟨hp, nx⟩ (.call { callee := .builtin .len, args, argTypes := ats }) = none := rfl
      simp only [slowBuiltin, a1, evVal, hl, vals, e1', dBuiltin, he, Option.map_some]; rfl
  · -- copy
    rename_i x y hl
    split at h
    rotate_left
    · exact slowBlt_ok h
    rename_i hty
    obtain ⟨t, ht0, ht⟩ : ∃ t, ats[0]? = some t ∧ ixTy P t = .sl 1 := by
      cases h0 : ats[0]? with
      | none => rw [h0] at hty; cases hty
      | some t =>
        rw [h0] at hty
        simp only [Option.bind_some] at hty
        split at hty
        · exact ⟨t, rfl, by assumption⟩
        · cases hty
    obtain ⟨e, hte, hse⟩ := ixTy_sl ht
    simp only [Clo.use_eq] at h
    obtain ⟨vx, e1, h⟩ := optSome h
    obtain ⟨vy, e2, h⟩ := optSome h
    have e1' : opdF s x = some vx := e1
    have e2' : opdF s y = some vy := e2
    rcases OSl.way h with ⟨_, h⟩ | ⟨ax, nn, cx, e3, h⟩
    · cases h
    rcases OSl.way h with ⟨_, h⟩ | ⟨ay, mn, cy, e4, h⟩
    · exact slowBlt_ok h
    rcases OPtr.way h with ⟨_, h⟩ | ⟨_, h⟩ | ⟨bx, ox, sx, e5, h⟩
    · cases h
    · exact slowBlt_ok h
    rcases OPtr.way h with ⟨_, h⟩ | ⟨_, h⟩ | ⟨bY, oy, sy, e6, h⟩
    · cases h
    · exact slowBlt_ok h
    have e7 := asSl_is e3; subst e7
    have e8 := asSl_is e4; subst e8
    have e9 := ptrO_is e5; subst e9
    have e10 := ptrO_is e6; subst e10
    rcases optWay h with ⟨e11, h11⟩ | ⟨_, _, h⟩
    rotate_left
    · cases h
    subst e11
    rcases optWay h11 with ⟨e12, h12⟩ | ⟨_, _, h⟩
    rotate_left
    · cases h
    subst e12
    rw [forceN_eq] at h12
    have hmin : (Bool.rec (motive := fun _ => Nat) nn mn (Nat.ble mn nn) : Nat) = min mn nn := by
      cases hb : Nat.ble mn nn with
      | true => exact (Nat.min_eq_left (Nat.le_of_ble_eq_true hb)).symm
      | false =>
        have : ¬ mn ≤ nn := fun hh => by rw [Nat.ble_eq_true_of_le hh] at hb; cases hb
        exact (Nat.min_eq_right (Nat.le_of_lt (Nat.lt_of_not_le this))).symm
    rw [hmin] at h12
    obtain ⟨C, df, hp, nx⟩ := m
    rcases ORow.way h12 with ⟨_, h⟩ | ⟨src, es, os, e13, h13⟩
    · cases h
    rcases ORow.way h13 with ⟨_, h⟩ | ⟨dst, ed, od, e14, h14⟩
    · cases h
    have e15 := asRow_is e13
    have e16 := asRow_is e14
    rw [hget_run] at e15 e16
    obtain ⟨cs, r, f1, f2, f3, hk⟩ := copyK_ok h14
    rw [hput_run] at hk
    refine ⟨_, ⟨_, nx⟩, ?_, hk⟩
    have g1 : srcCells hp 1 (min mn nn) (.slice (some ⟨bY, oy, none⟩) mn cy) = some cs := by
      simp only [srcCells, cellsAt, e15, Nat.mul_one, f1]
    have g2 : putCells hp ⟨bx, ox, none⟩ cs = some (hp.set HD bx (.cells r ed od)) := by
      simp only [putCells, e16, f2, f3, cond_true]
    have g3 : (ats[0]?).bind (tyOf P) = some (.slice e) := by rw [ht0]; exact hte
    simp only [slowBuiltin, evEff, hl, vals, e1', e2', g3, hse, srcLen, g1, g2]; rfl
  · exact slowBlt_ok h
end
end Go.Det
