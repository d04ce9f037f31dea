/-
  The fast form tells what the evaluator tells: branches, values, integers.
-/
import Derived.Test.YtpinlnajhiagoaaGreatDoorFastDef
set_option linter.unusedVariables false
set_option linter.unusedSimpArgs false
namespace Go.Det
open Go

theorem Clo.use_eq {α β : Type} (c : Clo α) (f : α → β) : c.use f = f c.run := rfl

theorem pick16_run {α : Type} (i : Nat) (r : R16 α) : (pick16 i).run r = r.at i := by
  match i with
  | 0 | 1 | 2 | 3 | 4 | 5 | 6 | 7 | 8 | 9 | 10 | 11 | 12 | 13 | 14 | _ + 15 => rfl

theorem put16_run {α : Type} (i : Nat) (r : R16 α) (v : α) (k : R16 α → Bool) : (put16 i).run r v k = k (r.put i v) := by
  cases r
  match i with
  | 0 | 1 | 2 | 3 | 4 | 5 | 6 | 7 | 8 | 9 | 10 | 11 | 12 | 13 | 14 | _ + 15 => rfl

theorem tget_run {α : Type} (d : Nat) : ∀ (n : Nat) (t : Tr d α), (tget d n).run t = Tr.get d t n := by
  induction d with
  | zero => intro n t; rfl
  | succ d ih =>
    intro n t
    exact (ih _ _).trans (congrArg (fun x => Tr.get d x (n / 16)) (pick16_run (α := Tr d α) (n % 16) t))

theorem tput_run {α : Type} (d : Nat) : ∀ (n : Nat) (t : Tr d α) (o : Option α) (k : Tr d α → Bool), (tput d n).run t o k = k (Tr.mod d t n o) := by
  induction d with
  | zero => intro n t o k; rfl
  | succ d ih =>
    intro n t o k
    refine (ih _ _ _ _).trans ?_
    refine (put16_run (α := Tr d α) _ _ _ _).trans ?_
    exact congrArg (fun x => k (R16.put t (n % 16) (Tr.mod d x (n / 16) o))) (pick16_run (α := Tr d α) (n % 16) t)

theorem sget_run (t : Nat) (s : Sl) : (sget t).run s = s.get SD t := tget_run _ _ _
theorem sput_run (t : Nat) (s : Sl) (v : Value) (k : Sl → Bool) : (sput t).run s (some v) k = k (s.set SD t v) := tput_run _ _ _ _ _
theorem hget_run (b : Nat) (h : Hp) : (tget HD b).run h = hget h b := tget_run _ _ _
theorem hput_run (b : Nat) (h : Hp) (o : DObj) (k : Hp → Bool) : (tput HD b).run h (some o) k = k (h.set HD b o) := tput_run _ _ _ _ _
theorem hdel_run (b : Nat) (h : Hp) (k : Hp → Bool) : (tput HD b).run h none k = k (h.del HD b) := tput_run _ _ _ _ _

/-! ### Ways -/
theorem ONat.way {X : Bool} {Y : IntKind → Nat → Bool} {x : ONat} (h : ONat.rec (motive := fun _ => Bool) X Y x = true) : (x = .no ∧ X = true) ∨ ∃ k n, x = .is k n ∧ Y k n = true := by
  cases x with
  | no => exact .inl ⟨rfl, h⟩
  | is k n => exact .inr ⟨k, n, rfl, h⟩
theorem OInt.way {X : Bool} {Y : IntKind → Int → Bool} {x : OInt} (h : OInt.rec (motive := fun _ => Bool) X Y x = true) : (x = .no ∧ X = true) ∨ ∃ k n, x = .is k n ∧ Y k n = true := by
  cases x with
  | no => exact .inl ⟨rfl, h⟩
  | is k n => exact .inr ⟨k, n, rfl, h⟩
theorem OBool.way {X Y Z : Bool} {x : OBool} (h : OBool.rec (motive := fun _ => Bool) X Y Z x = true) : (x = .no ∧ X = true) ∨ (x = .tt ∧ Y = true) ∨ (x = .ff ∧ Z = true) := by
  cases x with
  | no => exact .inl ⟨rfl, h⟩
  | tt => exact .inr (.inl ⟨rfl, h⟩)
  | ff => exact .inr (.inr ⟨rfl, h⟩)
theorem OPtr.way {X Y : Bool} {Z : Nat → Nat → Option Nat → Bool} {x : OPtr} (h : OPtr.rec (motive := fun _ => Bool) X Y Z x = true) : (x = .no ∧ X = true) ∨ (x = .nil ∧ Y = true) ∨ ∃ b o s, x = .is b o s ∧ Z b o s = true := by
  cases x with
  | no => exact .inl ⟨rfl, h⟩
  | nil => exact .inr (.inl ⟨rfl, h⟩)
  | is b o s => exact .inr (.inr ⟨b, o, s, rfl, h⟩)
theorem OSl.way {X : Bool} {Y : Option Addr → Nat → Nat → Bool} {x : OSl} (h : OSl.rec (motive := fun _ => Bool) X Y x = true) : (x = .no ∧ X = true) ∨ ∃ a n c, x = .is a n c ∧ Y a n c = true := by
  cases x with
  | no => exact .inl ⟨rfl, h⟩
  | is a n c => exact .inr ⟨a, n, c, rfl, h⟩
theorem ORow.way {X : Bool} {Y : List Value → TypeId → Bool → Bool} {x : ORow} (h : ORow.rec (motive := fun _ => Bool) X Y x = true) : (x = .no ∧ X = true) ∨ ∃ a n c, x = .is a n c ∧ Y a n c = true := by
  cases x with
  | no => exact .inl ⟨rfl, h⟩
  | is a n c => exact .inr ⟨a, n, c, rfl, h⟩
theorem OMap.way {X : Bool} {Y : List Ent → Nat → Bool} {x : OMap} (h : OMap.rec (motive := fun _ => Bool) X Y x = true) : (x = .no ∧ X = true) ∨ ∃ a n, x = .is a n ∧ Y a n = true := by
  cases x with
  | no => exact .inl ⟨rfl, h⟩
  | is a n => exact .inr ⟨a, n, rfl, h⟩
theorem OMp.way {X Y : Bool} {Z : Nat → Bool} {x : OMp} (h : OMp.rec (motive := fun _ => Bool) X Y Z x = true) : (x = .no ∧ X = true) ∨ (x = .nil ∧ Y = true) ∨ ∃ b, x = .is b ∧ Z b = true := by
  cases x with
  | no => exact .inl ⟨rfl, h⟩
  | nil => exact .inr (.inl ⟨rfl, h⟩)
  | is b => exact .inr (.inr ⟨b, rfl, h⟩)
theorem optWay {α : Type} {X : Bool} {Y : α → Bool} {x : Option α} (h : Option.rec (motive := fun _ => Bool) X Y x = true) : (x = none ∧ X = true) ∨ ∃ v, x = some v ∧ Y v = true := by
  cases x with
  | none => exact .inl ⟨rfl, h⟩
  | some v => exact .inr ⟨v, rfl, h⟩
theorem optSome {α : Type} {Y : α → Bool} {x : Option α} (h : Option.rec (motive := fun _ => Bool) false Y x = true) : ∃ v, x = some v ∧ Y v = true := by
  cases x with
  | none => cases h
  | some v => exact ⟨v, rfl, h⟩
theorem boolWay {X Y b : Bool} (h : Bool.rec (motive := fun _ => Bool) X Y b = true) : (b = false ∧ X = true) ∨ (b = true ∧ Y = true) := by
  cases b with
  | false => exact .inl ⟨rfl, h⟩
  | true => exact .inr ⟨rfl, h⟩
theorem boolTrue {Y b : Bool} (h : Bool.rec (motive := fun _ => Bool) false Y b = true) : b = true ∧ Y = true := by
  cases b with
  | false => cases h
  | true => exact ⟨rfl, h⟩

theorem asNat_is {v : Value} {k : IntKind} {n : Nat} (h : asNat v = .is k n) : v = .int k (.ofNat n) := by
  cases v with
  | int k' i => cases i with
    | ofNat m => cases h; rfl
    | negSucc m => cases h
  | _ => cases h
theorem asInt_is {v : Value} {k : IntKind} {n : Int} (h : asInt v = .is k n) : v = .int k n := by
  cases v with
  | int k' i => cases h; rfl
  | _ => cases h
theorem asBool_tt {v : Value} (h : asBool v = .tt) : v = .bool true := by
  cases v with
  | bool b => cases b with
    | false => cases h
    | true => rfl
  | _ => cases h
theorem asBool_ff {v : Value} (h : asBool v = .ff) : v = .bool false := by
  cases v with
  | bool b => cases b with
    | false => rfl
    | true => cases h
  | _ => cases h
theorem asBoolO_tt {o : Option Value} (h : asBoolO o = .tt) : o = some (.bool true) := by
  cases o with
  | none => cases h
  | some v => rw [asBool_tt h]
theorem asBoolO_ff {o : Option Value} (h : asBoolO o = .ff) : o = some (.bool false) := by
  cases o with
  | none => cases h
  | some v => rw [asBool_ff h]
theorem asWantT_tt {o : Option Value} (h : asWantT o = .tt) : o = some (.bool true) := by
  cases o with
  | none => cases h
  | some v =>
    cases v with
    | bool b => cases b with
      | true => rfl
      | false => cases h
    | _ => cases h
theorem asWantT_ff {o : Option Value} (h : asWantT o = .ff) : ∃ v, o = some v ∧ v ≠ .bool true := by
  cases o with
  | none => cases h
  | some v =>
    refine ⟨v, rfl, fun e => ?_⟩
    subst e
    cases h
theorem asWantF_ff {o : Option Value} (h : asWantF o = .ff) : o = some (.bool false) := by
  cases o with
  | none => cases h
  | some v =>
    cases v with
    | bool b => cases b with
      | true => cases h
      | false => rfl
    | _ => cases h
theorem asWantF_tt {o : Option Value} (h : asWantF o = .tt) : ∃ v, o = some v ∧ v ≠ .bool false := by
  cases o with
  | none => cases h
  | some v =>
    refine ⟨v, rfl, fun e => ?_⟩
    subst e
    cases h
theorem ptrO_nil {a : Option Addr} (h : ptrO a = .nil) : a = none := by
  cases a with
  | none => rfl
  | some a => cases h
theorem ptrO_is {a : Option Addr} {b o : Nat} {s : Option Nat} (h : ptrO a = .is b o s) : a = some ⟨b, o, s⟩ := by
  cases a with
  | none => cases h
  | some a => cases a; cases h; rfl
theorem ptrO_no {a : Option Addr} (h : ptrO a = .no) : False := by
  cases a with
  | none => cases h
  | some a => cases h
theorem asPtr_nil {v : Value} (h : asPtr v = .nil) : v = .pointer none := by
  cases v with
  | pointer a => rw [ptrO_nil h]
  | _ => cases h
theorem asPtr_is {v : Value} {b o : Nat} {s : Option Nat} (h : asPtr v = .is b o s) : v = .pointer (some ⟨b, o, s⟩) := by
  cases v with
  | pointer a => rw [ptrO_is h]
  | _ => cases h
theorem asSl_is {v : Value} {a : Option Addr} {n c : Nat} (h : asSl v = .is a n c) : v = .slice a n c := by
  cases v with
  | slice a' n' c' => cases h; rfl
  | _ => cases h
theorem asMp_nil {v : Value} (h : asMp v = .nil) : v = .map none := by
  cases v with
  | map r => cases r with
    | none => rfl
    | some r => cases h
  | _ => cases h
theorem asMp_is {v : Value} {r : Nat} (h : asMp v = .is r) : v = .map (some r) := by
  cases v with
  | map r' => cases r' with
    | none => cases h
    | some r' => cases h; rfl
  | _ => cases h
theorem asRow_is {o : Option DObj} {row : List Value} {e : TypeId} {op : Bool} (h : asRow o = .is row e op) : o = some (.cells row e op) := by
  cases o with
  | none => cases h
  | some o => cases o with
    | cells => cases h; rfl
    | _ => cases h
theorem asMap_is {o : Option DObj} {es : List Ent} {c : Nat} (h : asMap o = .is es c) : o = some (.map es c) := by
  cases o with
  | none => cases h
  | some o => cases o with
    | map => cases h; rfl
    | _ => cases h
theorem oneCell_eq (v : Value) : oneCell v = isCell v := by cases v <;> rfl
theorem cellList_one {v : Value} (h : oneCell v = true) : cellList v = [v] := by
  cases v <;> first | rfl | cases h

theorem ikeq_eq {a b : IntKind} (h : ikeq a b = true) : a = b := by cases a <;> cases b <;> first | rfl | cases h
theorem forceN_eq (n : Nat) (k : Nat → Bool) : forceN n k = k n := by cases n <;> rfl
theorem forceB_eq (b : Bool) (k : Bool → Bool) : forceB b k = k b := by cases b <;> rfl
theorem bnot_eq (b : Bool) : bnot b = !b := by cases b <;> rfl

/-! ### Integers -/
theorem ibeq_eq (x y : Int) : ibeq x y = (x == y) := by
  cases x <;> cases y <;> simp only [ibeq]
  · rename_i a b
    rw [Bool.eq_iff_iff]; simp; omega
  · rfl
  · rfl
  · rename_i a b
    rw [Bool.eq_iff_iff]; simp
theorem ilt_eq (x y : Int) : ilt x y = decide (x < y) := by
  cases x <;> cases y <;> simp only [ilt]
  · rename_i a b
    rw [Bool.eq_iff_iff]; simp [Nat.ble_eq]; omega
  · rename_i a b
    symm; simp; omega
  · rename_i a b
    symm; simp; omega
  · rename_i a b
    rw [Bool.eq_iff_iff]; simp [Nat.ble_eq]; omega

theorem wrap_nat (k : IntKind) (n : Nat) (h : n % modk k ≤ maxk k) : k.wrap (n : Int) = ((n % modk k : Nat) : Int) := by
  cases k <;> simp [IntKind.wrap, IntKind.bits, IntKind.signed, modk, maxk] at h ⊢ <;> omega
theorem wrap_neg (k : IntKind) (r : Nat) (hs : sgnk k = true) (h : r ≤ maxk k) : k.wrap (Int.negSucc r) = Int.negSucc r := by
  have e : Int.negSucc r = -((r : Int) + 1) := by omega
  cases k <;> simp [sgnk] at hs <;> simp [IntKind.wrap, IntKind.bits, IntKind.signed, maxk, e] at h ⊢ <;> omega
theorem max_lt (k : IntKind) : maxk k < modk k := by cases k <;> decide
theorem bits_eq (k : IntKind) : k.bits = bitk k := by cases k <;> rfl
theorem mod_eq (k : IntKind) : modk k = 2 ^ bitk k := by cases k <;> rfl

section
variable {P : Program}

theorem slowBin_ok {op : BinOp} {t : TypeId} {a b : Value} {k : Value → Bool} (h : slowBin P op t a b k = true) : ∃ v, dBin P op t a b = some v ∧ k v = true := optSome h

abbrev BinOk (P : Program) (op : BinOp) (t : TypeId) (c : Bin) : Prop := ∀ a b k, c.run a b k = true → ∃ v, dBin P op t a b = some v ∧ k v = true

theorem natBin_ok {f : Nat → Nat → Nat} {op : BinOp} {t : TypeId} (hf : ∀ ik a b, f a b % modk ik ≤ maxk ik → dBin P op t (.int ik (.ofNat a)) (.int ik (.ofNat b)) = some (.int ik (.ofNat (f a b % modk ik)))) : BinOk P op t (natBin P f op t) := by
  intro a b k h
  rcases ONat.way h with ⟨_, h⟩ | ⟨ka, na, e1, h⟩
  · exact slowBin_ok h
  rcases ONat.way h with ⟨_, h⟩ | ⟨kb, nb, e2, h⟩
  · exact slowBin_ok h
  rcases boolWay h with ⟨_, h⟩ | ⟨e3, h⟩
  · exact slowBin_ok h
  rw [forceN_eq] at h
  rcases boolWay h with ⟨_, h⟩ | ⟨e4, hk⟩
  · exact slowBin_ok h
  have := asNat_is e1; subst this
  have := asNat_is e2; subst this
  have := ikeq_eq e3; subst this
  exact ⟨_, hf _ _ _ (Nat.le_of_ble_eq_true e4), hk⟩

theorem dBin_arith {op : BinOp} {t : TypeId} {ik : IntKind} {x y r : Int} (h : dSem P (binOp op t (.int ik x) (.int ik y)) = some (.int ik r)) : dBin P op t (.int ik x) (.int ik y) = some (.int ik r) := by
  simp only [dBin, h, isScalar, cond_true]

theorem add_ok (t : TypeId) : BinOk P .add t (natBin P Nat.add .add t) := natBin_ok fun ik a b h => dBin_arith (by
  have : ik.wrap ((a : Int) + (b : Int)) = ((Nat.add a b % modk ik : Nat) : Int) := by
    have := wrap_nat ik (a + b) h
    rwa [Int.natCast_add] at this
  simp only [binOp, ne_eq, not_true_eq_false, if_false, Op.intArith]
  show some (Value.int ik (ik.wrap ((a : Int) + (b : Int)))) = _
  rw [this]; rfl)
theorem mul_ok (t : TypeId) : BinOk P .mul t (natBin P Nat.mul .mul t) := natBin_ok fun ik a b h => dBin_arith (by
  have : ik.wrap ((a : Int) * (b : Int)) = ((Nat.mul a b % modk ik : Nat) : Int) := by
    have := wrap_nat ik (a * b) h
    rwa [Int.natCast_mul] at this
  simp only [binOp, ne_eq, not_true_eq_false, if_false, Op.intArith]
  show some (Value.int ik (ik.wrap ((a : Int) * (b : Int)))) = _
  rw [this]; rfl)

theorem ofInt_nat (w n : Nat) : (BitVec.ofInt w (Int.ofNat n)).toNat = n % 2 ^ w := by
  simp [BitVec.toNat_ofInt]

theorem and_ok (t : TypeId) : BinOk P .and t (natBin P Nat.land .and t) := natBin_ok fun ik a b h => dBin_arith (by
  simp only [binOp, ne_eq, not_true_eq_false, if_false, Op.intBits]
  have e : (BitVec.ofInt ik.bits (Int.ofNat a) &&& BitVec.ofInt ik.bits (Int.ofNat b)).toNat = Nat.land a b % modk ik := by
    rw [BitVec.toNat_and, ofInt_nat, ofInt_nat, mod_eq, bits_eq]
    exact (Nat.and_mod_two_pow).symm
  show some (Value.int ik (ik.wrap (((BitVec.ofInt ik.bits (Int.ofNat a) &&& BitVec.ofInt ik.bits (Int.ofNat b)).toNat : Nat) : Int))) = _
  rw [e, wrap_nat ik _ (by rwa [Nat.mod_mod])]; simp)
theorem or_ok (t : TypeId) : BinOk P .or t (natBin P Nat.lor .or t) := natBin_ok fun ik a b h => dBin_arith (by
  simp only [binOp, ne_eq, not_true_eq_false, if_false, Op.intBits]
  have e : (BitVec.ofInt ik.bits (Int.ofNat a) ||| BitVec.ofInt ik.bits (Int.ofNat b)).toNat = Nat.lor a b % modk ik := by
    rw [BitVec.toNat_or, ofInt_nat, ofInt_nat, mod_eq, bits_eq]
    exact (Nat.or_mod_two_pow).symm
  show some (Value.int ik (ik.wrap (((BitVec.ofInt ik.bits (Int.ofNat a) ||| BitVec.ofInt ik.bits (Int.ofNat b)).toNat : Nat) : Int))) = _
  rw [e, wrap_nat ik _ (by rwa [Nat.mod_mod])]; simp)
theorem xor_ok (t : TypeId) : BinOk P .xor t (natBin P Nat.xor .xor t) := natBin_ok fun ik a b h => dBin_arith (by
  simp only [binOp, ne_eq, not_true_eq_false, if_false, Op.intBits]
  have e : (BitVec.ofInt ik.bits (Int.ofNat a) ^^^ BitVec.ofInt ik.bits (Int.ofNat b)).toNat = Nat.xor a b % modk ik := by
    rw [BitVec.toNat_xor, ofInt_nat, ofInt_nat, mod_eq, bits_eq]
    exact (Nat.xor_mod_two_pow).symm
  show some (Value.int ik (ik.wrap (((BitVec.ofInt ik.bits (Int.ofNat a) ^^^ BitVec.ofInt ik.bits (Int.ofNat b)).toNat : Nat) : Int))) = _
  rw [e, wrap_nat ik _ (by rwa [Nat.mod_mod])]; simp)

theorem sub_ok (t : TypeId) : BinOk P .sub t (subBin P t) := by
  intro a b k h
  rcases ONat.way h with ⟨_, h⟩ | ⟨ka, na, e1, h⟩
  · exact slowBin_ok h
  rcases ONat.way h with ⟨_, h⟩ | ⟨kb, nb, e2, h⟩
  · exact slowBin_ok h
  rcases boolWay h with ⟨_, h⟩ | ⟨e3, h⟩
  · exact slowBin_ok h
  have := asNat_is e1; subst this
  have := asNat_is e2; subst this
  have := ikeq_eq e3; subst this
  rcases boolWay h with ⟨e5, h⟩ | ⟨e5, h⟩
  · rcases boolWay h with ⟨_, h⟩ | ⟨e6, h⟩
    · exact slowBin_ok h
    rw [forceN_eq] at h
    rcases boolWay h with ⟨_, h⟩ | ⟨e4, h⟩
    · exact slowBin_ok h
    have hlt : na < nb := by
      rcases Nat.lt_or_ge na nb with hh | hh
      · exact hh
      · rw [Nat.ble_eq_true_of_le hh] at e5; cases e5
    refine ⟨_, dBin_arith ?_, h⟩
    simp only [binOp, ne_eq, not_true_eq_false, if_false, Op.intArith]
    show some (Value.int ka (ka.wrap ((na : Int) - (nb : Int)))) = _
    have : ((na : Int) - (nb : Int)) = Int.negSucc (Nat.sub (Nat.sub nb na) 1) := by
      show _ = Int.negSucc (nb - na - 1)
      omega
    rw [this, wrap_neg ka _ e6 (Nat.le_of_ble_eq_true e4)]
  · rw [forceN_eq] at h
    rcases boolWay h with ⟨_, h⟩ | ⟨e4, h⟩
    · exact slowBin_ok h
    have hle := Nat.le_of_ble_eq_true e5
    have hm := Nat.le_of_ble_eq_true e4
    refine ⟨_, dBin_arith ?_, h⟩
    simp only [binOp, ne_eq, not_true_eq_false, if_false, Op.intArith]
    show some (Value.int ka (ka.wrap ((na : Int) - (nb : Int)))) = _
    have e : ((na : Int) - (nb : Int)) = ((Nat.sub na nb : Nat) : Int) := by
      show _ = ((na - nb : Nat) : Int)
      omega
    have hmod : Nat.sub na nb % modk ka = Nat.sub na nb := Nat.mod_eq_of_lt (Nat.lt_of_le_of_lt hm (max_lt ka))
    rw [e, wrap_nat ka _ (by rw [hmod]; exact hm), hmod]; rfl

theorem shl_ok (t : TypeId) : BinOk P .shl t (shBin P (fun a b => Nat.mul a (Nat.pow 2 b)) .shl t) := by
  intro a b k h
  rcases ONat.way h with ⟨_, h⟩ | ⟨ka, na, e1, h⟩
  · exact slowBin_ok h
  rcases ONat.way h with ⟨_, h⟩ | ⟨kb, nb, e2, h⟩
  · exact slowBin_ok h
  rcases boolWay h with ⟨_, h⟩ | ⟨e3, h⟩
  · exact slowBin_ok h
  rw [forceN_eq] at h
  rcases boolWay h with ⟨_, h⟩ | ⟨e4, hk⟩
  · exact slowBin_ok h
  have := asNat_is e1; subst this
  have := asNat_is e2; subst this
  refine ⟨_, ?_, hk⟩
  have hb := Nat.le_of_ble_eq_true e3
  have hw := wrap_nat ka (na * 2 ^ nb) (Nat.le_of_ble_eq_true e4)
  have hmin : min (Int.ofNat nb).toNat ka.bits = nb := by rw [bits_eq]; exact Nat.min_eq_left hb
  have hs : Op.shift .shl ka (Int.ofNat na) kb (Int.ofNat nb) = Sem.pure (.int ka ((na * 2 ^ nb % modk ka : Nat) : Int)) := by
    have h0 : ¬ (Int.ofNat nb < 0) := by simp
    simp only [Op.shift, h0, if_false, hmin]
    have : Int.ofNat na * 2 ^ nb = ((na * 2 ^ nb : Nat) : Int) := by simp
    rw [this, hw]; rfl
  have : dSem P (binOp .shl t (.int ka (.ofNat na)) (.int kb (.ofNat nb))) = some (.int ka ((na * 2 ^ nb % modk ka : Nat) : Int)) := by
    simp only [binOp, hs]; rfl
  simp only [dBin, this, isScalar, cond_true]; rfl

theorem shr_ok (t : TypeId) : BinOk P .shr t (shrBin P t) := by
  intro a b k h
  rcases ONat.way h with ⟨_, h⟩ | ⟨ka, na, e1, h⟩
  · exact slowBin_ok h
  rcases ONat.way h with ⟨_, h⟩ | ⟨kb, nb, e2, h⟩
  · exact slowBin_ok h
  rcases boolWay h with ⟨_, h⟩ | ⟨e3, hk⟩
  · exact slowBin_ok h
  rw [forceN_eq] at hk
  have := asNat_is e1; subst this
  have := asNat_is e2; subst this
  refine ⟨_, ?_, hk⟩
  have hb := Nat.le_of_ble_eq_true e3
  have hmin : min (Int.ofNat nb).toNat ka.bits = nb := by rw [bits_eq]; exact Nat.min_eq_left hb
  have hs : Op.shift .shr ka (Int.ofNat na) kb (Int.ofNat nb) = Sem.pure (.int ka ((na / 2 ^ nb : Nat) : Int)) := by
    have h0 : ¬ (Int.ofNat nb < 0) := by simp
    simp only [Op.shift, h0, if_false, hmin]
    have : (Int.ofNat na).fdiv (2 ^ nb) = ((na / 2 ^ nb : Nat) : Int) := by
      have e2 : ((2 : Int) ^ nb) = ((2 ^ nb : Nat) : Int) := by simp
      rw [e2]; exact Int.ofNat_fdiv na (2 ^ nb) |>.symm
    rw [this]; rfl
  have : dSem P (binOp .shr t (.int ka (.ofNat na)) (.int kb (.ofNat nb))) = some (.int ka ((na / 2 ^ nb : Nat) : Int)) := by
    simp only [binOp, hs]; rfl
  simp only [dBin, this, isScalar, cond_true]; rfl

theorem divBin_ok {f : Nat → Nat → Nat} {op : BinOp} {t : TypeId} (hf : ∀ ik a b, 1 ≤ b → f a b ≤ maxk ik → dBin P op t (.int ik (.ofNat a)) (.int ik (.ofNat b)) = some (.int ik (.ofNat (f a b)))) : BinOk P op t (divBin P f op t) := by
  intro a b k h
  rcases ONat.way h with ⟨_, h⟩ | ⟨ka, na, e1, h⟩
  · exact slowBin_ok h
  rcases ONat.way h with ⟨_, h⟩ | ⟨kb, nb, e2, h⟩
  · exact slowBin_ok h
  rcases boolWay h with ⟨_, h⟩ | ⟨e3, h⟩
  · exact slowBin_ok h
  rcases boolWay h with ⟨_, h⟩ | ⟨e5, h⟩
  · exact slowBin_ok h
  rw [forceN_eq] at h
  rcases boolWay h with ⟨_, h⟩ | ⟨e4, hk⟩
  · exact slowBin_ok h
  have := asNat_is e1; subst this
  have := asNat_is e2; subst this
  have := ikeq_eq e3; subst this
  exact ⟨_, hf _ _ _ (Nat.le_of_ble_eq_true e5) (Nat.le_of_ble_eq_true e4), hk⟩

theorem quo_ok (t : TypeId) : BinOk P .quo t (divBin P Nat.div .quo t) := divBin_ok fun ik a b hb h => dBin_arith (by
  have hne : ¬ (Int.ofNat b = 0) := by simp; omega
  have hm : Nat.div a b % modk ik = Nat.div a b := Nat.mod_eq_of_lt (Nat.lt_of_le_of_lt h (max_lt ik))
  have e : (Int.ofNat a).tdiv (Int.ofNat b) = ((Nat.div a b : Nat) : Int) := rfl
  simp only [binOp, ne_eq, not_true_eq_false, if_false, Op.intDiv, hne]
  show some (Value.int ik (ik.wrap ((Int.ofNat a).tdiv (Int.ofNat b)))) = _
  rw [e, wrap_nat ik _ (by rw [hm]; exact h), hm]; rfl)
theorem rem_ok (t : TypeId) : BinOk P .rem t (divBin P Nat.mod .rem t) := divBin_ok fun ik a b hb h => dBin_arith (by
  have hne : ¬ (Int.ofNat b = 0) := by simp; omega
  simp only [binOp, ne_eq, not_true_eq_false, if_false, Op.intDiv, hne]
  rfl)

theorem cmpBin_ok {f : Int → Int → Bool} {rest : Value → Value → (Value → Bool) → Bool} {op : BinOp} {t : TypeId} (hr : ∀ a b k, rest a b k = true → ∃ v, dBin P op t a b = some v ∧ k v = true)
    (hf : ∀ ik x y, dSem P (binOp op t (.int ik x) (.int ik y)) = some (.bool (f x y))) : BinOk P op t (cmpBin f rest) := by
  intro a b k h
  rcases OInt.way h with ⟨_, h⟩ | ⟨ka, na, e1, h⟩
  · exact hr _ _ _ h
  rcases OInt.way h with ⟨_, h⟩ | ⟨kb, nb, e2, h⟩
  · exact hr _ _ _ h
  rcases boolWay h with ⟨_, h⟩ | ⟨e3, hk⟩
  · exact hr _ _ _ h
  rw [forceB_eq] at hk
  have := asInt_is e1; subst this
  have := asInt_is e2; subst this
  have := ikeq_eq e3; subst this
  refine ⟨_, ?_, hk⟩
  simp only [dBin, hf, isScalar, cond_true]

theorem ptrEq_ok {t : TypeId} (ht : isPtrTy P t = true) {neg : Bool} {op : BinOp} (hop : (op = .eql ∧ neg = false) ∨ (op = .neq ∧ neg = true)) {a b : Value} {k : Value → Bool} (h : ptrEq P neg op t a b k = true) : ∃ v, dBin P op t a b = some v ∧ k v = true := by
  obtain ⟨e, hty⟩ : ∃ e, tyOf P t = some (.pointer e) := by
    unfold isPtrTy at ht
    split at ht
    · exact ⟨_, by assumption⟩
    · cases ht
  rcases OPtr.way h with ⟨_, h⟩ | ⟨e1, h⟩ | ⟨b1, o1, s1, e1, h⟩
  · exact slowBin_ok h
  · have := asPtr_nil e1; subst this
    rcases OPtr.way h with ⟨_, h⟩ | ⟨e2, h⟩ | ⟨b2, o2, s2, e2, h⟩
    · exact slowBin_ok h
    · have := asPtr_nil e2; subst this
      refine ⟨_, ?_, h⟩
      rcases hop with ⟨rfl, rfl⟩ | ⟨rfl, rfl⟩ <;> simp [dBin, dEq, hty, bnot_eq]
    · have := asPtr_is e2; subst this
      refine ⟨_, ?_, h⟩
      rcases hop with ⟨rfl, rfl⟩ | ⟨rfl, rfl⟩ <;> simp [dBin, dEq, hty]
  · have := asPtr_is e1; subst this
    rcases OPtr.way h with ⟨_, h⟩ | ⟨e2, h⟩ | ⟨b2, o2, s2, e2, h⟩
    · exact slowBin_ok h
    · have := asPtr_nil e2; subst this
      refine ⟨_, ?_, h⟩
      rcases hop with ⟨rfl, rfl⟩ | ⟨rfl, rfl⟩ <;> simp [dBin, dEq, hty]
    · exact slowBin_ok h

theorem eqRest_ok {t : TypeId} {neg : Bool} {op : BinOp} (hop : (op = .eql ∧ neg = false) ∨ (op = .neq ∧ neg = true)) (a b : Value) (k : Value → Bool) (h : eqRest P neg op t a b k = true) : ∃ v, dBin P op t a b = some v ∧ k v = true := by
  unfold eqRest at h
  cases ht : isPtrTy P t with
  | true => rw [ht] at h; exact ptrEq_ok ht hop h
  | false => rw [ht] at h; exact slowBin_ok h

theorem leq_dSem (t : TypeId) (ik : IntKind) (x y : Int) : dSem P (binOp .leq t (.int ik x) (.int ik y)) = some (.bool (bnot (ilt y x))) := by
  simp only [binOp, ne_eq, not_true_eq_false, if_false, Op.intCmp, ilt_eq, bnot_eq]
  show some (Value.bool (decide (x ≤ y))) = _
  congr 2; rw [Bool.eq_iff_iff]; simp
theorem geq_dSem (t : TypeId) (ik : IntKind) (x y : Int) : dSem P (binOp .geq t (.int ik x) (.int ik y)) = some (.bool (bnot (ilt x y))) := by
  simp only [binOp, ne_eq, not_true_eq_false, if_false, Op.intCmp, ilt_eq, bnot_eq]
  show some (Value.bool (decide (x ≥ y))) = _
  congr 2; rw [Bool.eq_iff_iff]; simp

theorem binC_ok (op : BinOp) (t : TypeId) : BinOk P op t (binC P op t) := by
  cases op with
  | add => exact add_ok t
  | mul => exact mul_ok t
  | sub => exact sub_ok t
  | and => exact and_ok t
  | or => exact or_ok t
  | xor => exact xor_ok t
  | shl => exact shl_ok t
  | shr => exact shr_ok t
  | quo => exact quo_ok t
  | rem => exact rem_ok t
  | lss => exact cmpBin_ok (fun _ _ _ h => slowBin_ok h) fun ik x y => by simp only [binOp, ne_eq, not_true_eq_false, if_false, Op.intCmp, ilt_eq]; rfl
  | gtr => exact cmpBin_ok (fun _ _ _ h => slowBin_ok h) fun ik x y => by simp only [binOp, ne_eq, not_true_eq_false, if_false, Op.intCmp, ilt_eq]; rfl
  | leq => exact cmpBin_ok (fun _ _ _ h => slowBin_ok h) (leq_dSem t)
  | geq => exact cmpBin_ok (fun _ _ _ h => slowBin_ok h) (geq_dSem t)
  | eql => exact cmpBin_ok (eqRest_ok (.inl ⟨rfl, rfl⟩)) fun ik x y => by simp only [binOp, ne_eq, not_true_eq_false, if_false, Op.intCmp, ibeq_eq]; rfl
  | neq => exact cmpBin_ok (eqRest_ok (.inr ⟨rfl, rfl⟩)) fun ik x y => by simp only [binOp, ne_eq, not_true_eq_false, if_false, Op.intCmp, ibeq_eq, bnot_eq]; rfl
  | _ => exact fun _ _ _ h => slowBin_ok h
end
end Go.Det
