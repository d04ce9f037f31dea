/-
  What the evaluator's values, objects and slots say of the machine's: a renaming of numbers; laws on it.
-/
import Derived.Test.YtpinlnajhiagoaaGreatDoorEvCore
import Derived.CallsIn
import Derived.RangeFuncIn
import Derived.OrdersIn
import Derived.DefersIn
import Derived.Below
set_option linter.unusedVariables false
set_option linter.unusedSimpArgs false
namespace Go.Det

/-! ### Tries -/
theorem R16.at_put_same {α : Type} (r : R16 α) (i : Nat) (v : α) : (r.put i v).at i = v := by
  cases r
  match i with
  | 0 => rfl
  | 1 => rfl
  | 2 => rfl
  | 3 => rfl
  | 4 => rfl
  | 5 => rfl
  | 6 => rfl
  | 7 => rfl
  | 8 => rfl
  | 9 => rfl
  | 10 => rfl
  | 11 => rfl
  | 12 => rfl
  | 13 => rfl
  | 14 => rfl
  | _ + 15 => rfl

theorem R16.at_put0 {α : Type} (r : R16 α) (j : Nat) (v : α) (hj : j < 16) (h : 0 ≠ j) : (r.put 0 v).at j = r.at j := by
  cases r
  match j, hj, h with
  | 0, _, h => exact absurd rfl h
  | 1, _, h => rfl
  | 2, _, h => rfl
  | 3, _, h => rfl
  | 4, _, h => rfl
  | 5, _, h => rfl
  | 6, _, h => rfl
  | 7, _, h => rfl
  | 8, _, h => rfl
  | 9, _, h => rfl
  | 10, _, h => rfl
  | 11, _, h => rfl
  | 12, _, h => rfl
  | 13, _, h => rfl
  | 14, _, h => rfl
  | 15, _, h => rfl
  | _ + 16, h, _ => omega

theorem R16.at_put1 {α : Type} (r : R16 α) (j : Nat) (v : α) (hj : j < 16) (h : 1 ≠ j) : (r.put 1 v).at j = r.at j := by
  cases r
  match j, hj, h with
  | 0, _, h => rfl
  | 1, _, h => exact absurd rfl h
  | 2, _, h => rfl
  | 3, _, h => rfl
  | 4, _, h => rfl
  | 5, _, h => rfl
  | 6, _, h => rfl
  | 7, _, h => rfl
  | 8, _, h => rfl
  | 9, _, h => rfl
  | 10, _, h => rfl
  | 11, _, h => rfl
  | 12, _, h => rfl
  | 13, _, h => rfl
  | 14, _, h => rfl
  | 15, _, h => rfl
  | _ + 16, h, _ => omega

theorem R16.at_put2 {α : Type} (r : R16 α) (j : Nat) (v : α) (hj : j < 16) (h : 2 ≠ j) : (r.put 2 v).at j = r.at j := by
  cases r
  match j, hj, h with
  | 0, _, h => rfl
  | 1, _, h => rfl
  | 2, _, h => exact absurd rfl h
  | 3, _, h => rfl
  | 4, _, h => rfl
  | 5, _, h => rfl
  | 6, _, h => rfl
  | 7, _, h => rfl
  | 8, _, h => rfl
  | 9, _, h => rfl
  | 10, _, h => rfl
  | 11, _, h => rfl
  | 12, _, h => rfl
  | 13, _, h => rfl
  | 14, _, h => rfl
  | 15, _, h => rfl
  | _ + 16, h, _ => omega

theorem R16.at_put3 {α : Type} (r : R16 α) (j : Nat) (v : α) (hj : j < 16) (h : 3 ≠ j) : (r.put 3 v).at j = r.at j := by
  cases r
  match j, hj, h with
  | 0, _, h => rfl
  | 1, _, h => rfl
  | 2, _, h => rfl
  | 3, _, h => exact absurd rfl h
  | 4, _, h => rfl
  | 5, _, h => rfl
  | 6, _, h => rfl
  | 7, _, h => rfl
  | 8, _, h => rfl
  | 9, _, h => rfl
  | 10, _, h => rfl
  | 11, _, h => rfl
  | 12, _, h => rfl
  | 13, _, h => rfl
  | 14, _, h => rfl
  | 15, _, h => rfl
  | _ + 16, h, _ => omega

theorem R16.at_put4 {α : Type} (r : R16 α) (j : Nat) (v : α) (hj : j < 16) (h : 4 ≠ j) : (r.put 4 v).at j = r.at j := by
  cases r
  match j, hj, h with
  | 0, _, h => rfl
  | 1, _, h => rfl
  | 2, _, h => rfl
  | 3, _, h => rfl
  | 4, _, h => exact absurd rfl h
  | 5, _, h => rfl
  | 6, _, h => rfl
  | 7, _, h => rfl
  | 8, _, h => rfl
  | 9, _, h => rfl
  | 10, _, h => rfl
  | 11, _, h => rfl
  | 12, _, h => rfl
  | 13, _, h => rfl
  | 14, _, h => rfl
  | 15, _, h => rfl
  | _ + 16, h, _ => omega

theorem R16.at_put5 {α : Type} (r : R16 α) (j : Nat) (v : α) (hj : j < 16) (h : 5 ≠ j) : (r.put 5 v).at j = r.at j := by
  cases r
  match j, hj, h with
  | 0, _, h => rfl
  | 1, _, h => rfl
  | 2, _, h => rfl
  | 3, _, h => rfl
  | 4, _, h => rfl
  | 5, _, h => exact absurd rfl h
  | 6, _, h => rfl
  | 7, _, h => rfl
  | 8, _, h => rfl
  | 9, _, h => rfl
  | 10, _, h => rfl
  | 11, _, h => rfl
  | 12, _, h => rfl
  | 13, _, h => rfl
  | 14, _, h => rfl
  | 15, _, h => rfl
  | _ + 16, h, _ => omega

theorem R16.at_put6 {α : Type} (r : R16 α) (j : Nat) (v : α) (hj : j < 16) (h : 6 ≠ j) : (r.put 6 v).at j = r.at j := by
  cases r
  match j, hj, h with
  | 0, _, h => rfl
  | 1, _, h => rfl
  | 2, _, h => rfl
  | 3, _, h => rfl
  | 4, _, h => rfl
  | 5, _, h => rfl
  | 6, _, h => exact absurd rfl h
  | 7, _, h => rfl
  | 8, _, h => rfl
  | 9, _, h => rfl
  | 10, _, h => rfl
  | 11, _, h => rfl
  | 12, _, h => rfl
  | 13, _, h => rfl
  | 14, _, h => rfl
  | 15, _, h => rfl
  | _ + 16, h, _ => omega

theorem R16.at_put7 {α : Type} (r : R16 α) (j : Nat) (v : α) (hj : j < 16) (h : 7 ≠ j) : (r.put 7 v).at j = r.at j := by
  cases r
  match j, hj, h with
  | 0, _, h => rfl
  | 1, _, h => rfl
  | 2, _, h => rfl
  | 3, _, h => rfl
  | 4, _, h => rfl
  | 5, _, h => rfl
  | 6, _, h => rfl
  | 7, _, h => exact absurd rfl h
  | 8, _, h => rfl
  | 9, _, h => rfl
  | 10, _, h => rfl
  | 11, _, h => rfl
  | 12, _, h => rfl
  | 13, _, h => rfl
  | 14, _, h => rfl
  | 15, _, h => rfl
  | _ + 16, h, _ => omega

theorem R16.at_put8 {α : Type} (r : R16 α) (j : Nat) (v : α) (hj : j < 16) (h : 8 ≠ j) : (r.put 8 v).at j = r.at j := by
  cases r
  match j, hj, h with
  | 0, _, h => rfl
  | 1, _, h => rfl
  | 2, _, h => rfl
  | 3, _, h => rfl
  | 4, _, h => rfl
  | 5, _, h => rfl
  | 6, _, h => rfl
  | 7, _, h => rfl
  | 8, _, h => exact absurd rfl h
  | 9, _, h => rfl
  | 10, _, h => rfl
  | 11, _, h => rfl
  | 12, _, h => rfl
  | 13, _, h => rfl
  | 14, _, h => rfl
  | 15, _, h => rfl
  | _ + 16, h, _ => omega

theorem R16.at_put9 {α : Type} (r : R16 α) (j : Nat) (v : α) (hj : j < 16) (h : 9 ≠ j) : (r.put 9 v).at j = r.at j := by
  cases r
  match j, hj, h with
  | 0, _, h => rfl
  | 1, _, h => rfl
  | 2, _, h => rfl
  | 3, _, h => rfl
  | 4, _, h => rfl
  | 5, _, h => rfl
  | 6, _, h => rfl
  | 7, _, h => rfl
  | 8, _, h => rfl
  | 9, _, h => exact absurd rfl h
  | 10, _, h => rfl
  | 11, _, h => rfl
  | 12, _, h => rfl
  | 13, _, h => rfl
  | 14, _, h => rfl
  | 15, _, h => rfl
  | _ + 16, h, _ => omega

theorem R16.at_put10 {α : Type} (r : R16 α) (j : Nat) (v : α) (hj : j < 16) (h : 10 ≠ j) : (r.put 10 v).at j = r.at j := by
  cases r
  match j, hj, h with
  | 0, _, h => rfl
  | 1, _, h => rfl
  | 2, _, h => rfl
  | 3, _, h => rfl
  | 4, _, h => rfl
  | 5, _, h => rfl
  | 6, _, h => rfl
  | 7, _, h => rfl
  | 8, _, h => rfl
  | 9, _, h => rfl
  | 10, _, h => exact absurd rfl h
  | 11, _, h => rfl
  | 12, _, h => rfl
  | 13, _, h => rfl
  | 14, _, h => rfl
  | 15, _, h => rfl
  | _ + 16, h, _ => omega

theorem R16.at_put11 {α : Type} (r : R16 α) (j : Nat) (v : α) (hj : j < 16) (h : 11 ≠ j) : (r.put 11 v).at j = r.at j := by
  cases r
  match j, hj, h with
  | 0, _, h => rfl
  | 1, _, h => rfl
  | 2, _, h => rfl
  | 3, _, h => rfl
  | 4, _, h => rfl
  | 5, _, h => rfl
  | 6, _, h => rfl
  | 7, _, h => rfl
  | 8, _, h => rfl
  | 9, _, h => rfl
  | 10, _, h => rfl
  | 11, _, h => exact absurd rfl h
  | 12, _, h => rfl
  | 13, _, h => rfl
  | 14, _, h => rfl
  | 15, _, h => rfl
  | _ + 16, h, _ => omega

theorem R16.at_put12 {α : Type} (r : R16 α) (j : Nat) (v : α) (hj : j < 16) (h : 12 ≠ j) : (r.put 12 v).at j = r.at j := by
  cases r
  match j, hj, h with
  | 0, _, h => rfl
  | 1, _, h => rfl
  | 2, _, h => rfl
  | 3, _, h => rfl
  | 4, _, h => rfl
  | 5, _, h => rfl
  | 6, _, h => rfl
  | 7, _, h => rfl
  | 8, _, h => rfl
  | 9, _, h => rfl
  | 10, _, h => rfl
  | 11, _, h => rfl
  | 12, _, h => exact absurd rfl h
  | 13, _, h => rfl
  | 14, _, h => rfl
  | 15, _, h => rfl
  | _ + 16, h, _ => omega

theorem R16.at_put13 {α : Type} (r : R16 α) (j : Nat) (v : α) (hj : j < 16) (h : 13 ≠ j) : (r.put 13 v).at j = r.at j := by
  cases r
  match j, hj, h with
  | 0, _, h => rfl
  | 1, _, h => rfl
  | 2, _, h => rfl
  | 3, _, h => rfl
  | 4, _, h => rfl
  | 5, _, h => rfl
  | 6, _, h => rfl
  | 7, _, h => rfl
  | 8, _, h => rfl
  | 9, _, h => rfl
  | 10, _, h => rfl
  | 11, _, h => rfl
  | 12, _, h => rfl
  | 13, _, h => exact absurd rfl h
  | 14, _, h => rfl
  | 15, _, h => rfl
  | _ + 16, h, _ => omega

theorem R16.at_put14 {α : Type} (r : R16 α) (j : Nat) (v : α) (hj : j < 16) (h : 14 ≠ j) : (r.put 14 v).at j = r.at j := by
  cases r
  match j, hj, h with
  | 0, _, h => rfl
  | 1, _, h => rfl
  | 2, _, h => rfl
  | 3, _, h => rfl
  | 4, _, h => rfl
  | 5, _, h => rfl
  | 6, _, h => rfl
  | 7, _, h => rfl
  | 8, _, h => rfl
  | 9, _, h => rfl
  | 10, _, h => rfl
  | 11, _, h => rfl
  | 12, _, h => rfl
  | 13, _, h => rfl
  | 14, _, h => exact absurd rfl h
  | 15, _, h => rfl
  | _ + 16, h, _ => omega

theorem R16.at_put15 {α : Type} (r : R16 α) (j : Nat) (v : α) (hj : j < 16) (h : 15 ≠ j) : (r.put 15 v).at j = r.at j := by
  cases r
  match j, hj, h with
  | 0, _, h => rfl
  | 1, _, h => rfl
  | 2, _, h => rfl
  | 3, _, h => rfl
  | 4, _, h => rfl
  | 5, _, h => rfl
  | 6, _, h => rfl
  | 7, _, h => rfl
  | 8, _, h => rfl
  | 9, _, h => rfl
  | 10, _, h => rfl
  | 11, _, h => rfl
  | 12, _, h => rfl
  | 13, _, h => rfl
  | 14, _, h => rfl
  | 15, _, h => exact absurd rfl h
  | _ + 16, h, _ => omega

theorem R16.at_put_other {α : Type} (r : R16 α) {i j : Nat} (v : α) (hi : i < 16) (hj : j < 16) (h : i ≠ j) : (r.put i v).at j = r.at j := by
  match i, hi, h with
  | 0, _, h => exact R16.at_put0 r j v hj h
  | 1, _, h => exact R16.at_put1 r j v hj h
  | 2, _, h => exact R16.at_put2 r j v hj h
  | 3, _, h => exact R16.at_put3 r j v hj h
  | 4, _, h => exact R16.at_put4 r j v hj h
  | 5, _, h => exact R16.at_put5 r j v hj h
  | 6, _, h => exact R16.at_put6 r j v hj h
  | 7, _, h => exact R16.at_put7 r j v hj h
  | 8, _, h => exact R16.at_put8 r j v hj h
  | 9, _, h => exact R16.at_put9 r j v hj h
  | 10, _, h => exact R16.at_put10 r j v hj h
  | 11, _, h => exact R16.at_put11 r j v hj h
  | 12, _, h => exact R16.at_put12 r j v hj h
  | 13, _, h => exact R16.at_put13 r j v hj h
  | 14, _, h => exact R16.at_put14 r j v hj h
  | 15, _, h => exact R16.at_put15 r j v hj h
  | _ + 16, h, _ => omega

theorem R16.at_all {α : Type} (v : α) (i : Nat) : (R16.all v).at i = v := by
  unfold R16.all R16.at
  split <;> rfl

def Tr.sub {α : Type} {d : Nat} (t : Tr (d + 1) α) (i : Nat) : Tr d α := R16.at t i
def Tr.up {α : Type} {d : Nat} (t : Tr (d + 1) α) (i : Nat) (x : Tr d α) : Tr (d + 1) α := R16.put t i x
theorem Tr.sub_up_same {α : Type} {d : Nat} (t : Tr (d + 1) α) (i : Nat) (x : Tr d α) : (t.up i x).sub i = x := R16.at_put_same (α := Tr d α) t i x
theorem Tr.sub_up_other {α : Type} {d : Nat} (t : Tr (d + 1) α) {i j : Nat} (x : Tr d α) (hi : i < 16) (hj : j < 16) (h : i ≠ j) : (t.up i x).sub j = t.sub j := R16.at_put_other (α := Tr d α) t x hi hj h
theorem Tr.sub_nil {α : Type} {d : Nat} (i : Nat) : (Tr.nil (d + 1) : Tr (d + 1) α).sub i = Tr.nil d := R16.at_all (α := Tr d α) _ _
theorem Tr.get_succ {α : Type} (d : Nat) (t : Tr (d + 1) α) (n : Nat) : Tr.get (d + 1) t n = Tr.get d (t.sub (n % 16)) (n / 16) := rfl
theorem Tr.mod_succ {α : Type} (d : Nat) (t : Tr (d + 1) α) (n : Nat) (o : Option α) : Tr.mod (d + 1) t n o = t.up (n % 16) (Tr.mod d (t.sub (n % 16)) (n / 16) o) := rfl

theorem Tr.get_nil {α : Type} (d : Nat) (n : Nat) : Tr.get d (Tr.nil d : Tr d α) n = none := by
  induction d generalizing n with
  | zero => rfl
  | succ d ih => rw [Tr.get_succ, Tr.sub_nil]; exact ih _

theorem Tr.get_mod_same {α : Type} (d : Nat) : ∀ (t : Tr d α) (n : Nat) (o : Option α), Tr.get d (Tr.mod d t n o) n = o := by
  induction d with
  | zero => intro t n o; rfl
  | succ d ih =>
    intro t n o
    rw [Tr.mod_succ, Tr.get_succ, Tr.sub_up_same]; exact ih _ _ _

theorem Tr.get_mod_other {α : Type} (d : Nat) : ∀ (t : Tr d α) (n m : Nat) (o : Option α), n < 16 ^ d → m < 16 ^ d → n ≠ m → Tr.get d (Tr.mod d t n o) m = Tr.get d t m := by
  induction d with
  | zero => intro t n m o hn hm h; simp at hn hm; omega
  | succ d ih =>
    intro t n m o hn hm h
    have hn' : n / 16 < 16 ^ d := by rw [Nat.pow_succ] at hn; omega
    have hm' : m / 16 < 16 ^ d := by rw [Nat.pow_succ] at hm; omega
    rw [Tr.mod_succ, Tr.get_succ, Tr.get_succ]
    by_cases hp : n % 16 = m % 16
    · rw [← hp, Tr.sub_up_same]; exact ih _ _ _ _ hn' hm' (by omega)
    · rw [Tr.sub_up_other _ _ (by omega) (by omega) hp]

/-- a path alike, or not -/
theorem Tr.get_mod_any {α : Type} (d : Nat) : ∀ (t : Tr d α) (n m : Nat) (o : Option α), Tr.get d (Tr.mod d t n o) m = Tr.get d t m ∨ Tr.get d t m = Tr.get d t n := by
  induction d with
  | zero => intro t n m o; exact .inr rfl
  | succ d ih =>
    intro t n m o
    rw [Tr.mod_succ, Tr.get_succ, Tr.get_succ, Tr.get_succ]
    by_cases hp : n % 16 = m % 16
    · rw [← hp, Tr.sub_up_same]; exact ih _ _ _ _
    · rw [Tr.sub_up_other _ _ (by omega) (by omega) hp]; exact .inl rfl

theorem Tr.get_set_same {α : Type} (d : Nat) (t : Tr d α) (n : Nat) (v : α) : Tr.get d (Tr.set d t n v) n = some v := Tr.get_mod_same d t n _
theorem Tr.get_set_other {α : Type} (d : Nat) (t : Tr d α) (n m : Nat) (v : α) (hn : n < 16 ^ d) (hm : m < 16 ^ d) (h : n ≠ m) : Tr.get d (Tr.set d t n v) m = Tr.get d t m := Tr.get_mod_other d t n m _ hn hm h
theorem Tr.get_set_any {α : Type} (d : Nat) (t : Tr d α) (n m : Nat) (v : α) : Tr.get d (Tr.set d t n v) m = Tr.get d t m ∨ Tr.get d t m = Tr.get d t n := Tr.get_mod_any d t n m _
theorem Tr.get_del_same {α : Type} (d : Nat) (t : Tr d α) (n : Nat) : Tr.get d (Tr.del d t n) n = none := Tr.get_mod_same d t n _
theorem Tr.get_del_other {α : Type} (d : Nat) (t : Tr d α) (n m : Nat) (hn : n < 16 ^ d) (hm : m < 16 ^ d) (h : n ≠ m) : Tr.get d (Tr.del d t n) m = Tr.get d t m := Tr.get_mod_other d t n m _ hn hm h

/-! ### Lists -/
theorem lget_eq {α : Type} : ∀ (l : List α) (n : Nat), lget l n = l[n]?
  | [], n => by simp [lget]
  | x :: l, 0 => by simp [lget]
  | x :: l, n + 1 => by simp [lget, lget_eq l n]

theorem ldrop_eq {α : Type} : ∀ (n : Nat) (l : List α), ldrop n l = l.drop n
  | 0, l => by simp [ldrop]
  | n + 1, [] => by simp [ldrop]
  | n + 1, x :: l => by simp [ldrop, ldrop_eq n l]

theorem lset_length {α : Type} : ∀ (l : List α) (n : Nat) (v : α), (lset l n v).length = l.length
  | [], n, v => by simp [lset]
  | x :: l, 0, v => by simp [lset]
  | x :: l, n + 1, v => by simp [lset, lset_length l n v]

theorem lset_eq {α : Type} : ∀ (l : List α) (n : Nat) (v : α), lset l n v = l.set n v
  | [], n, v => by simp [lset]
  | x :: l, 0, v => by simp [lset]
  | x :: l, n + 1, v => by simp [lset, lset_eq l n v]

theorem ltake_some {α : Type} : ∀ {n : Nat} {l r : List α}, ltake n l = some r → n ≤ l.length ∧ r = l.take n
  | 0, l, r, h => by simp [ltake] at h; subst h; simp
  | n + 1, [], r, h => by simp [ltake] at h
  | n + 1, x :: l, r, h => by
    simp only [ltake] at h
    cases hr : ltake n l with
    | none => simp [hr] at h
    | some r' =>
      simp only [hr, Option.some.injEq] at h
      obtain ⟨h1, h2⟩ := ltake_some hr
      subst h; subst h2
      exact ⟨by simp; omega, by simp⟩

theorem lover_some {α : Type} : ∀ {new old r : List α}, lover new old = some r →
    new.length ≤ old.length ∧ r.length = old.length ∧ (∀ i, i < new.length → r[i]? = new[i]?) ∧ (∀ i, new.length ≤ i → r[i]? = old[i]?)
  | [], old, r, h => by simp [lover] at h; subst h; simp
  | x :: new, [], r, h => by simp [lover] at h
  | x :: new, y :: old, r, h => by
    simp only [lover] at h
    cases hr : lover new old with
    | none => simp [hr] at h
    | some r' =>
      simp only [hr, Option.some.injEq] at h
      obtain ⟨h1, h2, h3, h4⟩ := lover_some hr
      subst h
      refine ⟨by simp; omega, by simp [h2], ?_, ?_⟩
      · intro i hi
        cases i with
        | zero => simp
        | succ i => simp only [List.getElem?_cons_succ]; exact h3 i (by simp at hi; omega)
      · intro i hi
        cases i with
        | zero => simp at hi
        | succ i => simp only [List.getElem?_cons_succ]; exact h4 i (by simp at hi; omega)

theorem lput_some {α : Type} : ∀ {n : Nat} {new old r : List α}, lput n new old = some r →
    n + new.length ≤ old.length ∧ r.length = old.length ∧ (∀ i, i < new.length → r[n + i]? = new[i]?) ∧ (∀ i, i < n ∨ n + new.length ≤ i → r[i]? = old[i]?)
  | 0, new, old, r, h => by
    simp only [lput] at h
    obtain ⟨h1, h2, h3, h4⟩ := lover_some h
    exact ⟨by omega, h2, by simpa using h3, fun i hi => h4 i (by omega)⟩
  | n + 1, new, [], r, h => by simp [lput] at h
  | n + 1, new, y :: old, r, h => by
    simp only [lput] at h
    cases hr : lput n new old with
    | none => simp [hr] at h
    | some r' =>
      simp only [hr, Option.some.injEq] at h
      obtain ⟨h1, h2, h3, h4⟩ := lput_some hr
      subst h
      refine ⟨by simp; omega, by simp [h2], ?_, ?_⟩
      · intro i hi
        rw [show n + 1 + i = (n + i) + 1 from by omega, List.getElem?_cons_succ]; exact h3 i hi
      · intro i hi
        cases i with
        | zero => simp
        | succ i => simp only [List.getElem?_cons_succ]; exact h4 i (by omega)

/-! ### The renaming -/
structure Loc where
  blk : Nat
  sh : Nat
  ex : Nat
  deriving DecidableEq

abbrev Ren := Nat → Option Loc

def Ren.le (ρ ρ' : Ren) : Prop := ∀ b l, ρ b = some l → ρ' b = some l

theorem Ren.le_refl (ρ : Ren) : ρ.le ρ := fun _ _ h => h
theorem Ren.le_trans {a b c : Ren} (h : a.le b) (k : b.le c) : a.le c := fun _ _ x => k _ _ (h _ _ x)

inductive VRel (ρ : Ren) : Value → Value → Prop
  | bool (b : Bool) : VRel ρ (.bool b) (.bool b)
  | int (k : IntKind) (n : Int) : VRel ρ (.int k n) (.int k n)
  | string (s : ByteArray) : VRel ρ (.string s) (.string s)
  | ptrNil : VRel ρ (.pointer none) (.pointer none)
  | ptr {b o : Nat} {l : Loc} (h : ρ b = some l) : VRel ρ (.pointer (some ⟨b, o, none⟩)) (.pointer (some ⟨l.blk, l.sh + o, none⟩))
  | sliceNil (n c : Nat) (hc : c < OPEN) : VRel ρ (.slice none n c) (.slice none n c)
  | slice {b o n c : Nat} {l : Loc} (h : ρ b = some l) (hc : c < OPEN) : VRel ρ (.slice (some ⟨b, o, none⟩) n c) (.slice (some ⟨l.blk, l.sh + o, none⟩) n c)
  | sliceOpen {b o o' n c : Nat} {l : Loc} (h : ρ b = some l) (hn : n ≤ c) (ho : o' = l.sh + o ∨ c + l.ex = 0) :
      VRel ρ (.slice (some ⟨b, o, none⟩) n (OPEN + c)) (.slice (some ⟨l.blk, o', none⟩) n (c + l.ex))
  | mapNil : VRel ρ (.map none) (.map none)
  | map {b : Nat} {l : Loc} (h : ρ b = some l) : VRel ρ (.map (some b)) (.map (some l.blk))
  | func (f : FuncId) {a a' c c' : List Value} (ha : a.length = a'.length) (hc : c.length = c'.length)
      (h : ∀ (i : Nat) v v', a[i]? = some v → a'[i]? = some v' → VRel ρ v v') (k : ∀ (i : Nat) v v', c[i]? = some v → c'[i]? = some v' → VRel ρ v v') :
      VRel ρ (.func (.func f) a.toArray c.toArray) (.func (.func f) a'.toArray c'.toArray)
  | yield {b : Nat} {l : Loc} (h : ρ b = some l) : VRel ρ (.func (.yield b) #[] #[]) (.func (.yield l.blk) #[] #[])
  | nilFunc : VRel ρ .nilFunc .nilFunc
  | nilIface : VRel ρ .nilIface .nilIface
  | agg {a a' : List Value} (ha : a.length = a'.length) (h : ∀ (i : Nat) v v', a[i]? = some v → a'[i]? = some v' → VRel ρ v v') : VRel ρ (.agg a.toArray) (.agg a'.toArray)
  | tuple {a a' : List Value} (ha : a.length = a'.length) (h : ∀ (i : Nat) v v', a[i]? = some v → a'[i]? = some v' → VRel ρ v v') : VRel ρ (.tuple a.toArray) (.tuple a'.toArray)

/-- two lists, element by element -/
def LRel (ρ : Ren) (a a' : List Value) : Prop := a.length = a'.length ∧ ∀ (i : Nat) v v', a[i]? = some v → a'[i]? = some v' → VRel ρ v v'

theorem VRel.mono {ρ ρ' : Ren} (hle : ρ.le ρ') {v v' : Value} (h : VRel ρ v v') : VRel ρ' v v' := by
  induction h with
  | bool b => exact .bool b
  | int k n => exact .int k n
  | string s => exact .string s
  | ptrNil => exact .ptrNil
  | ptr h => exact .ptr (hle _ _ h)
  | sliceNil n c hc => exact .sliceNil n c hc
  | slice h hc => exact .slice (hle _ _ h) hc
  | sliceOpen h hn ho => exact .sliceOpen (hle _ _ h) hn ho
  | mapNil => exact .mapNil
  | map h => exact .map (hle _ _ h)
  | func f ha hc _ _ ih ik => exact .func f ha hc ih ik
  | yield h => exact .yield (hle _ _ h)
  | nilFunc => exact .nilFunc
  | nilIface => exact .nilIface
  | agg ha _ ih => exact .agg ha ih
  | tuple ha _ ih => exact .tuple ha ih

theorem LRel.mono {ρ ρ' : Ren} (hle : ρ.le ρ') {a a' : List Value} (h : LRel ρ a a') : LRel ρ' a a' :=
  ⟨h.1, fun i v v' x y => (h.2 i v v' x y).mono hle⟩

theorem LRel.nil (ρ : Ren) : LRel ρ [] [] := ⟨rfl, fun i v v' h => by simp at h⟩
theorem LRel.cons {ρ : Ren} {v v' : Value} {a a' : List Value} (h : VRel ρ v v') (k : LRel ρ a a') : LRel ρ (v :: a) (v' :: a') := by
  refine ⟨by simp [k.1], fun i u u' hu hu' => ?_⟩
  cases i with
  | zero => simp at hu hu'; subst hu; subst hu'; exact h
  | succ i => simp at hu hu'; exact k.2 i u u' hu hu'
theorem LRel.uncons {ρ : Ren} {v : Value} {a b' : List Value} (h : LRel ρ (v :: a) b') : ∃ v' a', b' = v' :: a' ∧ VRel ρ v v' ∧ LRel ρ a a' := by
  cases b' with
  | nil => simp [LRel] at h
  | cons v' a' =>
    refine ⟨v', a', rfl, h.2 0 v v' (by simp) (by simp), by simpa using h.1, fun i u u' hu hu' => h.2 (i + 1) u u' (by simpa using hu) (by simpa using hu')⟩
theorem LRel.nil_left {ρ : Ren} {b' : List Value} (h : LRel ρ [] b') : b' = [] := by
  have := h.1; simp at this; exact List.eq_nil_of_length_eq_zero this.symm
theorem LRel.single {ρ : Ren} {v v' : Value} (h : VRel ρ v v') : LRel ρ [v] [v'] := .cons h (.nil ρ)
theorem LRel.append {ρ : Ren} {a a' b b' : List Value} (h : LRel ρ a a') (k : LRel ρ b b') : LRel ρ (a ++ b) (a' ++ b') := by
  induction a generalizing a' with
  | nil => rw [h.nil_left]; exact k
  | cons v a ih =>
    obtain ⟨v', a'', rfl, hv, ha⟩ := h.uncons
    exact .cons hv (ih ha)
theorem LRel.take {ρ : Ren} {a a' : List Value} (h : LRel ρ a a') (n : Nat) : LRel ρ (a.take n) (a'.take n) := by
  refine ⟨by simp [h.1], fun i u u' hu hu' => ?_⟩
  simp only [List.getElem?_take] at hu hu'
  split at hu <;> simp_all
  exact h.2 i u u' hu hu'
theorem LRel.drop {ρ : Ren} {a a' : List Value} (h : LRel ρ a a') (n : Nat) : LRel ρ (a.drop n) (a'.drop n) := by
  refine ⟨by simp [h.1], fun i u u' hu hu' => ?_⟩
  simp only [List.getElem?_drop] at hu hu'
  exact h.2 _ u u' hu hu'
theorem LRel.get {ρ : Ren} {a a' : List Value} (h : LRel ρ a a') {i : Nat} {v : Value} (hv : a[i]? = some v) : ∃ v', a'[i]? = some v' ∧ VRel ρ v v' := by
  have hi : i < a'.length := by rw [← h.1]; exact (List.getElem?_eq_some_iff.1 hv).1
  exact ⟨a'[i], List.getElem?_eq_getElem hi, h.2 i v _ hv (List.getElem?_eq_getElem hi)⟩
theorem LRel.flatRep {ρ : Ren} {a a' : List Value} (h : LRel ρ a a') (n : Nat) : LRel ρ (repl n a) (repl n a') := by
  induction n with
  | zero => exact .nil ρ
  | succ n ih => exact h.append ih

/-! ### What a relation says of a value, by its shape -/
section
variable {ρ : Ren} {v v' : Value}
theorem VRel.agg_inv {cs : Array Value} (h : VRel ρ (.agg cs) v') : ∃ cs' : Array Value, v' = .agg cs' ∧ LRel ρ cs.toList cs'.toList := by
  cases h with | agg ha h => exact ⟨_, rfl, ha, h⟩
theorem VRel.tuple_inv {cs : Array Value} (h : VRel ρ (.tuple cs) v') : ∃ cs' : Array Value, v' = .tuple cs' ∧ LRel ρ cs.toList cs'.toList := by
  cases h with | tuple ha h => exact ⟨_, rfl, ha, h⟩
theorem VRel.ptr_inv {a : Addr} (h : VRel ρ (.pointer (some a)) v') : ∃ l, ρ a.block = some l ∧ a.spot = none ∧ v' = .pointer (some ⟨l.blk, l.sh + a.off, none⟩) := by
  cases h with | ptr h => exact ⟨_, h, rfl, rfl⟩
theorem VRel.map_inv {b : Nat} (h : VRel ρ (.map (some b)) v') : ∃ l, ρ b = some l ∧ v' = .map (some l.blk) := by
  cases h with | map h => exact ⟨_, h, rfl⟩
theorem VRel.func_inv {f : FuncId} {a c : Array Value} (h : VRel ρ (.func (.func f) a c) v') :
    ∃ a' c' : Array Value, v' = .func (.func f) a' c' ∧ LRel ρ a.toList a'.toList ∧ LRel ρ c.toList c'.toList := by
  cases h with | func _ ha hc h k => exact ⟨_, _, rfl, ⟨ha, h⟩, ⟨hc, k⟩⟩
theorem VRel.plain (hp : isPlain v = true) (h : VRel ρ v v') : v' = v := by
  cases h with
  | func f ha hc h k =>
    simp [isPlain] at hp
    obtain ⟨h1, h2⟩ := hp
    subst h1; subst h2
    simp at ha hc
    simp [List.eq_nil_of_length_eq_zero ha.symm, List.eq_nil_of_length_eq_zero hc.symm]
  | _ => first | rfl | simp [isPlain] at hp
theorem VRel.scalar (hp : isScalar v = true) (h : VRel ρ v v') : v' = v := by
  cases h <;> simp_all [isScalar]
theorem VRel.of_scalar (hp : isScalar v = true) : VRel ρ v v := by
  cases v <;> simp_all [isScalar] <;> constructor
end

theorem VRel.of_plain {ρ : Ren} {v : Value} (hp : isPlain v = true) : VRel ρ v v := by
  cases v with
  | bool b => exact .bool b
  | int k n => exact .int k n
  | string s => exact .string s
  | pointer a => cases a with
    | none => exact .ptrNil
    | some a => simp [isPlain] at hp
  | slice a n c => cases a with
    | none => exact .sliceNil n c (by simpa [isPlain] using hp)
    | some a => simp [isPlain] at hp
  | map r => cases r with
    | none => exact .mapNil
    | some r => simp [isPlain] at hp
  | func fn a c =>
    cases fn with
    | func f =>
      obtain ⟨a⟩ := a
      obtain ⟨c⟩ := c
      simp [isPlain] at hp
      obtain ⟨h1, h2⟩ := hp
      subst h1; subst h2
      exact .func f rfl rfl (fun i v v' h => by simp at h) (fun i v v' h => by simp at h)
    | _ => simp [isPlain] at hp
  | nilFunc => exact .nilFunc
  | nilIface => exact .nilIface
  | _ => simp [isPlain] at hp

theorem LRel.of_plain {ρ : Ren} : ∀ {l : List Value}, l.all isPlain = true → LRel ρ l l
  | [], _ => .nil ρ
  | v :: l, h => by
    simp only [List.all_cons, Bool.and_eq_true] at h
    exact .cons (.of_plain h.1) (LRel.of_plain h.2)

theorem VRel.mkAgg {ρ : Ren} {a a' : List Value} (h : LRel ρ a a') : VRel ρ (.agg a.toArray) (.agg a'.toArray) := .agg h.1 h.2
theorem VRel.mkTuple {ρ : Ren} {a a' : List Value} (h : LRel ρ a a') : VRel ρ (.tuple a.toArray) (.tuple a'.toArray) := .tuple h.1 h.2
theorem VRel.mkFunc {ρ : Ren} (f : FuncId) {a a' c c' : List Value} (h : LRel ρ a a') (k : LRel ρ c c') : VRel ρ (.func (.func f) a.toArray c.toArray) (.func (.func f) a'.toArray c'.toArray) := .func f h.1 k.1 h.2 k.2
theorem VRel.undef (ρ : Ren) : VRel ρ Go.undef Go.undef := VRel.mkTuple (.nil ρ)

theorem VRel.of_const {ρ : Ren} {v : Value} (hp : plainConst v = true) : VRel ρ v v := by
  cases v with
  | agg cs =>
    obtain ⟨cs⟩ := cs
    simp only [plainConst] at hp
    exact .mkAgg (.of_plain hp)
  | tuple cs =>
    obtain ⟨cs⟩ := cs
    simp [plainConst] at hp
    subst hp
    exact .mkTuple (.nil ρ)
  | _ => exact .of_plain (by simpa [plainConst] using hp)

/-- what a value's cells are -/
theorem cellList_eq (v : Value) : cellList v = v.cells.toList := by cases v <;> rfl

theorem VRel.cells {ρ : Ren} {v v' : Value} (h : VRel ρ v v') : LRel ρ (cellList v) (cellList v') := by
  cases h with
  | agg ha h => exact ⟨ha, h⟩
  | _ => exact .single (by constructor <;> assumption)

end Go.Det
