/-
  What is told of internal/strconv.numDigits is so.
-/
import Derived.Test.YtpinlnajhiagoaaGreatDoorIntrD
import Derived.Shelf.Strconv.Itoa1
set_option linter.unusedVariables false
set_option linter.unusedSimpArgs false
namespace Go.Det
open Go

theorem numDig_eq : ∀ f d, d < 10 ^ (f + 1) → numDig f d = Lib.nDigits d
  | 0, d, h => by rw [Lib.nDigits_small (by simpa using h)]; rfl
  | f + 1, d, h => by
    unfold numDig
    by_cases hd : d < 10
    · rw [Lib.nDigits_small hd, show Nat.blt d 10 = true by simpa using hd]; rfl
    · rw [Lib.nDigits_big hd, show Nat.blt d 10 = false by rw [← Bool.not_eq_true, Nat.blt_eq]; omega, numDig_eq f (d / 10) (by rw [Nat.pow_succ] at h; omega)]; rfl

theorem numDigitsI_ok {P : Program} {ρ : Ren} {s : St} {w : World} (hgor : NoGor P) {σ : Go.Shelf.Ren} (L : Go.Proofs.LaysM.n284 P σ) {fn : Func} {c : Code} (hf : P.funcs[σ.f 284]? = some fn) (hb : fn.body = some c) {args : List Value} {v : Value} {s' : St}
    (h : numDigitsI args s = some (v, s')) {args' : Array Value} (hr : HRel P ρ s w) (ha : LRel ρ args args'.toList) : CallGot P ρ s w (σ.f 284) args' v s' := by
  unfold numDigitsI at h
  split at h
  rotate_left
  · cases h
  rename_i d
  cases hc : (Nat.ble 1 d && Nat.blt d 18446744073709551616 ) with
  | false => rw [hc] at h; cases h
  | true =>
  rw [hc] at h
  cases h
  simp only [Bool.and_eq_true, Nat.ble_eq, Nat.blt_eq] at hc
  obtain ⟨a', rfl, h1⟩ := one ha
  cases h1
  refine got_calls hgor hf hb (Go.Proofs.Any.internal_strconv_numDigits L d hc.1 hc.2 w hr.tab) fun e2 w' hq => ?_
  obtain ⟨rfl, rfl⟩ := hq
  refine ⟨ρ, ?_, hr, Fm.refl _ _ _⟩
  rw [numDig_eq 20 d (by omega)]
  exact .int _ _
end Go.Det
