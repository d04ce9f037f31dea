/-
  Which functions a function comes to, reckoned with a mask and a table of successors.
-/
import GoSem.ClaimFn
import Derived.KernelRfl
set_option linter.unusedVariables false
set_option linter.unusedSimpArgs false
namespace Go.Clo

def viaS (succ : Nat → List Nat) : Nat → List Nat → List Nat → List Nat
  | 0, _, seen => seen.reverse
  | _ + 1, [], seen => seen.reverse
  | n + 1, f :: todo, seen => if seen.contains f then viaS succ n todo seen else viaS succ n (succ f ++ todo) (f :: seen)

theorem closureVia_eq (P : Program) : ∀ n todo seen, P.closureVia n todo seen = viaS (fun f => (P.funcs[f]?).elim [] P.leadsTo) n todo seen := by
  intro n
  induction n with
  | zero => intro todo seen; cases todo <;> rfl
  | succ n ih =>
    intro todo seen
    cases todo with
    | nil => rfl
    | cons f todo =>
      unfold Program.closureVia viaS
      split
      · exact ih _ _
      · exact ih _ _

def bit (m f : Nat) : Bool := Nat.beq (Nat.land (Nat.shiftRight m f) 1) 1

def nth : List (List Nat) → Nat → List Nat
  | [], _ => []
  | x :: _, 0 => x
  | _ :: r, n + 1 => nth r n

def viaM (tab : List (List Nat)) : Nat → List Nat → Nat → List Nat → Option (List Nat)
  | 0, _, _, _ => none
  | _ + 1, [], _, seen => some seen.reverse
  | n + 1, f :: todo, mask, seen => cond (bit mask f) (viaM tab n todo mask seen) (viaM tab n (nth tab f ++ todo) (Nat.lor mask (Nat.shiftLeft 1 f)) (f :: seen))

theorem bit_eq (m f : Nat) : bit m f = m.testBit f := by
  unfold bit
  rw [Nat.testBit_eq_decide_div_mod_eq]
  have h1 : Nat.shiftRight m f = m / 2 ^ f := Nat.shiftRight_eq_div_pow m f
  have h2 : Nat.land (m / 2 ^ f) 1 = m / 2 ^ f % 2 := Nat.and_one_is_mod _
  rw [h1, h2]
  by_cases h : m / 2 ^ f % 2 = 1
  · rw [h]; rfl
  · have : m / 2 ^ f % 2 = 0 := by omega
    rw [this]; rfl

theorem bit_set (m f g : Nat) : bit (Nat.lor m (Nat.shiftLeft 1 f)) g = (decide (g = f) || bit m g) := by
  have e : Nat.lor m (Nat.shiftLeft 1 f) = m ||| (1 <<< f) := rfl
  rw [bit_eq, bit_eq, e, Nat.testBit_or, Nat.testBit_shiftLeft]
  by_cases h : g = f
  · subst h; simp
  · by_cases h2 : g ≥ f
    · have : g - f ≠ 0 := by omega
      have t1 : Nat.testBit 1 (g - f) = false := by
        rw [Nat.testBit_eq_decide_div_mod_eq]
        have : 1 < 2 ^ (g - f) := Nat.one_lt_two_pow this
        rw [Nat.div_eq_of_lt this]; rfl
      simp [h, t1]
    · simp [h, h2]

theorem viaM_seen (tab : List (List Nat)) : ∀ n todo mask seen L, viaM tab n todo mask seen = some L → ∀ g ∈ seen, g ∈ L := by
  intro n
  induction n with
  | zero => intro todo mask seen L h; cases h
  | succ n ih =>
    intro todo mask seen L h g hg
    cases todo with
    | nil => cases h; simpa using hg
    | cons f todo =>
      unfold viaM at h
      cases hb : bit mask f with
      | true => rw [hb] at h; exact ih _ _ _ _ h g hg
      | false => rw [hb] at h; exact ih _ _ _ _ h g (List.mem_cons_of_mem _ hg)

theorem viaS_of (tab : List (List Nat)) (succ : Nat → List Nat) : ∀ n todo mask seen L, viaM tab n todo mask seen = some L →
    (∀ g, bit mask g = seen.contains g) → (∀ g ∈ L, succ g = nth tab g) → ∀ k, n ≤ k + 1 → viaS succ k todo seen = L := by
  intro n
  induction n with
  | zero => intro todo mask seen L h; cases h
  | succ n ih =>
    intro todo mask seen L h hm hs k hk
    cases todo with
    | nil =>
      cases h
      cases k <;> rfl
    | cons f todo =>
      have h0 := h
      unfold viaM at h
      cases k with
      | zero =>
        exfalso
        have : n = 0 := by omega
        subst this
        cases hb : bit mask f <;> rw [hb] at h <;> cases h
      | succ k =>
        unfold viaS
        cases hb : bit mask f with
        | true =>
          rw [hb] at h
          rw [if_pos (by rw [← hm]; exact hb)]
          exact ih _ _ _ _ h hm hs k (by omega)
        | false =>
          rw [hb] at h
          rw [if_neg (by rw [← hm, hb]; decide)]
          have hf : f ∈ L := viaM_seen tab _ _ _ _ _ h f (List.mem_cons_self ..)
          rw [hs f hf]
          refine ih _ _ _ _ h (fun g => ?_) hs k (by omega)
          rw [bit_set, hm, List.contains_cons]
          congr 1

theorem closure_of {P : Program} {f : FuncId} (tab : List (List Nat)) (n : Nat) (L : List Nat) (h : viaM tab n [f] 0 [] = some L)
    (hs : ∀ g ∈ L, (P.funcs[g]?).elim [] P.leadsTo = nth tab g) (hk : n ≤ 1 + (P.funcs.toList.map fun g => (P.leadsTo g).length + 1).sum + 1) : P.closure f = L := by
  unfold Program.closure
  rw [closureVia_eq]
  exact viaS_of tab _ n _ _ _ _ h (fun g => by rw [bit_eq]; simp) hs _ hk

def eqL : List Nat → List Nat → Bool
  | [], [] => true
  | a :: l, b :: r => Nat.beq a b && eqL l r
  | _, _ => false
theorem eqL_eq : ∀ {l r : List Nat}, eqL l r = true → l = r
  | [], [], _ => rfl
  | a :: l, b :: r, h => by
    simp only [eqL, Bool.and_eq_true] at h
    rw [Nat.eq_of_beq_eq_true h.1, eqL_eq h.2]
  | [], _ :: _, h => by cases h
  | _ :: _, [], h => by cases h

/-- The successors of the listed functions are the table's. -/
def allSucc (P : Program) (tab : List (List Nat)) (L : List Nat) : Bool := L.all fun g => eqL ((P.funcs[g]?).elim [] P.leadsTo) (nth tab g)
theorem allSucc_of {P : Program} {tab : List (List Nat)} {L : List Nat} (h : allSucc P tab L = true) : ∀ g ∈ L, (P.funcs[g]?).elim [] P.leadsTo = nth tab g :=
  fun g hg => eqL_eq (List.all_eq_true.1 h g hg)
end Go.Clo
