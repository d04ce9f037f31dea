/-
  What the evaluator tells of an operation that only computes or reads is what the machine tells.
-/
import Derived.Test.YtpinlnajhiagoaaGreatDoorEvHeap
import Derived.Laws.StructEq
import Derived.MapKept
import Derived.ChangeKeysEq
import Derived.Laws.Pointers
set_option linter.unusedVariables false
set_option linter.unusedSimpArgs false
section
namespace Go.Det
open Go

theorem dSem_run {P : Program} {α : Type} {a : α} : ∀ {m : Sem α}, dSem P m = some a → ∀ w, m.run P w = .ok a w := by
  intro m
  induction m with
  | pure b => intro h w; simp [dSem] at h; subst h; rfl
  | program k ih => intro h w; simp only [dSem] at h; simp only [Sem.run]; exact ih _ h w
  | _ => intro h w; simp [dSem] at h

section tables
variable {P : Program} {t : TypeId} (w : World)
theorem run_ty {d : TypeDesc} (h : tyOf P t = some d) : (underlying t).run P w = .ok d w := run_underlying h w
theorem run_sz {n : Nat} (h : szOf P t = some n) : (sizeOf t).run P w = .ok n w := by
  simp only [szOf, Option.map_eq_some_iff] at h
  obtain ⟨i, hi, rfl⟩ := h
  simp [sizeOf, typeInfo, hi]
theorem zr_inv {z : Value} (h : zrOf P t = some z) : (∃ i, P.info? t = some i ∧ i.zero = some z) ∧ plainConst z = true := by
  unfold zrOf at h
  split at h
  · rename_i z' hz
    cases hp : plainConst z' with
    | false => rw [hp] at h; cases h
    | true =>
      rw [hp] at h
      cases h
      simp only [Option.bind_eq_some_iff] at hz
      exact ⟨hz, hp⟩
  · cases h
theorem run_zr {z : Value} (h : zrOf P t = some z) : (zeroValue t).run P w = .ok z w := by
  obtain ⟨⟨i, hi, hz⟩, _⟩ := zr_inv h
  simp [zeroValue, typeInfo, hi, hz]
theorem run_agg {b : Bool} (h : aggOf P t = some b) : (isAgg t).run P w = .ok b w := by
  simp only [aggOf, Option.map_eq_some_iff] at h
  obtain ⟨d, hd, rfl⟩ := h
  simp only [isAgg, Sem.run_bind, run_underlying hd, Result.andThen_ok]
  cases d <;> rfl
theorem run_by {n : Nat} (h : byOf P t = some n) : ∃ i, (typeInfo t).run P w = .ok i w ∧ i.bytes = n := by
  simp only [byOf, Option.map_eq_some_iff] at h
  obtain ⟨i, hi, rfl⟩ := h
  exact ⟨i, by simp [typeInfo, hi], rfl⟩
end tables

section
variable {P : Program} {ρ : Ren} {s : St} {w : World} {ρd : Operand → Option Value} {ρr : Operand → Value}

theorem vals_sim (hρ : ∀ x v, ρd x = some v → VRel ρ v (ρr x)) : ∀ {xs : List Operand} {vs : List Value}, vals ρd xs = some vs → LRel ρ vs (xs.map ρr)
  | [], vs, h => by simp [vals] at h; subst h; exact .nil ρ
  | x :: xs, vs, h => by
    simp only [vals] at h
    split at h
    · rename_i v vs' hv hvs
      cases h
      exact .cons (hρ _ _ hv) (vals_sim hρ hvs)
    · cases h

theorem dNat_inv {v v' : Value} {n : Nat} (h : dNat v = some n) (hr : VRel ρ v v') : ∃ k, v = .int k (n : Int) ∧ v' = .int k (n : Int) := by
  cases v <;> simp [dNat] at h
  rename_i k m
  cases m <;> simp at h
  subst h
  exact ⟨k, rfl, hr.scalar rfl⟩

/-- what two plain computations tell -/
abbrev Tells (P : Program) (ρ : Ren) (w : World) (m : Sem Value) (v : Value) : Prop := ∃ v', m.run P w = .ok v' w ∧ VRel ρ v v'

theorem goInt_rel (ρ : Ren) (n : Int) : VRel ρ (goInt n) (goInt n) := .int _ n

/-! ### Equality -/
theorem veq_inv {x y : Value} {b : Bool} (h : veq x y = some b) : isScalar x = true ∧ isScalar y = true ∧ (b = true ↔ x = y) := by
  cases x <;> cases y <;> simp [veq] at h
  · subst h; simp [isScalar]
  · rename_i j a k c
    split at h
    · rename_i hj _; subst hj
      cases h
      refine ⟨rfl, rfl, ?_⟩
      split <;> simp_all
    · cases h
  · refine ⟨rfl, rfl, ?_⟩
    subst h
    split <;> simp_all

theorem veqs_inv : ∀ {xs ys : List Value} {b : Bool}, veqs xs ys = some b → xs.length = ys.length → (b = true ↔ xs = ys)
  | [], [], b, h, _ => by simp [veqs] at h; simp [h]
  | [], _ :: _, b, h, hl => by simp at hl
  | _ :: _, [], b, h, hl => by simp at hl
  | x :: xs, y :: ys, b, h, hl => by
    simp only [veqs] at h
    split at h
    · rename_i hv
      have h1 := (veq_inv hv).2.2
      have := veqs_inv h (by simpa using hl)
      simp only [List.cons.injEq, this]
      simp at h1
      simp [h1]
    · rename_i hv
      have h1 := (veq_inv hv).2.2
      cases h
      simp at h1
      simp [h1]
    · cases h


theorem isAgg_int {P : Program} {e : TypeId} {k : IntKind} (he : tyOf P e = some (.int k)) (w : World) : (isAgg e).run P w = .ok false w := by
  simp only [isAgg, Sem.run_bind, run_ty w he, Result.andThen_ok]; rfl

theorem part_int {P : Program} {e : TypeId} {k : IntKind} (he : tyOf P e = some (.int k)) (w : World) {xs : Array Value} {i : Nat} {v : Value} (hv : xs.toList[i]? = some v) : (part e xs i).run P w = .ok v w := by
  simp only [part, Sem.run_bind, isAgg_int he w, Result.andThen_ok]
  have : xs[i]? = some v := by simpa using hv
  simp [this]

theorem ieqs_rel {a b a' b' : List Value} {r : Bool} (h : ieqs a b = some r) (ha : LRel ρ a a') (hb : LRel ρ b b') : ieqs a' b' = some r := by
  induction a generalizing b a' b' with
  | nil =>
    cases b with
    | nil => rw [ha.nil_left, hb.nil_left]; exact h
    | cons y b => simp [ieqs] at h
  | cons x a ih =>
    cases b with
    | nil => cases x <;> simp [ieqs] at h
    | cons y b =>
      obtain ⟨x', a'', rfl, hx, ha'⟩ := ha.uncons
      obtain ⟨y', b'', rfl, hy, hb'⟩ := hb.uncons
      cases x <;> cases y <;> try (simp [ieqs] at h; done)
      rename_i j p j' q
      have e1 : x' = .int j p := hx.scalar rfl
      have e2 : y' = .int j' q := hy.scalar rfl
      subst e1; subst e2
      unfold ieqs at h ⊢
      cases hd : decEq j j' with
      | isFalse hj => simp only [hd] at h; cases h
      | isTrue hj =>
        simp only [hd] at h ⊢
        cases hk : decEq p q with
        | isTrue hpq => simp only [hk] at h ⊢; exact ih h ha' hb'
        | isFalse hpq => simp only [hk] at h ⊢; exact h

/-- arrays of integers held against each other -/
theorem eqItems_run {P : Program} {e : TypeId} {k : IntKind} (he : tyOf P e = some (.int k)) (hc : P.cellsOf e = 1) (d : Nat) (xs ys : Array Value) (w : World) : ∀ (m i : Nat) (r : Bool),
    xs.toList.length = i + m → ys.toList.length = i + m → ieqs (xs.toList.drop i) (ys.toList.drop i) = some r → (Op.eqItems (d + 1) e (P.cellsOf e) xs ys (List.range' i m)).run P w = .ok r w
  | 0, i, r, hx, hy, h => by
    rw [List.drop_eq_nil_of_le (by omega), List.drop_eq_nil_of_le (by omega)] at h
    simp [ieqs] at h
    subst h
    simp [Op.eqItems, List.range']
  | m + 1, i, r, hx, hy, h => by
    have h1 : i < xs.toList.length := by omega
    have h2 : i < ys.toList.length := by omega
    rw [List.drop_eq_getElem_cons h1, List.drop_eq_getElem_cons h2] at h
    have g1 := List.getElem?_eq_getElem h1
    have g2 := List.getElem?_eq_getElem h2
    generalize xs.toList[i] = x at h g1
    generalize ys.toList[i] = y at h g2
    cases x <;> cases y <;> simp [ieqs] at h
    rename_i j a j' b
    split at h
    rotate_left
    · cases h
    rename_i hj _
    subst hj
    simp only [List.range', Op.eqItems, Sem.run_bind]
    rw [hc, Nat.mul_one, part_int he w g1]
    simp only [Result.andThen_ok]
    rw [part_int he w g2]
    simp only [Result.andThen_ok]
    rw [show (Op.equalIn (d + 1) e (.int j a) (.int j b)).run P w = .ok (a == b) w from run_equalIn_int w d e j k a b he]
    simp only [Result.andThen_ok]
    split at h
    · rename_i hab _
      subst hab
      have := eqItems_run he hc d xs ys w m (i + 1) r (by omega) (by omega) h
      rw [hc] at this
      simpa using this
    · rename_i hab _
      cases h
      simp [hab]

theorem cellsOf_sz {P : Program} {t : TypeId} {n : Nat} (h : szOf P t = some n) : P.cellsOf t = n := by
  simp only [szOf] at h
  simp [Program.cellsOf, h]

theorem info_sz {P : Program} {t : TypeId} {n : Nat} (h : szOf P t = some n) : ∃ i, P.info? t = some i ∧ i.size = n := by
  simp only [szOf, Option.map_eq_some_iff] at h; exact h

theorem equalIn_ints {P : Program} {t e : TypeId} {n : Nat} {k : IntKind} (ht : tyOf P t = some (.array n e)) (he : tyOf P e = some (.int k)) (hs : szOf P e = some 1) (d : Nat) (xs ys : Array Value) (w : World) {r : Bool}
    (hx : xs.toList.length = n) (hy : ys.toList.length = n) (h : ieqs xs.toList ys.toList = some r) : (Op.equalIn (d + 2) t (.agg xs) (.agg ys)).run P w = .ok r w := by
  obtain ⟨i, hi, _⟩ := info_sz hs
  rw [show d + 2 = (d + 1) + 1 from rfl, run_equalIn_array w (d + 1) xs ys ht hi, List.range_eq_range']
  exact eqItems_run he (cellsOf_sz hs) d xs ys w n 0 r (by omega) (by omega) (by simpa using h)

theorem equal_ints {P : Program} {t e : TypeId} {n : Nat} {k : IntKind} (ht : tyOf P t = some (.array n e)) (he : tyOf P e = some (.int k)) (hs : szOf P e = some 1) (xs ys : Array Value) (w : World) {r : Bool}
    (hx : xs.toList.length = n) (hy : ys.toList.length = n) (h : ieqs xs.toList ys.toList = some r) : (Op.equal t (.agg xs) (.agg ys)).run P w = .ok r w :=
  equalIn_ints ht he hs 9998 xs ys w hx hy h

/-! ### x == y -/
section
variable {P : Program} {t : TypeId} (w : World) (d : Nat)
theorem eqIn_ptr_l {e : TypeId} (ht : tyOf P t = some (.pointer e)) (b : Option Addr) : (Op.equalIn (d + 1) t (.pointer none) (.pointer b)).run P w = .ok b.isNone w := by
  simp [Op.equalIn, run_ty w ht]
theorem eqIn_ptr_r {e : TypeId} (ht : tyOf P t = some (.pointer e)) (b : Option Addr) : (Op.equalIn (d + 1) t (.pointer b) (.pointer none)).run P w = .ok b.isNone w := by
  cases b <;> simp [Op.equalIn, run_ty w ht]
theorem eqIn_slice_l {e : TypeId} (ht : tyOf P t = some (.slice e)) (b : Option Addr) (n c n' c' : Nat) : (Op.equalIn (d + 1) t (.slice none n c) (.slice b n' c')).run P w = .ok b.isNone w := by
  simp [Op.equalIn, run_ty w ht]
theorem eqIn_slice_r {e : TypeId} (ht : tyOf P t = some (.slice e)) (b : Option Addr) (n c n' c' : Nat) : (Op.equalIn (d + 1) t (.slice b n c) (.slice none n' c')).run P w = .ok b.isNone w := by
  cases b <;> simp [Op.equalIn, run_ty w ht]
theorem eqIn_map_l {k e : TypeId} (ht : tyOf P t = some (.map k e)) (b : Option Nat) : (Op.equalIn (d + 1) t (.map none) (.map b)).run P w = .ok b.isNone w := by
  simp [Op.equalIn, run_ty w ht]
theorem eqIn_map_r {k e : TypeId} (ht : tyOf P t = some (.map k e)) (b : Option Nat) : (Op.equalIn (d + 1) t (.map b) (.map none)).run P w = .ok b.isNone w := by
  cases b <;> simp [Op.equalIn, run_ty w ht]
theorem eqIn_func_nn {p r : Array TypeId} {v : Bool} (ht : tyOf P t = some (.func p r v)) : (Op.equalIn (d + 1) t .nilFunc .nilFunc).run P w = .ok true w := by
  simp [Op.equalIn, run_ty w ht]
theorem eqIn_func_l {p r : Array TypeId} {v : Bool} (ht : tyOf P t = some (.func p r v)) (f : Fn) (a c : Array Value) : (Op.equalIn (d + 1) t .nilFunc (.func f a c)).run P w = .ok false w := by
  simp [Op.equalIn, run_ty w ht]
theorem eqIn_func_r {p r : Array TypeId} {v : Bool} (ht : tyOf P t = some (.func p r v)) (f : Fn) (a c : Array Value) : (Op.equalIn (d + 1) t (.func f a c) .nilFunc).run P w = .ok false w := by
  simp [Op.equalIn, run_ty w ht]
theorem eqIn_bool (ht : tyOf P t = some .bool) (a b : Bool) : (Op.equalIn (d + 1) t (.bool a) (.bool b)).run P w = .ok (a == b) w := by
  simp [Op.equalIn, run_ty w ht]
end

/-- what 'x == y' is, at two values that are no numbers, no strings -/
def eqForm (P : Program) (t : TypeId) (x' y' : Value) (b : Bool) : Prop :=
  ∀ w, (Op.equal t x' y').run P w = .ok b w ∧ (∀ op px py, (eqGuard op t px py x' y').run P w = .ok () w) ∧
    (binOp .eql t x' y').run P w = .ok (.bool b) w ∧ (binOp .neq t x' y').run P w = .ok (.bool !b) w

theorem eqForm.mk {P : Program} {t : TypeId} {x' y' : Value} {b : Bool} (h : ∀ w, (Op.equal t x' y').run P w = .ok b w)
    (hg : ∀ w op px py, (eqGuard op t px py x' y').run P w = .ok () w)
    (h1 : binOp .eql t x' y' = (do pure (.bool (← Op.equal t x' y')))) (h2 : binOp .neq t x' y' = (do pure (.bool (!(← Op.equal t x' y'))))) : eqForm P t x' y' b := by
  intro w
  refine ⟨h w, fun op px py => hg w op px py, ?_, ?_⟩
  · rw [h1]; simp [h w]
  · rw [h2]; simp [h w]

theorem noGuard {P : Program} {t e : TypeId} {n : Nat} {k : IntKind} (ht : tyOf P t = some (.array n e)) (he : tyOf P e = some (.int k)) : P.eqGuardType P.depth t = false := by
  simp only [tyOf] at ht he
  simp [Program.depth, Program.eqGuardType, ht, he]

theorem dEq_sim {t : TypeId} {x y x' y' : Value} {b : Bool} (h : dEq P t x y = some b) (hx : VRel ρ x x') (hy : VRel ρ y y') : eqForm P t x' y' b := by
  unfold dEq at h
  split at h
  · -- pointers, nil on the left
    rename_i e c ht
    cases h
    have := hx.plain rfl; subst this
    cases hy <;> exact .mk (fun w => eqIn_ptr_l w 9999 ht _) (fun w op px py => by cases op <;> rfl) rfl rfl
  · rename_i e c ht
    cases h
    have := hy.plain rfl; subst this
    cases hx <;> exact .mk (fun w => eqIn_ptr_r w 9999 ht _) (fun w op px py => by cases op <;> rfl) rfl rfl
  · rename_i e n c a n' c' ht
    cases h
    cases hx
    cases hy <;> exact .mk (fun w => eqIn_slice_l w 9999 ht _ _ _ _ _) (fun w op px py => by cases op <;> rfl) rfl rfl
  · rename_i e n c a n' c' ht
    cases h
    cases hy
    cases hx <;> exact .mk (fun w => eqIn_slice_r w 9999 ht _ _ _ _ _) (fun w op px py => by cases op <;> rfl) rfl rfl
  · rename_i k e c ht
    cases h
    have := hx.plain rfl; subst this
    cases hy <;> exact .mk (fun w => eqIn_map_l w 9999 ht _) (fun w op px py => by cases op <;> rfl) rfl rfl
  · rename_i k e c ht
    cases h
    have := hy.plain rfl; subst this
    cases hx <;> exact .mk (fun w => eqIn_map_r w 9999 ht _) (fun w op px py => by cases op <;> rfl) rfl rfl
  · rename_i p r v ht
    cases h
    cases hx; cases hy
    exact .mk (fun w => eqIn_func_nn w 9999 ht) (fun w op px py => by cases op <;> rfl) rfl rfl
  · rename_i p r v f a c ht
    cases h
    cases hx
    cases hy <;> exact .mk (fun w => eqIn_func_l w 9999 ht _ _ _) (fun w op px py => by cases op <;> rfl) rfl rfl
  · rename_i p r v f a c ht
    cases h
    cases hy
    cases hx <;> exact .mk (fun w => eqIn_func_r w 9999 ht _ _ _) (fun w op px py => by cases op <;> rfl) rfl rfl
  · rename_i p q ht
    cases h
    have h1 := hx.scalar rfl; have h2 := hy.scalar rfl; subst h1; subst h2
    exact .mk (fun w => eqIn_bool w 9999 ht _ _) (fun w op px py => by cases op <;> rfl) rfl rfl
  · rename_i n e xs ys ht
    split at h
    · rename_i k he hs
      cases hl : (Nat.beq xs.toList.length n && Nat.beq ys.toList.length n) with
      | false => rw [hl] at h; cases h
      | true =>
        rw [hl] at h
        simp only [cond_true] at h
        simp only [Bool.and_eq_true] at hl
        replace hl := And.intro (Nat.eq_of_beq_eq_true hl.1) (Nat.eq_of_beq_eq_true hl.2)
        obtain ⟨xs', rfl, hxs⟩ := hx.agg_inv
        obtain ⟨ys', rfl, hys⟩ := hy.agg_inv
        exact .mk (fun w => equal_ints ht he hs xs' ys' w (by rw [← hxs.1]; exact hl.1) (by rw [← hys.1]; exact hl.2) (ieqs_rel h hxs hys))
          (fun w op px py => run_eqGuard_agg w op t px py xs' ys' (noGuard ht he)) rfl rfl
    · cases h
  · cases h

/-- the run of an operation that tells a value -/
theorem exec_value {P : Program} {m : Sem Value} {w : World} {v : Value} (h : m.run P w = .ok v w) : (do pure (Next.value (← m)) : Sem Next).run P w = .ok (.value v) w := by
  simp [h]

theorem dBin_sim {op : BinOp} {t : TypeId} {px py : Operand} {x y x' y' v : Value} (h : dBin P op t x y = some v) (hx : VRel ρ x x') (hy : VRel ρ y y') (w : World) :
    (do eqGuard op t px py x' y'; binOp op t x' y' : Sem Value).run P w = .ok v w ∧ isScalar v = true := by
  have key : ∀ (x y : Value), (dSem P (binOp op t x y)).isSome → (match dSem P (binOp op t x y) with | some v => cond (isScalar v) (some v) none | none => none) = some v → (∀ w, (eqGuard op t px py x y).run P w = .ok () w) →
      (do eqGuard op t px py x y; binOp op t x y : Sem Value).run P w = .ok v w ∧ isScalar v = true := by
    intro x y _ h hg
    cases hd : dSem P (binOp op t x y) with
    | none => rw [hd] at h; cases h
    | some u =>
      rw [hd] at h
      simp only at h
      cases hs : isScalar u with
      | false => rw [hs] at h; cases h
      | true =>
        rw [hs] at h
        simp only [cond_true, Option.some.injEq] at h
        subst h
        refine ⟨?_, hs⟩
        rw [Sem.run_bind, hg w]
        exact dSem_run hd w
  unfold dBin at h
  split at h
  · have h1 := hx.scalar rfl; have h2 := hy.scalar rfl; subst h1; subst h2
    refine key _ _ ?_ h (fun w => by rw [eqGuard_at_int]; rfl)
    cases hd : dSem P (binOp op t _ _) with
    | none => rw [hd] at h; cases h
    | some u => rfl
  · have h1 := hx.scalar rfl; have h2 := hy.scalar rfl; subst h1; subst h2
    refine key _ _ ?_ h (fun w => by rw [eqGuard_at_string]; rfl)
    cases hd : dSem P (binOp op t _ _) with
    | none => rw [hd] at h; cases h
    | some u => rfl
  · split at h
    · simp only [Option.map_eq_some_iff] at h
      obtain ⟨b, hb, rfl⟩ := h
      obtain ⟨_, h2, h3, _⟩ := dEq_sim hb hx hy w
      refine ⟨?_, rfl⟩
      rw [Sem.run_bind, h2]; exact h3
    · simp only [Option.map_eq_some_iff] at h
      obtain ⟨b, hb, rfl⟩ := h
      obtain ⟨_, h2, _, h4⟩ := dEq_sim hb hx hy w
      refine ⟨?_, rfl⟩
      rw [Sem.run_bind, h2]; exact h4
    · cases h

/-! ### Parts of aggregates -/
theorem LRel.of_take {a r : List Value} {n off : Nat} (ht : ltake n (ldrop off a) = some r) : off + n ≤ a.length ∨ n = 0 ∧ r = [] := by
  obtain ⟨h1, h2⟩ := ltake_some ht
  rw [ldrop_eq] at h1 h2
  simp at h1
  by_cases hn : n = 0
  · right; subst hn; simpa using h2
  · left; omega

theorem dPart_sim {t : TypeId} {off : Nat} {cs : List Value} {cs' : Array Value} {v : Value} (h : dPart P t cs off = some v) (hc : LRel ρ cs cs'.toList) (w : World) :
    ∃ v', (part t cs' off).run P w = .ok v' w ∧ VRel ρ v v' := by
  unfold dPart at h
  split at h
  · rename_i n ha hs
    simp only [Option.map_eq_some_iff] at h
    obtain ⟨l, hl, rfl⟩ := h
    obtain ⟨h1, h2⟩ := ltake_some hl
    rw [ldrop_eq] at h1 h2
    refine ⟨.agg (cs'.extract off (off + n)), ?_, ?_⟩
    · simp [part, run_agg w ha, run_sz w hs]
    · have : (cs'.extract off (off + n)) = (((cs'.toList.drop off).take n).toArray) := by
        apply Array.ext'
        simp [List.extract]
      rw [this, h2]
      exact .mkAgg ((hc.drop off).take n)
  · rename_i ha
    rw [lget_eq] at h
    obtain ⟨v', h1, h2⟩ := hc.get h
    refine ⟨v', ?_, h2⟩
    have : cs'[off]? = some v' := by simpa using h1
    simp [part, run_agg w ha, this]
  · cases h

/-! ### Addresses -/
theorem ptr_add {a : Addr} {l : Loc} (hs : a.spot = none) (hl : ρ a.block = some l) (n : Nat) : VRel ρ (.pointer (some (a.add n))) (.pointer (some ((⟨l.blk, l.sh + a.off, none⟩ : Addr).add n))) := by
  rw [addr_add _ _ hs, addr_add _ _ rfl]
  have := VRel.ptr (ρ := ρ) (b := a.block) (o := a.off + n) hl
  simpa [Nat.add_assoc] using this

theorem dIndexAddr_sim {t : TypeId} {x i x' i' v : Value} (h : dIndexAddr P t x i = some v) (hx : VRel ρ x x') (hi : VRel ρ i i') (w : World) :
    ∃ v', (Instr.indexAt t x' i').run P w = .ok v' w ∧ VRel ρ v v' := by
  unfold dIndexAddr at h
  split at h
  · rename_i n e a j ht hj
    obtain ⟨k, _, rfl⟩ := dNat_inv hj hi
    obtain ⟨l, hl, hsp, rfl⟩ := hx.ptr_inv
    split at h
    · rename_i sz hs
      cases hb : Nat.blt j n with
      | false => rw [hb] at h; cases h
      | true =>
        rw [hb] at h
        simp only [cond_true, Option.some.injEq] at h
        subst h
        have hlt : j < n := by simpa using hb
        refine ⟨_, ?_, ptr_add hsp hl _⟩
        simp [Instr.indexAt, run_ty w ht, asIntOf, Instr.sureAddr, hlt, run_sz w hs]
    · cases h
  · rename_i e a n c j ht hj
    obtain ⟨k, _, rfl⟩ := dNat_inv hj hi
    split at h
    · rename_i sz hs
      cases hb : Nat.blt j n with
      | false => rw [hb] at h; cases h
      | true =>
        rw [hb] at h
        simp only [cond_true, Option.some.injEq] at h
        subst h
        have hlt : j < n := by simpa using hb
        cases hx with
        | slice hl hc =>
          refine ⟨_, ?_, ptr_add rfl hl _⟩
          simp [Instr.indexAt, run_ty w ht, asIntOf, hlt, run_sz w hs]
        | sliceOpen hl hn ho =>
          obtain ho | ho := ho
          · subst ho
            refine ⟨_, ?_, ptr_add rfl hl _⟩
            simp [Instr.indexAt, run_ty w ht, asIntOf, hlt, run_sz w hs]
          · omega
    · cases h
  · cases h

/-! ### Slicing -/
theorem dOptNat_sim (hρ : ∀ x v, ρd x = some v → VRel ρ v (ρr x)) {d n : Nat} {x : Option Operand} (h : dOptNat ρd d x = some n) :
    (x = none ∧ n = d) ∨ ∃ y k, x = some y ∧ ρr y = .int k (n : Int) := by
  cases x with
  | none => simp [dOptNat] at h; exact .inl ⟨rfl, h.symm⟩
  | some y =>
    simp only [dOptNat, Option.bind_eq_some_iff] at h
    obtain ⟨v, hv, hn⟩ := h
    obtain ⟨k, _, h2⟩ := dNat_inv hn (hρ _ _ hv)
    exact .inr ⟨y, k, rfl, h2⟩

theorem bound_run {P : Program} {k : IntKind} {n y : Nat} {c : BoundsCode} (h : n ≤ y) (w : World) : (Instr.sliceBound (.int k (n : Int)) y c).run P w = .ok n w := by
  simp [Instr.sliceBound, asIntOf, h]

/-- x[lo:hi]: the machine's bounds -/
theorem bounds_run {P : Program} (hρ : ∀ x v, ρd x = some v → VRel ρ v (ρr x)) {b : Bool} {len cap l u : Nat} {lo hi : Option Operand} (hl : dOptNat ρd 0 lo = some l) (hu : dOptNat ρd len hi = some u) (h1 : l ≤ u) (h2 : u ≤ cap) (w : World) :
    (Instr.sliceBounds b len cap (lo.map ρr) (hi.map ρr) none).run P w = .ok (l, u, cap) w := by
  rcases dOptNat_sim hρ hl with ⟨rfl, rfl⟩ | ⟨y, k, rfl, hy⟩ <;> rcases dOptNat_sim hρ hu with ⟨rfl, rfl⟩ | ⟨z, k', rfl, hz⟩
  · simp [Instr.sliceBounds]
  · simp [Instr.sliceBounds, hz, bound_run h2]
  · simp [Instr.sliceBounds, hy, bound_run h1]
  · simp [Instr.sliceBounds, hy, hz, bound_run h2, bound_run h1]

theorem bounds3_run {P : Program} (hρ : ∀ x v, ρd x = some v → VRel ρ v (ρr x)) {b : Bool} {len cap l u m : Nat} {lo hi : Option Operand} {mx : Operand} {k : IntKind} (hl : dOptNat ρd 0 lo = some l) (hu : dOptNat ρd len hi = some u)
    (hm : ρr mx = .int k (m : Int)) (h1 : l ≤ u) (h2 : u ≤ m) (h3 : m ≤ cap) (hi' : hi.isSome = true) (w : World) :
    (Instr.sliceBounds b len cap (lo.map ρr) (hi.map ρr) (some (ρr mx))).run P w = .ok (l, u, m) w := by
  rcases dOptNat_sim hρ hl with ⟨rfl, rfl⟩ | ⟨y, k', rfl, hy⟩ <;> rcases dOptNat_sim hρ hu with ⟨rfl, rfl⟩ | ⟨z, k'', rfl, hz⟩
  · simp at hi'
  · simp [Instr.sliceBounds, hm, hz, bound_run h2, bound_run h3]
  · simp at hi'
  · simp [Instr.sliceBounds, hm, hy, hz, bound_run h2, bound_run h1, bound_run h3]

theorem isOpen_iff (c : Nat) : isOpen c = true ↔ OPEN ≤ c := by simp [isOpen]
theorem isOpen_open (c : Nat) : isOpen (OPEN + c) = true := by simp [isOpen]
theorem known_open (c : Nat) : known (OPEN + c) = c := by rw [known, isOpen_open]; simp
theorem known_closed {c : Nat} (h : c < OPEN) : known c = c := by
  have : isOpen c = false := by
    cases hb : isOpen c with
    | false => rfl
    | true => have := (isOpen_iff c).1 hb; omega
  simp [known, this]
theorem isOpen_closed {c : Nat} (h : c < OPEN) : isOpen c = false := by
  cases hb : isOpen c with
  | false => rfl
  | true => have := (isOpen_iff c).1 hb; omega


/-- two bases -/
def BRel (ρ : Ren) (a a' : Option Addr) : Prop := (a = none ∧ a' = none) ∨ ∃ b o l, a = some ⟨b, o, none⟩ ∧ a' = some ⟨l.blk, l.sh + o, none⟩ ∧ ρ b = some l

theorem BRel.slice {ρ : Ren} {a a' : Option Addr} (h : BRel ρ a a') (n : Nat) {c : Nat} (hc : c < OPEN) : VRel ρ (.slice a n c) (.slice a' n c) := by
  rcases h with ⟨rfl, rfl⟩ | ⟨b, o, l, rfl, rfl, hl⟩
  · exact .sliceNil n c hc
  · exact .slice hl hc

/-- the base of a slice behind a cut, where the end is known exactly -/
theorem cut_rel {a a' : Option Addr} (hx : BRel ρ a a') (l u m s : Nat) (hm : m < OPEN) :
    VRel ρ (.slice (cond (Nat.beq m l) a (a.map (·.add (l * s)))) (u - l) (m - l)) (.slice (if m = l then a' else a'.map (·.add (l * s))) (u - l) (m - l)) := by
  have hml : m - l < OPEN := by omega
  by_cases h : m = l
  · have hb : Nat.beq m l = true := by simp [h]
    rw [hb, if_pos h, cond_true]
    exact hx.slice _ hml
  · have hb : Nat.beq m l = false := by
      cases hb : Nat.beq m l with
      | false => rfl
      | true => exact absurd (Nat.eq_of_beq_eq_true hb) h
    rw [hb, if_neg h, cond_false]
    rcases hx with ⟨rfl, rfl⟩ | ⟨b, o, L, rfl, rfl, hl⟩
    · exact .sliceNil _ _ hml
    · simp only [Option.map_some, addr_add _ _ (rfl : (Addr.mk _ _ none).spot = none)]
      rw [Nat.add_assoc]
      exact .slice hl hml

theorem dSlice_sim {P : Program} (hρ : ∀ x v, ρd x = some v → VRel ρ v (ρr x)) {size len cap : Nat} {a : Option Addr} {lo hi mx : Option Operand} {v x' : Value} (h : dSlice ρd size a len cap lo hi mx = some v)
    (hx : VRel ρ (.slice a len cap) x') : ∃ a' cap', x' = .slice a' len cap' ∧ ∃ l u m, (∀ b w, (Instr.sliceBounds b len cap' (lo.map ρr) (hi.map ρr) (mx.map ρr)).run P w = .ok (l, u, m) w) ∧
      VRel ρ v (.slice (if m = l then a' else a'.map (·.add (l * size))) (u - l) (m - l)) := by
  unfold dSlice at h
  split at h
  rotate_left
  · cases h
  rename_i l u hl hu
  split at h
  · -- x[lo:hi]
    cases hb : (Nat.ble l u && Nat.ble u (known cap)) with
    | false => rw [hb] at h; cases h
    | true =>
      rw [hb] at h
      simp only [Bool.and_eq_true, Nat.ble_eq] at hb
      simp only [cond_true] at h
      cases hx with
      | sliceNil _ _ hc =>
        rw [isOpen_closed hc, known_closed hc] at *
        simp only [cond_false, Option.some.injEq] at h
        subst h
        exact ⟨none, cap, rfl, l, u, cap, fun b w => bounds_run hρ hl hu hb.1 hb.2 w, cut_rel (.inl ⟨rfl, rfl⟩) l u cap size hc⟩
      | slice hb' hc =>
        rw [isOpen_closed hc, known_closed hc] at *
        simp only [cond_false, Option.some.injEq] at h
        subst h
        exact ⟨_, cap, rfl, l, u, cap, fun b w => bounds_run hρ hl hu hb.1 hb.2 w, cut_rel (.inr ⟨_, _, _, rfl, rfl, hb'⟩) l u cap size hc⟩
      | sliceOpen hb' hn ho =>
        rename_i b o o' c L
        rw [isOpen_open, known_open] at *
        simp only [cond_true, Option.some.injEq, Option.map_some] at h
        subst h
        refine ⟨_, _, rfl, l, u, c + L.ex, fun b w => bounds_run hρ hl hu hb.1 (by omega) w, ?_⟩
        rw [addr_add _ _ rfl]
        by_cases hm : c + L.ex = l
        · rw [if_pos hm]
          have e1 : c - l = 0 := by omega
          have e2 : c + L.ex - l = (c - l) + L.ex := by omega
          rw [e2]
          exact .sliceOpen hb' (by omega) (.inr (by omega))
        · rw [if_neg hm]
          have e2 : c + L.ex - l = (c - l) + L.ex := by omega
          simp only [Option.map_some]
          rw [addr_add _ _ rfl, e2]
          refine .sliceOpen hb' (by omega) ?_
          rcases ho with ho | ho
          · left; subst ho; exact Nat.add_assoc _ _ _
          · omega
  · -- x[lo:hi:mx]
    rename_i mx
    split at h
    rotate_left
    · cases h
    rename_i m hm
    simp only [Option.bind_eq_some_iff] at hm
    obtain ⟨y, hy, hm⟩ := hm
    obtain ⟨k, _, hmx⟩ := dNat_inv hm (hρ _ _ hy)
    cases hb : (Nat.ble l u && Nat.ble u m && Nat.ble m (known cap) && Nat.blt m OPEN && (!(isOpen cap) || Nat.blt 0 (known cap)) && hi.isSome) with
    | false => rw [hb] at h; cases h
    | true =>
      rw [hb] at h
      simp only [Bool.and_eq_true, Nat.ble_eq, Nat.blt_eq, Bool.or_eq_true, Bool.not_eq_true'] at hb
      simp only [cond_true, Option.some.injEq] at h
      obtain ⟨⟨⟨⟨⟨h1, h2⟩, h3⟩, h4⟩, h5⟩, h6⟩ := hb
      subst h
      cases hx with
      | sliceNil _ _ hc =>
        rw [known_closed hc] at h3
        exact ⟨none, cap, rfl, l, u, m, fun b w => bounds3_run hρ hl hu hmx h1 h2 h3 h6 w, cut_rel (.inl ⟨rfl, rfl⟩) l u m size h4⟩
      | slice hb' hc =>
        rw [known_closed hc] at h3
        exact ⟨_, cap, rfl, l, u, m, fun b w => bounds3_run hρ hl hu hmx h1 h2 h3 h6 w, cut_rel (.inr ⟨_, _, _, rfl, rfl, hb'⟩) l u m size h4⟩
      | sliceOpen hb' hn ho =>
        rename_i b o o' c L
        rw [isOpen_open, known_open] at *
        simp at h5
        have ho : o' = L.sh + o := by
          rcases ho with ho | ho
          · exact ho
          · omega
        subst ho
        exact ⟨_, _, rfl, l, u, m, fun b w => bounds3_run hρ hl hu hmx h1 h2 (by omega) h6 w, cut_rel (.inr ⟨_, _, _, rfl, rfl, hb'⟩) l u m size h4⟩


/-! ### Maps -/
theorem veq_rel {x y x' y' : Value} {b : Bool} (h : veq x y = some b) (hx : VRel ρ x x') (hy : VRel ρ y y') : x' = x ∧ y' = y :=
  ⟨hx.scalar (veq_inv h).1, hy.scalar (veq_inv h).2.1⟩

theorem ba_beq (a c : ByteArray) : (a == c) = decide (a = c) := by
  cases a with | mk a => cases c with | mk c =>
  show (a == c) = _
  by_cases h : a = c
  · subst h; simp
  · have : ¬ (ByteArray.mk a = ByteArray.mk c) := fun e => h (by injection e)
    simp [h, this]

/-- two keys, as the machine holds them against each other -/
theorem dKeyEq_sim {P : Program} {kt : TypeId} {x y x' y' : Value} {b : Bool} (h : dKeyEq P kt x y = some b) (hx : VRel ρ x x') (hy : VRel ρ y y') (w : World) :
    (Op.equal kt x' y').run P w = .ok b w ∧ ∃ d, tyOf P kt = some d ∧ ((Instr.sameNow d x' y' = some b) ∨ ((∃ n e, d = .array n e) ∧ Instr.sameNow d x' y' = none)) := by
  unfold dKeyEq at h
  split at h
  · rename_i k j a j' c ht
    obtain ⟨e1, e2⟩ := veq_rel h hx hy; subst e1; subst e2
    simp only [veq] at h
    split at h
    · rename_i hj _
      subst hj
      simp only [Option.some.injEq] at h
      have hb : b = (a == c) := by rw [← h]; split <;> simp_all
      subst hb
      exact ⟨run_equalIn_int w 9999 kt j k a c ht, _, ht, .inl (by simp [Instr.sameNow])⟩
    · cases h
  · rename_i a c ht
    obtain ⟨e1, e2⟩ := veq_rel h hx hy; subst e1; subst e2
    simp only [veq, Option.some.injEq] at h
    have hb : b = (a == c) := by rw [ba_beq, ← h]; split <;> simp_all
    subst hb
    refine ⟨?_, _, ht, .inl (by simp [Instr.sameNow])⟩
    rw [beq_toListBytes]
    exact run_equalIn_string w 9999 kt a c ht
  · rename_i n e xs ys ht
    split at h
    · rename_i k he hs
      cases hl : (Nat.beq xs.toList.length n && Nat.beq ys.toList.length n) with
      | false => rw [hl] at h; cases h
      | true =>
        rw [hl] at h
        simp only [cond_true] at h
        simp only [Bool.and_eq_true] at hl
        obtain ⟨xs', rfl, hxs⟩ := hx.agg_inv
        obtain ⟨ys', rfl, hys⟩ := hy.agg_inv
        exact ⟨equal_ints ht he hs xs' ys' w (by rw [← hxs.1]; exact Nat.eq_of_beq_eq_true hl.1) (by rw [← hys.1]; exact Nat.eq_of_beq_eq_true hl.2) (ieqs_rel h hxs hys),
          _, ht, .inr ⟨⟨n, e, rfl⟩, rfl⟩⟩
    · cases h
  · cases h

theorem checkKey_items {P : Program} {e : TypeId} {k : IntKind} (he : tyOf P e = some (.int k)) (hs : szOf P e = some 1) (em : Bool) (d : Nat) (xs : Array Value) (w : World) : ∀ (m i : Nat), xs.toList.length = i + m →
    (forIn (List.range' i m) PUnit.unit fun i _ => do Instr.checkKey em (d + 1) e (← part e xs (i * (← sizeOf e))); pure PUnit.unit; pure (ForInStep.yield PUnit.unit) : Sem PUnit).run P w = .ok PUnit.unit w
  | 0, i, h => by simp [List.range']
  | m + 1, i, h => by
    have h1 : i < xs.toList.length := by omega
    have g1 := List.getElem?_eq_getElem h1
    simp only [List.range', List.forIn_cons, Sem.run_bind, run_sz w hs, Result.andThen_ok, Nat.mul_one, part_int he w g1]
    have : (Instr.checkKey em (d + 1) e xs.toList[i]).run P w = .ok () w := by
      simp only [Instr.checkKey, Sem.run_bind, run_ty w he, Result.andThen_ok]
      cases xs.toList[i] <;> rfl
    simp only [this, Result.andThen_ok, Sem.run_pure]
    exact checkKey_items he hs em d xs w m (i + 1) (by omega)

theorem dKeyOk_sim {P : Program} {kt : TypeId} {x x' : Value} (h : dKeyOk P kt x = true) (hx : VRel ρ x x') (em : Bool) (w : World) : (Instr.checkKey em 10000 kt x').run P w = .ok () w := by
  unfold dKeyOk at h
  rw [show (10000 : Nat) = 9999 + 1 from rfl, Instr.checkKey]
  split at h
  · rename_i ht
    have e1 := hx.scalar rfl; subst e1
    simp only [Sem.run_bind, run_ty w ht, Result.andThen_ok]; rfl
  · rename_i ht
    have e1 := hx.scalar rfl; subst e1
    simp only [Sem.run_bind, run_ty w ht, Result.andThen_ok]; rfl
  · rename_i n e xs ht
    split at h
    · rename_i k he hs
      obtain ⟨xs', rfl, hxs⟩ := hx.agg_inv
      have hlen : xs'.toList.length = n := by rw [← hxs.1]; exact Nat.eq_of_beq_eq_true h
      simp only [Sem.run_bind, run_ty w ht, Result.andThen_ok]
      simp only [Std.Legacy.Range.forIn_eq_forIn_range', Std.Legacy.Range.size, Nat.sub_zero, Nat.add_one_sub_one, Nat.div_one]
      have := checkKey_items he hs em 9998 xs' w n 0 (by omega)
      simp at this ⊢
      rw [this]; rfl
    · cases h
  · cases h

/-- looking for a key -/
theorem findNow_sim {P : Program} {kt : TypeId} {k k' : Value} (hk : VRel ρ k k') {d : TypeDesc} (hd : tyOf P kt = some d) (hn : ¬ ∃ n e, d = .array n e) (w : World) : ∀ {es : List Ent} {es' : List MapEntry} {i : Nat} {r : Option (Nat × Ent)},
    dFindK P kt k es i = some r → EntsRel ρ es es' →
    (r = none ∧ Instr.findNow d k' es' i = some none) ∨ ∃ j e e', r = some (j, e) ∧ Instr.findNow d k' es' i = some (some (j, e'.val)) ∧ i ≤ j ∧ es[j - i]? = some e ∧ es'[j - i]? = some e' ∧ dKeyEq P kt k e.key = some true
  | [], es', i, r, h, he => by
    have : es' = [] := List.eq_nil_of_length_eq_zero he.1.symm
    subst this
    simp [dFindK] at h
    exact .inl ⟨h.symm, rfl⟩
  | e :: es, [], i, r, h, he => by simp [EntsRel] at he
  | e :: es, e' :: es', i, r, h, he => by
    have h0 := he.2 0 e e' rfl rfl
    have htl : EntsRel ρ es es' := ⟨by simpa using he.1, fun j x x' a b => he.2 (j + 1) x x' (by simpa using a) (by simpa using b)⟩
    simp only [dFindK] at h
    split at h
    · rename_i hq
      cases h
      obtain ⟨_, d', hd', hs⟩ := dKeyEq_sim hq hk h0.1 w
      rw [hd] at hd'; cases hd'
      rcases hs with hs | ⟨ha, _⟩
      · exact .inr ⟨i, e, e', rfl, by simp [Instr.findNow, hs], Nat.le_refl _, by simp, by simp, hq⟩
      · exact absurd ha hn
    · rename_i hq
      obtain ⟨_, d', hd', hs⟩ := dKeyEq_sim hq hk h0.1 w
      rw [hd] at hd'; cases hd'
      rcases hs with hs | ⟨ha, _⟩
      · rcases findNow_sim hk hd hn w h htl with ⟨h1, h2⟩ | ⟨j, x, x', h1, h2, h3, h4, h5, h6⟩
        · exact .inl ⟨h1, by simp [Instr.findNow, hs, h2]⟩
        · exact .inr ⟨j, x, x', h1, by simp [Instr.findNow, hs, h2], by omega, by rw [show j - i = (j - (i + 1)) + 1 from by omega]; simpa using h4, by rw [show j - i = (j - (i + 1)) + 1 from by omega]; simpa using h5, h6⟩
      · exact absurd ha hn
    · cases h

theorem findAsking_sim {P : Program} {kt : TypeId} {k k' : Value} (hk : VRel ρ k k') (w : World) : ∀ {es : List Ent} {es' : List MapEntry} {i : Nat} {r : Option (Nat × Ent)},
    dFindK P kt k es i = some r → EntsRel ρ es es' →
    (r = none ∧ (Instr.findAsking kt k' es' i).run P w = .ok none w) ∨ ∃ j e e', r = some (j, e) ∧ (Instr.findAsking kt k' es' i).run P w = .ok (some (j, e'.val)) w ∧ i ≤ j ∧ es[j - i]? = some e ∧ es'[j - i]? = some e' ∧ dKeyEq P kt k e.key = some true
  | [], es', i, r, h, he => by
    have : es' = [] := List.eq_nil_of_length_eq_zero he.1.symm
    subst this
    simp [dFindK] at h
    exact .inl ⟨h.symm, rfl⟩
  | e :: es, [], i, r, h, he => by simp [EntsRel] at he
  | e :: es, e' :: es', i, r, h, he => by
    have h0 := he.2 0 e e' rfl rfl
    have htl : EntsRel ρ es es' := ⟨by simpa using he.1, fun j x x' a b => he.2 (j + 1) x x' (by simpa using a) (by simpa using b)⟩
    simp only [dFindK] at h
    split at h
    · rename_i hq
      cases h
      obtain ⟨heq, _⟩ := dKeyEq_sim hq hk h0.1 w
      exact .inr ⟨i, e, e', rfl, by simp [Instr.findAsking, heq], Nat.le_refl _, by simp, by simp, hq⟩
    · rename_i hq
      obtain ⟨heq, _⟩ := dKeyEq_sim hq hk h0.1 w
      rcases findAsking_sim hk w h htl with ⟨h1, h2⟩ | ⟨j, x, x', h1, h2, h3, h4, h5, h6⟩
      · exact .inl ⟨h1, by simp [Instr.findAsking, heq, h2]⟩
      · exact .inr ⟨j, x, x', h1, by simp [Instr.findAsking, heq, h2], by omega, by rw [show j - i = (j - (i + 1)) + 1 from by omega]; simpa using h4, by rw [show j - i = (j - (i + 1)) + 1 from by omega]; simpa using h5, h6⟩
    · cases h

theorem findNow_array {n : Nat} {e : TypeId} {k' : Value} {es' : List MapEntry} {i : Nat} (hk : ∃ a, k' = .agg a) : es' = [] ∨ Instr.findNow (.array n e) k' es' i = none := by
  obtain ⟨a, rfl⟩ := hk
  cases es' with
  | nil => exact .inl rfl
  | cons x xs => exact .inr rfl

/-- looking for a key, as a lookup and a store do it -/
theorem dLook_sim {P : Program} {kt : TypeId} {k k' : Value} {es : List Ent} {es' : List MapEntry} {r : Option (Nat × Ent)} (h : dLook P kt k es = some r) (hk : VRel ρ k k') (he : EntsRel ρ es es') (em : Bool) (w : World) :
    (Instr.checkKey em 10000 kt k').run P w = .ok () w ∧
    ((r = none ∧ (Instr.findKey kt k' es').run P w = .ok none w) ∨ ∃ j e e', r = some (j, e) ∧ (Instr.findKey kt k' es').run P w = .ok (some (j, e'.val)) w ∧ es[j]? = some e ∧ es'[j]? = some e' ∧ EntRel ρ e e' ∧ dKeyEq P kt k e.key = some true) := by
  unfold dLook at h
  cases hok : dKeyOk P kt k with
  | false => rw [hok] at h; cases h
  | true =>
    rw [hok] at h
    simp only [cond_true] at h
    refine ⟨dKeyOk_sim hok hk em w, ?_⟩
    have hex : ∃ d, tyOf P kt = some d := by
      unfold dKeyOk at hok
      cases hd : tyOf P kt with
      | none => rw [hd] at hok; cases hok
      | some d => exact ⟨d, rfl⟩
    obtain ⟨d, hd⟩ := hex
    by_cases ha : ∃ n e, d = .array n e
    · obtain ⟨n, e, rfl⟩ := ha
      have hagg : ∃ a, k' = .agg a := by
        unfold dKeyOk at hok
        rw [hd] at hok
        cases k <;> simp at hok
        obtain ⟨a, e1, _⟩ := hk.agg_inv
        exact ⟨a, e1⟩
      have hrun : (Instr.findKey kt k' es').run P w = (Instr.findAsking kt k' es' 0).run P w := by
        simp only [Instr.findKey, Sem.run_bind, run_ty w hd, Result.andThen_ok]
        rcases findNow_array (n := n) (e := e) (i := 0) (es' := es') hagg with h0 | h0
        · subst h0; rfl
        · rw [h0]
      rw [hrun]
      rcases findAsking_sim hk w h he with ⟨h1, h2⟩ | ⟨j, x, x', h1, h2, h3, h4, h5, h6⟩
      · exact .inl ⟨h1, h2⟩
      · exact .inr ⟨j, x, x', h1, h2, by simpa using h4, by simpa using h5, he.2 j x x' (by simpa using h4) (by simpa using h5), h6⟩
    · have hrun : ∀ a, Instr.findNow d k' es' 0 = some a → (Instr.findKey kt k' es').run P w = .ok a w := by
        intro a hf
        simp only [Instr.findKey, Sem.run_bind, run_ty w hd, Result.andThen_ok, hf]; rfl
      rcases findNow_sim hk hd ha w h he with ⟨h1, h2⟩ | ⟨j, x, x', h1, h2, h3, h4, h5, h6⟩
      · exact .inl ⟨h1, hrun _ h2⟩
      · exact .inr ⟨j, x, x', h1, hrun _ h2, by simpa using h4, by simpa using h5, he.2 j x x' (by simpa using h4) (by simpa using h5), h6⟩
end
end Go.Det
end
section
namespace Go.Det
open Go

section
variable {P : Program} {ρ : Ren} {s : St} {w : World} {ρd : Operand → Option Value} {ρr : Operand → Value}

/-- loading -/
theorem dLoad_sim (hr : HRel P ρ s w) {t : TypeId} {a a' v : Value} (h : dLoad P s.hp t a = some v) (ha : VRel ρ a a') :
    ∃ v', (Instr.loadAt t a').run P w = .ok v' w ∧ VRel ρ v v' ∧ ∃ b, a' = .pointer (some b) ∧ (loadVar t b).run P w = .ok v' w := by
  unfold dLoad at h
  split at h
  rotate_left
  · cases h
  rename_i a
  obtain ⟨l, hl, hsp, rfl⟩ := ha.ptr_inv
  split at h
  · rename_i n hg hs
    simp only [Option.map_eq_some_iff] at h
    obtain ⟨vs, hvs, rfl⟩ := h
    obtain ⟨_, _, vs', h1, _, h3⟩ := cellsAt_sim hr hvs hl
    have : (loadVar t ⟨l.blk, l.sh + a.off, none⟩).run P w = .ok (.agg vs'.toArray) w := by
      simp [loadVar, run_agg w hg, run_sz w hs, h3 w rfl]
    exact ⟨_, by simp [Instr.loadAt, Instr.sureAddr, this], .mkAgg h1, _, rfl, this⟩
  · rename_i _ hg _
    split at h
    · rename_i u hu
      cases h
      obtain ⟨_, _, vs', h1, h2, _⟩ := cellsAt_sim hr hu hl
      obtain ⟨u', t', rfl, hv, ht⟩ := h1.uncons
      have hc := h2 0 u' rfl
      rw [Addr.add_zero'] at hc
      have : (loadVar t ⟨l.blk, l.sh + a.off, none⟩).run P w = .ok u' w := by
        simp [loadVar, run_agg w hg, hc]
      exact ⟨u', by simp [Instr.loadAt, Instr.sureAddr, this], hv, _, rfl, this⟩
    · cases h
  · cases h

theorem bytesOf_sim (P : Program) : ∀ {cs cs' : List Value} {l : List UInt8}, bytesOf cs = some l → LRel ρ cs cs' → cs' = cs ∧ ∀ (acc : ByteArray) (w : World),
    (forIn cs acc fun c s => (match c with | .int .u8 n => pure (ForInStep.yield (s.push (UInt8.ofNat n.toNat))) | _ => do stuck "bytesToString: byte expected"; pure (ForInStep.yield s) : Sem (ForInStep ByteArray))).run P w = .ok ⟨acc.data ++ l.toArray⟩ w
  | [], cs', l, h, hr => by
    simp [bytesOf] at h; subst h
    rw [hr.nil_left]
    exact ⟨rfl, fun acc w => by simp⟩
  | c :: cs, cs', l, h, hr => by
    obtain ⟨c', t', rfl, hv, ht⟩ := hr.uncons
    unfold bytesOf at h
    split at h
    · rename_i heq; cases heq
    · rename_i n rest heq
      cases heq
      split at h
      · rename_i r hr'
        cases h
        obtain ⟨h1, h2⟩ := bytesOf_sim P hr' ht
        have := hv.scalar rfl
        subst this; subst h1
        refine ⟨rfl, fun acc w => ?_⟩
        simp only [List.forIn_cons, Sem.run_bind, Sem.run_pure, Result.andThen_ok]
        rw [h2]
        congr 1
        cases acc
        simp [ByteArray.push]
      · cases h
    · cases h

theorem dConvert_sim (hr : HRel P ρ s w) {src dst : TypeId} {x x' v : Value} (h : dConvert P s.hp src dst x = some v) (hx : VRel ρ x x') :
    ∃ v', (convert src dst x').run P w = .ok v' w ∧ VRel ρ v v' := by
  unfold dConvert at h
  split at h
  · rename_i d k j n hs hd
    cases h
    have := hx.scalar rfl; subst this
    refine ⟨_, ?_, .int _ _⟩
    simp only [convert, Sem.run_bind, run_ty w hs, run_ty w hd, Result.andThen_ok]
    cases d <;> rfl
  · rename_i d b hs hd
    cases h
    have := hx.scalar rfl; subst this
    refine ⟨_, ?_, .string _⟩
    simp only [convert, Sem.run_bind, run_ty w hs, run_ty w hd, Result.andThen_ok]
    cases d <;> rfl
  · rename_i e n c hs hd
    split at h
    · rename_i he
      cases h
      cases hx
      refine ⟨_, ?_, .string _⟩
      simp only [convert, Sem.run_bind, run_ty w hs, run_ty w hd, Result.andThen_ok, run_ty w he]
      rfl
    · cases h
  · rename_i e a n c hs hd
    split at h
    · rename_i cs he hcs
      simp only [Option.map_eq_some_iff] at h
      obtain ⟨l, hl, rfl⟩ := h
      have key : ∀ (b : Addr) (c' : Nat) (vs' : List Value), LRel ρ cs vs' → (loadCells b n).run P w = .ok vs'.toArray w → (convert src dst (.slice (some b) n c')).run P w = .ok (.string ⟨l.toArray⟩) w := by
        intro b c' vs' h1 h3
        obtain ⟨h4, h5⟩ := bytesOf_sim P hl h1
        simp only [convert, Sem.run_bind, run_ty w hs, run_ty w hd, Result.andThen_ok, run_ty w he]
        subst h4
        have h6 := h5 ByteArray.empty w
        simp only [Conv.bytesToString, Sem.run_bind, h3, Result.andThen_ok, List.forIn_toArray]
        erw [h6]
        simp
      cases hx with
      | slice hb hc =>
        obtain ⟨_, _, vs', h1, _, h3⟩ := cellsAt_sim hr hcs hb
        exact ⟨_, key _ _ vs' h1 (h3 w rfl), .string _⟩
      | sliceOpen hb hn ho =>
        obtain ⟨_, hlen, vs', h1, _, h3⟩ := cellsAt_sim hr hcs hb
        rcases ho with ho | ho
        · subst ho; exact ⟨_, key _ _ vs' h1 (h3 w rfl), .string _⟩
        · have h0 : n = 0 := by omega
          subst h0
          have h7 : vs' = [] := List.eq_nil_of_length_eq_zero (by rw [← h1.1]; exact hlen)
          subst h7
          exact ⟨_, key _ _ [] h1 rfl, .string _⟩
    · cases h
  · cases h

theorem mm_sim {f : Int → Int → Int} {g : Value → Value → Sem Value} (hg : ∀ k x j y, g (.int k x) (.int j y) = pure (.int k (f x y))) : ∀ {l : List Value} {x v : Value}, mm f x l = some v → isScalar v = true ∧ ∀ (P : Program) (w : World), (l.foldlM g x).run P w = .ok v w
  | [], x, v, h => by
    cases x <;> simp [mm] at h
    subst h
    exact ⟨rfl, fun P w => by simp⟩
  | y :: l, x, v, h => by
    cases x <;> cases y <;> simp [mm] at h
    obtain ⟨h1, h2⟩ := mm_sim hg h
    exact ⟨h1, fun P w => by simp only [List.foldlM_cons, hg, Sem.run_bind, Sem.run_pure, Result.andThen_ok, h2]⟩

theorem mm_rel {f : Int → Int → Int} : ∀ {l l' : List Value} {x x' v : Value}, mm f x l = some v → VRel ρ x x' → LRel ρ l l' → x' = x ∧ l' = l
  | [], l', x, x', v, h, hx, hl => by
    cases x <;> simp [mm] at h
    exact ⟨hx.scalar rfl, hl.nil_left⟩
  | y :: l, l', x, x', v, h, hx, hl => by
    obtain ⟨y', t', rfl, hy, ht⟩ := hl.uncons
    cases x <;> cases y <;> simp [mm] at h
    obtain ⟨_, h2⟩ := mm_rel h (.int _ _) ht
    exact ⟨hx.scalar rfl, by rw [h2, hy.scalar rfl]⟩

theorem dMap_sim (hr : HRel P ρ s w) {m m' : Value} {es : List Ent} {c : Nat} (h : dMap s.hp m = some (es, c)) (hm : VRel ρ m m') :
    (m' = .map none ∧ es = []) ∨ ∃ r es', m' = .map (some r) ∧ w.heap[r]? = some (.map es' c) ∧ EntsRel ρ es es'.toList := by
  unfold dMap at h
  split at h
  · cases h
    have := hm.plain rfl; subst this
    exact .inl ⟨rfl, rfl⟩
  · rename_i b
    split at h
    · rename_i es' c' ho
      cases h
      obtain ⟨l, hl, rfl⟩ := hm.map_inv
      obtain ⟨o', hw, es'', rfl, he⟩ := hr.obj _ _ _ ho hl
      exact .inr ⟨_, es'', rfl, hw, he⟩
    · cases h
  · cases h

/-- builtins that only compute or read -/
theorem dBuiltin_sim (hr : HRel P ρ s w) {b : Builtin} {ts : Array TypeId} {vs vs' : List Value} {v : Value} {ty : TypeId} {cs : Array Bool} (h : dBuiltin P s.hp b ts vs = some v) (hv : LRel ρ vs vs') :
    ∃ v', (builtin b ts ty cs vs'.toArray).run P w = .ok (.value v') w ∧ VRel ρ v v' := by
  have fin : ∀ {m : Sem Value} {v' : Value}, m.run P w = .ok v' w → (do pure (Next.value (← m)) : Sem Next).run P w = .ok (.value v') w := fun h => by simp [h]
  unfold dBuiltin at h
  split at h
  · rename_i x
    obtain ⟨x', t', rfl, hx, ht⟩ := hv.uncons
    have := ht.nil_left; subst this
    cases ht0 : ts[0]? with
    | none => simp [ht0] at h
    | some t =>
      simp only [ht0, Option.bind_some] at h
      have len : ∀ v', (do match ← underlying t, x' with
          | .string, .string s => pure (goInt s.size)
          | .array n _, _ => pure (goInt n)
          | .pointer arr, _ =>
            let .array n _ ← underlying arr | stuck "len: pointer to array expected"
            pure (goInt n)
          | .slice _, .slice _ n _ => pure (goInt n)
          | .map _ _, .map none | .chan _ _, .chan none => pure (goInt 0)
          | .map _ _, .map (some r) =>
            let .map entries _ ← getObj r | stuck "len: map expected"
            pure (goInt entries.size)
          | .chan _ _, .chan (some r) =>
            let .chan _ buf _ _ _ timer ← getObj r | stuck "len: channel expected"
            pure (goInt (if timer then 0 else buf.size))
          | _, _ => stuck "len: string, array, pointer to array, slice, map or channel expected" : Sem Value).run P w = .ok v' w → (builtin .len ts ty cs #[x']).run P w = .ok (.value v') w := by
        intro v' hl
        refine fin (m := Builtin.len_ ts ty #[x']) ?_
        simp only [Builtin.len_, ht0]
        exact hl
      split at h
      · rename_i b hd
        cases h
        have := hx.scalar rfl; subst this
        exact ⟨_, len _ (by simp [run_ty w hd]), goInt_rel _ _⟩
      · rename_i e a n c hd
        cases h
        cases hx <;> exact ⟨_, len _ (by simp [run_ty w hd]), goInt_rel _ _⟩
      · rename_i n e x hd
        cases h
        exact ⟨_, len _ (by simp [run_ty w hd]), goInt_rel _ _⟩
      · rename_i e x hd
        split at h
        · rename_i n e' hd'
          cases h
          exact ⟨_, len _ (by simp [run_ty w hd, run_ty w hd']), goInt_rel _ _⟩
        · cases h
      · rename_i k e m hd
        simp only [Option.map_eq_some_iff] at h
        obtain ⟨⟨es, c⟩, hm, rfl⟩ := h
        rcases dMap_sim hr hm hx with ⟨rfl, rfl⟩ | ⟨r, es', rfl, hw, he⟩
        · exact ⟨_, len _ (by simp [run_ty w hd]), goInt_rel _ _⟩
        · refine ⟨goInt es'.size, len _ ?_, ?_⟩
          · simp [run_ty w hd, getObj, Sem.run, hw]
          · have : es.length = es'.size := by rw [he.1]; simp
            rw [this]; exact goInt_rel _ _
      · cases h
  · rename_i x
    obtain ⟨x', t', rfl, hx, ht⟩ := hv.uncons
    have := ht.nil_left; subst this
    cases ht0 : ts[0]? with
    | none => simp [ht0] at h
    | some t =>
      simp only [ht0, Option.bind_some] at h
      split at h
      · rename_i e a n c hd
        cases ho : isOpen c with
        | true => rw [ho] at h; cases h
        | false =>
          rw [ho] at h
          cases h
          have hc : c < OPEN := by
            rcases Nat.lt_or_ge c OPEN with h' | h'
            · exact h'
            · rw [(isOpen_iff c).2 h'] at ho; cases ho
          have hcap : (Builtin.cap_ ts ty #[x']).run P w = .ok (goInt c) w := by
            cases hx with
            | sliceOpen hb hn ho => omega
            | _ => simp [Builtin.cap_, ht0, run_ty w hd]
          exact ⟨_, fin hcap, goInt_rel _ _⟩
      · cases h
  · rename_i x l
    obtain ⟨x', t', rfl, hx, ht⟩ := hv.uncons
    obtain ⟨rfl, rfl⟩ := mm_rel h hx ht
    obtain ⟨h1, h2⟩ := mm_sim (g := Builtin.min2) (fun k x j y => by simp only [Builtin.min2]; by_cases hc : y < x <;> simp [hc]) h
    exact ⟨v, fin (m := Builtin.min_ ts ty _) (by simp only [Builtin.min_]; exact h2 P w), .of_scalar h1⟩
  · rename_i x l
    obtain ⟨x', t', rfl, hx, ht⟩ := hv.uncons
    obtain ⟨rfl, rfl⟩ := mm_rel h hx ht
    obtain ⟨h1, h2⟩ := mm_sim (g := Builtin.max2) (fun k x j y => by simp only [Builtin.max2]; by_cases hc : y > x <;> simp [hc]) h
    exact ⟨v, fin (m := Builtin.max_ ts ty _) (by simp only [Builtin.max_]; exact h2 P w), .of_scalar h1⟩
  · cases h
end
end Go.Det
end
section
namespace Go.Det
open Go

section
variable {P : Program} {ρ : Ren} {s : St} {w : World} {ρd : Operand → Option Value} {ρr : Operand → Value}

theorem LRel.put {n : Nat} {new new' old old' r r' : List Value} (h : lput n new old = some r) (hn : LRel ρ new new') (ho : LRel ρ old old') (hl : r'.length = old'.length)
    (h1 : ∀ i, i < new'.length → r'[n + i]? = new'[i]?) (h2 : ∀ i, i < n ∨ n + new'.length ≤ i → r'[i]? = old'[i]?) : LRel ρ r r' := by
  obtain ⟨a1, a2, a3, a4⟩ := lput_some h
  refine ⟨by rw [a2, hl, ho.1], fun i v v' hv hv' => ?_⟩
  by_cases hi : n ≤ i ∧ i < n + new.length
  · have e : i = n + (i - n) := by omega
    rw [e] at hv hv'
    rw [a3 _ (by omega)] at hv
    rw [h1 _ (by rw [← hn.1]; omega)] at hv'
    exact hn.2 _ _ _ hv hv'
  · rw [a4 i (by omega)] at hv
    rw [h2 i (by rw [← hn.1]; omega)] at hv'
    exact ho.2 _ _ _ hv hv'

/-- cells laid one by one -/
theorem foldSet (off : Nat) : ∀ (l : List Value) (k : Nat) (cs : Array Value), off + k + l.length ≤ cs.size →
    ∃ r : Array Value, (l.zipIdx k).foldl (fun cs (p : Value × Nat) => cs.setIfInBounds (off + p.2) p.1) cs = r ∧ r.size = cs.size ∧
      (∀ i, i < l.length → r[off + k + i]? = l[i]?) ∧ (∀ i, i < off + k ∨ off + k + l.length ≤ i → r[i]? = cs[i]?)
  | [], k, cs, h => ⟨cs, rfl, rfl, fun i hi => by simp at hi, fun _ _ => rfl⟩
  | v :: l, k, cs, h => by
    simp only [List.length_cons] at h
    obtain ⟨r, h1, h2, h3, h4⟩ := foldSet off l (k + 1) (cs.setIfInBounds (off + k) v) (by simp; omega)
    refine ⟨r, by simpa using h1, by simpa using h2, ?_, ?_⟩
    · intro i hi
      cases i with
      | zero =>
        rw [show off + k + 0 = off + k from rfl, h4 (off + k) (.inl (by omega))]
        simp [show off + k < cs.size from by omega]
      | succ i =>
        rw [show off + k + (i + 1) = off + (k + 1) + i from by omega, h3 i (by simp at hi; omega)]; simp
    · intro i hi
      simp only [List.length_cons] at hi
      rw [h4 i (by omega), Array.getElem?_setIfInBounds_ne (by omega)]

theorem fill_sim {place place' : Nat → Option (Nat × Nat)} (hp : place = place') : ∀ {parts parts' : List (Nat × Value)} {cells out : List Value} {cells' : Array Value}, dFill place cells parts = some out →
    LRel ρ cells cells'.toList → parts.length = parts'.length → (∀ (i : Nat) p p', parts[i]? = some p → parts'[i]? = some p' → p.1 = p'.1 ∧ VRel ρ p.2 p'.2) →
    ∃ out', Instr.fill place' cells' parts' = some out' ∧ LRel ρ out out'.toList
  | [], parts', cells, out, cells', h, hc, hl, _ => by
    simp [dFill] at h; subst h
    have : parts' = [] := List.eq_nil_of_length_eq_zero hl.symm
    subst this
    exact ⟨cells', rfl, hc⟩
  | (i, v) :: parts, [], cells, out, cells', h, hc, hl, _ => by simp at hl
  | (i, v) :: parts, (i', v') :: parts', cells, out, cells', h, hc, hl, hq => by
    obtain ⟨e, hv⟩ := hq 0 (i, v) (i', v') rfl rfl
    simp at e; subst e
    replace hv : VRel ρ v v' := hv
    subst hp
    simp only [dFill] at h
    split at h
    rotate_left
    · cases h
    rename_i off size hpl
    cases hb : Nat.beq (cellList v).length size with
    | false => rw [hb] at h; cases h
    | true =>
      rw [hb] at h
      simp only [cond_true] at h
      split at h
      rotate_left
      · cases h
      rename_i r hr
      have hcv := hv.cells
      have hsz : (cellList v').length = size := by rw [← hcv.1]; exact Nat.eq_of_beq_eq_true hb
      obtain ⟨a1, a2, a3, a4⟩ := lput_some hr
      have hlen : off + (cellList v').length ≤ cells'.size := by
        have := hc.1
        rw [← hcv.1]
        simp at this
        omega
      obtain ⟨r', b1, b2, b3, b4⟩ := foldSet off (cellList v') 0 cells' (by omega)
      have hrel : LRel ρ r r'.toList := by
        refine LRel.put hr hcv hc (by simp [b2]) (fun i hi => ?_) (fun i hi => ?_)
        · have := b3 i hi; simpa using this
        · have := b4 i (by omega); simpa using this
      obtain ⟨out', c1, c2⟩ := fill_sim (place := place) rfl h hrel (parts' := parts') (by simpa using hl) (fun j p p' x y => hq (j + 1) p p' (by simpa using x) (by simpa using y))
      refine ⟨out', ?_, c2⟩
      simp only [Instr.fill, hpl]
      have hcs : v'.cells.size = size := by rw [← hsz, cellList_eq]; simp
      have hfold : (v'.cells.zipIdx.foldl (fun cs (p : Value × Nat) => cs.setIfInBounds (off + p.2) p.1) cells') = r' := by
        rw [← b1, cellList_eq, ← Array.foldl_toList]
        simp
      rw [if_neg (by simp [hcs]; rw [← hsz]; exact hlen)]
      have : (v'.cells.zipIdx.foldl (fun cs x => match x with | (c, j) => cs.setIfInBounds (off + j) c) cells') = r' := hfold
      rw [this]
      exact c1

theorem dParts_sim (hρ : ∀ x v, ρd x = some v → VRel ρ v (ρr x)) : ∀ {ps : List (Nat × Operand)} {r : List (Nat × Value)}, dParts ρd ps = some r →
    r.length = (ps.map fun (i, x) => (i, ρr x)).length ∧ ∀ (i : Nat) p p', r[i]? = some p → (ps.map fun (i, x) => (i, ρr x))[i]? = some p' → p.1 = p'.1 ∧ VRel ρ p.2 p'.2
  | [], r, h => by simp [dParts] at h; subst h; simp
  | (j, x) :: ps, r, h => by
    simp only [dParts] at h
    split at h
    · rename_i v r' hv hr
      cases h
      obtain ⟨h1, h2⟩ := dParts_sim hρ hr
      refine ⟨by simpa using h1, fun i p p' a b => ?_⟩
      cases i with
      | zero => simp at a b; subst a; subst b; exact ⟨rfl, hρ _ _ hv⟩
      | succ i => exact h2 i p p' (by simpa using a) (by simpa using b)
    · cases h

theorem dPlaces_sim {fs : List Field} {pl : List (Nat × Nat)} (h : dPlaces P fs = some pl) (w : World) : (fs.mapM fun f => do pure (f.offset, ← sizeOf f.type) : Sem (List (Nat × Nat))).run P w = .ok pl w := by
  induction fs generalizing pl with
  | nil => simp [dPlaces] at h; subst h; simp
  | cons f fs ih =>
    simp only [dPlaces] at h
    split at h
    · rename_i n r hn hr
      cases h
      have := ih hr
      rw [List.mapM_cons]
      simp only [Sem.run_bind, run_sz w hn, Result.andThen_ok, Sem.run_pure, this]
    · cases h

theorem dBuild_sim {t : TypeId} {parts : List (Nat × Value)} {parts' : Array (Nat × Value)} {v : Value} (h : dBuild P t parts = some v)
    (hl : parts.length = parts'.toList.length) (hq : ∀ (i : Nat) p p', parts[i]? = some p → parts'.toList[i]? = some p' → p.1 = p'.1 ∧ VRel ρ p.2 p'.2) (w : World) :
    ∃ v', (Instr.build t parts').run P w = .ok v' w ∧ VRel ρ v v' := by
  unfold dBuild at h
  split at h
  · rename_i z fields hz' ht
    split at h
    · rename_i pl hpl
      simp only [Option.map_eq_some_iff] at h
      obtain ⟨l, hl', rfl⟩ := h
      have hzr : LRel ρ (cellList z) z.cells.toList := by rw [← cellList_eq]; exact (VRel.of_const (zr_inv hz').2).cells
      obtain ⟨out', h1, h2⟩ := fill_sim (ρ := ρ) (place' := fun i => pl.toArray[i]?) (by funext i; rw [lget_eq]; simp) hl' hzr hl hq
      refine ⟨.agg out', ?_, ?_⟩
      · have hm : (fields.mapM fun f => do pure (f.offset, ← sizeOf f.type) : Sem (Array (Nat × Nat))).run P w = .ok pl.toArray w := by
          rw [Array.mapM_eq_mapM_toList]
          have := dPlaces_sim hpl w
          simp only [Sem.run_map, this, Result.andThen_ok]
        simp only [Instr.build, Sem.run_bind, run_zr w hz', run_ty w ht, Result.andThen_ok]
        erw [hm]
        simp only [Result.andThen_ok]
        rw [h1]; rfl
      · have := VRel.mkAgg h2; simpa using this
    · cases h
  · rename_i z n e hz' ht
    split at h
    · rename_i sz hs
      simp only [Option.map_eq_some_iff] at h
      obtain ⟨l, hl', rfl⟩ := h
      have hzr : LRel ρ (cellList z) z.cells.toList := by rw [← cellList_eq]; exact (VRel.of_const (zr_inv hz').2).cells
      obtain ⟨out', h1, h2⟩ := fill_sim (ρ := ρ) rfl hl' hzr hl hq
      refine ⟨.agg out', ?_, ?_⟩
      · simp only [Instr.build, Sem.run_bind, run_zr w hz', run_ty w ht, Result.andThen_ok, run_sz w hs]
        rw [h1]; rfl
      · have := VRel.mkAgg h2; simpa using this
    · cases h
  · cases h

theorem vals_arr (hρ : ∀ x v, ρd x = some v → VRel ρ v (ρr x)) {xs : Array Operand} {vs : List Value} (h : vals ρd xs.toList = some vs) : LRel ρ vs (xs.map ρr).toList := by
  have := vals_sim hρ h
  simpa using this

theorem lookup_form {t kt e : TypeId} {m' k' : Value} {ok : Bool} {es' : Array MapEntry} (ht : tyOf P t = some (.map kt e)) (hm : (m' = .map none ∧ es' = #[]) ∨ ∃ r c, m' = .map (some r) ∧ w.heap[r]? = some (.map es' c)) :
    (Instr.lookup t m' k' ok).run P w = ((Instr.checkKey es'.isEmpty 10000 kt k').run P w).andThen fun _ w => ((Instr.findKey kt k' es'.toList).run P w).andThen fun r w =>
      match r with
      | some (_, v) => .ok (if ok then .tuple #[v, .bool true] else v) w
      | none => ((zeroValue e).run P w).andThen fun z w => .ok (if ok then .tuple #[z, .bool false] else z) w := by
  rcases hm with ⟨rfl, rfl⟩ | ⟨r, c, rfl, hw⟩
  · simp only [Instr.lookup, Sem.run_bind, run_ty w ht, Result.andThen_ok, Sem.run_pure]
    congr 1; funext _ w1; congr 1; funext r w2
    cases r with
    | none => simp
    | some x => cases x; simp
  · simp only [Instr.lookup, Sem.run_bind, run_ty w ht, Result.andThen_ok]
    have : (getObj r).run P w = .ok (.map es' c) w := by simp [getObj, Sem.run, hw]
    simp only [this, Result.andThen_ok, Sem.run_bind, Sem.run_pure]
    congr 1; funext _ w1; congr 1; funext r w2
    cases r with
    | none => simp
    | some x => cases x; simp

/-- **what only computes or reads** -/
theorem evVal_sim (hr : HRel P ρ s w) (hρ : ∀ x v, ρd x = some v → VRel ρ v (ρr x)) {o : Oper} {v : Value} (h : evVal P ρd s.hp o.op = some v) :
    ∃ v', (execOp ρr o).run P w = .ok (.value v') w ∧ VRel ρ v v' := by
  have fin : ∀ {m : Sem Value} {v' : Value}, m.run P w = .ok v' w → (do pure (Next.value (← m)) : Sem Next).run P w = .ok (.value v') w := fun h => by simp [h]
  obtain ⟨dst, op, ty, pos, after, guard⟩ := o
  simp only at h
  unfold evVal at h
  split at h
  · exact ⟨_, rfl, hρ _ _ h⟩
  · exact ⟨_, rfl, hρ _ _ h⟩
  · -- pick
    rename_i c a b
    split at h
    · rename_i hc
      have := (hρ _ _ hc).scalar rfl
      exact ⟨ρr a, by simp [execOp, this, asBool], hρ _ _ h⟩
    · rename_i hc
      have := (hρ _ _ hc).scalar rfl
      exact ⟨ρr b, by simp [execOp, this, asBool], hρ _ _ h⟩
    · cases h
  · -- nilCheck
    rename_i x
    split at h
    · rename_i a ha
      cases h
      have hv := hρ _ _ ha
      obtain ⟨l, hl, hs, e⟩ := hv.ptr_inv
      refine ⟨ρr x, ?_, hv⟩
      simp only [execOp, e]; rfl
    · rename_i f a b ha
      cases h
      have hv := hρ _ _ ha
      obtain ⟨a', c', e, _⟩ := hv.func_inv
      refine ⟨ρr x, ?_, hv⟩
      simp only [execOp, e]; rfl
    · cases h
  · -- binOp
    rename_i bop t x y yt
    split at h
    · rename_i a b ha hb
      obtain ⟨h1, h2⟩ := dBin_sim (px := x) (py := y) h (hρ _ _ ha) (hρ _ _ hb) w
      exact ⟨v, fin h1, .of_scalar h2⟩
    · cases h
  · -- unOp
    rename_i uop t x
    split at h
    · rename_i u hu
      cases hs : isScalar u with
      | false => rw [hs] at h; cases h
      | true =>
        rw [hs] at h
        simp only [cond_true] at h
        split at h
        · rename_i r hd
          cases hs2 : isScalar r with
          | false => rw [hs2] at h; cases h
          | true =>
            rw [hs2] at h
            cases h
            have e := (hρ _ _ hu).scalar hs
            refine ⟨_, fin (m := Op.unary uop (ρr x)) ?_, .of_scalar hs2⟩
            rw [e]; exact dSem_run hd w
        · cases h
    · cases h
  · -- convert
    rename_i src d x
    split at h
    · rename_i u hu
      obtain ⟨v', h1, h2⟩ := dConvert_sim hr h (hρ _ _ hu)
      exact ⟨v', fin h1, h2⟩
    · cases h
  · -- a slice as an array's address
    rename_i arr x
    split at h
    · rename_i n e a len c ht hx
      cases hb : (Nat.ble n len && Nat.blt 0 n) with
      | false => rw [hb] at h; cases h
      | true =>
        rw [hb] at h
        simp only [cond_true] at h
        cases h
        have hv := hρ _ _ hx
        simp only [Bool.and_eq_true, Nat.ble_eq, Nat.blt_eq] at hb
        have hnl : ¬ len < n := by omega
        generalize he : ρr x = x' at hv
        cases hv with
        | slice hl hc =>
          refine ⟨_, fin (m := Instr.arrayAt arr (ρr x)) ?_, .ptr hl⟩
          simp [Instr.arrayAt, run_ty w ht, he, hnl]
        | sliceOpen hl hn ho =>
          have ho := ho.resolve_right (by omega)
          subst ho
          refine ⟨_, fin (m := Instr.arrayAt arr (ρr x)) ?_, .ptr hl⟩
          simp [Instr.arrayAt, run_ty w ht, he, hnl]
    · cases h
  · -- a function value
    rename_i fn first cap
    split at h
    · rename_i f a b ha hb
      cases h
      refine ⟨_, rfl, ?_⟩
      have h1 := vals_arr hρ ha
      have h2 := vals_arr hρ hb
      have := VRel.mkFunc f h1 h2
      simpa only [Array.toArray_toList] using this
    · cases h
  · -- slicing
    rename_i t x lo hi mx
    split at h
    · rename_i b ht hx
      split at h
      · rename_i l u hl hu
        cases hb : (Nat.ble l u && Nat.ble u b.size) with
        | false => rw [hb] at h; cases h
        | true =>
          rw [hb] at h
          simp only [Bool.and_eq_true, Nat.ble_eq] at hb
          cases h
          have e := (hρ _ _ hx).scalar rfl
          refine ⟨_, fin (m := Instr.sliceAt t (ρr x) (lo.map ρr) (hi.map ρr) _) ?_, .string _⟩
          simp [Instr.sliceAt, Instr.slice, run_ty w ht, e, bounds_run hρ hl hu hb.1 hb.2]
      · cases h
    · rename_i e a n c ht hx
      split at h
      · rename_i sz hs
        obtain ⟨a', cap', e', l, u, m, hb, hv⟩ := dSlice_sim (P := P) hρ h (hρ _ _ hx)
        refine ⟨_, fin (m := Instr.sliceAt t (ρr x) (lo.map ρr) (hi.map ρr) (mx.map ρr)) ?_, hv⟩
        simp [Instr.sliceAt, Instr.slice, run_ty w ht, e', hb, run_sz w hs]
      · cases h
    · rename_i n e a ht hx
      split at h
      · rename_i sz hs
        cases hlt : Nat.blt n OPEN with
        | false => rw [hlt] at h; cases h
        | true =>
          rw [hlt] at h
          simp only [cond_true] at h
          have hn : n < OPEN := by simpa using hlt
          obtain ⟨L, hL, hsp, e'⟩ := (hρ _ _ hx).ptr_inv
          have hb0 : VRel ρ (.slice (some a) n n) (.slice (some ⟨L.blk, L.sh + a.off, none⟩) n n) := by
            have := VRel.slice (ρ := ρ) (b := a.block) (o := a.off) (n := n) hL hn
            have ea : (⟨a.block, a.off, none⟩ : Addr) = a := by cases a; simp_all
            rwa [ea] at this
          obtain ⟨a', cap', e2, l, u, m, hb, hv⟩ := dSlice_sim (P := P) hρ h hb0
          cases e2
          refine ⟨_, fin (m := Instr.sliceAt t (ρr x) (lo.map ρr) (hi.map ρr) (mx.map ρr)) ?_, hv⟩
          simp only [Instr.sliceAt, Sem.run_bind, run_ty w ht, Result.andThen_ok, e', Instr.sureAddr, Sem.run_pure, hb, run_sz w hs]
          simp
          split <;> rfl
      · cases h
    · cases h
  · -- a field's address
    rename_i t x f
    split at h
    · rename_i fs a ht hx
      split at h
      · rename_i fd hf
        split at h
        · rename_i k hsz
          cases h
          obtain ⟨L, hL, hs, e⟩ := (hρ _ _ hx).ptr_inv
          refine ⟨_, fin (m := Instr.fieldAt t (ρr x) f) ?_, ptr_add hs hL _⟩
          simp [Instr.fieldAt, run_ty w ht, hf, e, Instr.sureAddr, fieldPlace, run_sz w hsz]
        · cases h
      · cases h
    · cases h
  · -- a field
    rename_i t x f
    split at h
    · rename_i fs cs ht hx
      split at h
      · rename_i fd hf
        obtain ⟨cs', e, hc⟩ := (hρ _ _ hx).agg_inv
        obtain ⟨v', h1, h2⟩ := dPart_sim h hc w
        refine ⟨v', fin (m := Instr.field t (ρr x) f) ?_, h2⟩
        simp [Instr.field, run_ty w ht, hf, e, asAgg, h1]
      · cases h
    · cases h
  · -- an element's address
    rename_i t x i
    split at h
    · rename_i a b ha hb
      obtain ⟨v', h1, h2⟩ := dIndexAddr_sim h (hρ _ _ ha) (hρ _ _ hb) w
      exact ⟨v', fin h1, h2⟩
    · cases h
  · -- an element
    rename_i t x i
    split at h
    · rename_i n e cs j ht hx hi
      simp only [Option.bind_eq_some_iff] at hi
      obtain ⟨iv, hiv, hj⟩ := hi
      obtain ⟨k, _, ei⟩ := dNat_inv hj (hρ _ _ hiv)
      split at h
      · rename_i sz hs
        cases hb : Nat.blt j n with
        | false => rw [hb] at h; cases h
        | true =>
          rw [hb] at h
          simp only [cond_true] at h
          have hlt : j < n := by simpa using hb
          obtain ⟨cs', e', hc⟩ := (hρ _ _ hx).agg_inv
          obtain ⟨v', h1, h2⟩ := dPart_sim h hc w
          refine ⟨v', fin (m := Instr.index t (ρr x) (ρr i)) ?_, h2⟩
          simp [Instr.index, run_ty w ht, e', ei, asIntOf, hlt, run_sz w hs, h1]
      · cases h
    · rename_i b j ht hx hi
      simp only [Option.bind_eq_some_iff] at hi
      obtain ⟨iv, hiv, hj⟩ := hi
      obtain ⟨k, _, ei⟩ := dNat_inv hj (hρ _ _ hiv)
      split at h
      · rename_i c hc
        cases h
        have e := (hρ _ _ hx).scalar rfl
        refine ⟨_, fin (m := Instr.index t (ρr x) (ρr i)) ?_, .int _ _⟩
        have hc' : b[j]? = some c := by
          rw [← hc]; simp; rfl
        simp [Instr.index, run_ty w ht, e, ei, asIntOf, hc']
      · cases h
    · cases h
  · -- load
    rename_i t a
    split at h
    · rename_i u hu
      obtain ⟨v', h1, h2, _⟩ := dLoad_sim hr h (hρ _ _ hu)
      exact ⟨v', fin h1, h2⟩
    · cases h
  · -- lookup
    rename_i t m k ok
    split at h
    · rename_i kt e mv kv ht hm hk
      split at h
      · rename_i es c hdm
        obtain ⟨es', hform, he⟩ : ∃ es' : Array MapEntry, ((ρr m = .map none ∧ es' = #[]) ∨ ∃ r c, ρr m = .map (some r) ∧ w.heap[r]? = some (.map es' c)) ∧ EntsRel ρ es es'.toList := by
          rcases dMap_sim hr hdm (hρ _ _ hm) with ⟨e', rfl⟩ | ⟨r, es', e', hw, he⟩
          · exact ⟨#[], .inl ⟨e', rfl⟩, rfl, fun i a b x => by simp at x⟩
          · exact ⟨es', .inr ⟨r, c, e', hw⟩, he⟩
        have go := lookup_form (ok := ok) (k' := ρr k) ht hform
        split at h
        · rename_i j x hl
          cases h
          obtain ⟨h1, h2⟩ := dLook_sim hl (hρ _ _ hk) he es'.isEmpty w
          rcases h2 with ⟨h2, _⟩ | ⟨j', x', y', h2, h3, h4, h5, h6, _⟩
          · cases h2
          · cases h2
            refine ⟨if ok then .tuple #[y'.val, .bool true] else y'.val, fin (m := Instr.lookup t (ρr m) (ρr k) ok) ?_, ?_⟩
            · rw [go]; simp [h1, h3]
            · cases ok
              · exact h6.2.1
              · exact .mkTuple (.cons h6.2.1 (.single (.bool true)))
        · rename_i hl
          simp only [Option.map_eq_some_iff] at h
          obtain ⟨z, hz, rfl⟩ := h
          obtain ⟨h1, h2⟩ := dLook_sim hl (hρ _ _ hk) he es'.isEmpty w
          rcases h2 with ⟨_, h3⟩ | ⟨j', x', y', h2, _⟩
          · refine ⟨if ok then .tuple #[z, .bool false] else z, fin (m := Instr.lookup t (ρr m) (ρr k) ok) ?_, ?_⟩
            · rw [go]; simp [h1, h3, run_zr w hz]
            · have hzr := VRel.of_const (ρ := ρ) (zr_inv hz).2
              cases ok
              · exact hzr
              · exact .mkTuple (.cons hzr (.single (.bool false)))
          · cases h2
        · cases h
      · cases h
    · cases h
  · -- extract
    rename_i t i
    split at h
    · rename_i vs hv
      obtain ⟨cs', e, hc⟩ := (hρ _ _ hv).tuple_inv
      rw [lget_eq] at h
      obtain ⟨v', h1, h2⟩ := hc.get h
      refine ⟨v', fin (m := Instr.extract (ρr t) i) ?_, h2⟩
      have : cs'[i]? = some v' := by simpa using h1
      simp [Instr.extract, e, this]
    · cases h
  · -- build
    rename_i t parts
    split at h
    · rename_i ps hp
      obtain ⟨h1, h2⟩ := dParts_sim hρ hp
      obtain ⟨v', h3, h4⟩ := dBuild_sim (parts' := parts.map fun (i, x) => (i, ρr x)) h (by simpa using h1) (by simpa using h2) w
      exact ⟨v', fin h3, h4⟩
    · cases h
  · -- builtin
    rename_i b args ats
    split at h
    · rename_i vs hv
      obtain ⟨v', h1, h2⟩ := dBuiltin_sim (ty := ty) (cs := args.map fun | .const _ => true | _ => false) hr h (vals_arr hρ hv)
      refine ⟨v', ?_, h2⟩
      simp only [execOp, resolve, Sem.run_bind, Sem.run_pure, Result.andThen_ok, invoke]
      rw [Array.toArray_toList] at h1
      exact h1
    · cases h
  · cases h
end
end Go.Det
end
