/-
  The operations look at their operands alone; what is read stays when objects are added.
-/
import Derived.Test.YtpinlnajhiagoaaGreatDoorEvEff
import Derived.OrdersIn
set_option linter.unusedVariables false
set_option linter.unusedSimpArgs false
section
namespace Go.Det
open Go

section
variable {P : Program} {ρ1 ρ2 : Operand → Option Value}

theorem vals_congr : ∀ {l : List Operand}, (∀ x ∈ l, ρ1 x = ρ2 x) → vals ρ1 l = vals ρ2 l
  | [], _ => rfl
  | x :: l, h => by
    simp only [vals]
    rw [h x (by simp), vals_congr fun y hy => h y (by simp [hy])]

theorem dParts_congr : ∀ {l : List (Nat × Operand)}, (∀ x ∈ l.map (·.2), ρ1 x = ρ2 x) → dParts ρ1 l = dParts ρ2 l
  | [], _ => rfl
  | (i, x) :: l, h => by
    simp only [dParts]
    rw [h x (by simp), dParts_congr fun y hy => h y (by simp at hy ⊢; exact .inr hy)]

theorem dOptNat_congr {d : Nat} {o : Option Operand} (h : ∀ x ∈ o.toArray, ρ1 x = ρ2 x) : dOptNat ρ1 d o = dOptNat ρ2 d o := by
  cases o with
  | none => rfl
  | some x => simp only [dOptNat]; rw [h x (by simp)]

theorem callArgs {c : Call} (h : ∀ x ∈ c.operands, ρ1 x = ρ2 x) : (∀ x ∈ c.args.toList, ρ1 x = ρ2 x) ∧ ∀ g, c.callee = .value g → ρ1 g = ρ2 g := by
  refine ⟨fun x hx => h x ?_, fun g hg => h g ?_⟩
  · unfold Call.operands; cases c.callee <;> simp_all
  · unfold Call.operands; rw [hg]; simp

theorem dSlice_congr {size len cap : Nat} {a : Option Addr} {lo hi mx : Option Operand} (h1 : ∀ x ∈ lo.toArray, ρ1 x = ρ2 x) (h2 : ∀ x ∈ hi.toArray, ρ1 x = ρ2 x) (h3 : ∀ x ∈ mx.toArray, ρ1 x = ρ2 x) :
    dSlice ρ1 size a len cap lo hi mx = dSlice ρ2 size a len cap lo hi mx := by
  unfold dSlice
  rw [dOptNat_congr h1, dOptNat_congr h2]
  cases mx with
  | none => rfl
  | some x => simp only [h3 x (by simp)]

theorem evVal_congr {hp : Heap} {o : Op} (h : ∀ x ∈ o.operands, ρ1 x = ρ2 x) : evVal P ρ1 hp o = evVal P ρ2 hp o := by
  cases o with
  | call c =>
    obtain ⟨callee, args, ats⟩ := c
    cases callee with
    | builtin b =>
      have := (callArgs h).1
      simp only [evVal]
      rw [vals_congr this]
    | _ => rfl
  | build t parts =>
    simp only [Op.operands] at h
    simp only [evVal]
    rw [dParts_congr (fun x hx => h x (by simpa using hx))]
  | makeFunc fn first cap =>
    simp only [Op.operands] at h
    simp only [evVal]
    rw [vals_congr (l := first.toList) (fun x hx => h x (by simp at hx ⊢; exact .inl hx)), vals_congr (l := cap.toList) (fun x hx => h x (by simp at hx ⊢; exact .inr hx))]
  | slice t x lo hi mx =>
    simp only [Op.operands] at h
    have h0 := h x (by simp)
    have h1 : ∀ y ∈ lo.toArray, ρ1 y = ρ2 y := fun y hy => h y (by simp at hy ⊢; exact .inr (.inl hy))
    have h2 : ∀ y ∈ hi.toArray, ρ1 y = ρ2 y := fun y hy => h y (by simp at hy ⊢; exact .inr (.inr (.inl hy)))
    have h3 : ∀ y ∈ mx.toArray, ρ1 y = ρ2 y := fun y hy => h y (by simp at hy ⊢; exact .inr (.inr (.inr hy)))
    simp only [evVal]
    simp only [h0, dOptNat_congr h1, dOptNat_congr h2, dSlice_congr h1 h2 h3]
  | _ =>
    simp only [Op.operands, Array.mem_def, List.mem_cons, List.not_mem_nil, or_false, forall_eq_or_imp, forall_eq] at h
    try simp only [evVal]
    try first | rw [h] | (obtain ⟨ha, hb⟩ := h; rw [ha, hb]) | (obtain ⟨ha, hb, hc⟩ := h; rw [ha, hb, hc])

theorem evNew_congr {o : Op} (h : ∀ x ∈ o.operands, ρ1 x = ρ2 x) : evNew P ρ1 o = evNew P ρ2 o := by
  cases o with
  | buildSlice t len parts =>
    simp only [Op.operands] at h
    simp only [evNew]
    rw [dParts_congr (fun x hx => h x (by simpa using hx))]
  | makeMap t r => cases r <;> rfl
  | _ =>
    simp only [Op.operands, Array.mem_def, List.mem_cons, List.not_mem_nil, or_false, forall_eq_or_imp, forall_eq] at h
    try simp only [evNew]
    try first | rw [h] | (obtain ⟨ha, hb⟩ := h; rw [ha, hb]) | (obtain ⟨ha, hb, hc⟩ := h; rw [ha, hb, hc])

theorem evEff_congr {s : St} {o : Op} (h : ∀ x ∈ o.operands, ρ1 x = ρ2 x) : evEff P ρ1 s o = evEff P ρ2 s o := by
  cases o with
  | call c =>
    obtain ⟨callee, args, ats⟩ := c
    cases callee with
    | builtin b =>
      have := (callArgs h).1
      simp only [evEff]
      rw [vals_congr this]
    | _ => rfl
  | next it b =>
    simp only [Op.operands, Array.mem_def, List.mem_cons, List.not_mem_nil, or_false, forall_eq_or_imp, forall_eq] at h
    cases b with
    | true => rfl
    | false => simp only [evEff]; rw [h]
  | _ =>
    simp only [Op.operands, Array.mem_def, List.mem_cons, List.not_mem_nil, or_false, forall_eq_or_imp, forall_eq] at h
    try simp only [evEff]
    try first | rw [h] | (obtain ⟨ha, hb⟩ := h; rw [ha, hb]) | (obtain ⟨ha, hb, hc⟩ := h; rw [ha, hb, hc])

theorem callee_congr {c : Call} (h : ∀ x ∈ c.operands, ρ1 x = ρ2 x) : callee ρ1 c = callee ρ2 c := by
  obtain ⟨h1, h2⟩ := callArgs h
  unfold callee
  cases hc : c.callee with
  | value g => simp only; rw [h2 g hc, vals_congr h1]
  | _ => rfl
end

/-! ### More objects -/
def Heap.sub (h h' : Heap) : Prop := ∀ b o, hget h b = some o → hget h' b = some o

section
variable {P : Program} {ρ : Operand → Option Value} {h h' : Heap}

theorem cellsAt_sub (hs : Heap.sub h h') {a : Addr} {n : Nat} {l : List Value} (hc : cellsAt h a n = some l) : cellsAt h' a n = some l := by
  unfold cellsAt at *
  split at hc
  · rename_i row e opn h1 h2
    rw [h1, hs _ _ h2]; exact hc
  · cases hc

theorem dMap_sub (hs : Heap.sub h h') {m : Value} {r : List Ent × Nat} (hc : dMap h m = some r) : dMap h' m = some r := by
  unfold dMap at *
  split at hc
  · exact hc
  · split at hc
    · rename_i h2; simp only [hs _ _ h2]; exact hc
    · cases hc
  · cases hc

theorem dLoad_sub (hs : Heap.sub h h') {t : TypeId} {a v : Value} (hc : dLoad P h t a = some v) : dLoad P h' t a = some v := by
  cases a with
  | pointer a => cases a with
    | none => simp [dLoad] at hc
    | some a =>
      simp only [dLoad] at hc ⊢
      cases hg : aggOf P t with
      | none => simp [hg] at hc
      | some g =>
        cases hz : szOf P t with
        | none => cases g <;> simp [hg, hz] at hc
        | some n =>
          cases g with
          | true =>
            simp only [hg, hz] at hc ⊢
            cases hl : cellsAt h a n with
            | none => simp [hl] at hc
            | some l => rw [cellsAt_sub hs hl]; rw [hl] at hc; exact hc
          | false =>
            simp only [hg, hz] at hc ⊢
            cases hl : cellsAt h a 1 with
            | none => simp [hl] at hc
            | some l => rw [cellsAt_sub hs hl]; rw [hl] at hc; exact hc
  | _ => simp [dLoad] at hc

theorem dConvert_sub (hs : Heap.sub h h') {a b : TypeId} {x v : Value} (hc : dConvert P h a b x = some v) : dConvert P h' a b x = some v := by
  unfold dConvert at *
  split at hc
  · exact hc
  · exact hc
  · exact hc
  · rename_i e a n h1 h2
    split at hc
    · rename_i cs h3 h4
      rw [h3, cellsAt_sub hs h4]; exact hc
    · cases hc
  · cases hc

theorem dBuiltin_sub (hs : Heap.sub h h') {b : Builtin} {ts : Array TypeId} {vs : List Value} {v : Value} (hc : dBuiltin P h b ts vs = some v) : dBuiltin P h' b ts vs = some v := by
  unfold dBuiltin at *
  split at hc
  · split at hc
    all_goals first
      | exact hc
      | skip
    rename_i x0 _ _ _ _ h1
    cases hm : dMap h x0 with
    | none => rw [hm] at hc; cases hc
    | some r => rw [dMap_sub hs hm]; rw [hm] at hc; exact hc
  all_goals exact hc

theorem evVal_sub (hs : Heap.sub h h') {o : Op} {v : Value} (hc : evVal P ρ h o = some v) : evVal P ρ h' o = some v := by
  cases o with
  | load t a =>
    simp only [evVal] at *
    split at hc
    · rename_i h1; exact dLoad_sub hs hc
    · cases hc
  | convert a b x =>
    simp only [evVal] at *
    split at hc
    · exact dConvert_sub hs hc
    · cases hc
  | lookup t m k ok =>
    simp only [evVal] at *
    split at hc
    · rename_i h1 h2 h3
      split at hc
      · rename_i hm
        rw [dMap_sub hs hm]; exact hc
      · cases hc
    · cases hc
  | call c =>
    obtain ⟨callee, args, ats⟩ := c
    cases callee with
    | builtin b =>
      simp only [evVal] at *
      split at hc
      · exact dBuiltin_sub hs hc
      · cases hc
    | _ => exact hc
  | _ => exact hc

theorem St.new_inv {s s' : St} {o : DObj} {b : Nat} (h : s.new o = some (b, s')) : b = s.nx ∧ s' = { hp := s.hp.set HD s.nx o, nx := s.nx + 1 } ∧ s.nx < 16 ^ HD := by
  simp only [St.new] at h
  cases hb : Nat.blt s.nx (16 ^ HD) with
  | false => rw [hb] at h; cases h
  | true => rw [hb] at h; cases h; exact ⟨rfl, rfl, by simpa using hb⟩

theorem St.new_sub {s s' : St} {o : DObj} {b : Nat} (h : s.new o = some (b, s')) (ht : hget s.hp s.nx = none) : Heap.sub s.hp s'.hp := by
  obtain ⟨rfl, rfl, hn⟩ := s.new_inv h
  intro c p hc
  rcases Tr.get_set_any HD s.hp s.nx c o with h1 | h1
  · exact h1.trans hc
  · have : hget s.hp c = none := h1.trans ht
    rw [hc] at this; cases this

theorem Heap.sub_refl (h : Heap) : Heap.sub h h := fun _ _ x => x
end
end Go.Det
end
section
namespace Go.Det
open Go

/-! ### What must come ahead -/
theorem testBit_one (n k : Nat) : (1 <<< n).testBit k = decide (n = k) := by
  rw [Nat.one_shiftLeft, Nat.testBit_two_pow]

theorem aheadGo (done : List Nat) (k : Nat) : ∀ (l : List Edge) (s : Nat),
    (l.foldl (fun s e => cond (Region.binds .any e) (s ||| (1 <<< e.on) ||| ((lget done e.on).getD 0)) s) s).testBit k = true ↔
      s.testBit k = true ∨ ∃ e ∈ l, Region.binds .any e = true ∧ (e.on = k ∨ ((lget done e.on).getD 0).testBit k = true)
  | [], s => by simp
  | e :: l, s => by
    rw [List.foldl_cons, aheadGo done k l]
    cases hb : Region.binds .any e with
    | false => simp [hb]
    | true =>
      simp only [cond_true, Nat.testBit_or, Bool.or_eq_true, testBit_one, decide_eq_true_eq, List.mem_cons, exists_eq_or_imp, hb, true_and]
      constructor
      · rintro (((h | h) | h) | h)
        · exact .inl h
        · exact .inr (.inl (.inl h))
        · exact .inr (.inl (.inr h))
        · exact .inr (.inr h)
      · rintro (h | (h | h) | h)
        · exact .inl (.inl (.inl h))
        · exact .inl (.inl (.inr h))
        · exact .inl (.inr h)
        · exact .inr h

theorem aheadOf_bit (done : List Nat) (o : Oper) (k : Nat) : (aheadOf done o).testBit k = true ↔ ∃ e ∈ o.after, Region.binds .any e = true ∧ (e.on = k ∨ ((lget done e.on).getD 0).testBit k = true) := by
  unfold aheadOf
  rw [aheadGo]
  simp

theorem ancs_spec : ∀ (l : List Oper) (done : List Nat), (ancs l done).length = done.length + l.length ∧ (ancs l done).take done.length = done ∧
    ∀ j o, l[j]? = some o → (ancs l done)[done.length + j]? = some (aheadOf ((ancs l done).take (done.length + j)) o)
  | [], done => by simp [ancs]
  | x :: l, done => by
    obtain ⟨h1, h2, h3⟩ := ancs_spec l (done ++ [aheadOf done x])
    simp only [ancs]
    have e1 : (done ++ [aheadOf done x]).length = done.length + 1 := by simp
    rw [e1] at h1 h2 h3
    have hd : (ancs l (done ++ [aheadOf done x])).take done.length = done := by
      have : ((ancs l (done ++ [aheadOf done x])).take (done.length + 1)).take done.length = (done ++ [aheadOf done x]).take done.length := by rw [h2]
      simpa [List.take_take] using this
    refine ⟨by rw [h1]; simp; omega, hd, fun j o ho => ?_⟩
    cases j with
    | zero =>
      simp at ho; subst ho
      rw [Nat.add_zero, hd]
      have : ((ancs l (done ++ [aheadOf done x])).take (done.length + 1))[done.length]? = (done ++ [aheadOf done x])[done.length]? := by rw [h2]
      rw [List.getElem?_take_of_lt (by omega)] at this
      rw [this]; simp
    | succ j =>
      have := h3 j o (by simpa using ho)
      rw [show done.length + (j + 1) = done.length + 1 + j from by omega]
      exact this

theorem ropsFrom_mem : ∀ {k : Nat} {l : List Oper} {as : List Nat} {r : Rop}, r ∈ ropsFrom k l as → ∃ j, r.i = k + j ∧ l[j]? = some r.o ∧ as[j]? = some r.anc
  | k, [], as, r, h => by simp [ropsFrom] at h
  | k, o :: l, [], r, h => by simp [ropsFrom] at h
  | k, o :: l, a :: as, r, h => by
    simp only [ropsFrom, List.mem_cons] at h
    rcases h with rfl | h
    · exact ⟨0, rfl, rfl, rfl⟩
    · obtain ⟨j, h1, h2, h3⟩ := ropsFrom_mem h
      exact ⟨j + 1, by omega, by simpa using h2, by simpa using h3⟩

theorem ropsFrom_get : ∀ {k : Nat} {l : List Oper} {as : List Nat} {j : Nat} {o : Oper}, l.length ≤ as.length → l[j]? = some o → ∃ r ∈ ropsFrom k l as, r.i = k + j ∧ r.o = o
  | k, [], as, j, o, _, h => by simp at h
  | k, x :: l, [], j, o, hl, h => by simp at hl
  | k, x :: l, a :: as, 0, o, hl, h => by
    simp at h; subst h
    exact ⟨_, List.mem_cons_self, rfl, rfl⟩
  | k, x :: l, a :: as, j + 1, o, hl, h => by
    obtain ⟨r, h1, h2, h3⟩ := ropsFrom_get (k := k + 1) (l := l) (as := as) (j := j) (by simpa using hl) (by simpa using h)
    exact ⟨r, List.mem_cons_of_mem _ h1, by omega, h3⟩

def rops (ops : List Oper) : List Rop := ropsFrom 0 ops (ancs ops [])

theorem rops_op {ops : List Oper} {r : Rop} (h : r ∈ rops ops) : ops[r.i]? = some r.o ∧ (ancs ops [])[r.i]? = some r.anc := by
  obtain ⟨j, h1, h2, h3⟩ := ropsFrom_mem h
  have : r.i = j := by omega
  rw [this]; exact ⟨h2, h3⟩

theorem rops_eq {ops : List Oper} {r r' : Rop} (h : r ∈ rops ops) (h' : r' ∈ rops ops) (e : r.i = r'.i) : r = r' := by
  obtain ⟨a1, a2⟩ := rops_op h
  obtain ⟨b1, b2⟩ := rops_op h'
  rw [e] at a1 a2
  rw [a1] at b1; rw [a2] at b2
  cases r; cases r'
  simp_all

theorem rops_get {ops : List Oper} {i : Nat} {o : Oper} (h : ops[i]? = some o) : ∃ r ∈ rops ops, r.i = i ∧ r.o = o := by
  obtain ⟨r, h1, h2, h3⟩ := ropsFrom_get (k := 0) (as := ancs ops []) (by have := (ancs_spec ops []).1; simp at this; omega) h
  exact ⟨r, h1, by omega, h3⟩

theorem rops_anc {ops : List Oper} {r : Rop} (h : r ∈ rops ops) (k : Nat) (hk : r.anc.testBit k = true) :
    ∃ e ∈ r.o.after, Region.binds .any e = true ∧ (e.on = k ∨ ∃ r' ∈ rops ops, r'.i = e.on ∧ r'.anc.testBit k = true) := by
  obtain ⟨h1, h2⟩ := rops_op h
  obtain ⟨s1, _, s3⟩ := ancs_spec ops []
  have := s3 r.i r.o h1
  simp only [List.length_nil, Nat.zero_add] at this s1
  rw [h2, Option.some_inj] at this
  rw [this, aheadOf_bit] at hk
  obtain ⟨e, he, hb, hk⟩ := hk
  refine ⟨e, he, hb, ?_⟩
  rcases hk with hk | hk
  · exact .inl hk
  · right
    rw [lget_eq] at hk
    cases hg : ((ancs ops []).take r.i)[e.on]? with
    | none => rw [hg] at hk; simp at hk
    | some a =>
      rw [hg] at hk
      have hlt : e.on < r.i := by
        have := (List.getElem?_eq_some_iff.1 hg).1
        simp at this; omega
      rw [List.getElem?_take_of_lt hlt] at hg
      have hlt' : r.i < ops.length := (List.getElem?_eq_some_iff.1 h1).1
      obtain ⟨r', b1, b2, b3⟩ := rops_get (ops := ops) (i := e.on) (List.getElem?_eq_getElem (by omega))
      refine ⟨r', b1, b2, ?_⟩
      have := (rops_op b1).2
      rw [b2, hg] at this
      cases this
      simpa using hk

theorem rops_pred {ops : List Oper} {r : Rop} (h : r ∈ rops ops) {e : Edge} (he : e ∈ r.o.after) (hb : Region.binds .any e = true) : r.anc.testBit e.on = true := by
  obtain ⟨h1, h2⟩ := rops_op h
  obtain ⟨s1, _, s3⟩ := ancs_spec ops []
  have := s3 r.i r.o h1
  simp only [List.length_nil, Nat.zero_add] at this s1
  rw [h2, Option.some_inj] at this
  rw [this, aheadOf_bit]
  exact ⟨e, he, hb, .inl rfl⟩

/-! ### The checks -/
structure Static (ops : List Oper) (st : List Rop) : Prop where
  mem : ∀ r ∈ st, r ∈ rops ops
  slots : slotsOk ops (rops ops) = true
  order : orderOk st 0 0 none (2 ^ ops.length - 1) = true

theorem sched_static {ops : List Oper} {st : List Rop} (h : sched ops = some st) : Static ops st := by
  unfold sched at h
  simp only at h
  split at h
  rotate_left
  · cases h
  rename_i l hl
  generalize hst : (l.filterMap fun r => lget (ropsFrom 0 ops (ancs ops [])) r.i) = st' at h
  cases hc : (slotsOk ops (ropsFrom 0 ops (ancs ops [])) && orderOk st' 0 0 none (2 ^ ops.length - 1)) with
  | false => rw [hc] at h; cases h
  | true =>
    rw [hc] at h
    cases h
    simp only [Bool.and_eq_true] at hc
    refine ⟨fun r hr => ?_, hc.1, hc.2⟩
    rw [← hst] at hr
    simp only [List.mem_filterMap] at hr
    obtain ⟨x, _, hx⟩ := hr
    rw [lget_eq] at hx
    exact List.mem_of_getElem? hx

theorem slots_spec {ops : List Oper} (h : slotsOk ops (rops ops) = true) {x y : Rop} (hx : x ∈ rops ops) (hy : y ∈ rops ops) {d : Nat} (hd : x.o.dst = some d) :
    (isWriter x.o.op = true ∨ d ∉ looks ops x.o) ∧ (x.i ≠ y.i → y.o.dst ≠ some d ∧ (d ∈ looks ops y.o → y.anc.testBit x.i = true ∨ (isWriter x.o.op = true ∧ x.anc.testBit y.i = true))) := by
  unfold slotsOk at h
  rw [List.all_eq_true] at h
  have h := h x hx
  rw [hd] at h
  simp only [Bool.and_eq_true, Bool.or_eq_true, Bool.not_eq_true', List.contains_eq_mem, decide_eq_false_iff_not, List.all_eq_true] at h
  refine ⟨h.1, fun hne => ?_⟩
  have h := h.2 y hy
  have hb : Nat.beq x.i y.i = false := by
    cases hq : Nat.beq x.i y.i with
    | false => rfl
    | true => exact absurd (Nat.eq_of_beq_eq_true hq) hne
  rw [hb] at h
  simp only [Bool.false_eq_true, false_or] at h
  refine ⟨fun e => ?_, fun hl => ?_⟩
  · rw [e] at h
    simp at h
  · rcases h.2 with (h | h) | h
    · exact absurd hl h
    · exact .inl h
    · exact .inr h

def bits (l : List Rop) : Nat := l.foldl (fun s r => s ||| (1 <<< r.i)) 0
def wbits (l : List Rop) : Nat := l.foldl (fun s r => cond (isWriter r.o.op) (s ||| (1 <<< r.i)) s) 0
def lastW (l : List Rop) : Option Nat := l.foldl (fun s r => cond (isWriter r.o.op) (some r.i) s) none

theorem bits_snoc (l : List Rop) (r : Rop) : bits (l ++ [r]) = bits l ||| (1 <<< r.i) := by simp [bits]
theorem wbits_snoc (l : List Rop) (r : Rop) : wbits (l ++ [r]) = cond (isWriter r.o.op) (wbits l ||| (1 <<< r.i)) (wbits l) := by simp [wbits]
theorem lastW_snoc (l : List Rop) (r : Rop) : lastW (l ++ [r]) = cond (isWriter r.o.op) (some r.i) (lastW l) := by simp [lastW]

theorem snoc_ind {p : List Rop → Prop} (h0 : p []) (h1 : ∀ l r, p l → p (l ++ [r])) : ∀ l, p l := by
  intro l
  have : ∀ m : List Rop, p m.reverse := by
    intro m
    induction m with
    | nil => exact h0
    | cons r m ih => rw [List.reverse_cons]; exact h1 _ _ ih
  have := this l.reverse
  rwa [List.reverse_reverse] at this

theorem bits_mem (l : List Rop) : ∀ k, (bits l).testBit k = true ↔ ∃ r ∈ l, r.i = k := by
  induction l using snoc_ind with
  | h0 => intro k; simp [bits]
  | h1 l r ih =>
    intro k
    rw [bits_snoc, Nat.testBit_or, Bool.or_eq_true, ih, testBit_one]
    simp [or_and_right, exists_or]

theorem wbits_mem (l : List Rop) : ∀ k, (wbits l).testBit k = true ↔ ∃ r ∈ l, isWriter r.o.op = true ∧ r.i = k := by
  induction l using snoc_ind with
  | h0 => intro k; simp [wbits]
  | h1 l r ih =>
    intro k
    rw [wbits_snoc]
    cases hw : isWriter r.o.op with
    | false => simp [ih, or_and_right, exists_or, hw]
    | true => rw [cond_true, Nat.testBit_or, Bool.or_eq_true, ih, testBit_one]; simp [or_and_right, exists_or, hw]

theorem lastW_mem (l : List Rop) : ∀ k, lastW l = some k → ∃ r ∈ l, isWriter r.o.op = true ∧ r.i = k := by
  induction l using snoc_ind with
  | h0 => intro k h; simp [lastW] at h
  | h1 l r ih =>
    intro k h
    rw [lastW_snoc] at h
    cases hw : isWriter r.o.op with
    | false =>
      rw [hw] at h
      obtain ⟨x, h1, h2⟩ := ih k h
      exact ⟨x, by simp [h1], h2⟩
    | true => rw [hw] at h; cases h; exact ⟨r, by simp, hw, rfl⟩

theorem lastW_none (l : List Rop) : lastW l = none → ∀ r ∈ l, isWriter r.o.op = false := by
  induction l using snoc_ind with
  | h0 => intro _ r h; simp at h
  | h1 l r ih =>
    intro h
    rw [lastW_snoc] at h
    cases hw : isWriter r.o.op with
    | true => rw [hw] at h; cases h
    | false =>
      rw [hw] at h
      intro x hx
      simp only [List.mem_append, List.mem_singleton] at hx
      rcases hx with hx | rfl
      · exact ih h x hx
      · exact hw

/-- what is left to be taken, behind A -/
def Left (n : Nat) (A B : List Rop) : Prop := orderOk B (bits A) (wbits A) (lastW A) (2 ^ n - 1) = true

theorem Left.start {ops : List Oper} {st : List Rop} (h : Static ops st) : Left ops.length [] st := h.order

theorem sub_bits {a b : Nat} (h : Nat.beq (a &&& b) a = true) (k : Nat) (hk : a.testBit k = true) : b.testBit k = true := by
  have := Nat.eq_of_beq_eq_true h
  rw [← this, Nat.testBit_and, Bool.and_eq_true] at hk
  exact hk.2

theorem Left.cons {n : Nat} {A B : List Rop} {r : Rop} (h : Left n A (r :: B)) :
    Left n (A ++ [r]) B ∧ (∀ x ∈ A, x.i ≠ r.i) ∧ (∀ k, r.anc.testBit k = true → ∃ x ∈ A, x.i = k) ∧
    (isWriter r.o.op = true → ∀ x ∈ A, isWriter x.o.op = true → r.anc.testBit x.i = true) ∧
    (isWriter r.o.op = false → ∀ k, lastW A = some k → r.anc.testBit k = true) := by
  unfold Left at h
  simp only [orderOk, Bool.and_eq_true, Bool.not_eq_true'] at h
  obtain ⟨⟨⟨h1, h2⟩, h3⟩, h4⟩ := h
  refine ⟨?_, fun x hx e => ?_, fun k hk => (bits_mem A k).1 (sub_bits h2 k hk), fun hw x hx hxw => ?_, fun hw k hk => ?_⟩
  · unfold Left
    rw [bits_snoc, wbits_snoc, lastW_snoc]; exact h4
  · have := (bits_mem A r.i).2 ⟨x, hx, e⟩
    rw [h1] at this; cases this
  · rw [hw] at h3
    exact sub_bits h3 x.i ((wbits_mem A x.i).2 ⟨x, hx, hxw, rfl⟩)
  · rw [hw, hk] at h3
    exact h3

theorem Left.nil {n : Nat} {A : List Rop} (h : Left n A []) (k : Nat) (hk : k < n) : ∃ x ∈ A, x.i = k := by
  unfold Left at h
  simp only [orderOk] at h
  have := Nat.eq_of_beq_eq_true h
  refine (bits_mem A k).1 ?_
  rw [this]
  rw [Nat.testBit_two_pow_sub_one]; simp [hk]

theorem Left.fresh {n : Nat} : ∀ {B A : List Rop}, Left n A B → ∀ x ∈ A, ∀ y ∈ B, x.i ≠ y.i
  | [], _, _, _, _, _, hy => by simp at hy
  | b :: B, A, h, x, hx, y, hy => by
    obtain ⟨h1, h2, _⟩ := h.cons
    simp only [List.mem_cons] at hy
    rcases hy with rfl | hy
    · exact h2 x hx
    · exact Left.fresh h1 x (by simp [hx]) y hy

/-- a later one is behind the last writer, or behind one that is to come -/
theorem Left.behind {n : Nat} : ∀ {B A : List Rop} {k : Nat} {x : Rop}, Left n A B → lastW A = some k → x ∈ B → x.anc.testBit k = true ∨ ∃ y ∈ B, x.anc.testBit y.i = true
  | [], _, _, _, _, _, hx => by simp at hx
  | b :: B, A, k, x, h, hk, hx => by
    obtain ⟨h1, h2, h3, h4, h5⟩ := h.cons
    simp only [List.mem_cons] at hx
    rcases hx with rfl | hx
    · cases hw : isWriter x.o.op with
      | false => exact .inl (h5 hw k hk)
      | true =>
        obtain ⟨y, hy, hyw, rfl⟩ := lastW_mem A k hk
        exact .inl (h4 hw y hy hyw)
    · cases hw : isWriter b.o.op with
      | true =>
        rcases Left.behind h1 (by rw [lastW_snoc, hw]; rfl) hx with h | ⟨y, hy, h⟩
        · exact .inr ⟨b, by simp, h⟩
        · exact .inr ⟨y, by simp [hy], h⟩
      | false =>
        rcases Left.behind h1 (by rw [lastW_snoc, hw]; exact hk) hx with h | ⟨y, hy, h⟩
        · exact .inl h
        · exact .inr ⟨y, by simp [hy], h⟩

/-- behind a writer everything is behind it, or behind another that is to come -/
theorem Left.behind_head {n : Nat} {A B : List Rop} {r x : Rop} (h : Left n A (r :: B)) (hw : isWriter r.o.op = true) (hx : x ∈ B) : ∃ y ∈ r :: B, x.anc.testBit y.i = true := by
  rcases Left.behind h.cons.1 (by rw [lastW_snoc, hw]; rfl) hx with h | ⟨y, hy, h⟩
  · exact ⟨r, by simp, h⟩
  · exact ⟨y, by simp [hy], h⟩
end Go.Det
end
