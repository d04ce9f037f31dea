/-
  A function that turns one object of scalars: what a small run tells of it holds in every heap.
-/
import Derived.Test.YtpinlnajhiagoaaGreatDoorIntrB
import Derived.Test.YtpinlnajhiagoaaGreatDoorFastF
set_option linter.unusedVariables false
set_option linter.unusedSimpArgs false
namespace Go.Det
open Go

theorem CallGot.imp {P : Program} {ρ ρ0 : Ren} {s s0 : St} {w : World} {g : FuncId} {args' : Array Value} {v v0 : Value} {s1 s2 : St} (h : CallGot P ρ0 s0 w g args' v0 s2)
    (hi : ∀ e w', After P ρ0 s0 w v0 s2 e w' → After P ρ s w v s1 e w') : CallGot P ρ s w g args' v s1 := by
  rcases h with ⟨v', w', h1, h2⟩ | ⟨h1, h2⟩
  · exact .inl ⟨v', w', h1, hi _ _ h2⟩
  · exact .inr ⟨h1, h2.mono fun e w' hq => hi e w' hq⟩

def scalEq : Value → Value → Bool
  | .int k n, .int j m => decide (k = j) && decide (n = m)
  | .bool a, .bool b => a == b
  | _, _ => false
theorem scalEq_eq {a b : Value} (h : scalEq a b = true) : a = b ∧ isScalar a = true := by
  unfold scalEq at h
  split at h
  · simp only [Bool.and_eq_true, decide_eq_true_eq] at h
    obtain ⟨rfl, rfl⟩ := h
    exact ⟨rfl, rfl⟩
  · simp only [beq_iff_eq] at h
    subst h
    exact ⟨rfl, rfl⟩
  · cases h
def scalEqL : List Value → List Value → Bool
  | [], [] => true
  | a :: l, b :: r => cond (scalEq a b) (scalEqL l r) false
  | _, _ => false
theorem scalEqL_eq : ∀ {l r : List Value}, scalEqL l r = true → l = r ∧ ∀ v ∈ l, isScalar v = true
  | [], [], _ => ⟨rfl, by simp⟩
  | a :: l, b :: r, h => by
    unfold scalEqL at h
    cases hs : scalEq a b with
    | false => rw [hs] at h; cases h
    | true =>
      rw [hs] at h
      obtain ⟨e1, e2⟩ := scalEq_eq hs
      obtain ⟨f1, f2⟩ := scalEqL_eq (l := l) (r := r) h
      subst e1; subst f1
      exact ⟨rfl, fun v hv => by rcases List.mem_cons.1 hv with rfl | hv; exact e2; exact f2 v hv⟩
  | [], _ :: _, h => by cases h
  | _ :: _, [], h => by cases h

/-- a heap of one object -/
def one0 (row : List Value) (T : TypeId) : Hp := (Tr.nil HD).set HD 0 (.cells row T false)
/-- the object holds out, and nothing is handed back -/
def leaves (out : List Value) (T : TypeId) (v : Value) (h : Hp) (_ : Nat) : Bool := match v, hget h 0 with
  | .tuple ⟨[]⟩, some (.cells row e false) => cond (Nat.beq e T) (scalEqL row out) false
  | _, _ => false

section
variable {P : Program} {ρ : Ren} {s : St} {w : World}

theorem one0_get (row : List Value) (T : TypeId) {b : Nat} (hb : b < 16 ^ HD) {o : DObj} (h : hget (one0 row T) b = some o) : b = 0 ∧ o = .cells row T false := by
  by_cases h0 : b = 0
  · subst h0
    have : hget (one0 row T) 0 = some (.cells row T false) := Tr.get_set_same HD _ _ _
    rw [this] at h; cases h
    exact ⟨rfl, rfl⟩
  · have : hget (one0 row T) b = hget (Tr.nil HD) b := Tr.get_set_other HD _ _ _ _ (by decide) hb (Ne.symm h0)
    rw [this] at h
    have : hget (Tr.nil HD : Tr HD DObj) b = none := Tr.get_nil HD b
    rw [this] at h; cases h

theorem orel_scalar {ρ0 : Ren} {l : Loc} {row : List Value} {T : TypeId} {o' : Obj} (hs : ∀ v ∈ row, isScalar v = true) (h : ORel P ρ l (.cells row T false) o') : ORel P ρ0 l (.cells row T false) o' := by
  obtain ⟨c, fz, rfl, c1, c2, c3, c4, c5⟩ := h
  refine ⟨c, fz, rfl, c1, fun i v hv => ?_, c3, c4, c5⟩
  obtain ⟨v', h1, h2⟩ := c2 i v hv
  have hm := hs v (List.mem_of_getElem? hv)
  have := h2.scalar hm
  subst this
  exact ⟨_, h1, VRel.of_scalar hm⟩

theorem memo_ok {J : Jntr} (hm : P.follows .mixedOrders = true) (hg : NoGor P) (hI : IntrOk P (Jntr.I J)) {n : Nat} {g : FuncId} {row out : List Value} {T : TypeId} (hrow : ∀ v ∈ row, isScalar v = true)
    (hk : (hdC P J n).call g [.pointer (some ⟨0, 0, none⟩)] (one0 row T) 1 (leaves out T) = true) {b : Nat} (hb : hget s.hp b = some (.cells row T false)) {args' : Array Value} (hr : HRel P ρ s w)
    (ha : LRel ρ [.pointer (some ⟨b, 0, none⟩)] args'.toList) : CallGot P ρ s w g args' (.tuple #[]) { s with hp := s.hp.set HD b (.cells out T false) } := by
  obtain ⟨a', rfl, hp⟩ := one ha
  obtain ⟨l, hl, rfl⟩ := ptr0 hp
  obtain ⟨m, v0, s2, hrun, hk2⟩ := fast_run hk
  clear hk
  -- the small run's relation
  let ρ0 : Ren := fun x => if x = 0 then some l else none
  have r0 : ∀ x m, ρ0 x = some m → x = 0 ∧ m = l := fun x m h => by
    by_cases e : x = 0
    · simp only [ρ0, e, if_true] at h; cases h; exact ⟨e, rfl⟩
    · simp only [ρ0, e, if_false] at h; cases h
  obtain ⟨o', hw, hor⟩ := hr.obj _ _ _ hb hl
  have hr0 : HRel P ρ0 ⟨one0 row T, 1⟩ w := by
    refine ⟨fun c o m hc hm => ?_, fun c d o p m1 m2 hc hd h1 h2 he => ?_, fun c m h => ?_, ?_, fun c h1 h2 => ?_, hr.tab, fun c o m hc hm => ?_⟩
    · obtain ⟨rfl, rfl⟩ := r0 c m hm
      obtain ⟨_, rfl⟩ := one0_get row T (by decide) hc
      exact ⟨o', hw, orel_scalar hrow hor⟩
    · rw [(r0 _ _ h1).1, (r0 _ _ h2).1]
    · rw [(r0 _ _ h).1]; exact Nat.zero_lt_one
    · show 1 ≤ 16 ^ HD
      decide
    · cases hq : hget (one0 row T) c with
      | none => rfl
      | some o => have := (one0_get row T h2 hq).1; simp only at h1; omega
    · obtain ⟨rfl, rfl⟩ := r0 c m hm
      exact hr.away b _ _ hb hl
  have hc := run_sim (R := ⟨P, Jntr.I J⟩) hm hg hI hrun hr0 (args' := #[.pointer (some ⟨l.blk, l.sh, none⟩)]) (by
    have hv0 : VRel ρ0 (.pointer (some ⟨0, 0, none⟩)) (.pointer (some ⟨l.blk, l.sh + 0, none⟩)) := VRel.ptr (by simp [ρ0])
    exact .single (by simpa using hv0))
  refine hc.imp fun e w' hq => ?_
  cases e with
  | panicked c => exact hq.elim
  | outgrown => exact hq.elim
  | returned v' =>
    obtain ⟨ρ1, hv, hh, hf⟩ := hq
    unfold leaves at hk2
    split at hk2
    rotate_left
    · cases hk2
    rename_i row' e0 hget0
    cases he : Nat.beq e0 T with
    | false => rw [he] at hk2; cases hk2
    | true =>
    rw [he] at hk2
    simp only [cond_true] at hk2
    have := Nat.eq_of_beq_eq_true he
    subst this
    obtain ⟨rfl, hout⟩ := scalEqL_eq hk2
    have hl1 : ρ1 0 = some l := hf.le 0 l (by simp [ρ0])
    obtain ⟨o1, hw1, hor1⟩ := hh.obj _ _ _ hget0 hl1
    have keep : ∀ k, k < w.heap.size → k ≠ l.blk → w'.heap[k]? = w.heap[k]? := fun k hk hne => hf.kept k hk fun c o m hc hm => by
      obtain ⟨rfl, rfl⟩ := r0 c m hm
      exact Ne.symm hne
    have hbn : b < 16 ^ HD := Nat.lt_of_lt_of_le (hr.dom b l hl) hr.nx
    have oth : ∀ c, c < 16 ^ HD → c ≠ b → hget (s.hp.set HD b (.cells row' e0 false)) c = hget s.hp c := fun c hc hne => Tr.get_set_other HD _ _ _ _ hbn hc (Ne.symm hne)
    have same : hget (s.hp.set HD b (.cells row' e0 false)) b = some (.cells row' e0 false) := Tr.get_set_same HD _ _ _
    have lt : ∀ c m, ρ c = some m → c < 16 ^ HD := fun c m h => Nat.lt_of_lt_of_le (hr.dom c m h) hr.nx
    have live : ∀ c p m, hget (s.hp.set HD b (.cells row' e0 false)) c = some p → ρ c = some m → ∃ p0, hget s.hp c = some p0 := fun c p m hc hm => by
      by_cases e : c = b
      · subst e; exact ⟨_, hb⟩
      · rw [oth c (lt c m hm) e] at hc; exact ⟨p, hc⟩
    have hvt : v' = .tuple #[] := by cases hv with
      | tuple h1 h2 =>
        rename_i a a'
        obtain rfl : a' = [] := by cases a' with
          | nil => rfl
          | cons x y => rename_i heq; simp_all
        rfl
    subst hvt
    refine ⟨ρ, .tuple (a := []) (a' := []) rfl (fun i v v' h => by simp at h), ⟨fun c o m hc hm => ?_, fun c d o p m1 m2 hc hd h1 h2 he => ?_, hr.dom, hr.nx, fun c h1 h2 => ?_, hh.tab, fun c o m hc hm => ?_⟩,
      ⟨Ren.le_refl ρ, Nat.le_refl _, (fun c m h k => by rw [k] at h; cases h), fun k hk hn => keep k hk (fun e => hn b _ l hb hl e.symm), fun c hc hn => ?_, fun c hc hn => ?_, hf.size, hf.tape, hf.os, hf.output⟩⟩
    · by_cases e : c = b
      · subst e
        rw [hl] at hm; cases hm
        simp only at hc
        rw [same] at hc; cases hc
        exact ⟨o1, hw1, orel_scalar hout hor1⟩
      · simp only at hc
        rw [oth c (lt c m hm) e] at hc
        obtain ⟨p', hp1, hp2⟩ := hr.obj c o m hc hm
        refine ⟨p', ?_, hp2⟩
        rw [keep _ (Array.getElem?_eq_some_iff.1 hp1).1 (fun e' => e (hr.inj c b o _ m l hc hb hm hl e'))]; exact hp1
    · obtain ⟨p0, hp0⟩ := live c o m1 hc h1
      obtain ⟨q0, hq0⟩ := live d p m2 hd h2
      exact hr.inj c d p0 q0 m1 m2 hp0 hq0 h1 h2 he
    · have hne : c ≠ b := fun e => by subst e; have := hr.dom c l hl; simp only at h1; omega
      simp only
      rw [oth c h2 hne]; exact hr.top c h1 h2
    · obtain ⟨p0, hp0⟩ := live c o m hc hm
      exact hr.away c p0 m hp0 hm
    · have hne : c ≠ b := fun e => by subst e; rw [hl] at hn; cases hn
      exact oth c (Nat.lt_of_lt_of_le hc hr.nx) hne
    · have hne : c ≠ b := fun e => by subst e; rw [hb] at hn; cases hn
      simp only
      rw [oth c (Nat.lt_of_lt_of_le hc hr.nx) hne]; exact hn
end

/-- the first row of the table that is the one -/
noncomputable def memoFind (row : List Value) (tab : List (List Value × List Value)) : Option (List Value) :=
  List.rec (motive := fun _ => Option (List Value)) none (fun e _ ih => Bool.rec (motive := fun _ => Option (List Value)) ih (some e.2) (scalEqL row e.1)) tab
theorem memoFind_mem {row out : List Value} : ∀ {tab : List (List Value × List Value)}, memoFind row tab = some out → (row, out) ∈ tab ∧ ∀ v ∈ row, isScalar v = true
  | [], h => by cases h
  | e :: tab, h => by
    unfold memoFind at h
    simp only at h
    cases hs : scalEqL row e.1 with
    | false =>
      rw [hs] at h
      obtain ⟨h1, h2⟩ := memoFind_mem (tab := tab) h
      exact ⟨List.mem_cons_of_mem _ h1, h2⟩
    | true =>
      rw [hs] at h
      obtain ⟨h1, h2⟩ := scalEqL_eq hs
      cases h
      subst h1
      exact ⟨List.mem_cons_self .., h2⟩

/-- a function that turns one object of scalars, by a table -/
noncomputable def memoI (T : TypeId) (tab : List (List Value × List Value)) (args : List Value) (s : St) : Option (Value × St) := match args with
  | [.pointer (some ⟨b, 0, none⟩)] => match hget s.hp b with
    | some (.cells row e false) => cond (Nat.beq e T) (match memoFind row tab with
      | some out => some (.tuple #[], { s with hp := s.hp.set HD b (.cells out T false) })
      | none => none) none
    | _ => none
  | _ => none

theorem memoI_ok {P : Program} {ρ : Ren} {s : St} {w : World} {J : Jntr} (hm : P.follows .mixedOrders = true) (hg : NoGor P) (hI : IntrOk P (Jntr.I J)) {n : Nat} {g : FuncId} {T : TypeId} {tab : List (List Value × List Value)}
    (htab : ∀ e ∈ tab, (hdC P J n).call g [.pointer (some ⟨0, 0, none⟩)] (one0 e.1 T) 1 (leaves e.2 T) = true) {args : List Value} {v : Value} {s' : St}
    (h : memoI T tab args s = some (v, s')) {args' : Array Value} (hr : HRel P ρ s w) (ha : LRel ρ args args'.toList) : CallGot P ρ s w g args' v s' := by
  unfold memoI at h
  split at h
  rotate_left
  · cases h
  rename_i b
  split at h
  rotate_left
  · cases h
  rename_i row e hb
  cases he : Nat.beq e T with
  | false => rw [he] at h; cases h
  | true =>
  rw [he] at h
  simp only [cond_true] at h
  have := Nat.eq_of_beq_eq_true he
  subst this
  split at h
  rotate_left
  · cases h
  rename_i out hf
  cases h
  obtain ⟨h1, h2⟩ := memoFind_mem hf
  exact memo_ok hm hg hI h2 (htab _ h1) hb hr ha
end Go.Det
