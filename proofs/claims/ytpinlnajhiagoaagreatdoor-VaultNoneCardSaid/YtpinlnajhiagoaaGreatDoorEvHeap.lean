/-
  The evaluator's objects and the machine's heap: the relation, and what keeps it.
-/
import Derived.Test.YtpinlnajhiagoaaGreatDoorEvRel
import Derived.Lib.LaidTab
import Derived.Lib.ItoaNum
import Derived.Laws.Cells
set_option linter.unusedVariables false
set_option linter.unusedSimpArgs false
namespace Go.Det

def stateOf : Bool → Option Code → LoopState
  | true, _ => .ready
  | false, none => .busy
  | false, some _ => .done

def EntRel (ρ : Ren) (e : Ent) (e' : MapEntry) : Prop := VRel ρ e.key e'.key ∧ VRel ρ e.val e'.val ∧ e.born = e'.born

def EntsRel (ρ : Ren) (es : List Ent) (es' : List MapEntry) : Prop :=
  es.length = es'.length ∧ ∀ (i : Nat) e e', es[i]? = some e → es'[i]? = some e' → EntRel ρ e e'

def SlotRel (ρ : Ren) (tm : Tr SD Value) (tmps : Array Value) : Prop := ∀ t v, t < 16 ^ SD → tm.get SD t = some v → VRel ρ v (tmps.getD t undef)

/-- no cell is frozen (the place behind the last may be) -/
def FzOk (n : Nat) (fz : Nat × Nat) : Prop := fz.1 = fz.2 ∨ n ≤ fz.1
theorem FzOk.not {n : Nat} {fz : Nat × Nat} (h : FzOk n fz) : ∀ i, i < n → ¬(fz.1 ≤ i ∧ i < fz.2) := fun i hi ⟨h1, h2⟩ => by
  rcases h with h | h <;> omega

def ORel (P : Program) (ρ : Ren) (l : Loc) : DObj → Obj → Prop
  | .cells row e opn, o' => ∃ c fz, o' = .cells c e fz ∧ l.sh + row.length ≤ c.size ∧
      (∀ i v, row[i]? = some v → ∃ v', c[l.sh + i]? = some v' ∧ VRel ρ v v') ∧
      (∀ sz, szOf P e = some sz → l.sh + row.length + l.ex * sz ≤ c.size) ∧ FzOk c.size fz ∧ (opn = false → l.ex = 0 ∧ l.sh = 0 ∧ c.size = row.length)
  | .map es ck, o' => ∃ es' : Array MapEntry, o' = .map es' ck ∧ EntsRel ρ es es'.toList
  | .iter, o' => l.sh = 0 ∧ ∃ n, o' = .mapIter none n #[] n
  | .iterOf m, o' => l.sh = 0 ∧ ∃ lm n, ρ m = some lm ∧ o' = .mapIter (some lm.blk) n #[] n
  | .loop fn tm nt ps asg body ready pend d, o' => ∃ r : Loop, o' = .loop r ∧ SlotRel ρ tm r.tmps ∧ r.tmps.size = nt ∧ r.params.toList = ps ∧ r.assign = asg ∧ r.body = body ∧
      r.state = stateOf ready pend ∧ r.pending = pend ∧ nt ≤ 16 ^ SD ∧ (ready = true → pend = none) ∧ d = d
  | .defers, o' => o' = .deferred (some [])

/-- the listed table lies as the program's text has it -/
abbrev pow10N : String := "internal/strconv.uint64pow10"
def TabAt (P : Program) (w : World) : Prop := Lib.TabIs P w pow10N .u64 Lib.pow10Tab
theorem TabAt.lt {P : Program} {w : World} (h : TabAt P w) : ∃ g, P.globalNamed pow10N = some g ∧ g < w.heap.size := by
  unfold TabAt Lib.TabIs World.var? at h
  cases hg : P.globalNamed pow10N with
  | none => rw [hg] at h; cases h
  | some g =>
    refine ⟨g, rfl, ?_⟩
    rw [hg] at h
    simp only [Option.bind_some] at h
    rcases Nat.lt_or_ge g w.heap.size with h' | h'
    · exact h'
    · rw [Array.getElem?_eq_none h'] at h; simp at h
theorem TabAt.of {P : Program} {w w' : World} (h : TabAt P w) (hh : ∀ g, P.globalNamed pow10N = some g → w'.heap[g]? = w.heap[g]?) : TabAt P w' := by
  unfold TabAt Lib.TabIs World.var? at *
  cases hg : P.globalNamed pow10N with
  | none => rw [hg] at h; cases h
  | some g =>
    rw [hg] at h
    simp only [Option.bind_some] at h ⊢
    rw [hh g hg]; exact h

structure HRel (P : Program) (ρ : Ren) (s : St) (w : World) : Prop where
  obj : ∀ b o l, hget s.hp b = some o → ρ b = some l → ∃ o', w.heap[l.blk]? = some o' ∧ ORel P ρ l o o'
  inj : ∀ b c o p l m, hget s.hp b = some o → hget s.hp c = some p → ρ b = some l → ρ c = some m → l.blk = m.blk → b = c
  dom : ∀ b l, ρ b = some l → b < s.nx
  nx : s.nx ≤ 16 ^ HD
  top : ∀ b, s.nx ≤ b → b < 16 ^ HD → hget s.hp b = none
  tab : TabAt P w
  away : ∀ b o l, hget s.hp b = some o → ρ b = some l → P.globalNamed pow10N ≠ some l.blk

structure Fm (ρ : Ren) (s : St) (w : World) (ρ' : Ren) (s' : St) (w' : World) : Prop where
  le : ρ.le ρ'
  nx : s.nx ≤ s'.nx
  news : ∀ b l, ρ' b = some l → ρ b = none → s.nx ≤ b ∧ (w.heap.size ≤ l.blk ∨ ∃ c o m, hget s.hp c = some o ∧ ρ c = some m ∧ m.blk = l.blk)
  kept : ∀ k, k < w.heap.size → (∀ b o l, hget s.hp b = some o → ρ b = some l → l.blk ≠ k) → w'.heap[k]? = w.heap[k]?
  phan : ∀ b, b < s.nx → ρ b = none → hget s'.hp b = hget s.hp b
  dead : ∀ b, b < s.nx → hget s.hp b = none → hget s'.hp b = none
  size : w.heap.size ≤ w'.heap.size
  tape : w'.tape = w.tape
  os : w'.os = w.os
  output : w'.output = w.output

theorem EntRel.mono {ρ ρ' : Ren} (hle : ρ.le ρ') {e : Ent} {e' : MapEntry} (h : EntRel ρ e e') : EntRel ρ' e e' :=
  ⟨h.1.mono hle, h.2.1.mono hle, h.2.2⟩
theorem EntsRel.mono {ρ ρ' : Ren} (hle : ρ.le ρ') {es : List Ent} {es' : List MapEntry} (h : EntsRel ρ es es') : EntsRel ρ' es es' :=
  ⟨h.1, fun i e e' x y => (h.2 i e e' x y).mono hle⟩
theorem SlotRel.mono {ρ ρ' : Ren} (hle : ρ.le ρ') {tm : Tr SD Value} {tmps : Array Value} (h : SlotRel ρ tm tmps) : SlotRel ρ' tm tmps :=
  fun t v y x => (h t v y x).mono hle

theorem ORel.mono {P : Program} {ρ ρ' : Ren} (hle : ρ.le ρ') {l : Loc} {o : DObj} {o' : Obj} (h : ORel P ρ l o o') : ORel P ρ' l o o' := by
  cases o with
  | cells row e opn =>
    obtain ⟨c, fz, rfl, h1, h2, h3, h4, h5⟩ := h
    exact ⟨c, fz, rfl, h1, fun i v hv => let ⟨v', a, b⟩ := h2 i v hv; ⟨v', a, b.mono hle⟩, h3, h4, h5⟩
  | map es ck =>
    obtain ⟨es', rfl, h1⟩ := h
    exact ⟨es', rfl, h1.mono hle⟩
  | iter => exact h
  | iterOf m => obtain ⟨h0, lm, n, h1, h2⟩ := h; exact ⟨h0, lm, n, hle _ _ h1, h2⟩
  | loop fn tm nt ps asg body ready pend d =>
    obtain ⟨r, rfl, h2, h3⟩ := h
    exact ⟨r, rfl, h2.mono hle, h3⟩
  | defers => exact h

theorem Fm.refl (ρ : Ren) (s : St) (w : World) : Fm ρ s w ρ s w where
  le := Ren.le_refl ρ
  nx := Nat.le_refl _
  news := fun b l h k => by rw [k] at h; cases h
  kept := fun _ _ _ => rfl
  phan := fun _ _ _ => rfl
  dead := fun _ _ h => h
  size := Nat.le_refl _
  tape := rfl
  os := rfl
  output := rfl

theorem Fm.trans {P : Program} {ρ ρ1 ρ2 : Ren} {s s1 s2 : St} {w w1 w2 : World} (hr : HRel P ρ s w) (h : Fm ρ s w ρ1 s1 w1) (k : Fm ρ1 s1 w1 ρ2 s2 w2) : Fm ρ s w ρ2 s2 w2 := by
  have live : ∀ b o l, hget s1.hp b = some o → ρ b = some l → ∃ o0, hget s.hp b = some o0 := fun b o l hb hl => by
    cases hb0 : hget s.hp b with
    | some o0 => exact ⟨o0, rfl⟩
    | none => rw [h.dead b (hr.dom b l hl) hb0] at hb; cases hb
  have back : ∀ b o l, hget s1.hp b = some o → ρ1 b = some l → w.heap.size ≤ l.blk ∨ ∃ c o m, hget s.hp c = some o ∧ ρ c = some m ∧ m.blk = l.blk := fun b o l hb hl => by
    cases h0 : ρ b with
    | none => exact (h.news b l hl h0).2
    | some l0 =>
      obtain ⟨o0, ho0⟩ := live b o l0 hb h0
      have : ρ1 b = some l0 := h.le b l0 h0
      rw [this] at hl; cases hl
      exact .inr ⟨b, o0, _, ho0, h0, rfl⟩
  refine ⟨Ren.le_trans h.le k.le, Nat.le_trans h.nx k.nx, ?_, ?_, ?_, ?_, Nat.le_trans h.size k.size, k.tape.trans h.tape, k.os.trans h.os, k.output.trans h.output⟩
  · intro b l hb h0
    cases h1 : ρ1 b with
    | some l1 =>
      have : ρ2 b = some l1 := k.le b l1 h1
      rw [this] at hb; cases hb
      exact h.news b _ h1 h0
    | none =>
      obtain ⟨hn, hc⟩ := k.news b l hb h1
      refine ⟨Nat.le_trans h.nx hn, ?_⟩
      rcases hc with hc | ⟨c, o, m, ho, hm, he⟩
      · exact .inl (Nat.le_trans h.size hc)
      · rw [← he]; exact back c o m ho hm
  · intro j hj hn
    rw [k.kept j (Nat.lt_of_lt_of_le hj h.size) ?_, h.kept j hj hn]
    intro b o l hb hl he
    rcases back b o l hb hl with hc | ⟨c, o', m, ho, hm, hb'⟩
    · omega
    · exact hn c o' m ho hm (hb'.trans he)
  · intro b hb h0
    rw [k.phan b (Nat.lt_of_lt_of_le hb h.nx) ?_, h.phan b hb h0]
    cases h1 : ρ1 b with
    | none => rfl
    | some l => have := (h.news b l h1 h0).1; omega
  · intro b hb h0
    exact k.dead b (Nat.lt_of_lt_of_le hb h.nx) (h.dead b hb h0)

/-! ### Slots -/
inductive DfRel (ρ : Ren) : List Deferred → List Deferred → Prop
  | nil : DfRel ρ [] []
  | fn {f : FuncId} {cap cap' args args' : Array Value} {ds ds' : List Deferred} (hc : LRel ρ cap.toList cap'.toList) (ha : LRel ρ args.toList args'.toList) (h : DfRel ρ ds ds') :
      DfRel ρ ({ target := .fn (.func f) cap, args } :: ds) ({ target := .fn (.func f) cap', args := args' } :: ds')
  | mark {b : Nat} {l : Loc} {args args' : Array Value} {ds ds' : List Deferred} (hb : ρ b = some l) (h : DfRel ρ ds ds') :
      DfRel ρ ({ target := .collected b, args } :: ds) ({ target := .collected l.blk, args := args' } :: ds')

theorem DfRel.mono {ρ ρ' : Ren} (hle : ρ.le ρ') {ds ds' : List Deferred} (h : DfRel ρ ds ds') : DfRel ρ' ds ds' := by
  induction h with
  | nil => exact .nil
  | fn hc ha _ ih => exact .fn (hc.mono hle) (ha.mono hle) ih
  | mark hb _ ih => exact .mark (hle _ _ hb) ih

structure FRel (ρ : Ren) (fr : Fr) (a : Act) : Prop where
  slot : SlotRel ρ fr.tm a.tmps
  size : a.tmps.size = fr.nt
  nt : fr.nt ≤ 16 ^ SD
  df : DfRel ρ fr.df a.defers

theorem evOpd_sim {ρ : Ren} {fr : Fr} {a : Act} (h : SlotRel ρ fr.tm a.tmps) {x : Operand} {v : Value} (hv : evOpd fr x = some v) : VRel ρ v (a.eval x) := by
  cases x with
  | tmp t =>
    simp only [evOpd, Fr.get] at hv
    cases hb : Nat.blt t (16 ^ SD) with
    | false => rw [hb] at hv; cases hv
    | true => rw [hb] at hv; exact h t v (by simpa using hb) hv
  | const c =>
    simp only [evOpd] at hv
    cases hc : plainConst c with
    | false => simp [hc] at hv
    | true => simp [hc] at hv; subst hv; exact .of_const hc
  | global g => simp [evOpd] at hv
  | func f => simp [evOpd] at hv; subst hv; exact .mkFunc f (.nil ρ) (.nil ρ)

theorem SlotRel.put {ρ : Ren} {tm : Tr SD Value} {tmps : Array Value} {d : Nat} {v v' : Value} (h : SlotRel ρ tm tmps) (hd : d < tmps.size) (hs : tmps.size ≤ 16 ^ SD) (hv : VRel ρ v v') :
    SlotRel ρ (tm.set SD d v) (tmps.setIfInBounds d v') := by
  intro t u hlt hu
  by_cases ht : t = d
  · subst ht
    rw [Tr.get_set_same] at hu; cases hu
    simp [hd, hv]
  · rw [Tr.get_set_other SD tm d t v (by omega) hlt (fun e => ht e.symm)] at hu
    have := h t u hlt hu
    simp only [Array.getD_eq_getD_getElem?] at this ⊢
    rw [Array.getElem?_setIfInBounds_ne (fun e => ht e.symm)]; exact this

/-- a result laid into its slot -/
theorem Fr.set_sim {ρ : Ren} {fr fr' : Fr} {a : Act} (h : FRel ρ fr a) {d : Option Nat} {v v' : Value} (hs : fr.set d v = some fr') (hv : VRel ρ v v') :
    FRel ρ fr' (a.put d v') ∧ fr'.rd = fr.rd := by
  cases d with
  | none => simp [Fr.set] at hs; subst hs; exact ⟨h, rfl⟩
  | some d =>
    simp only [Fr.set] at hs
    cases hb : Nat.blt d fr.nt with
    | false => rw [hb] at hs; cases hs
    | true =>
      rw [hb] at hs
      simp at hs; subst hs
      have hd : d < fr.nt := by simpa using hb
      refine ⟨⟨h.slot.put (by rw [h.size]; exact hd) (by rw [h.size]; exact h.nt) hv, by simp [Act.put, h.size], h.nt, h.df⟩, rfl⟩

/-! ### Cells -/
section
variable {P : Program} {ρ : Ren} {s : St} {w : World}

theorem cell_of {g : Nat} {c : Array Value} {e : TypeId} {fz : Nat × Nat} (h : w.heap[g]? = some (.cells c e fz)) (o : Nat) : w.cell? ⟨g, o, none⟩ = c[o]? := by
  simp [World.cell?, h]

theorem addr_add (a : Addr) (n : Nat) (h : a.spot = none) : a.add n = ⟨a.block, a.off + n, none⟩ := by
  unfold Addr.add
  split
  · rename_i h0; subst h0; cases a; simp_all
  · cases a; simp_all

/-- cells that the evaluator reads are read by the machine -/
theorem cellsAt_sim (hr : HRel P ρ s w) {a : Addr} {n : Nat} {vs : List Value} (h : cellsAt s.hp a n = some vs) {l : Loc} (hl : ρ a.block = some l) :
    a.spot = none ∧ vs.length = n ∧ ∃ vs', LRel ρ vs vs' ∧ (∀ j v, vs'[j]? = some v → w.cell? ((⟨l.blk, l.sh + a.off, none⟩ : Addr).add j) = some v) ∧
      (∀ w1 : World, w1.heap = w.heap → (loadCells ⟨l.blk, l.sh + a.off, none⟩ n).run P w1 = .ok vs'.toArray w1) := by
  simp only [cellsAt] at h
  split at h
  rotate_left
  · cases h
  rename_i row e opn hs ho
  obtain ⟨h1, h2⟩ := ltake_some h
  rw [ldrop_eq] at h1 h2
  simp only [List.length_drop] at h1
  obtain ⟨o', hw, hor⟩ := hr.obj _ _ _ ho hl
  obtain ⟨c, fz, rfl, c1, c2, _⟩ := hor
  have hlen : vs.length = n := by rw [h2]; simp; omega
  have hc : ∀ j v, vs[j]? = some v → ∃ v', c[l.sh + a.off + j]? = some v' ∧ VRel ρ v v' := by
    intro j v hv
    have hj : j < n := by rw [← hlen]; exact (List.getElem?_eq_some_iff.1 hv).1
    rw [h2, List.getElem?_take, if_pos hj, List.getElem?_drop] at hv
    obtain ⟨v', a1, a2⟩ := c2 _ _ hv
    exact ⟨v', by rw [Nat.add_assoc]; exact a1, a2⟩
  obtain ⟨vs', hv1, hv2⟩ : ∃ vs' : List Value, LRel ρ vs vs' ∧ ∀ j v, vs'[j]? = some v → c[l.sh + a.off + j]? = some v := by
    refine ⟨(List.range n).map fun j => c.getD (l.sh + a.off + j) undef, ⟨by simp [hlen], fun i v v' x y => ?_⟩, fun j v hv => ?_⟩
    · obtain ⟨u, a1, a2⟩ := hc i v x
      simp only [List.getElem?_map] at y
      cases hr' : (List.range n)[i]? with
      | none => rw [hr'] at y; cases y
      | some k =>
        rw [hr'] at y
        have : k = i := by simpa using (List.getElem?_range (by have := (List.getElem?_eq_some_iff.1 hr').1; simpa using this)).symm.trans hr' |>.symm
        subst this
        simp [a1] at y; subst y; exact a2
    · simp only [List.getElem?_map] at hv
      cases hr' : (List.range n)[j]? with
      | none => rw [hr'] at hv; cases hv
      | some k =>
        have hj : j < n := by have := (List.getElem?_eq_some_iff.1 hr').1; simpa using this
        have : k = j := by simpa using (List.getElem?_range hj).symm.trans hr' |>.symm
        subst this
        rw [hr'] at hv
        obtain ⟨u, a1, _⟩ := hc k vs[k] (List.getElem?_eq_getElem (by omega))
        simp [a1] at hv; subst hv; exact a1
  have hcell : ∀ j v, vs'[j]? = some v → w.cell? ((⟨l.blk, l.sh + a.off, none⟩ : Addr).add j) = some v := by
    intro j v hv
    rw [addr_add _ _ rfl, cell_of hw]; exact hv2 j v hv
  refine ⟨hs, hlen, vs', hv1, hcell, fun w1 hw1 => ?_⟩
  have := run_loadCells_list (P := P) w1 ⟨l.blk, l.sh + a.off, none⟩ vs' (fun j v hv => by
    have h3 : w1.heap[l.blk]? = some (.cells c e fz) := by rw [hw1]; exact hw
    rw [addr_add _ _ rfl, cell_of h3]; exact hv2 j v hv)
  rw [show vs'.length = n by rw [← hv1.1, hlen]] at this
  exact this

theorem oneCell'_eq (v : Value) : v.oneCell' = isCell v := by cases v <;> rfl

theorem setCell_row {g o : Nat} {c : Array Value} {e : TypeId} {fz : Nat × Nat} (h : w.heap[g]? = some (.cells c e fz)) (v : Value) :
    (w.setCell ⟨g, o, none⟩ v).heap[g]? = some (.cells (c.setIfInBounds o v) e fz) := by
  simp [World.setCell, Array.getElem?_modify, h]

theorem setCell_row_other {g o k : Nat} (v : Value) (hk : k ≠ g) : (w.setCell ⟨g, o, none⟩ v).heap[k]? = w.heap[k]? := by
  simp [World.setCell, Array.getElem?_modify, Ne.symm hk]

theorem storeCells_run (P : Program) (g o : Nat) (e : TypeId) (fz : Nat × Nat) : ∀ (vs : List Value) (i : Nat) (c : Array Value) (w : World), w.heap[g]? = some (.cells c e fz) → o + i + vs.length ≤ c.size →
    (∀ k, k < c.size → ¬(fz.1 ≤ k ∧ k < fz.2)) → vs.all isCell = true →
    ∃ c' w', (storeCells ⟨g, o, none⟩ vs i).run P w = .ok () w' ∧ w'.heap[g]? = some (.cells c' e fz) ∧ c'.size = c.size ∧ (∀ j, j < vs.length → c'[o + i + j]? = vs[j]?) ∧
      (∀ j, j < o + i ∨ o + i + vs.length ≤ j → c'[j]? = c[j]?) ∧ (∀ k, k ≠ g → w'.heap[k]? = w.heap[k]?) ∧ w'.heap.size = w.heap.size ∧ w'.tape = w.tape ∧ w'.os = w.os ∧ w'.output = w.output
  | [], i, c, w, h, _, _, _ => ⟨c, w, rfl, h, rfl, fun j hj => by simp at hj, fun _ _ => rfl, fun _ _ => rfl, rfl, rfl, rfl, rfl⟩
  | v :: vs, i, c, w, h, hb, hf, ha => by
    simp only [List.all_cons, Bool.and_eq_true, List.length_cons] at ha hb
    have hlt : o + i < c.size := by omega
    have hcell : w.cell? ⟨g, o + i, none⟩ = some c[o + i] := by rw [cell_of h, Array.getElem?_eq_getElem hlt]
    have hfr : w.frozen? ⟨g, o + i, none⟩ = false := by
      have := hf (o + i) hlt
      simp only [World.frozen?, h]
      simpa using this
    have hst : (store ((⟨g, o, none⟩ : Addr).add i) v).run P w = .ok () (w.setCell ⟨g, o + i, none⟩ v) := by
      rw [addr_add _ _ rfl, run_store P w _ v .plain (by rw [oneCell'_eq]; exact ha.1)]
      simp [hcell, hfr]
    have h2 := setCell_row (o := o + i) h v
    obtain ⟨c', w', r1, r2, r3, r4, r5, r6, r7, r8, r9, r10⟩ := storeCells_run P g o e fz vs (i + 1) _ _ h2 (by simp; omega) (by simpa using hf) ha.2
    refine ⟨c', w', ?_, r2, by simpa using r3, ?_, ?_, ?_, by rw [r7]; simp [World.setCell], r8, r9, r10⟩
    · simp only [storeCells, Sem.run_bind, hst, Result.andThen_ok]; exact r1
    · intro j hj
      cases j with
      | zero =>
        rw [show o + i + 0 = o + i from rfl, r5 (o + i) (.inl (by omega))]
        simp [hlt]
      | succ j =>
        have := r4 j (by simp at hj; omega)
        rw [show o + i + (j + 1) = o + (i + 1) + j from by omega, this]; simp
    · intro j hj
      simp only [List.length_cons] at hj
      rw [r5 j (by omega), Array.getElem?_setIfInBounds_ne (by omega)]
    · intro k hk
      rw [r6 k hk, setCell_row_other v hk]
end

end Go.Det
