/-
  A region whose order is drawn: whatever the order, the machine comes to what the evaluator says.
-/
import Derived.Test.YtpinlnajhiagoaaGreatDoorEvOper
set_option linter.unusedVariables false
set_option linter.unusedSimpArgs false
section
namespace Go.Det
open Go

/-! ### The same value -/
theorem veqs_true : ∀ {xs ys : List Value}, veqs xs ys = some true → xs = ys
  | [], [], _ => rfl
  | [], _ :: _, h => by simp [veqs] at h
  | _ :: _, [], h => by simp [veqs] at h
  | x :: xs, y :: ys, h => by
    simp only [veqs] at h
    split at h
    · rename_i hv
      rw [(veq_inv hv).2.2.1 rfl, veqs_true h]
    · cases h
    · cases h

theorem veq_true {x y : Value} (h : (match veq x y with | some true => true | _ => false) = true) : x = y := by
  split at h
  · rename_i hv; exact (veq_inv hv).2.2.1 rfl
  · cases h

theorem sameC_eq {x y : Value} (h : sameVal.sameC x y = true) : x = y := by
  unfold sameVal.sameC at h
  split at h
  · simpa using h
  · simp only [Bool.and_eq_true, decide_eq_true_eq] at h
    rw [h.1.1, Nat.eq_of_beq_eq_true h.1.2, Nat.eq_of_beq_eq_true h.2]
  · simpa using h
  · exact veq_true h

theorem sameL_eq : ∀ {xs ys : List Value}, sameVal.sameL xs ys = true → xs = ys
  | [], [], _ => rfl
  | [], _ :: _, h => by simp [sameVal.sameL] at h
  | _ :: _, [], h => by simp [sameVal.sameL] at h
  | x :: xs, y :: ys, h => by
    simp only [sameVal.sameL, Bool.and_eq_true] at h
    rw [sameC_eq h.1, sameL_eq h.2]

theorem sameVal_eq {x y : Value} (h : sameVal x y = true) : x = y := by
  unfold sameVal at h
  split at h
  · simpa using h
  · simp only [Bool.and_eq_true, decide_eq_true_eq] at h
    rw [h.1.1, Nat.eq_of_beq_eq_true h.1.2, Nat.eq_of_beq_eq_true h.2]
  · simpa using h
  · rename_i a b
    have := sameL_eq h
    rw [show a = b from Array.toList_inj.1 this]
  · rename_i a b
    have := sameL_eq h
    rw [show a = b from Array.toList_inj.1 this]
  · rfl
  · rfl
  · exact veq_true h

/-! ### No writer -/
theorem evEff_nw {P : Program} {ρ : Operand → Option Value} {s : St} {o : Op} (h : isWriter o = false) : evEff P ρ s o = none := by
  cases o with
  | call c =>
    obtain ⟨callee, args, ats⟩ := c
    cases callee with
    | builtin b => cases b <;> first | rfl | (simp [isWriter] at h)
    | _ => simp [isWriter] at h
  | convert a b x =>
    simp only [isWriter] at h
    simp only [evEff, h, cond_false]
  | _ => first | rfl | (simp [isWriter] at h)

theorem evNew_evVal {P : Program} {ρ : Operand → Option Value} {h : Heap} {o : Op} {r : DObj × (Nat → Value)} (hn : evNew P ρ o = some r) : evVal P ρ h o = none := by
  cases o with
  | convert a b x =>
    simp only [evNew] at hn
    split at hn
    · rename_i e s h1 h2 h3
      simp only [evVal, h3, dConvert, h1, h2]
    · cases hn
  | _ => first | rfl | (simp [evNew] at hn)

theorem evOper_nw {P : Program} {rec : Rec} {I : Intr} {fr fr' : Fr} {s s' : St} {o : Oper} {v : Value} (h : evOper ⟨P, I⟩ rec fr s o = some (v, fr', s')) (hw : isWriter o.op = false) :
    fr' = fr ∧ ((evVal P (evOpd fr) s.hp o.op = some v ∧ s' = s) ∨ ∃ obj f b, evNew P (evOpd fr) o.op = some (obj, f) ∧ s.new obj = some (b, s') ∧ v = f b) := by
  unfold evOper at h
  split at h
  · rename_i c hc; rw [hc] at hw; simp [isWriter] at hw
  · rename_i c hc
    split at h
    · rename_i b hb
      have hw' : isWriter (.call c) = false := by rw [← hc]; exact hw
      rw [hc, evEff_nw hw'] at h
      simp only [Option.map_eq_some_iff, Prod.mk.injEq] at h
      obtain ⟨v1, he, rfl, rfl, rfl⟩ := h
      exact ⟨rfl, .inl ⟨by rw [hc]; exact he, rfl⟩⟩
    · rename_i hnb
      rw [hc] at hw
      obtain ⟨callee, args, ats⟩ := c
      cases callee with
      | builtin b => exact absurd rfl (hnb b)
      | _ => simp [isWriter] at hw
  · split at h
    · rename_i v1 he
      cases h
      exact ⟨rfl, .inl ⟨he, rfl⟩⟩
    · split at h
      · rename_i obj f he
        split at h
        rotate_left
        · cases h
        rename_i b s1 hnew
        cases h
        exact ⟨rfl, .inr ⟨obj, f, b, he, hnew, rfl⟩⟩
      · rw [evEff_nw hw] at h
        cases h

/-! ### What is pending -/
section
variable {P : Program} {rec : Rec} {I : Intr}

def Pend (P : Program) (L : List Oper) (fr : Fr) (s : St) (ρ : Ren) (ph : Nat → Option Nat) (r : Rop) : Prop :=
  (wanted L fr r.o = some false ∧ ∀ d, r.o.dst = some d → fr.get d = some undef) ∨
  (wanted L fr r.o = some true ∧ ∃ v, (∀ d, r.o.dst = some d → fr.get d = some v) ∧
    (evVal P (evOpd fr) s.hp r.o.op = some v ∨ ∃ obj f b, evNew P (evOpd fr) r.o.op = some (obj, f) ∧ ph r.i = some b ∧ ρ b = none ∧ b < s.nx ∧ hget s.hp b = some obj ∧ v = f b))

structure Inv (P : Program) (ops : Array Oper) (ρ0 : Ren) (s0 : St) (w0 : World) (A B : List Rop) (fr : Fr) (s : St) (listed : Array Bool) (a : Act) (w : World) (ρ : Ren) (ph : Nat → Option Nat) : Prop where
  hr : HRel P ρ s w
  fm : Fm ρ0 s0 w0 ρ s w
  sz : a.tmps.size = fr.nt
  nt : fr.nt ≤ 16 ^ SD
  df : DfRel ρ fr.df a.defers
  memr : ∀ r ∈ A ++ B, r ∈ rops ops.toList
  left : Left ops.toList.length A B
  all : ∀ k, k < ops.size → ∃ r ∈ A ++ B, r.i = k
  lsz : listed.size = ops.size
  lA : ∀ i, listed.getD i false = true → ∃ r ∈ A, r.i = i
  wA : ∀ r ∈ A, isWriter r.o.op = true → listed.getD r.i false = true
  down : ∀ r ∈ A, listed.getD r.i false = true → ∀ k, r.anc.testBit k = true → listed.getD k false = true
  ord : ∀ A1 r A2, A = A1 ++ r :: A2 → ∀ k, r.anc.testBit k = true → ∃ x ∈ A1, x.i = k
  slot : ∀ t v, t < 16 ^ SD → fr.tm.get SD t = some v → (∀ r ∈ A, listed.getD r.i false = false → r.o.dst ≠ some t) → VRel ρ v (a.tmps.getD t undef)
  pend : ∀ r ∈ A, listed.getD r.i false = false → Pend P ops.toList fr s ρ ph r
  dlt : ∀ r ∈ A, ∀ d, r.o.dst = some d → d < fr.nt
  phlt : ∀ i b, ph i = some b → s0.nx ≤ b ∧ b < s.nx
  phinj : ∀ i j b, ph i = some b → ph j = some b → i = j

theorem Inv.anc {ops : Array Oper} {ρ0 : Ren} {s0 : St} {w0 : World} {A B : List Rop} {fr : Fr} {s : St} {listed : Array Bool} {a : Act} {w : World} {ρ : Ren} {ph : Nat → Option Nat}
    (h : Inv P ops ρ0 s0 w0 A B fr s listed a w ρ ph) {r : Rop} (hr : r ∈ A) (k : Nat) (hk : r.anc.testBit k = true) : ∃ x ∈ A, x.i = k := by
  obtain ⟨A1, A2, e⟩ := List.append_of_mem hr
  obtain ⟨x, hx, he⟩ := h.ord A1 r A2 e k hk
  exact ⟨x, by rw [e]; simp [hx], he⟩

/-- what is looked at by the one is not where another lays its result, that the one is not behind of -/
theorem wanted_same {L : List Oper} {fr fr' : Fr} {o : Oper} (h : ∀ t ∈ looks L o, fr'.get t = fr.get t) : wanted L fr' o = wanted L fr o := by
  unfold wanted
  cases hg : o.guard with
  | none => rfl
  | some jw =>
    obtain ⟨j, want⟩ := jw
    simp only
    cases ht : (lget L j).bind (·.dst) with
    | none => rfl
    | some t =>
      have hl : t ∈ looks L o := by
        refine List.mem_append_right _ ?_
        rw [hg]
        simp only [ht]
        simp
      simp only [h t hl]

theorem opd_same {L : List Oper} {fr fr' : Fr} {o : Oper} (h : ∀ t ∈ looks L o, fr'.get t = fr.get t) : ∀ x ∈ o.op.operands, evOpd fr' x = evOpd fr x := by
  intro x hx
  cases x with
  | tmp t => exact h t (looks_opd hx)
  | _ => rfl

theorem get_set_ne {fr fr' : Fr} {d : Option Nat} {v : Value} (hnt : fr.nt ≤ 16 ^ SD) (hs : (d = none ∧ fr'.tm = fr.tm) ∨ ∃ t, d = some t ∧ t < fr.nt ∧ fr'.tm = fr.tm.set SD t v) {t : Nat} (h : d ≠ some t) : fr'.get t = fr.get t := by
  unfold Fr.get
  rcases hs with ⟨_, e⟩ | ⟨u, rfl, hu, e⟩
  · rw [e]
  · cases hb : Nat.blt t (16 ^ SD) with
    | false => rfl
    | true =>
      have : t < 16 ^ SD := by simpa using hb
      simp only [cond_true]
      rw [e, Tr.get_set_other SD _ _ _ _ (by omega) this (fun e => h (by rw [e]))]

theorem get_set_eq {fr fr' : Fr} {d : Nat} {v : Value} (hnt : fr.nt ≤ 16 ^ SD) (hs : (some d = none ∧ fr'.tm = fr.tm) ∨ ∃ t, some d = some t ∧ t < fr.nt ∧ fr'.tm = fr.tm.set SD t v) : fr'.get d = some v := by
  rcases hs with ⟨h, _⟩ | ⟨u, h, hu, e⟩
  · cases h
  · cases h
    unfold Fr.get
    have : Nat.blt d (16 ^ SD) = true := by simp; omega
    rw [this, e, cond_true]; exact Tr.get_set_same _ _ _ _

/-- the evaluator goes ahead with what is no writer -/
theorem Inv.advance {ops : Array Oper} {st : List Rop} (hst : slotsOk ops.toList (rops ops.toList) = true) {ρ0 : Ren} {s0 : St} {w0 : World} {A B : List Rop} {r : Rop} {fr fr' : Fr} {s s' : St} {listed : Array Bool} {a : Act} {w : World} {ρ : Ren} {ph : Nat → Option Nat}
    (h : Inv P ops ρ0 s0 w0 A (r :: B) fr s listed a w ρ ph) (hw : isWriter r.o.op = false) (hs : evStep ⟨P, I⟩ rec ops.toList fr s r.o = some (fr', s')) :
    fr'.rd = fr.rd ∧ fr'.nt = fr.nt ∧ ∃ ph', Inv P ops ρ0 s0 w0 (A ++ [r]) B fr' s' listed a w ρ ph' := by
  obtain ⟨l1, l2, l3, _, _⟩ := h.left.cons
  have hrr : r ∈ rops ops.toList := h.memr r (by simp)
  have hnl : listed.getD r.i false = false := by
    cases hq : listed.getD r.i false with
    | false => rfl
    | true =>
      obtain ⟨x, hx, he⟩ := h.lA _ hq
      exact absurd he (l2 x hx)
  -- what the step comes to
  obtain ⟨v, e1, e2, e3, e4, e5⟩ : ∃ v, fr'.rd = fr.rd ∧ fr'.nt = fr.nt ∧ fr'.df = fr.df ∧ ((r.o.dst = none ∧ fr'.tm = fr.tm) ∨ ∃ t, r.o.dst = some t ∧ t < fr.nt ∧ fr'.tm = fr.tm.set SD t v) ∧
      ((wanted ops.toList fr r.o = some false ∧ v = undef ∧ s' = s) ∨ (wanted ops.toList fr r.o = some true ∧ ((evVal P (evOpd fr) s.hp r.o.op = some v ∧ s' = s) ∨ ∃ obj f b, evNew P (evOpd fr) r.o.op = some (obj, f) ∧ s.new obj = some (b, s') ∧ v = f b))) := by
    rcases evStep_inv hs with ⟨v, fr1, hwt, he, hset⟩ | ⟨hwt, rfl, hset⟩
    · obtain ⟨rfl, hk⟩ := evOper_nw he hw
      obtain ⟨s1, s2, s3, s4⟩ := Fr.set_inv hset
      exact ⟨v, s1, s2, s3, s4, .inr ⟨hwt, hk⟩⟩
    · obtain ⟨s1, s2, s3, s4⟩ := Fr.set_inv hset
      exact ⟨undef, s1, s2, s3, s4, .inl ⟨hwt, rfl, rfl⟩⟩
  -- no one of those before, nor itself, looks at where it lays its result
  have apart : ∀ x ∈ A ++ [r], ∀ t ∈ looks ops.toList x.o, r.o.dst ≠ some t := by
    intro x hx t ht hd
    have hxr : x ∈ rops ops.toList := h.memr x (by simp at hx ⊢; rcases hx with hx | rfl <;> simp [*])
    obtain ⟨q1, q2⟩ := slots_spec hst hrr hxr hd
    simp only [List.mem_append, List.mem_singleton] at hx
    rcases hx with hx | rfl
    · have hne : r.i ≠ x.i := fun e => l2 x hx e.symm
      rcases (q2 hne).2 ht with hb | ⟨hb, _⟩
      · obtain ⟨y, hy, he⟩ := h.anc hx r.i hb
        exact l2 y hy he
      · rw [hw] at hb; cases hb
    · rcases q1 with hb | hb
      · rw [hw] at hb; cases hb
      · exact hb ht
  have dsts : ∀ x ∈ A, ∀ t, x.o.dst = some t → r.o.dst ≠ some t := by
    intro x hx t ht hd
    have hne : r.i ≠ x.i := fun e => l2 x hx e.symm
    exact ((slots_spec hst hrr (h.memr x (by simp [hx])) hd).2 hne).1 ht
  have same : ∀ x ∈ A ++ [r], ∀ t ∈ looks ops.toList x.o, fr'.get t = fr.get t := fun x hx t ht => get_set_ne h.nt e4 (apart x hx t ht)
  -- the evaluator's objects
  obtain ⟨g1, g2, g3, g4, g5⟩ : Heap.sub s.hp s'.hp ∧ HRel P ρ s' w ∧ Fm ρ0 s0 w0 ρ s' w ∧ s.nx ≤ s'.nx ∧ (∀ b, b < s.nx → hget s'.hp b = hget s.hp b) := by
    have keep : s' = s → Heap.sub s.hp s'.hp ∧ HRel P ρ s' w ∧ Fm ρ0 s0 w0 ρ s' w ∧ s.nx ≤ s'.nx ∧ (∀ b, b < s.nx → hget s'.hp b = hget s.hp b) := fun e => by
      subst e; exact ⟨Heap.sub_refl _, h.hr, h.fm, Nat.le_refl _, fun _ _ => rfl⟩
    rcases e5 with ⟨_, _, hs'⟩ | ⟨_, ⟨_, hs'⟩ | ⟨obj, f, b, _, hnew, _⟩⟩
    · exact keep hs'
    · exact keep hs'
    · have hsub := St.new_sub hnew (h.hr.top _ (Nat.le_refl _) (St.new_inv hnew).2.2)
      obtain ⟨rfl, rfl, hn⟩ := St.new_inv hnew
      have oth : ∀ b, b < s.nx → hget (s.hp.set HD s.nx obj) b = hget s.hp b := fun b hb => Tr.get_set_other HD _ _ _ _ hn (by omega) (by omega)
      refine ⟨hsub, ⟨fun c o l hc hl => ?_, fun c d o p l m hc hd hl hm he => ?_, fun c l hl => Nat.lt_succ_of_lt (h.hr.dom c l hl), hn, fun c hc hlt => ?_, h.hr.tab, fun c o l hc hl => h.hr.away c o l (by have hc' := hc; simp only at hc'; rw [oth c (h.hr.dom c l hl)] at hc'; exact hc') hl⟩, ⟨h.fm.le, Nat.le_succ_of_le h.fm.nx, h.fm.news, h.fm.kept, fun c hc hn' => ?_, fun c hc hn' => ?_, h.fm.size, h.fm.tape, h.fm.os, h.fm.output⟩, Nat.le_succ _, oth⟩
      · simp only at hc
        rw [oth c (h.hr.dom c l hl)] at hc
        exact h.hr.obj c o l hc hl
      · simp only at hc hd
        rw [oth c (h.hr.dom c l hl)] at hc
        rw [oth d (h.hr.dom d m hm)] at hd
        exact h.hr.inj c d o p l m hc hd hl hm he
      · simp only at hc ⊢
        exact (Tr.get_set_other HD _ _ _ _ hn hlt (by omega)).trans (h.hr.top c (by omega) hlt)
      · have := h.fm.nx
        simp only
        rw [oth c (by omega)]; exact h.fm.phan c hc hn'
      · have := h.fm.nx
        simp only
        rw [oth c (by omega)]; exact h.fm.dead c hc hn'
  -- those that were pending
  have old : ∀ ph', (∀ i b, ph i = some b → i ≠ r.i → ph' i = some b) → ∀ x ∈ A, listed.getD x.i false = false → Pend P ops.toList fr' s' ρ ph' x := by
    intro ph' hph x hx hl
    have hop := opd_same (same x (by simp [hx]))
    have hwn := wanted_same (same x (by simp [hx]))
    have hd : ∀ d, x.o.dst = some d → fr'.get d = fr.get d := fun d hd => get_set_ne h.nt e4 (dsts x hx d hd)
    rcases h.pend x hx hl with ⟨p1, p2⟩ | ⟨p1, u, p2, p3⟩
    · exact .inl ⟨hwn.trans p1, fun d hdd => (hd d hdd).trans (p2 d hdd)⟩
    · refine .inr ⟨hwn.trans p1, u, fun d hdd => (hd d hdd).trans (p2 d hdd), ?_⟩
      rcases p3 with p3 | ⟨obj, f, b, p3, p4, p5, p6, p7, p8⟩
      · exact .inl (by rw [evVal_congr hop]; exact evVal_sub g1 p3)
      · exact .inr ⟨obj, f, b, by rw [evNew_congr hop]; exact p3, hph _ _ p4 (fun e => l2 x hx e), p5, by omega, by rw [g5 b p6]; exact p7, p8⟩
  have hopr := opd_same (same r (by simp))
  have hwnr := wanted_same (same r (by simp))
  have hdr : ∀ d, r.o.dst = some d → fr'.get d = some v := fun d hd => get_set_eq h.nt (by rw [← hd]; exact e4)
  -- the invariant, but for the pending
  have mk : ∀ ph', (∀ x ∈ A ++ [r], listed.getD x.i false = false → Pend P ops.toList fr' s' ρ ph' x) → (∀ i b, ph' i = some b → s0.nx ≤ b ∧ b < s'.nx) → (∀ i j b, ph' i = some b → ph' j = some b → i = j) → Inv P ops ρ0 s0 w0 (A ++ [r]) B fr' s' listed a w ρ ph' := by
    intro ph' hp hlt hinj
    refine ⟨g2, g3, by rw [e2]; exact h.sz, by rw [e2]; exact h.nt, by rw [e3]; exact h.df, fun x hx => h.memr x (by simpa using hx), l1, fun k hk => by simpa using h.all k hk, h.lsz, ?_, ?_, ?_, ?_, ?_, hp, ?_, hlt, hinj⟩
    · intro i hi
      obtain ⟨x, hx, he⟩ := h.lA i hi
      exact ⟨x, by simp [hx], he⟩
    · intro x hx hxw
      simp only [List.mem_append, List.mem_singleton] at hx
      rcases hx with hx | rfl
      · exact h.wA x hx hxw
      · rw [hw] at hxw; cases hxw
    · intro x hx hxl
      simp only [List.mem_append, List.mem_singleton] at hx
      rcases hx with hx | rfl
      · exact h.down x hx hxl
      · rw [hnl] at hxl; cases hxl
    · intro A1 x A2 he k hk
      rcases List.eq_nil_or_concat A2 with rfl | ⟨A2', y, rfl⟩
      · have := List.append_inj' he rfl
        obtain ⟨rfl, hx⟩ := this
        cases hx
        exact l3 k hk
      · have he' : A ++ [r] = (A1 ++ x :: A2') ++ [y] := by simpa using he
        obtain ⟨he1, _⟩ := List.append_inj' he' rfl
        exact h.ord A1 x A2' he1 k hk
    · intro t u ht hu hex
      have hne : r.o.dst ≠ some t := hex r (by simp) hnl
      have : fr.tm.get SD t = some u := by
        rcases e4 with ⟨_, e⟩ | ⟨d, hd, hlt, e⟩
        · rw [← e]; exact hu
        · have := h.nt
          rw [e, Tr.get_set_other SD _ _ _ _ (Nat.lt_of_lt_of_le hlt this) ht (fun e => hne (by rw [hd, e]))] at hu
          exact hu
      exact h.slot t u ht this (fun x hx hl => hex x (by simp [hx]) hl)
    · intro x hx d hd
      rw [e2]
      simp only [List.mem_append, List.mem_singleton] at hx
      rcases hx with hx | rfl
      · exact h.dlt x hx d hd
      · rcases e4 with ⟨e, _⟩ | ⟨t, e, hlt, _⟩
        · rw [e] at hd; cases hd
        · rw [e] at hd; cases hd; exact hlt
  refine ⟨e1, e2, ?_⟩
  rcases e5 with ⟨hwt, rfl, rfl⟩ | ⟨hwt, ⟨hv, rfl⟩ | ⟨obj, f, b, hn, hnew, rfl⟩⟩
  · refine ⟨ph, mk ph (fun x hx hl => ?_) h.phlt h.phinj⟩
    simp only [List.mem_append, List.mem_singleton] at hx
    rcases hx with hx | rfl
    · exact old ph (fun i b hb _ => hb) x hx hl
    · exact .inl ⟨hwnr.trans hwt, hdr⟩
  · refine ⟨ph, mk ph (fun x hx hl => ?_) h.phlt h.phinj⟩
    simp only [List.mem_append, List.mem_singleton] at hx
    rcases hx with hx | rfl
    · exact old ph (fun i b hb _ => hb) x hx hl
    · exact .inr ⟨hwnr.trans hwt, v, hdr, .inl (by rw [evVal_congr hopr]; exact hv)⟩
  · obtain ⟨rfl, rfl, hlt⟩ := St.new_inv hnew
    refine ⟨fun i => if i = r.i then some s.nx else ph i, mk _ (fun x hx hl => ?_) (fun i b hb => ?_) (fun i j b hi hj => ?_)⟩
    · simp only [List.mem_append, List.mem_singleton] at hx
      rcases hx with hx | rfl
      · exact old _ (fun i b hb hne => by simp only [if_neg hne]; exact hb) x hx hl
      · refine .inr ⟨hwnr.trans hwt, _, hdr, .inr ⟨obj, f, s.nx, by rw [evNew_congr hopr]; exact hn, by simp, h.hr.fresh, Nat.lt_succ_self _, Tr.get_set_same HD _ _ _, rfl⟩⟩
    · split at hb
      · cases hb; exact ⟨h.fm.nx, Nat.lt_succ_self _⟩
      · have := h.phlt i b hb; exact ⟨this.1, by omega⟩
    · split at hi <;> split at hj
      · rename_i h1 h2; rw [h1, h2]
      · cases hi; have := (h.phlt j s.nx hj).2; omega
      · cases hj; have := (h.phlt i s.nx hi).2; omega
      · exact h.phinj i j b hi hj
end
end Go.Det
end
section
namespace Go.Det
open Go

section
variable {P : Program} {rec : Rec} {I : Intr}
variable {ops : Array Oper} {ρ0 : Ren} {s0 : St} {w0 : World} {A B : List Rop} {fr fr' : Fr} {s s' : St} {listed : Array Bool} {a : Act} {w : World} {ρ : Ren} {ph : Nat → Option Nat}

theorem listed_set {listed : Array Bool} {i k : Nat} (hi : i < listed.size) : (listed.setIfInBounds i true).getD k false = (decide (k = i) || listed.getD k false) := by
  simp only [Array.getD_eq_getD_getElem?]
  by_cases h : k = i
  · subst h; simp [hi]
  · rw [Array.getElem?_setIfInBounds_ne (fun e => h e.symm)]; simp [h]

theorem put_ne {a : Act} {d : Option Nat} {v : Value} {t : Nat} (h : d ≠ some t) : (a.put d v).tmps.getD t undef = a.tmps.getD t undef := by
  cases d with
  | none => rfl
  | some d =>
    simp only [Act.put, Array.getD_eq_getD_getElem?]
    rw [Array.getElem?_setIfInBounds_ne (fun e => h (by rw [e]))]

theorem put_eq {a : Act} {d : Nat} {v : Value} (h : d < a.tmps.size) : (a.put (some d) v).tmps.getD d undef = v := by
  simp [Act.put, Array.getD_eq_getD_getElem?, h]

/-- what a slot that is pending is not looked at by one whose forerunners are all taken -/
theorem Inv.looks (hst : slotsOk ops.toList (rops ops.toList) = true) (h : Inv P ops ρ0 s0 w0 A B fr s listed a w ρ ph) {r : Rop} (hr : r ∈ rops ops.toList) (hall : ∀ k, r.anc.testBit k = true → listed.getD k false = true)
    (hself : r ∈ A → isWriter r.o.op = false) : Looks ρ ops.toList fr a r.o := by
  intro t v ht hv
  have hlt : t < 16 ^ SD := by
    unfold Fr.get at hv
    cases hb : Nat.blt t (16 ^ SD) with
    | false => rw [hb] at hv; cases hv
    | true => simpa using hb
  have hg : fr.tm.get SD t = some v := by
    unfold Fr.get at hv
    have : Nat.blt t (16 ^ SD) = true := by simpa using hlt
    rw [this] at hv; exact hv
  refine h.slot t v hlt hg fun x hx hl hd => ?_
  have hxr := h.memr x (by simp [hx])
  have hxw : isWriter x.o.op = false := by
    cases hq : isWriter x.o.op with
    | false => rfl
    | true => have := h.wA x hx hq; rw [hl] at this; cases this
  obtain ⟨q1, q2⟩ := slots_spec hst hxr hr hd
  by_cases e : x.i = r.i
  · have : x = r := rops_eq hxr hr e
    subst this
    rcases q1 with q | q
    · rw [hxw] at q; cases q
    · exact q ht
  · rcases (q2 e).2 ht with q | ⟨q, _⟩
    · have := hall _ q; rw [hl] at this; cases this
    · rw [hxw] at q; cases q

/-- all that must be ahead of one that is ready is taken -/
theorem Inv.ready (h : Inv P ops ρ0 s0 w0 A B fr s listed a w ρ ph) {r : Rop} (hr : r ∈ rops ops.toList) (hi : r.i ∈ Region.ready .any ops listed) : (∀ k, r.anc.testBit k = true → listed.getD k false = true) ∧ listed.getD r.i false = false ∧ r.i < listed.size := by
  obtain ⟨h0, o, ho, hall⟩ := mem_ready.1 hi
  have hro := (rops_op hr).1
  rw [Array.getElem?_toList, ho] at hro
  cases hro
  have hlt : r.i < listed.size := by rw [h.lsz]; exact (Array.getElem?_eq_some_iff.1 ho).1
  refine ⟨fun k hk => ?_, ?_, hlt⟩
  · obtain ⟨e, he, hb, hk⟩ := rops_anc hr k hk
    have hon := hall e he hb
    rcases hk with rfl | ⟨r', h1, h2, h3⟩
    · exact hon
    · obtain ⟨x, hx, hxi⟩ := h.lA _ hon
      have : x = r' := rops_eq (h.memr x (by simp [hx])) h1 (hxi.trans h2.symm)
      subst this
      exact h.down x hx (by rw [hxi]; exact hon) k h3
  · rw [Array.getD_eq_getD_getElem?] at h0 ⊢
    rw [Array.getElem?_eq_getElem hlt] at h0 ⊢
    exact h0

theorem getElem_ops {r : Rop} (hr : r ∈ rops ops.toList) : ops[r.i]? = some r.o := by
  have := (rops_op hr).1
  rwa [Array.getElem?_toList] at this

/-- one that was pending is made: an object of the evaluator's comes to be in the machine's heap -/
theorem HRel.born (hr : HRel P ρ s w) {b : Nat} {obj : DObj} (hb : hget s.hp b = some obj) (hn : ρ b = none) (hlt : b < s.nx) {f : Nat → Value} {m : Sem Next} {o' : Obj} {ex : Nat} {v' : Value} {w' : World} (hm : Made P ρ w obj f m o' ex v' w') :
    HRel P (ρ.ext b ⟨w.heap.size, 0, ex⟩) s w' := by
  have hle := ρ.le_ext ⟨w.heap.size, 0, ex⟩ hn
  have blk : ∀ c o l, hget s.hp c = some o → ρ c = some l → l.blk < w.heap.size := fun c o l hc hl => by
    obtain ⟨p, hp, _⟩ := hr.obj c o l hc hl
    exact (Array.getElem?_eq_some_iff.1 hp).1
  refine ⟨fun c o l hc hl => ?_, fun c d o p l m hc hd hl hm' he => ?_, fun c l hl => ?_, hr.nx, hr.top, ?_, fun c o l hc hl => ?_⟩
  · by_cases e : c = b
    · subst e
      rw [Ren.ext_same] at hl; cases hl
      rw [hb] at hc; cases hc
      exact ⟨o', by rw [hm.heap]; simp, hm.orel _ hn⟩
    · rw [Ren.ext_other _ _ e] at hl
      obtain ⟨p, h1, h2⟩ := hr.obj c o l hc hl
      refine ⟨p, ?_, h2.mono hle⟩
      rw [hm.heap, Array.getElem?_push, if_neg (by have := blk c o l hc hl; omega)]; exact h1
  · by_cases e : c = b <;> by_cases e' : d = b
    · rw [e, e']
    · subst e
      rw [Ren.ext_same] at hl; cases hl
      rw [Ren.ext_other _ _ e'] at hm'
      have := blk d p m hd hm'
      simp only at he; omega
    · subst e'
      rw [Ren.ext_same] at hm'; cases hm'
      rw [Ren.ext_other _ _ e] at hl
      have := blk c o l hc hl
      simp only at he; omega
    · rw [Ren.ext_other _ _ e] at hl
      rw [Ren.ext_other _ _ e'] at hm'
      exact hr.inj c d o p l m hc hd hl hm' he
  · by_cases e : c = b
    · subst e; exact hlt
    · rw [Ren.ext_other _ _ e] at hl; exact hr.dom c l hl
  · refine hr.tab.of fun g hg => ?_
    obtain ⟨g', hg', hlt⟩ := hr.tab.lt
    rw [hg] at hg'; cases hg'
    rw [hm.heap, Array.getElem?_push, if_neg (by omega)]
  · by_cases e : c = b
    · subst e
      rw [Ren.ext_same] at hl; cases hl
      obtain ⟨g', hg', hlt⟩ := hr.tab.lt
      intro hh
      rw [hg'] at hh; cases hh
      simp only at hlt; omega
    · rw [Ren.ext_other _ _ e] at hl
      exact hr.away c o l hc hl

/-- the machine takes one that is pending -/
theorem Inv.take (hst : slotsOk ops.toList (rops ops.toList) = true) (h : Inv P ops ρ0 s0 w0 A B fr s listed a w ρ ph) {r : Rop} (hA : r ∈ A) (hi : r.i ∈ Region.ready .any ops listed) {ro : Option Nat} {n : Nat} {Q : Exit → Act → World → Prop} {K : Act → World → Prop}
    (hK : ∀ a' w' ρ', Inv P ops ρ0 s0 w0 A B fr s (listed.setIfInBounds r.i true) a' w' ρ' ph → K a' w') : wpOpIn (FAt ro) n P ops Q r.i K a w := by
  have hr := h.memr r (by simp [hA])
  obtain ⟨hall, hl, hlt⟩ := h.ready hr hi
  have hw : isWriter r.o.op = false := by
    cases hq : isWriter r.o.op with
    | false => rfl
    | true => have := h.wA r hA hq; rw [hl] at this; cases this
  have hlk := h.looks hst hr hall (fun _ => hw)
  -- what is listed now
  have hset : ∀ k, (listed.setIfInBounds r.i true).getD k false = (decide (k = r.i) || listed.getD k false) := fun k => listed_set hlt
  have was : ∀ x : Rop, (listed.setIfInBounds r.i true).getD x.i false = false → x.i ≠ r.i ∧ listed.getD x.i false = false := by
    intro x hx
    rw [hset] at hx
    simpa using hx
  have dsts : ∀ x ∈ A, x.i ≠ r.i → ∀ t, r.o.dst = some t → x.o.dst ≠ some t := fun x hx hne t ht => ((slots_spec hst hr (h.memr x (by simp [hx])) ht).2 (Ne.symm hne)).1
  -- the invariant behind it
  have mk : ∀ v v' ρ' w', ρ.le ρ' → HRel P ρ' s w' → Fm ρ0 s0 w0 ρ' s w' → VRel ρ' v v' → (∀ d, r.o.dst = some d → fr.get d = some v) → (∀ x ∈ A, x.i ≠ r.i → ∀ b, ph x.i = some b → ρ b = none → ρ' b = none) →
      Inv P ops ρ0 s0 w0 A B fr s (listed.setIfInBounds r.i true) (a.put r.o.dst v') w' ρ' ph := by
    intro v v' ρ' w' hle h1 h2 hv hd hph
    refine ⟨h1, h2, ?_, h.nt, ?_, h.memr, h.left, h.all, by simp [h.lsz], ?_, ?_, ?_, h.ord, ?_, ?_, h.dlt, h.phlt, h.phinj⟩
    · rw [← h.sz]; cases r.o.dst <;> simp [Act.put]
    · have : (a.put r.o.dst v').defers = a.defers := by cases r.o.dst <;> rfl
      rw [this]; exact h.df.mono hle
    · intro i hi
      rw [hset] at hi
      simp only [Bool.or_eq_true, decide_eq_true_eq] at hi
      rcases hi with rfl | hi
      · exact ⟨r, hA, rfl⟩
      · exact h.lA i hi
    · intro x hx hxw
      rw [hset, h.wA x hx hxw]; simp
    · intro x hx hxl k hk
      rw [hset] at hxl ⊢
      simp only [Bool.or_eq_true, decide_eq_true_eq] at hxl ⊢
      rcases hxl with e | hxl
      · have : x = r := rops_eq (h.memr x (by simp [hx])) hr e
        subst this
        exact .inr (hall k hk)
      · exact .inr (h.down x hx hxl k hk)
    · intro t u ht hu hex
      by_cases hd' : r.o.dst = some t
      · rw [hd']
        have hg := hd t hd'
        have : fr.get t = some u := by
          unfold Fr.get
          have : Nat.blt t (16 ^ SD) = true := by simpa using ht
          rw [this]; exact hu
        rw [this] at hg; cases hg
        rw [put_eq (by rw [h.sz]; exact h.dlt r hA t hd')]; exact hv
      · rw [put_ne hd']
        refine (h.slot t u ht hu fun x hx hl => ?_).mono hle
        by_cases e : x.i = r.i
        · have : x = r := rops_eq (h.memr x (by simp [hx])) hr e
          subst this; exact hd'
        · exact hex x hx (by rw [hset, hl]; simp [e])
    · intro x hx hxl
      obtain ⟨hne, hxl⟩ := was x hxl
      rcases h.pend x hx hxl with p | ⟨p1, u, p2, p3⟩
      · exact .inl p
      · refine .inr ⟨p1, u, p2, ?_⟩
        rcases p3 with p3 | ⟨obj, f, b, q1, q2, q3, q4⟩
        · exact .inl p3
        · exact .inr ⟨obj, f, b, q1, q2, hph x hx hne b q2 q3, q4⟩
  unfold wpOpIn
  simp only [getElem_ops hr]
  have hnd : ∀ c, r.o.op ≠ .defer c := fun c e => by rw [e] at hw; simp [isWriter] at hw
  rcases h.pend r hA hl with ⟨p1, p2⟩ | ⟨p1, u, p2, p3⟩
  · simp only [wanted_sim hlk p1, Bool.false_eq_true, if_false]
    exact ⟨fun f _ => trivial, hK _ _ _ (mk undef undef ρ w (Ren.le_refl ρ) h.hr h.fm (.undef _) p2 (fun _ _ _ _ _ h => h))⟩
  · simp only [wanted_sim hlk p1, if_true]
    rcases p3 with p3 | ⟨obj, f, b, q1, q2, q3, q4, q5, rfl⟩
    · rw [← evVal_congr (ρ1 := only r.o.op (evOpd fr)) (fun x hx => only_eq _ _ x hx)] at p3
      obtain ⟨v', h1, h2⟩ := evVal_sim (o := r.o) h.hr (fun x v hx => hlk.opd x (only_some hx).1 v (only_some hx).2) p3
      exact wpIn_of_run hnd h1 (hK _ _ _ (mk u v' ρ w (Ren.le_refl ρ) h.hr h.fm h2 p2 (fun _ _ _ _ _ h => h)))
    · rw [← evNew_congr (ρ1 := only r.o.op (evOpd fr)) (fun x hx => only_eq _ _ x hx)] at q1
      obtain ⟨o', ex, v', w', hm⟩ := evNew_sim (o := r.o) (ρr := a.eval) (fun x v hx => hlk.opd x (only_some hx).1 v (only_some hx).2) q1 w
      refine wpIn_of_run hnd hm.run (hK _ _ _ (mk (f b) v' (ρ.ext b ⟨w.heap.size, 0, ex⟩) w' (ρ.le_ext _ q3) (h.hr.born q5 q3 q4 hm) ?_ (hm.vrel b q3) p2 (fun x hx hne c hc hn => ?_)))
      · have hsz := h.fm.size
        refine ⟨Ren.le_trans h.fm.le (ρ.le_ext _ q3), h.fm.nx, fun c l hc hn => ?_, fun k hk hkk => ?_, h.fm.phan, h.fm.dead, by rw [hm.heap]; simp; omega, hm.tape.trans h.fm.tape, hm.os.trans h.fm.os, hm.output.trans h.fm.output⟩
        · by_cases e : c = b
          · subst e
            rw [Ren.ext_same] at hc; cases hc
            exact ⟨(h.phlt _ _ q2).1, .inl hsz⟩
          · rw [Ren.ext_other _ _ e] at hc
            exact h.fm.news c l hc hn
        · rw [hm.heap, Array.getElem?_push, if_neg (by omega)]
          exact h.fm.kept k hk hkk
      · have : c ≠ b := fun e => by subst e; exact hne (h.phinj _ _ _ hc q2)
        rw [Ren.ext_other _ _ this]; exact hn

theorem evAgain_mem {L : List Oper} {fr : Fr} {h : Heap} : ∀ {l : List Oper}, evAgain ⟨P, I⟩ L fr h l = true → ∀ o ∈ l, (match wanted L fr o with
    | some true => match evVal P (evOpd fr) h o.op with
      | some v => match o.dst with
        | some d => match fr.get d with
          | some u => sameVal v u
          | none => false
        | none => true
      | none => (evNew P (evOpd fr) o.op).isSome
    | some false => true
    | none => false) = true
  | [], _, o, ho => by simp at ho
  | x :: l, h, o, ho => by
    simp only [evAgain, Bool.and_eq_true] at h
    simp only [List.mem_cons] at ho
    rcases ho with rfl | ho
    · exact h.1
    · exact evAgain_mem h.2 o ho

/-- the machine takes the next writer -/
theorem Inv.write (hrec : Sim P rec) (hg : NoGor P) (hI : IntrOk P I) (hst : slotsOk ops.toList (rops ops.toList) = true) (h0 : HRel P ρ0 s0 w0) {r : Rop} (h : Inv P ops ρ0 s0 w0 A (r :: B) fr s listed a w ρ ph) (hi : r.i ∈ Region.ready .any ops listed)
    (hs : evStep ⟨P, I⟩ rec ops.toList fr s r.o = some (fr', s')) (ha : cond (isWriter r.o.op) (evAgain ⟨P, I⟩ ops.toList fr' s'.hp (againOf A r.anc)) true = true) (hw : isWriter r.o.op = true) {ro : Option Nat} {n : Nat} {Q : Exit → Act → World → Prop} {K : Act → World → Prop} (hro : ro = none ∨ fr.rd = true) :
    fr'.rd = fr.rd ∧ fr'.nt = fr.nt ∧ ((∀ a' w' ρ', Inv P ops ρ0 s0 w0 (A ++ [r]) B fr' s' (listed.setIfInBounds r.i true) a' w' ρ' ph → K a' w') → wpOpIn (FAt ro) n P ops Q r.i K a w) := by
  obtain ⟨l1, l2, l3, _, _⟩ := h.left.cons
  have hr : r ∈ rops ops.toList := h.memr r (by simp)
  obtain ⟨hall, hl, hlt⟩ := h.ready hr hi
  have hlk := h.looks hst hr hall (fun hx => absurd rfl (l2 r hx))
  obtain ⟨e1, e2, v, e3, e4⟩ := evStep_sim hrec hg hI (getElem_ops hr) hs
  refine ⟨e1, e2, fun hK => e4 ro n ρ a w K Q hro h.hr hlk h.df fun v' ρ' w' ds k1 k2 k3 k4 => hK _ _ ρ' ?_⟩
  rw [hw, cond_true] at ha
  have hset : ∀ k, (listed.setIfInBounds r.i true).getD k false = (decide (k = r.i) || listed.getD k false) := fun k => listed_set hlt
  have was : ∀ x : Rop, (listed.setIfInBounds r.i true).getD x.i false = false → x.i ≠ r.i ∧ listed.getD x.i false = false := by
    intro x hx
    rw [hset] at hx
    simpa using hx
  have inA : ∀ x ∈ A ++ [r], x.i ≠ r.i → x ∈ A := by
    intro x hx hne
    simp only [List.mem_append, List.mem_singleton] at hx
    rcases hx with hx | rfl
    · exact hx
    · exact absurd rfl hne
  -- those that are pending do not look at where the writer lays its result
  have apart : ∀ x ∈ A, listed.getD x.i false = false → ∀ t ∈ Det.looks ops.toList x.o, r.o.dst ≠ some t := by
    intro x hx hxl t ht hd
    have hne : r.i ≠ x.i := fun e => l2 x hx e.symm
    rcases ((slots_spec hst hr (h.memr x (by simp [hx])) hd).2 hne).2 ht with hb | ⟨_, hb⟩
    · obtain ⟨y, hy, he⟩ := h.anc hx r.i hb
      exact l2 y hy he
    · have := hall _ hb; rw [hxl] at this; cases this
  have dsts : ∀ x ∈ A, ∀ t, x.o.dst = some t → r.o.dst ≠ some t := by
    intro x hx t ht hd
    have hne : r.i ≠ x.i := fun e => l2 x hx e.symm
    exact ((slots_spec hst hr (h.memr x (by simp [hx])) hd).2 hne).1 ht
  refine ⟨k2, Fm.trans h0 h.fm k3, ?_, by rw [e2]; exact h.nt, ?_, fun x hx => h.memr x (by simpa using hx), l1, fun k hk => by simpa using h.all k hk, by simp [h.lsz], ?_, ?_, ?_, ?_, ?_, ?_, ?_, fun i b hb => ⟨(h.phlt i b hb).1, Nat.lt_of_lt_of_le (h.phlt i b hb).2 k3.nx⟩, h.phinj⟩
  · rw [e2, ← h.sz]; cases r.o.dst <;> simp [Act.put]
  · have : (({ a with defers := ds } : Act).put r.o.dst v').defers = ds := by cases r.o.dst <;> rfl
    rw [this]; exact k4
  · intro i hi
    rw [hset] at hi
    simp only [Bool.or_eq_true, decide_eq_true_eq] at hi
    rcases hi with rfl | hi
    · exact ⟨r, by simp, rfl⟩
    · obtain ⟨x, hx, he⟩ := h.lA i hi
      exact ⟨x, by simp [hx], he⟩
  · intro x hx hxw
    rw [hset]
    simp only [List.mem_append, List.mem_singleton] at hx
    rcases hx with hx | rfl
    · rw [h.wA x hx hxw]; simp
    · simp
  · intro x hx hxl k hk
    rw [hset] at hxl ⊢
    simp only [Bool.or_eq_true, decide_eq_true_eq] at hxl ⊢
    simp only [List.mem_append, List.mem_singleton] at hx
    rcases hx with hx | rfl
    · rcases hxl with e | hxl
      · exact absurd e (l2 x hx)
      · exact .inr (h.down x hx hxl k hk)
    · exact .inr (hall k hk)
  · intro A1 x A2 he k hk
    rcases List.eq_nil_or_concat A2 with rfl | ⟨A2', y, rfl⟩
    · obtain ⟨rfl, hx⟩ := List.append_inj' he rfl
      cases hx
      exact l3 k hk
    · have he' : A ++ [r] = (A1 ++ x :: A2') ++ [y] := by simpa using he
      obtain ⟨he1, _⟩ := List.append_inj' he' rfl
      exact h.ord A1 x A2' he1 k hk
  · intro t u ht hu hex
    by_cases hd' : r.o.dst = some t
    · rcases e3 with ⟨e, _⟩ | ⟨t', e, hlt', htm⟩
      · rw [e] at hd'; cases hd'
      · rw [e] at hd'; cases hd'
        rw [htm, Tr.get_set_same] at hu; cases hu
        rw [e, put_eq (by simp only; rw [h.sz]; exact hlt')]
        exact k1
    · rw [put_ne hd']
      have : fr.tm.get SD t = some u := by
        rcases e3 with ⟨_, e⟩ | ⟨d, hd, hlt', e⟩
        · rw [← e]; exact hu
        · have := h.nt
          rw [e, Tr.get_set_other SD _ _ _ _ (Nat.lt_of_lt_of_le hlt' this) ht (fun e => hd' (by rw [hd, e]))] at hu
          exact hu
      refine (h.slot t u ht this fun x hx hxl => ?_).mono k3.le
      exact hex x (by simp [hx]) (by rw [hset, hxl]; simpa using l2 x hx)
  · intro x hx hxl
    obtain ⟨hne, hxl⟩ := was x hxl
    have hxA := inA x hx hne
    have hxr := h.memr x (by simp [hxA])
    have same : ∀ t ∈ Det.looks ops.toList x.o, fr'.get t = fr.get t := fun t ht => get_set_ne h.nt e3 (apart x hxA hxl t ht)
    have hop := opd_same same
    have hwn := wanted_same same
    have hd : ∀ d, x.o.dst = some d → fr'.get d = fr.get d := fun d hd => get_set_ne h.nt e3 (dsts x hxA d hd)
    rcases h.pend x hxA hxl with ⟨p1, p2⟩ | ⟨p1, u, p2, p3⟩
    · exact .inl ⟨hwn.trans p1, fun d hdd => (hd d hdd).trans (p2 d hdd)⟩
    · have hxw : isWriter x.o.op = false := by
        cases hq : isWriter x.o.op with
        | false => rfl
        | true => have := h.wA x hxA hq; rw [hxl] at this; cases this
      have hxb : r.anc.testBit x.i = false := by
        cases hq : r.anc.testBit x.i with
        | false => rfl
        | true => have := hall _ hq; rw [hxl] at this; cases this
      have hag := evAgain_mem ha x.o (by
        unfold againOf
        exact List.mem_map.2 ⟨x, List.mem_filter.2 ⟨hxA, by rw [hxw, hxb]; rfl⟩, rfl⟩)
      rw [hwn.trans p1] at hag
      simp only at hag
      cases hv : evVal P (evOpd fr') s'.hp x.o.op with
      | some v2 =>
        rw [hv] at hag
        simp only at hag
        refine .inr ⟨hwn.trans p1, v2, fun d hdd => ?_, .inl hv⟩
        rw [hdd] at hag
        simp only at hag
        rw [hd d hdd, p2 d hdd] at hag ⊢
        rw [sameVal_eq hag]
      | none =>
        rw [hv] at hag
        simp only at hag
        rcases p3 with p3 | ⟨obj, f, b, q1, q2, q3, q4, q5, q6⟩
        · rw [evNew_congr hop] at hag
          cases hq : evNew P (evOpd fr) x.o.op with
          | none => rw [hq] at hag; cases hag
          | some z => rw [evNew_evVal hq] at p3; cases p3
        · refine .inr ⟨hwn.trans p1, u, fun d hdd => (hd d hdd).trans (p2 d hdd), .inr ⟨obj, f, b, by rw [evNew_congr hop]; exact q1, q2, ?_, Nat.lt_of_lt_of_le q4 k3.nx, by rw [k3.phan b q4 q3]; exact q5, q6⟩⟩
          cases hq : ρ' b with
          | none => rfl
          | some l => have := (k3.news b l hq q3).1; omega
  · intro x hx d hd
    rw [e2]
    simp only [List.mem_append, List.mem_singleton] at hx
    rcases hx with hx | rfl
    · exact h.dlt x hx d hd
    · rcases e3 with ⟨e, _⟩ | ⟨t, e, hlt', _⟩
      · rw [e] at hd; cases hd
      · rw [e] at hd; cases hd; exact hlt'
end
end Go.Det
end
section
namespace Go.Det
open Go

section
variable {P : Program} {rec : Rec} {I : Intr}
variable {ops : Array Oper} {ρ0 : Ren} {s0 : St} {w0 : World}

/-- the evaluator goes ahead up to the next writer -/
theorem Inv.norm (hst : slotsOk ops.toList (rops ops.toList) = true) {frF : Fr} {sF : St} {listed : Array Bool} {a : Act} {w : World} {ρ : Ren} : ∀ {B A : List Rop} {fr : Fr} {s : St} {ph : Nat → Option Nat}, Inv P ops ρ0 s0 w0 A B fr s listed a w ρ ph → evSteps ⟨P, I⟩ rec ops.toList A B fr s = some (frF, sF) →
    ∃ A' B' fr' s' ph', Inv P ops ρ0 s0 w0 A' B' fr' s' listed a w ρ ph' ∧ evSteps ⟨P, I⟩ rec ops.toList A' B' fr' s' = some (frF, sF) ∧ fr'.rd = fr.rd ∧ fr'.nt = fr.nt ∧ (B' = [] ∨ ∃ r B'', B' = r :: B'' ∧ isWriter r.o.op = true)
  | [], A, fr, s, ph, h, he => ⟨A, [], fr, s, ph, h, he, rfl, rfl, .inl rfl⟩
  | r :: B, A, fr, s, ph, h, he => by
    cases hw : isWriter r.o.op with
    | true => exact ⟨A, r :: B, fr, s, ph, h, he, rfl, rfl, .inr ⟨r, B, rfl, hw⟩⟩
    | false =>
      simp only [evSteps] at he
      split at he
      rotate_left
      · cases he
      rename_i fr1 s1 hs
      rw [hw] at he
      simp only [cond_false, cond_true] at he
      obtain ⟨a1, a2, ph', h'⟩ := h.advance (I := I) (rec := rec) (st := []) hst hw hs
      obtain ⟨A', B', fr', s', ph'', k1, k2, k3, k4, k5⟩ := Inv.norm hst h' he
      exact ⟨A', B', fr', s', ph'', k1, k2, k3.trans a1, k4.trans a2, k5⟩

def open_ (listed : Array Bool) : Nat := listed.toList.count false

theorem count_set : ∀ {l : List Bool} {i : Nat}, l[i]? = some false → (l.set i true).count false + 1 = l.count false
  | [], i, h => by simp at h
  | x :: l, 0, h => by simp at h; subst h; simp
  | x :: l, i + 1, h => by
    have := count_set (l := l) (i := i) (by simpa using h)
    simp only [List.set_cons_succ, List.count_cons]
    omega

theorem open_set {listed : Array Bool} {i : Nat} (hi : i < listed.size) (hl : listed.getD i false = false) : open_ (listed.setIfInBounds i true) + 1 = open_ listed := by
  unfold open_
  rw [Array.toList_setIfInBounds]
  refine count_set ?_
  rw [Array.getD_eq_getD_getElem?, Array.getElem?_eq_getElem hi] at hl
  rw [Array.getElem?_toList, Array.getElem?_eq_getElem hi]
  exact congrArg some hl

/-- one that is not taken is ready, unless all is taken -/
theorem Inv.some_ready {A B : List Rop} {fr : Fr} {s : St} {listed : Array Bool} {a : Act} {w : World} {ρ : Ren} {ph : Nat → Option Nat} (h : Inv P ops ρ0 s0 w0 A B fr s listed a w ρ ph) (hn : Region.ready .any ops listed = []) :
    B = [] ∧ ∀ r ∈ A, listed.getD r.i false = true := by
  have rdy : ∀ r, r ∈ A ++ B → listed.getD r.i false = false → (∀ k, r.anc.testBit k = true → listed.getD k false = true) → False := by
    intro r hr hl hall
    have hrr := h.memr r hr
    have ho := getElem_ops hrr
    have : r.i ∈ Region.ready .any ops listed := by
      refine mem_ready.2 ⟨?_, r.o, ho, fun e he hb => hall _ (rops_pred hrr he hb)⟩
      have hlt : r.i < listed.size := by rw [h.lsz]; exact (Array.getElem?_eq_some_iff.1 ho).1
      rw [Array.getD_eq_getD_getElem?, Array.getElem?_eq_getElem hlt] at hl ⊢
      exact hl
    rw [hn] at this; cases this
  have all : ∀ r ∈ A, listed.getD r.i false = true := by
    -- the first that is not taken would be ready
    have key : ∀ (A1 A2 : List Rop), A = A1 ++ A2 → (∀ r ∈ A1, listed.getD r.i false = true) → ∀ r ∈ A2, listed.getD r.i false = true := by
      intro A1 A2
      induction A2 generalizing A1 with
      | nil => intro _ _ r hr; simp at hr
      | cons x A2 ih =>
        intro he h1 r hr
        have hx : listed.getD x.i false = true := by
          cases hq : listed.getD x.i false with
          | true => rfl
          | false =>
            refine (rdy x (by rw [he]; simp) hq fun k hk => ?_).elim
            obtain ⟨y, hy, rfl⟩ := h.ord A1 x A2 he k hk
            exact h1 y hy
        simp only [List.mem_cons] at hr
        rcases hr with rfl | hr
        · exact hx
        · refine ih (A1 ++ [x]) (by simpa using he) (fun y hy => ?_) r hr
          simp only [List.mem_append, List.mem_singleton] at hy
          rcases hy with hy | rfl
          · exact h1 y hy
          · exact hx
    exact key [] A rfl (fun r hr => by simp at hr)
  refine ⟨?_, all⟩
  cases hB : B with
  | nil => rfl
  | cons r B' =>
    exfalso
    have hl := h.left
    rw [hB] at hl
    obtain ⟨_, l2, l3, _⟩ := hl.cons
    refine rdy r (by rw [hB]; simp) ?_ (fun k hk => ?_)
    · cases hq : listed.getD r.i false with
      | false => rfl
      | true => obtain ⟨y, hy, he⟩ := h.lA _ hq; exact absurd he (l2 y hy)
    · obtain ⟨y, hy, rfl⟩ := l3 k hk
      exact all y hy

theorem drawn_any (hrec : Sim P rec) (hg : NoGor P) (hI : IntrOk P I) (hst : slotsOk ops.toList (rops ops.toList) = true) (h0 : HRel P ρ0 s0 w0) {ro : Option Nat} {n : Nat} {Q : Exit → Act → World → Prop} {frF : Fr} {sF : St} {rd : Bool} (hro : ro = none ∨ rd = true)
    (hQ : ∀ ρ' a' w', HRel P ρ' sF w' → Fm ρ0 s0 w0 ρ' sF w' → FRel ρ' frF a' → Q .normal a' w') :
    ∀ (fuel : Nat) (A B : List Rop) (fr : Fr) (s : St) (listed : Array Bool) (a : Act) (w : World) (ρ : Ren) (ph : Nat → Option Nat), Inv P ops ρ0 s0 w0 A B fr s listed a w ρ ph → evSteps ⟨P, I⟩ rec ops.toList A B fr s = some (frF, sF) → fr.rd = rd → open_ listed ≤ fuel →
      wpAnyIn (FAt ro) n P .any ops Q fuel listed a w := by
  have fin : ∀ (A B : List Rop) (fr : Fr) (s : St) (listed : Array Bool) (a : Act) (w : World) (ρ : Ren) (ph : Nat → Option Nat), Inv P ops ρ0 s0 w0 A B fr s listed a w ρ ph → evSteps ⟨P, I⟩ rec ops.toList A B fr s = some (frF, sF) →
      Region.ready .any ops listed = [] → Q .normal a w := by
    intro A B fr s listed a w ρ ph h he hn
    obtain ⟨rfl, hall⟩ := h.some_ready hn
    simp only [evSteps, Option.some.injEq, Prod.mk.injEq] at he
    obtain ⟨rfl, rfl⟩ := he
    exact hQ ρ a w h.hr h.fm ⟨fun t v ht hv => h.slot t v ht hv (fun r hr hl => by rw [hall r hr] at hl; cases hl), h.sz, h.nt, h.df⟩
  intro fuel
  induction fuel with
  | zero =>
    intro A B fr s listed a w ρ ph h he hrd hf
    have hn : Region.ready .any ops listed = [] := by
      cases hq : Region.ready .any ops listed with
      | nil => rfl
      | cons i l =>
        exfalso
        have hi : i ∈ Region.ready .any ops listed := by rw [hq]; simp
        obtain ⟨hl0, o, ho, _⟩ := mem_ready.1 hi
        have hlt : i < listed.size := by rw [h.lsz]; exact (Array.getElem?_eq_some_iff.1 ho).1
        have hl : listed.getD i false = false := by
          rw [Array.getD_eq_getD_getElem?, Array.getElem?_eq_getElem hlt] at hl0 ⊢
          exact hl0
        have := open_set hlt hl
        omega
    exact ⟨hn, fin A B fr s listed a w ρ ph h he hn⟩
  | succ fuel ih =>
    intro A B fr s listed a w ρ ph h he hrd hf
    refine ⟨fin A B fr s listed a w ρ ph h he, fun i hi => ?_⟩
    obtain ⟨A1, B1, fr1, s1, ph1, k1, k2, k3, k4, k5⟩ := h.norm hst he
    obtain ⟨hl0, o, ho, _⟩ := mem_ready.1 hi
    have hlt : i < listed.size := by rw [h.lsz]; exact (Array.getElem?_eq_some_iff.1 ho).1
    have hl : listed.getD i false = false := by
      rw [Array.getD_eq_getD_getElem?, Array.getElem?_eq_getElem hlt] at hl0 ⊢
      exact hl0
    have hop := open_set hlt hl
    obtain ⟨x, hx, hxi⟩ := k1.all i (by rw [← h.lsz]; exact hlt)
    subst hxi
    simp only [List.mem_append] at hx
    rcases hx with hx | hx
    · exact k1.take hst hx hi fun a' w' ρ' h' => ih A1 B1 fr1 s1 _ a' w' ρ' ph1 h' k2 (k3.trans hrd) (by omega)
    · rcases k5 with rfl | ⟨r, B2, rfl, hw⟩
      · simp at hx
      · have hxr : x = r := by
          simp only [List.mem_cons] at hx
          rcases hx with rfl | hx
          · rfl
          · exfalso
            obtain ⟨y, hy, hb⟩ := k1.left.behind_head hw hx
            have hxx := k1.memr x (by simp [hx])
            obtain ⟨hall, _, _⟩ := k1.ready hxx hi
            obtain ⟨z, hz, he⟩ := k1.lA _ (hall _ hb)
            exact k1.left.fresh z hz y hy he
        subst hxr
        simp only [evSteps] at k2
        split at k2
        rotate_left
        · cases k2
        rename_i fr2 s2 hs
        cases hag : (cond (isWriter x.o.op) (evAgain ⟨P, I⟩ ops.toList fr2 s2.hp (againOf A1 x.anc)) true) with
        | false => rw [hag] at k2; cases k2
        | true =>
          rw [hag] at k2
          obtain ⟨m1, m2, m3⟩ := k1.write (ro := ro) (n := n) (Q := Q) (K := wpAnyIn (FAt ro) n P .any ops Q fuel (listed.setIfInBounds x.i true)) hrec hg hI hst h0 hi hs hag hw (by rw [k3, hrd]; exact hro)
          exact m3 fun a' w' ρ' h' => ih (A1 ++ [x]) B2 fr2 s2 _ a' w' ρ' ph1 h' k2 (m1.trans (k3.trans hrd)) (by omega)

theorem drawn_rd {L : List Oper} (hrec : Sim P rec) (hg : NoGor P) (hI : IntrOk P I) : ∀ {B A : List Rop} {fr fr' : Fr} {s s' : St}, (∀ r ∈ B, ∃ i : Nat, L[i]? = some r.o) → evSteps ⟨P, I⟩ rec L A B fr s = some (fr', s') → fr'.rd = fr.rd ∧ fr'.nt = fr.nt
  | [], A, fr, fr', s, s', _, h => by
    simp only [evSteps, Option.some.injEq, Prod.mk.injEq] at h
    obtain ⟨rfl, rfl⟩ := h
    exact ⟨rfl, rfl⟩
  | r :: B, A, fr, fr', s, s', hm, h => by
    simp only [evSteps] at h
    split at h
    rotate_left
    · cases h
    rename_i fr1 s1 hs
    obtain ⟨i, hi⟩ := hm r (by simp)
    cases hag : (cond (isWriter r.o.op) (evAgain ⟨P, I⟩ L fr1 s1.hp (againOf A r.anc)) true) with
    | false => rw [hag] at h; cases h
    | true =>
      rw [hag] at h
      obtain ⟨e1, e2, _⟩ := evStep_sim (ops := L.toArray) (i := i) hrec hg hI (by simpa using hi) (by simpa using hs)
      obtain ⟨d1, d2⟩ := drawn_rd hrec hg hI (fun x hx => hm x (by simp [hx])) h
      exact ⟨d1.trans e1, d2.trans e2⟩

theorem region_drawn (hm : P.follows .mixedOrders = true) (hrec : Sim P rec) (hg : NoGor P) (hI : IntrOk P I) {id : Nat} {st : List Rop} {fr fr' : Fr} {s s' : St} (hsc : sched ops.toList = some st) (h : evSteps ⟨P, I⟩ rec ops.toList [] st fr s = some (fr', s')) :
    fr'.rd = fr.rd ∧ fr'.nt = fr.nt ∧ ∀ ro n ρ a w Q, (ro = none ∨ fr.rd = true) → HRel P ρ s w → FRel ρ fr a → (∀ ρ' a' w', HRel P ρ' s' w' → Fm ρ s w ρ' s' w' → FRel ρ' fr' a' → Q .normal a' w') →
      (Code.region id ops true).wpIn (FAt ro) n P Q a w := by
  obtain ⟨h1, h2, h3⟩ := sched_static hsc
  obtain ⟨d1, d2⟩ := drawn_rd hrec hg hI (fun r hr => ⟨r.i, (rops_op (h1 r hr)).1⟩) h
  refine ⟨d1, d2, fun ro n ρ a w Q hro hr hf hQ => ?_⟩
  refine wpIn_region_any hm ?_
  have hr' : HRel P ρ s { w with drawn := w.drawn + 1 } := hr.heap rfl
  have hfm : Fm ρ s w ρ s { w with drawn := w.drawn + 1 } := ⟨Ren.le_refl ρ, Nat.le_refl _, (fun b l h k => by rw [k] at h; cases h), fun _ _ _ => rfl, fun _ _ _ => rfl, fun _ _ h => h, Nat.le_refl _, rfl, rfl, rfl⟩
  have rep : ∀ i, (Array.replicate ops.size false).getD i false = false := fun i => by
    rw [Array.getD_eq_getD_getElem?, Array.getElem?_replicate]; split <;> rfl
  refine drawn_any (ρ0 := ρ) (s0 := s) (w0 := { w with drawn := w.drawn + 1 }) (rd := fr.rd) hrec hg hI h2 hr' hro (fun ρ' a' w' k1 k2 k3 => hQ ρ' a' w' k1 (Fm.trans hr hfm k2) k3) ops.size [] st fr s (Array.replicate ops.size false) a { w with drawn := w.drawn + 1 } ρ (fun _ => none) ?_ h rfl ?_
  · refine ⟨hr', Fm.refl _ _ _, hf.size, hf.nt, hf.df, fun r hr => h1 r (by simpa using hr), h3, fun k hk => ?_, by simp, (fun i hi => by rw [rep i] at hi; cases hi), (fun r hr => by simp at hr), (fun r hr => by simp at hr), (fun A1 r A2 he => by simp at he), (fun t v ht hv _ => hf.slot t v ht hv), (fun r hr => by simp at hr), (fun r hr => by simp at hr), (fun i b hb => by cases hb), (fun i j b hi => by cases hi)⟩
    have := Left.start ⟨h1, h2, h3⟩
    -- all are there
    have key : ∀ (B A : List Rop), Left ops.toList.length A B → ∀ k, k < ops.toList.length → ∃ r ∈ A ++ B, r.i = k := by
      intro B
      induction B with
      | nil => intro A hl k hk; obtain ⟨x, hx, he⟩ := hl.nil k hk; exact ⟨x, by simp [hx], he⟩
      | cons r B ih =>
        intro A hl k hk
        obtain ⟨x, hx, he⟩ := ih (A ++ [r]) hl.cons.1 k hk
        exact ⟨x, by simpa using hx, he⟩
    exact key st [] this k (by simpa using hk)
  · have : open_ (Array.replicate ops.size false) = ops.size := by simp [open_]
    omega
end
end Go.Det
end
