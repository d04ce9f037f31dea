/-
  What is told of some functions is so: the three entries of internal/bytealg.
-/
import Derived.Test.YtpinlnajhiagoaaGreatDoorIntrDef
import Derived.Test.YtpinlnajhiagoaaGreatDoorEvMain
set_option linter.unusedVariables false
set_option linter.unusedSimpArgs false
namespace Go.Det
open Go

section
variable {P : Program} {ρ : Ren} {s : St} {w : World}

theorem got_same {g : FuncId} {args' : Array Value} {v v' : Value} (hr : HRel P ρ s w) (hrun : (callFunc g args').run P w = .ok (.value v') w) (hv : VRel ρ v v') : CallGot P ρ s w g args' v s :=
  .inl ⟨v', w, hrun, ρ, hv, hr, Fm.refl _ _ _⟩

/-- an entry: no body, a row of the table -/
structure IsExt (P : Program) (g : FuncId) (e : Array Value → Sem Value) : Prop where
  fn : ∃ fn, P.funcs[g]? = some fn ∧ (fn.name == "runtime.NumGoroutine") = false ∧ fn.body.isNone = true ∧ (Extern.findNext fn).isNone = true ∧ Extern.find fn = some e

theorem ext_run {g : FuncId} {e : Array Value → Sem Value} (h : IsExt P g e) {args : Array Value} {v : Value} (hv : (e args).run P w = .ok v w) : (callFunc g args).run P w = .ok (.value v) w := by
  obtain ⟨fn, h1, h2, h3, h4, h5⟩ := h.fn
  have h4' : Extern.findNext fn = none := by simpa using h4
  simp only [callFunc, Sem.run_bind, run_program, Result.andThen_ok, h1, h2, h3, if_true, run_mark, h4', h5, hv, Sem.run_pure]
  simp [hv]

theorem two {a b : Value} {args' : Array Value} (h : LRel ρ [a, b] args'.toList) : ∃ a' b', args' = #[a', b'] ∧ VRel ρ a a' ∧ VRel ρ b b' := by
  obtain ⟨a', t, e1, ha, ht⟩ := h.uncons
  obtain ⟨b', t2, e2, hb, ht2⟩ := ht.uncons
  have := ht2.nil_left
  subst this; subst e2
  exact ⟨a', b', by rw [← Array.toArray_toList (xs := args'), e1], ha, hb⟩
theorem one {a : Value} {args' : Array Value} (h : LRel ρ [a] args'.toList) : ∃ a', args' = #[a'] ∧ VRel ρ a a' := by
  obtain ⟨a', t, e1, ha, ht⟩ := h.uncons
  have := ht.nil_left
  subst this
  exact ⟨a', by rw [← Array.toArray_toList (xs := args'), e1], ha⟩

theorem indexByteI_ok {g : FuncId} (hx : IsExt P g Extern.BytealgIndexByte.indexByte) {args : List Value} {v : Value} {s' : St} (h : indexByteI args s = some (v, s')) {args' : Array Value} (hr : HRel P ρ s w) (ha : LRel ρ args args'.toList) : CallGot P ρ s w g args' v s' := by
  unfold indexByteI at h
  split at h
  · rename_i t c
    cases h
    obtain ⟨a', b', rfl, h1, h2⟩ := two ha
    cases h1; cases h2
    exact got_same hr (ext_run hx (Lib.run_indexByteString t c w)) (.int _ _)
  · cases h

theorem countI_ok {g : FuncId} (hx : IsExt P g Extern.BytealgCount.count) {args : List Value} {v : Value} {s' : St} (h : countI args s = some (v, s')) {args' : Array Value} (hr : HRel P ρ s w) (ha : LRel ρ args args'.toList) : CallGot P ρ s w g args' v s' := by
  unfold countI at h
  split at h
  · rename_i t c
    cases h
    obtain ⟨a', b', rfl, h1, h2⟩ := two ha
    cases h1; cases h2
    exact got_same hr (ext_run hx (Lib.run_countString t c w)) (.int _ _)
  · cases h

theorem bytesOf_cons {c : Value} {cs : List Value} {l : List UInt8} (h : bytesOf (c :: cs) = some l) : ∃ n r, c = .int .u8 (.ofNat n) ∧ bytesOf cs = some r ∧ l = UInt8.ofNat n :: r := by
  unfold bytesOf at h
  split at h
  · rename_i heq; cases heq
  · rename_i n rest heq
    cases heq
    split at h
    · rename_i r hr
      cases h
      exact ⟨n, r, rfl, hr, rfl⟩
    · cases h
  · cases h

theorem loadBytes_run : ∀ {cs : List Value} {l : List UInt8} (b : Addr), b.spot = none → bytesOf cs = some l → (∀ j x, cs[j]? = some x → w.cell? (b.add j) = some x) → ∀ acc : ByteArray, (Extern.Bytes.loadBytes b cs.length acc).run P w = .ok ⟨acc.data ++ l.toArray⟩ w
  | [], l, b, _, h, _, acc => by
    simp [bytesOf] at h
    subst h
    show Result.ok acc w = _
    congr 1
  | x :: cs, l, b, hs, hl, h, acc => by
    obtain ⟨n, r, rfl, hr, rfl⟩ := bytesOf_cons hl
    have h0 := h 0 _ rfl
    have hb : b.add 0 = b := by rw [addr_add b 0 hs]; cases b; simp_all
    rw [hb] at h0
    simp only [List.length_cons, Extern.Bytes.loadBytes, Sem.run_bind, run_load, h0, Result.andThen_ok]
    have hn : (b.add 1).spot = none := by rw [addr_add b 1 hs]
    rw [loadBytes_run (b.add 1) hn hr (fun j y hy => ?_)]
    · congr 1
      cases acc
      simp [ByteArray.push]
    · have := h (j + 1) y (by simpa using hy)
      rw [addr_add b _ hs] at this
      rw [addr_add b 1 hs, addr_add _ j rfl]
      rw [show b.off + 1 + j = b.off + (j + 1) from by omega]
      exact this

theorem bytesOf_plain (P : Program) {cs cs' : List Value} {l : List UInt8} (h : bytesOf cs = some l) (hr : LRel ρ cs cs') : cs' = cs := (bytesOf_sim P h hr).1

theorem sliceBytes_run (hr : HRel P ρ s w) {a : Addr} {n c : Nat} {l : List UInt8} (h : (cellsAt s.hp a n).bind bytesOf = some l) {v' : Value} (hv : VRel ρ (.slice (some a) n c) v') :
    (Extern.Bytes.bytesOf v').run P w = .ok ⟨l.toArray⟩ w := by
  cases hc : cellsAt s.hp a n with
  | none => rw [hc] at h; cases h
  | some cs =>
    rw [hc] at h
    simp only [Option.bind_some] at h
    have key : ∀ (b : Addr) (vs' : List Value), b.spot = none → LRel ρ cs vs' → cs.length = n → (∀ j v, vs'[j]? = some v → w.cell? (b.add j) = some v) → ∀ c', (Extern.Bytes.bytesOf (.slice (some b) n c')).run P w = .ok ⟨l.toArray⟩ w := by
      intro b vs' hs h1 h2 h3 c'
      have := bytesOf_plain P h h1
      subst this
      simp only [Extern.Bytes.bytesOf]
      rw [← h2, loadBytes_run b hs h h3 ByteArray.empty]
      simp
    cases hv with
    | slice hb hcc =>
      obtain ⟨_, hlen, vs', h1, h2, _⟩ := cellsAt_sim hr hc hb
      exact key _ vs' rfl h1 hlen h2 _
    | sliceOpen hb hn ho =>
      obtain ⟨_, hlen, vs', h1, h2, _⟩ := cellsAt_sim hr hc hb
      rcases ho with ho | ho
      · subst ho; exact key _ vs' rfl h1 hlen h2 _
      · have h0 : n = 0 := by omega
        subst h0
        have h7 : cs = [] := List.eq_nil_of_length_eq_zero hlen
        subst h7
        simp [bytesOf] at h
        subst h
        rfl

theorem run_compare {a b : Value} {x y : List UInt8} (ha : (Extern.Bytes.bytesOf a).run P w = .ok ⟨x.toArray⟩ w) (hb : (Extern.Bytes.bytesOf b).run P w = .ok ⟨y.toArray⟩ w) :
    (Extern.BytealgCompare.compare #[a, b]).run P w = .ok (.int .i64 (Lib.compareBytes x y)) w := by
  change Sem.run P (do pure (goInt (Extern.BytealgCompare.cmp (← Extern.Bytes.bytesOf a) (← Extern.Bytes.bytesOf b)))) w = _
  simp only [Sem.run_bind, ha, hb, Result.andThen_ok, Sem.run_pure]
  rw [Lib.cmp_eq]
  rfl

theorem compareI_ok {g : FuncId} (hx : IsExt P g Extern.BytealgCompare.compare) {args : List Value} {v : Value} {s' : St} (h : compareI args s = some (v, s')) {args' : Array Value} (hr : HRel P ρ s w) (ha : LRel ρ args args'.toList) : CallGot P ρ s w g args' v s' := by
  unfold compareI at h
  split at h
  · rename_i a n c b m d
    split at h
    · rename_i x y h1 h2
      cases h
      obtain ⟨a', b', rfl, h3, h4⟩ := two ha
      exact got_same hr (ext_run hx (run_compare (sliceBytes_run hr h1 h3) (sliceBytes_run hr h2 h4))) (.int _ _)
    · cases h
  · cases h
end
end Go.Det
