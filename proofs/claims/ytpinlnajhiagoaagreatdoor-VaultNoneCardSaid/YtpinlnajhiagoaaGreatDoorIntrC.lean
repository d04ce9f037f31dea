/-
  What is told of strings.Builder's String and grow is so: the walks.
-/
import Derived.Test.YtpinlnajhiagoaaGreatDoorIntrB
set_option linter.unusedVariables false
set_option linter.unusedSimpArgs false
namespace Go.Proofs
open Go.Shelf Go.RowKit Go.Det
variable {P : Program} {ρ : Go.Shelf.Ren}

theorem liesAt_bytes_off {e : TypeId} (hc : P.cellsOf e = 1) (count off n : Nat) (hn : off + n ≤ count) : liesAt P P.depth e count off e n = true := by
  have hd : P.depth = (2 * (P.types.size + Made.depth) + 1) + 1 := rfl
  rw [hd]
  simp only [liesAt, Bool.or_eq_true]
  left
  rw [hd]
  simp [rowAt, hc, hn, sameLayout, Nat.mod_one]

theorem loadBytesC {w : World} : ∀ {cs : List Value} {l : List UInt8} (a : Addr) (acc : ByteArray), a.spot = none → bytesOf cs = some l → (∀ j x, cs[j]? = some x → w.cell? (a.add j) = some x) →
    (loadBytes a acc cs.length).run P w = .ok ⟨acc.data ++ l.toArray⟩ w
  | [], l, a, acc, _, hl, _ => by
    simp [bytesOf] at hl
    subst hl
    simp [loadBytes]
  | x :: cs, l, a, acc, hs, hl, h => by
    obtain ⟨n, r, rfl, hr, rfl⟩ := bytesOf_cons hl
    have h0 := h 0 _ rfl
    have hb : a.add 0 = a := by rw [addr_add a 0 hs]; cases a; simp_all
    rw [hb] at h0
    have hn : (a.add 1).spot = none := by rw [addr_add a 1 hs]
    have ih := loadBytesC (a.add 1) (acc.push (UInt8.ofNat n)) hn hr (fun j y hy => by
      have := h (j + 1) y (by simpa using hy)
      rw [addr_add a _ hs] at this
      rw [addr_add a 1 hs, addr_add _ j rfl]
      rw [show a.off + 1 + j = a.off + (j + 1) from by omega]
      exact this)
    simp only [List.length_cons, loadBytes, Sem.run_bind, run_load, h0, Result.andThen]
    refine Eq.trans ih ?_
    congr 1
    apply ByteArray.ext
    simp [ByteArray.push]

/-- unsafe.String over bytes in a row: copied; in the row they are frozen. -/
theorem unsafeString_off (w : World) (pt it ty e : TypeId) (hp : P.underlying pt = some (.pointer e)) (hc : P.cellsOf e = 1) (g o cells : Nat) (hsh : w.shape? g = some (e, cells)) {cs : List Value} {l : List UInt8} (hl : bytesOf cs = some l) (h0 : cs.length ≠ 0) (hn : o + cs.length ≤ cells) (h63 : cs.length ≤ 9223372036854775807)
    (hcell : ∀ j x, cs[j]? = some x → w.cell? ((⟨g, o, none⟩ : Addr).add j) = some x) :
    (Builtin.unsafeString_ #[pt, it] ty #[.pointer (some ⟨g, o, none⟩), .int .i64 cs.length]).run P w = .ok (.string ⟨l.toArray⟩) (w.freeze ⟨g, o, none⟩ cs.length) := by
  have hlb := loadBytesC (P := P) (w := w) ⟨g, o, none⟩ .empty rfl hl hcell
  have hlies := liesAt_bytes_off (P := P) hc (cells / P.cellsOf e) o cs.length (by rw [hc]; simpa using hn)
  have h63' : ¬ (9223372036854775807 : Int) < (cs.length : Int) := by omega
  have hdef : Builtin.unsafeString_ #[pt, it] ty #[.pointer (some ⟨g, o, none⟩), .int .i64 cs.length] =
      (do
        let n ← asInt (.int .i64 cs.length)
        if n < 0 then runtimePanic (.error "unsafe.String: len out of range")
        if n > IntKind.i64.max then unsupported (.unsafePointer "String: a length above the largest int")
        if n = 0 then pure (.string .empty)
        else if ← variablesAt ⟨g, o, none⟩ (← elemOf pt) n.toNat then do
          let s ← loadBytes ⟨g, o, none⟩ .empty n.toNat
          freeze ⟨g, o, none⟩ n.toNat
          pure (.string s)
        else unsupported (.unsafePointer "String: not so many bytes at ptr")) := rfl
  rw [hdef]
  have hmax : IntKind.i64.max = 9223372036854775807 := rfl
  have hneg : ¬ (cs.length : Int) < 0 := by omega
  have h0' : cs ≠ [] := by intro h; subst h; exact h0 rfl
  simp [asInt, asIntOf, hmax, h63', hneg, h0', variablesAt, hsh, elemOf, run_underlying hp, hlies, hlb]

/-- what the world is but for the tape's count -/
def Like (w w' : World) : Prop := w'.heap = w.heap ∧ w'.tape = w.tape ∧ w'.os = w.os ∧ w'.output = w.output

theorem like_freeze (w : World) (a : Addr) (n : Nat) : Like (w.freeze a n) (w.drew.freeze a n) := by
  unfold World.freeze
  split
  · exact ⟨rfl, rfl, rfl, rfl⟩
  · exact ⟨rfl, rfl, rfl, rfl⟩

set_option maxHeartbeats 1000000 in
set_option maxRecDepth 100000 in
theorem Builder_String_at (L : Lays.n169 P ρ) (X : Builder.Extra P ρ) (b g o n cap cells : Nat) (l : List UInt8) (cs : List Value) (w : World)
    (c1 : w.drew.cell? ⟨b, 1, none⟩ = some (.slice (some ⟨g, o, none⟩) n cap)) (hl : bytesOf cs = some l) (hn : cs.length = n) (h0 : n ≠ 0) (hc : cap ≠ 0) (h63 : n ≤ 9223372036854775807)
    (hsh : w.shape? g = some (ρ.t 5, cells)) (hon : o + n ≤ cells) (hcell : ∀ j x, cs[j]? = some x → w.cell? ((⟨g, o, none⟩ : Addr).add j) = some x) :
    Calls P (ρ.f 169) #[.pointer (some ⟨b, 0, none⟩)] w fun e w' => e = .returned (.string ⟨l.toArray⟩) ∧ Like (w.freeze ⟨g, o, none⟩ n) w' := by
  have hSD : (Builtin.unsafeSliceData_ #[(ρ.t 37)] (ρ.t 127) #[.slice (some ⟨g, o, none⟩) n cap]).run P w.drew = .ok (.pointer (some ⟨g, o, none⟩)) w.drew :=
    Lib.run_unsafeSliceData_row _ _ _ _ _ _ hc
  have hUS : (Builtin.unsafeString_ #[(ρ.t 127), (ρ.t 3)] (ρ.t 9) #[.pointer (some ⟨g, o, none⟩), .int .i64 n]).run P w.drew = .ok (.string ⟨l.toArray⟩) (w.drew.freeze ⟨g, o, none⟩ n) := by
    have := unsafeString_off (P := P) w.drew (ρ.t 127) (ρ.t 3) (ρ.t 9) (ρ.t 5) L.t127 X.cellsByte g o cells hsh hl (by omega) (by omega) (by omega) hcell
    rw [hn] at this
    exact this
  clear hcell hsh hon hl hn
  have mixed := L.mixed
  have t72 := L.t72; have a72 := L.a72; have z72 := L.z72; have v72 := L.v72; have u72 := run_underlying L.t72
  have t70 := L.t70; have a70 := L.a70; have z70 := L.z70; have v70 := L.v70; have u70 := run_underlying L.t70
  have t37 := L.t37; have a37 := L.a37; have z37 := L.z37; have v37 := L.v37; have u37 := run_underlying L.t37
  have t127 := L.t127; have a127 := L.a127; have z127 := L.z127; have v127 := L.v127; have u127 := run_underlying L.t127
  have t3 := L.t3; have a3 := L.a3; have z3 := L.z3; have v3 := L.v3; have u3 := run_underlying L.t3
  have t9 := L.t9; have a9 := L.a9; have z9 := L.z9; have v9 := L.v9; have u9 := run_underlying L.t9
  have t5 := X.t5; have a5 := X.a5; have z5 := X.z5; have v5 := X.v5; have u5 := run_underlying X.t5
  go_enter L.f169, Body.n169_ntmps ρ
  go_wp2
  go_region_o
  all_goals (go_wp2; go_ret; exact ⟨rfl, like_freeze w _ _⟩)

set_option maxHeartbeats 2000000 in
set_option maxRecDepth 1000000 in
/-- grow of a builder without a buffer: a new row, of whatever bytes -/
theorem Builder_grow_at (L : Lays.n241 P ρ) (X : Builder.Extra P ρ) (b n : Nat) (w : World) (fz : Nat × Nat) (hfz : ∀ i, i < 2 → ¬(fz.1 ≤ i ∧ i < fz.2)) (hbk : w.heap[b]? = some (.cells #[.pointer (some ⟨b, 0, none⟩), .slice none 0 0] (ρ.t 72) fz)) (hn : n ≤ 281474976710656) :
    Calls P (ρ.f 241) #[.pointer (some ⟨b, 0, none⟩), .int .i64 n] w fun e w' => e = .returned (.tuple #[]) ∧ ∃ cs : Array Value, n ≤ cs.size ∧
      Like ((w.setCell ⟨b, 1, none⟩ (.slice (some ⟨w.heap.size, 0, none⟩) 0 cs.size)).alloc (.cells cs (ρ.t 5))) w' := by
  obtain ⟨cs, hrun, hle, hmax⟩ := Lib.run_makeNoZero (P := P) w.drew #[(ρ.t 3)] (ρ.t 37) (ρ.t 5) L.t37 n hn
  have hw : IntKind.i64.wrap (IntKind.i64.wrap 0 + (n : Int)) = n := by
    rw [IntKind.wrap_i64, IntKind.wrap_i64]
    omega
  have hcall : (callFunc (ρ.f 277) #[.int .i64 (IntKind.i64.wrap (IntKind.i64.wrap 0 + (n : Int)))]).run P w.drew = .ok (.value (.slice (some ⟨w.drew.heap.size, 0, none⟩) n cs.size)) (w.drew.drew.drew.alloc (.cells cs (ρ.t 5))) := by
    rw [hw, run_callFunc_extern L.f277 (by kernel_rfl) (by kernel_rfl) (by kernel_rfl) (e := Extern.BytealgMakeNoZero.makeNoZero #[(ρ.t 3)] #[(ρ.t 37)]) (by kernel_rfl), hrun]
    rfl
  have hlt : b < w.heap.size := by
    rcases Nat.lt_or_ge b w.heap.size with h' | h'
    · exact h'
    · simp [Array.getElem?_eq_none h'] at hbk
  have c1 : w.drew.cell? ⟨b, 1, none⟩ = some (.slice none 0 0) := by
    have h' : w.drew.heap[b]? = some (.cells #[.pointer (some ⟨b, 0, none⟩), .slice none 0 0] (ρ.t 72) fz) := hbk
    simp [World.cell?, h']
  have c2 : (w.alloc (.cells cs (ρ.t 5))).cell? ⟨b, 1, none⟩ = some (.slice none 0 0) := by
    have h' : (w.alloc (.cells cs (ρ.t 5))).heap[b]? = _ := (Lib.alloc_old w _ b hlt).trans hbk
    simp [World.cell?, h']
  have f2 : (w.alloc (.cells cs (ρ.t 5))).frozen? ⟨b, 1, none⟩ = false := by
    have h' : (w.alloc (.cells cs (ρ.t 5))).heap[b]? = _ := (Lib.alloc_old w _ b hlt).trans hbk
    have h1 := hfz 1 (by omega)
    obtain ⟨x, y⟩ := fz
    simp only [World.frozen?, h']
    simp only at h1
    simp only [Bool.and_eq_false_iff, decide_eq_false_iff_not]
    omega
  have hcopy : ∀ W : World, (Builtin.copy_ #[(ρ.t 37), (ρ.t 37)] (ρ.t 3) #[.slice (some ⟨w.heap.size, 0, none⟩) 0 cs.size, .slice none 0 0]).run P W = .ok (goInt 0) W :=
    fun W => run_copy_none W (ρ.t 37) (ρ.t 37) (ρ.t 3) (ρ.t 5) _ _ 0 cs.size 0 0 L.t37 X.sizeByte rfl
  clear hw hbk hfz
  have mixed := L.mixed
  have t72 := L.t72; have a72 := L.a72; have z72 := L.z72; have v72 := L.v72; have u72 := run_underlying L.t72
  have t70 := L.t70; have a70 := L.a70; have z70 := L.z70; have v70 := L.v70; have u70 := run_underlying L.t70
  have t37 := L.t37; have a37 := L.a37; have z37 := L.z37; have v37 := L.v37; have u37 := run_underlying L.t37
  have t3 := L.t3; have a3 := L.a3; have z3 := L.z3; have v3 := L.v3; have u3 := run_underlying L.t3
  have t5 := X.t5; have a5 := X.a5; have z5 := X.z5; have v5 := X.v5; have u5 := run_underlying X.t5
  go_enter L.f241, Body.n241_ntmps ρ
  go_wp2
  go_region_o
  all_goals (go_wp2; go_end0; exact ⟨rfl, cs, hle, rfl, rfl, rfl, rfl⟩)
end Go.Proofs
