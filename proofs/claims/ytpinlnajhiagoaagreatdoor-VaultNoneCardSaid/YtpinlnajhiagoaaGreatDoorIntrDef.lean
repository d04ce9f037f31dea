/-
  Functions whose bodies the evaluator does not run: what they do, told directly.
-/
import Derived.Test.YtpinlnajhiagoaaGreatDoorFastDef
import Derived.Lib.Bytealg
set_option linter.unusedVariables false
set_option linter.unusedSimpArgs false
namespace Go.Det
open Go
noncomputable section

/-- entries laid into a row, in rising order; i: the place of the row's first cell, lo: key 0's place, ln: how many keys there may be -/
def mergeO {β : Type} (lo ln : Nat) (row : List Value) (i : Nat) (es : List Ent) (k : List Value → Option β) : Option β :=
  List.rec (motive := fun _ => Nat → List Ent → (List Value → Option β) → Option β)
    (fun _ es k => List.rec (motive := fun _ => Option β) (k []) (fun _ _ _ => none) es)
    (fun x xs ih i es k => List.rec (motive := fun _ => Option β) (k (x :: xs)) (fun e es' _ =>
      ONat.rec (motive := fun _ => Option β) none (fun ik n =>
        Bool.rec (motive := fun _ => Option β) (ih (Nat.succ i) es (fun r => k (x :: r)))
          (Bool.rec (motive := fun _ => Option β) none (Bool.rec (motive := fun _ => Option β) none (OSl.rec (motive := fun _ => Option β) none (fun _ _ _ => ih (Nat.succ i) es' (fun r => k (e.val :: r))) (asSl e.val)) (ikeq ik .i64)) (Nat.ble (Nat.succ n) ln))
          (Nat.beq (Nat.add lo n) i)) (asNat e.key)) es) row i es k

/-- the entries' stamps rise, below ck -/
def bornsOk (ck : Nat) (es : List Ent) (last : Nat) : Bool :=
  List.rec (motive := fun _ => Nat → Bool) (fun last => Nat.ble last ck) (fun e _ ih last => Bool.rec (motive := fun _ => Bool) false (ih (Nat.succ e.born)) (Nat.ble last e.born)) es last

def nineOf (row : List Value) : Option (Value × Value × Value × Value) := match row with
  | [a, b, c, d, _, _, _, _, _] => some (a, b, c, d)
  | _ => none

/-- (*Disk).Flush of a disk with power -/
def flushI (args : List Value) (s : St) : Option (Value × St) := match args with
  | [.pointer (some ⟨b, 0, none⟩)] => match asRow (hget s.hp b) with
    | .is rw _ op => match nineOf rw with
      | some (d0, d1, d2, d3) => match asSl d0, asMp d1 with
        | .is (some ⟨lb, lo, none⟩) ln lc, .is m => match asMap (hget s.hp m), asRow (hget s.hp lb) with
          | .is es ck, .is row e o => match asBool d2, asInt d3 with
            | .ff, .is ik i => cond (!op && ikeq ik .i64 && ibeq i (-1) && Nat.ble 1 ln && Nat.ble (lo + ln) (llen row) && Nat.blt lc OPEN && bornsOk ck es 0 && !(Nat.beq b lb))
              (mergeO lo ln row 0 es fun row' => some (.int .i64 (.ofNat 0), { s with hp := (s.hp.set HD lb (.cells row' e o)).set HD m (.map [] ck) })) none
            | _, _ => none
          | _, _ => none
        | _, _ => none
      | none => none
    | .no => none
  | _ => none

def insN (x : Nat) (l : List Nat) : List Nat := List.rec (motive := fun _ => List Nat) [x] (fun y ys ih => cond (Nat.ble x y) (x :: y :: ys) (y :: ih)) l
def sortN (l : List Nat) : List Nat := List.rec (motive := fun _ => List Nat) [] (fun x _ ih => insN x ih) l
def keysN (es : List Ent) : Option (List Nat) := List.rec (motive := fun _ => Option (List Nat)) (some []) (fun e _ ih => match asNat e.key, ih with
  | .is ik n, some l => cond (ikeq ik .i64 && Nat.ble n (2 ^ 40)) (some (n :: l)) none
  | _, _ => none) es
/-- each above the one ahead -/
def risN (l : List Nat) (last : Nat) : Bool := List.rec (motive := fun _ => Nat → Bool) (fun _ => true) (fun x _ ih last => Bool.rec (motive := fun _ => Bool) false (ih (Nat.succ x)) (Nat.ble last x)) l last

/-- slices.Sorted(maps.Keys(m)) at map[int]; G: the iterator's number; E: the elements' type -/
def sortedI (G : FuncId) (E : TypeId) (args : List Value) (s : St) : Option (Value × St) := match args with
  | [.func (.func g) first cap] => match first.toList, cap.toList with
    | [], [.pointer (some ⟨b, 0, none⟩)] => match asRow (hget s.hp b) with
      | .is rw _ op => match rw with
        | [c] => match asMp c with
          | .is m => match asMap (hget s.hp m) with
            | .is es ck => match keysN es with
              | some ks => cond (Nat.beq g G && !op && Nat.ble (llen es) (2 ^ 20) && bornsOk ck es 0 && risN (sortN ks) 0)
                (match sortN ks with
                  | [] => some (.slice none 0 0, s)
                  | x :: xs => match s.new (.cells ((x :: xs).map fun n => .int .i64 (.ofNat n)) E true) with
                    | some (d, s') => some (.slice (some ⟨d, 0, none⟩) (x :: xs).length (OPEN + (x :: xs).length), s')
                    | none => none) none
              | none => none
            | .no => none
          | _ => none
        | _ => none
      | .no => none
    | _, _ => none
  | _ => none

/-- slices.Sorted(maps.Keys(m)) at map[string], of no entry -/
def sortedS (G : FuncId) (args : List Value) (s : St) : Option (Value × St) := match args with
  | [.func (.func g) first cap] => match first.toList, cap.toList with
    | [], [.pointer (some ⟨b, 0, none⟩)] => match asRow (hget s.hp b) with
      | .is rw _ op => match rw with
        | [c] => match asMp c with
          | .nil => cond (Nat.beq g G && !op) (some (.slice none 0 0, s)) none
          | .is m => match asMap (hget s.hp m) with
            | .is es _ => match es with
              | [] => cond (Nat.beq g G && !op) (some (.slice none 0 0, s)) none
              | _ => none
            | .no => none
          | .no => none
        | _ => none
      | .no => none
    | _, _ => none
  | _ => none

def compareI (args : List Value) (s : St) : Option (Value × St) := match args with
  | [.slice (some a) n _, .slice (some b) m _] => match (cellsAt s.hp a n).bind bytesOf, (cellsAt s.hp b m).bind bytesOf with
    | some x, some y => some (.int .i64 (Lib.compareBytes x y), s)
    | _, _ => none
  | _ => none

def indexByteI (args : List Value) (s : St) : Option (Value × St) := match args with
  | [.string t, .int .u8 c] => some (.int .i64 (Lib.indexByte t.data.toList c.toNat.toUInt8), s)
  | _ => none

def countI (args : List Value) (s : St) : Option (Value × St) := match args with
  | [.string t, .int .u8 c] => some (.int .i64 (Lib.countByte t.data.toList c.toNat.toUInt8 : Nat), s)
  | _ => none

/-- (*strings.Builder).copyCheck; T: the builder's type -/
def copyCheckI (T : TypeId) (args : List Value) (s : St) : Option (Value × St) := match args with
  | [.pointer (some ⟨b, 0, none⟩)] => match hget s.hp b with
    | some (.cells [.pointer none, x] e false) => cond (Nat.beq e T) (some (.tuple #[], { s with hp := s.hp.set HD b (.cells [.pointer (some ⟨b, 0, none⟩), x] e false) })) none
    | some (.cells [.pointer (some ⟨c, 0, none⟩), _] _ false) => cond (Nat.beq b c) (some (.tuple #[], s)) none
    | _ => none
  | _ => none

/-- (*strings.Builder).String: the buffer is given up -/
def builderStringI (T B : TypeId) (args : List Value) (s : St) : Option (Value × St) := match args with
  | [.pointer (some ⟨b, 0, none⟩)] => match hget s.hp b with
    | some (.cells [_, .slice (some ⟨g, o, none⟩) n c] e false) => match hget s.hp g, (cellsAt s.hp ⟨g, o, none⟩ n).bind bytesOf with
      | some (.cells _ e2 _), some l => cond (Nat.beq e T && Nat.beq e2 B && Nat.ble 1 n && Nat.ble n (known c) && Nat.ble n (2 ^ 40)) (some (.string ⟨l.toArray⟩, { s with hp := s.hp.del HD g })) none
      | _, _ => none
    | _ => none
  | _ => none

/-- (*strings.Builder).grow of one that has no buffer yet -/
def growI (T B : TypeId) (args : List Value) (s : St) : Option (Value × St) := match args with
  | [.pointer (some ⟨b, 0, none⟩), .int .i64 (.ofNat n)] => match hget s.hp b with
    | some (.cells [.pointer (some ⟨c, 0, none⟩), .slice none 0 0] e false) => cond (Nat.beq b c && Nat.beq e T && Nat.ble n (2 ^ 40))
      (match s.new (.cells [] B true) with
        | some (d, s') => some (.tuple #[], { s' with hp := s'.hp.set HD b (.cells [.pointer (some ⟨c, 0, none⟩), .slice (some ⟨d, 0, none⟩) 0 OPEN] e false) })
        | none => none) none
    | _ => none
  | _ => none

def numDig : Nat → Nat → Nat
  | 0, _ => 1
  | f + 1, d => cond (Nat.blt d 10) 1 (numDig f (d / 10) + 1)

/-- internal/strconv.numDigits -/
def numDigitsI (args : List Value) (s : St) : Option (Value × St) := match args with
  | [.int .u64 (.ofNat d)] => cond (Nat.ble 1 d && Nat.blt d 18446744073709551616) (some (.int .i64 (.ofNat (numDig 20 d)), s)) none
  | _ => none

end
end Go.Det
