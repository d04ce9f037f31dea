/-
  The evaluator again, in a form that the kernel runs fast: closed closures for all that the text alone decides; what is left is handed on to a continuation.
-/
import Derived.Test.YtpinlnajhiagoaaGreatDoorEvMain
set_option linter.unusedVariables false
set_option linter.unusedSimpArgs false
namespace Go.Det
open Go

structure Clo (α : Type) where
  run : α

noncomputable section

abbrev Sl := Tr SD Value
abbrev Df := List Deferred
abbrev Hp := Heap

/-! ### Sixteen branches -/
def pick16 {α : Type} (i : Nat) : Clo (R16 α → α) :=
  (Nat.rec (motive := fun _ => Clo (R16 α → α)) ⟨fun r => r.a0⟩ (fun m0 _ => (Nat.rec (motive := fun _ => Clo (R16 α → α)) ⟨fun r => r.a1⟩ (fun m1 _ => (Nat.rec (motive := fun _ => Clo (R16 α → α)) ⟨fun r => r.a2⟩ (fun m2 _ => (Nat.rec (motive := fun _ => Clo (R16 α → α)) ⟨fun r => r.a3⟩ (fun m3 _ => (Nat.rec (motive := fun _ => Clo (R16 α → α)) ⟨fun r => r.a4⟩ (fun m4 _ => (Nat.rec (motive := fun _ => Clo (R16 α → α)) ⟨fun r => r.a5⟩ (fun m5 _ => (Nat.rec (motive := fun _ => Clo (R16 α → α)) ⟨fun r => r.a6⟩ (fun m6 _ => (Nat.rec (motive := fun _ => Clo (R16 α → α)) ⟨fun r => r.a7⟩ (fun m7 _ => (Nat.rec (motive := fun _ => Clo (R16 α → α)) ⟨fun r => r.a8⟩ (fun m8 _ => (Nat.rec (motive := fun _ => Clo (R16 α → α)) ⟨fun r => r.a9⟩ (fun m9 _ => (Nat.rec (motive := fun _ => Clo (R16 α → α)) ⟨fun r => r.a10⟩ (fun m10 _ => (Nat.rec (motive := fun _ => Clo (R16 α → α)) ⟨fun r => r.a11⟩ (fun m11 _ => (Nat.rec (motive := fun _ => Clo (R16 α → α)) ⟨fun r => r.a12⟩ (fun m12 _ => (Nat.rec (motive := fun _ => Clo (R16 α → α)) ⟨fun r => r.a13⟩ (fun m13 _ => (Nat.rec (motive := fun _ => Clo (R16 α → α)) ⟨fun r => r.a14⟩ (fun _ _ => ⟨fun r => r.a15⟩) m13)) m12)) m11)) m10)) m9)) m8)) m7)) m6)) m5)) m4)) m3)) m2)) m1)) m0)) i)

def put16 {α : Type} (i : Nat) : Clo (R16 α → α → (R16 α → Bool) → Bool) :=
  (Nat.rec (motive := fun _ => Clo (R16 α → α → (R16 α → Bool) → Bool)) ⟨fun r v k => R16.rec (motive := fun _ => α → (R16 α → Bool) → Bool) (fun _ a1 a2 a3 a4 a5 a6 a7 a8 a9 a10 a11 a12 a13 a14 a15 v k => k (R16.mk v a1 a2 a3 a4 a5 a6 a7 a8 a9 a10 a11 a12 a13 a14 a15)) r v k⟩ (fun m0 _ => (Nat.rec (motive := fun _ => Clo (R16 α → α → (R16 α → Bool) → Bool)) ⟨fun r v k => R16.rec (motive := fun _ => α → (R16 α → Bool) → Bool) (fun a0 _ a2 a3 a4 a5 a6 a7 a8 a9 a10 a11 a12 a13 a14 a15 v k => k (R16.mk a0 v a2 a3 a4 a5 a6 a7 a8 a9 a10 a11 a12 a13 a14 a15)) r v k⟩ (fun m1 _ => (Nat.rec (motive := fun _ => Clo (R16 α → α → (R16 α → Bool) → Bool)) ⟨fun r v k => R16.rec (motive := fun _ => α → (R16 α → Bool) → Bool) (fun a0 a1 _ a3 a4 a5 a6 a7 a8 a9 a10 a11 a12 a13 a14 a15 v k => k (R16.mk a0 a1 v a3 a4 a5 a6 a7 a8 a9 a10 a11 a12 a13 a14 a15)) r v k⟩ (fun m2 _ => (Nat.rec (motive := fun _ => Clo (R16 α → α → (R16 α → Bool) → Bool)) ⟨fun r v k => R16.rec (motive := fun _ => α → (R16 α → Bool) → Bool) (fun a0 a1 a2 _ a4 a5 a6 a7 a8 a9 a10 a11 a12 a13 a14 a15 v k => k (R16.mk a0 a1 a2 v a4 a5 a6 a7 a8 a9 a10 a11 a12 a13 a14 a15)) r v k⟩ (fun m3 _ => (Nat.rec (motive := fun _ => Clo (R16 α → α → (R16 α → Bool) → Bool)) ⟨fun r v k => R16.rec (motive := fun _ => α → (R16 α → Bool) → Bool) (fun a0 a1 a2 a3 _ a5 a6 a7 a8 a9 a10 a11 a12 a13 a14 a15 v k => k (R16.mk a0 a1 a2 a3 v a5 a6 a7 a8 a9 a10 a11 a12 a13 a14 a15)) r v k⟩ (fun m4 _ => (Nat.rec (motive := fun _ => Clo (R16 α → α → (R16 α → Bool) → Bool)) ⟨fun r v k => R16.rec (motive := fun _ => α → (R16 α → Bool) → Bool) (fun a0 a1 a2 a3 a4 _ a6 a7 a8 a9 a10 a11 a12 a13 a14 a15 v k => k (R16.mk a0 a1 a2 a3 a4 v a6 a7 a8 a9 a10 a11 a12 a13 a14 a15)) r v k⟩ (fun m5 _ => (Nat.rec (motive := fun _ => Clo (R16 α → α → (R16 α → Bool) → Bool)) ⟨fun r v k => R16.rec (motive := fun _ => α → (R16 α → Bool) → Bool) (fun a0 a1 a2 a3 a4 a5 _ a7 a8 a9 a10 a11 a12 a13 a14 a15 v k => k (R16.mk a0 a1 a2 a3 a4 a5 v a7 a8 a9 a10 a11 a12 a13 a14 a15)) r v k⟩ (fun m6 _ => (Nat.rec (motive := fun _ => Clo (R16 α → α → (R16 α → Bool) → Bool)) ⟨fun r v k => R16.rec (motive := fun _ => α → (R16 α → Bool) → Bool) (fun a0 a1 a2 a3 a4 a5 a6 _ a8 a9 a10 a11 a12 a13 a14 a15 v k => k (R16.mk a0 a1 a2 a3 a4 a5 a6 v a8 a9 a10 a11 a12 a13 a14 a15)) r v k⟩ (fun m7 _ => (Nat.rec (motive := fun _ => Clo (R16 α → α → (R16 α → Bool) → Bool)) ⟨fun r v k => R16.rec (motive := fun _ => α → (R16 α → Bool) → Bool) (fun a0 a1 a2 a3 a4 a5 a6 a7 _ a9 a10 a11 a12 a13 a14 a15 v k => k (R16.mk a0 a1 a2 a3 a4 a5 a6 a7 v a9 a10 a11 a12 a13 a14 a15)) r v k⟩ (fun m8 _ => (Nat.rec (motive := fun _ => Clo (R16 α → α → (R16 α → Bool) → Bool)) ⟨fun r v k => R16.rec (motive := fun _ => α → (R16 α → Bool) → Bool) (fun a0 a1 a2 a3 a4 a5 a6 a7 a8 _ a10 a11 a12 a13 a14 a15 v k => k (R16.mk a0 a1 a2 a3 a4 a5 a6 a7 a8 v a10 a11 a12 a13 a14 a15)) r v k⟩ (fun m9 _ => (Nat.rec (motive := fun _ => Clo (R16 α → α → (R16 α → Bool) → Bool)) ⟨fun r v k => R16.rec (motive := fun _ => α → (R16 α → Bool) → Bool) (fun a0 a1 a2 a3 a4 a5 a6 a7 a8 a9 _ a11 a12 a13 a14 a15 v k => k (R16.mk a0 a1 a2 a3 a4 a5 a6 a7 a8 a9 v a11 a12 a13 a14 a15)) r v k⟩ (fun m10 _ => (Nat.rec (motive := fun _ => Clo (R16 α → α → (R16 α → Bool) → Bool)) ⟨fun r v k => R16.rec (motive := fun _ => α → (R16 α → Bool) → Bool) (fun a0 a1 a2 a3 a4 a5 a6 a7 a8 a9 a10 _ a12 a13 a14 a15 v k => k (R16.mk a0 a1 a2 a3 a4 a5 a6 a7 a8 a9 a10 v a12 a13 a14 a15)) r v k⟩ (fun m11 _ => (Nat.rec (motive := fun _ => Clo (R16 α → α → (R16 α → Bool) → Bool)) ⟨fun r v k => R16.rec (motive := fun _ => α → (R16 α → Bool) → Bool) (fun a0 a1 a2 a3 a4 a5 a6 a7 a8 a9 a10 a11 _ a13 a14 a15 v k => k (R16.mk a0 a1 a2 a3 a4 a5 a6 a7 a8 a9 a10 a11 v a13 a14 a15)) r v k⟩ (fun m12 _ => (Nat.rec (motive := fun _ => Clo (R16 α → α → (R16 α → Bool) → Bool)) ⟨fun r v k => R16.rec (motive := fun _ => α → (R16 α → Bool) → Bool) (fun a0 a1 a2 a3 a4 a5 a6 a7 a8 a9 a10 a11 a12 _ a14 a15 v k => k (R16.mk a0 a1 a2 a3 a4 a5 a6 a7 a8 a9 a10 a11 a12 v a14 a15)) r v k⟩ (fun m13 _ => (Nat.rec (motive := fun _ => Clo (R16 α → α → (R16 α → Bool) → Bool)) ⟨fun r v k => R16.rec (motive := fun _ => α → (R16 α → Bool) → Bool) (fun a0 a1 a2 a3 a4 a5 a6 a7 a8 a9 a10 a11 a12 a13 _ a15 v k => k (R16.mk a0 a1 a2 a3 a4 a5 a6 a7 a8 a9 a10 a11 a12 a13 v a15)) r v k⟩ (fun _ _ => ⟨fun r v k => R16.rec (motive := fun _ => α → (R16 α → Bool) → Bool) (fun a0 a1 a2 a3 a4 a5 a6 a7 a8 a9 a10 a11 a12 a13 a14 _ v k => k (R16.mk a0 a1 a2 a3 a4 a5 a6 a7 a8 a9 a10 a11 a12 a13 a14 v)) r v k⟩) m13)) m12)) m11)) m10)) m9)) m8)) m7)) m6)) m5)) m4)) m3)) m2)) m1)) m0)) i)

/-- a closure's inside laid into another: all that is closed is reckoned once -/
def Clo.use {α β : Type} (c : Clo α) (f : α → β) : β := Clo.rec (motive := fun _ => β) f c

/-- a place where the kernel draws breath -/
def tick (b : Bool) : Bool := b

def tget {α : Type} (d : Nat) : Nat → Clo (Tr d α → Option α) :=
  Nat.rec (motive := fun d => Nat → Clo (Tr d α → Option α)) (fun _ => ⟨fun t => t⟩)
    (fun d ih n => (ih (Nat.div n 16)).use fun f => (pick16 (α := Tr d α) (Nat.mod n 16)).use fun g => ⟨fun t => f (g t)⟩) d

def tput {α : Type} (d : Nat) : Nat → Clo (Tr d α → Option α → (Tr d α → Bool) → Bool) :=
  Nat.rec (motive := fun d => Nat → Clo (Tr d α → Option α → (Tr d α → Bool) → Bool)) (fun _ => ⟨fun _ o k => k o⟩)
    (fun d ih n => (ih (Nat.div n 16)).use fun f => (pick16 (α := Tr d α) (Nat.mod n 16)).use fun g => (put16 (α := Tr d α) (Nat.mod n 16)).use fun p => ⟨fun t o k => f (g t) o (fun x => p t x k)⟩) d

def sget (t : Nat) : Clo (Sl → Option Value) := tget SD t
def sput (t : Nat) : Clo (Sl → Option Value → (Sl → Bool) → Bool) := tput SD t

/-! ### What a value is -/
inductive ONat where
  | no
  | is (k : IntKind) (n : Nat)
inductive OInt where
  | no
  | is (k : IntKind) (n : Int)
inductive OBool where
  | no
  | tt
  | ff
inductive OPtr where
  | no
  | nil
  | is (b off : Nat) (spot : Option Nat)
inductive OSl where
  | no
  | is (a : Option Addr) (n c : Nat)
inductive ORow where
  | no
  | is (row : List Value) (e : TypeId) (o : Bool)
inductive OMap where
  | no
  | is (es : List Ent) (c : Nat)

def intNat (k : IntKind) (i : Int) : ONat := Int.rec (motive := fun _ => ONat) (fun n => .is k n) (fun _ => .no) i

def asNat (v : Value) : ONat := Value.rec (motive_1 := fun _ => ONat) (motive_2 := fun _ => Unit) (motive_3 := fun _ => Unit)
  (fun _ => .no) (fun k n => intNat k n) (fun _ _ => .no) (fun _ _ _ => .no) (fun _ => .no) (fun _ => .no) (fun _ _ _ => .no) (fun _ => .no) (fun _ => .no) (fun _ _ _ _ _ => .no) .no (fun _ _ _ => .no) .no (fun _ _ => .no) (fun _ _ => .no) (fun _ _ => ()) () (fun _ _ _ _ => ()) v

def asInt (v : Value) : OInt := Value.rec (motive_1 := fun _ => OInt) (motive_2 := fun _ => Unit) (motive_3 := fun _ => Unit)
  (fun _ => .no) (fun k n => .is k n) (fun _ _ => .no) (fun _ _ _ => .no) (fun _ => .no) (fun _ => .no) (fun _ _ _ => .no) (fun _ => .no) (fun _ => .no) (fun _ _ _ _ _ => .no) .no (fun _ _ _ => .no) .no (fun _ _ => .no) (fun _ _ => .no) (fun _ _ => ()) () (fun _ _ _ _ => ()) v

def bO (b : Bool) : OBool := Bool.rec (motive := fun _ => OBool) .ff .tt b
def asBool (v : Value) : OBool := Value.rec (motive_1 := fun _ => OBool) (motive_2 := fun _ => Unit) (motive_3 := fun _ => Unit)
  (fun b => bO b) (fun _ _ => .no) (fun _ _ => .no) (fun _ _ _ => .no) (fun _ => .no) (fun _ => .no) (fun _ _ _ => .no) (fun _ => .no) (fun _ => .no) (fun _ _ _ _ _ => .no) .no (fun _ _ _ => .no) .no (fun _ _ => .no) (fun _ _ => .no) (fun _ _ => ()) () (fun _ _ _ _ => ()) v
def asBoolO (v : Option Value) : OBool := Option.rec (motive := fun _ => OBool) .no asBool v
/-- a guard that wants true (false): whatever else is there is not wanted -/
def asWantT (v : Option Value) : OBool := Option.rec (motive := fun _ => OBool) .no (fun v => OBool.rec (motive := fun _ => OBool) .ff .tt .ff (asBool v)) v
def asWantF (v : Option Value) : OBool := Option.rec (motive := fun _ => OBool) .no (fun v => OBool.rec (motive := fun _ => OBool) .tt .tt .ff (asBool v)) v

def ptrO (a : Option Addr) : OPtr := Option.rec (motive := fun _ => OPtr) .nil (fun a => Addr.rec (motive := fun _ => OPtr) (fun b off spot => .is b off spot) a) a
def asPtr (v : Value) : OPtr := Value.rec (motive_1 := fun _ => OPtr) (motive_2 := fun _ => Unit) (motive_3 := fun _ => Unit)
  (fun _ => .no) (fun _ _ => .no) (fun _ _ => .no) (fun _ _ _ => .no) (fun _ => .no) (fun a => ptrO a) (fun _ _ _ => .no) (fun _ => .no) (fun _ => .no) (fun _ _ _ _ _ => .no) .no (fun _ _ _ => .no) .no (fun _ _ => .no) (fun _ _ => .no) (fun _ _ => ()) () (fun _ _ _ _ => ()) v

def asSl (v : Value) : OSl := Value.rec (motive_1 := fun _ => OSl) (motive_2 := fun _ => Unit) (motive_3 := fun _ => Unit)
  (fun _ => .no) (fun _ _ => .no) (fun _ _ => .no) (fun _ _ _ => .no) (fun _ => .no) (fun _ => .no) (fun a n c => .is a n c) (fun _ => .no) (fun _ => .no) (fun _ _ _ _ _ => .no) .no (fun _ _ _ => .no) .no (fun _ _ => .no) (fun _ _ => .no) (fun _ _ => ()) () (fun _ _ _ _ => ()) v

def oneCell (v : Value) : Bool := Value.rec (motive_1 := fun _ => Bool) (motive_2 := fun _ => Unit) (motive_3 := fun _ => Unit)
  (fun _ => true) (fun _ _ => true) (fun _ _ => true) (fun _ _ _ => true) (fun _ => true) (fun _ => true) (fun _ _ _ => true) (fun _ => true) (fun _ => true) (fun _ _ _ _ _ => true) true (fun _ _ _ => true) true (fun _ _ => false) (fun _ _ => false) (fun _ _ => ()) () (fun _ _ _ _ => ()) v

def asRow (o : Option DObj) : ORow := Option.rec (motive := fun _ => ORow) .no (fun o => DObj.rec (motive := fun _ => ORow) (fun row e op => .is row e op) (fun _ _ => .no) .no (fun _ => .no) (fun _ _ _ _ _ _ _ _ _ => .no) .no o) o
def asMap (o : Option DObj) : OMap := Option.rec (motive := fun _ => OMap) .no (fun o => DObj.rec (motive := fun _ => OMap) (fun _ _ _ => .no) (fun es c => .is es c) .no (fun _ => .no) (fun _ _ _ _ _ _ _ _ _ => .no) .no o) o

/-! ### Integers -/
def modk : IntKind → Nat
  | .i8 | .u8 => 256
  | .i16 | .u16 => 65536
  | .i32 | .u32 => 4294967296
  | .i64 | .u64 => 18446744073709551616
def maxk : IntKind → Nat
  | .i8 => 127
  | .u8 => 255
  | .i16 => 32767
  | .u16 => 65535
  | .i32 => 2147483647
  | .u32 => 4294967295
  | .i64 => 9223372036854775807
  | .u64 => 18446744073709551615
def bitk : IntKind → Nat
  | .i8 | .u8 => 8
  | .i16 | .u16 => 16
  | .i32 | .u32 => 32
  | .i64 | .u64 => 64
def sgnk : IntKind → Bool
  | .i8 | .i16 | .i32 | .i64 => true
  | _ => false
def ikeq : IntKind → IntKind → Bool
  | .i8, .i8 | .i16, .i16 | .i32, .i32 | .i64, .i64 | .u8, .u8 | .u16, .u16 | .u32, .u32 | .u64, .u64 => true
  | _, _ => false

def forceN (n : Nat) (k : Nat → Bool) : Bool := Nat.rec (motive := fun _ => (Nat → Bool) → Bool) (fun k => k 0) (fun m _ k => k (Nat.succ m)) n k
def forceB (b : Bool) (k : Bool → Bool) : Bool := Bool.rec (motive := fun _ => (Bool → Bool) → Bool) (fun k => k false) (fun k => k true) b k
def bnot (b : Bool) : Bool := Bool.rec (motive := fun _ => Bool) true false b

def ibeq (x y : Int) : Bool := Int.rec (motive := fun _ => Int → Bool)
  (fun a y => Int.rec (motive := fun _ => Nat → Bool) (fun b a => Nat.beq a b) (fun _ _ => false) y a)
  (fun a y => Int.rec (motive := fun _ => Nat → Bool) (fun _ _ => false) (fun b a => Nat.beq a b) y a) x y
def ilt (x y : Int) : Bool := Int.rec (motive := fun _ => Int → Bool)
  (fun a y => Int.rec (motive := fun _ => Nat → Bool) (fun b a => Nat.ble (Nat.succ a) b) (fun _ _ => false) y a)
  (fun a y => Int.rec (motive := fun _ => Nat → Bool) (fun _ _ => true) (fun b a => Nat.ble (Nat.succ b) a) y a) x y

section
variable (P : Program)

abbrev Bin := Clo (Value → Value → (Value → Bool) → Bool)

def slowBin (op : BinOp) (t : TypeId) (a b : Value) (k : Value → Bool) : Bool := Option.rec (motive := fun _ => Bool) false k (dBin P op t a b)

/-- on numbers that are not negative; the outcome wraps -/
def natBin (f : Nat → Nat → Nat) (op : BinOp) (t : TypeId) : Bin := ⟨fun a b k =>
  ONat.rec (motive := fun _ => Bool) (slowBin P op t a b k) (fun ka na =>
    ONat.rec (motive := fun _ => Bool) (slowBin P op t a b k) (fun kb nb =>
      Bool.rec (motive := fun _ => Bool) (slowBin P op t a b k)
        (forceN (Nat.mod (f na nb) (modk ka)) fun r => Bool.rec (motive := fun _ => Bool) (slowBin P op t a b k) (k (.int ka (.ofNat r))) (Nat.ble r (maxk ka)))
        (ikeq ka kb)) (asNat b)) (asNat a)⟩

def subBin (t : TypeId) : Bin := ⟨fun a b k =>
  ONat.rec (motive := fun _ => Bool) (slowBin P .sub t a b k) (fun ka na =>
    ONat.rec (motive := fun _ => Bool) (slowBin P .sub t a b k) (fun kb nb =>
      Bool.rec (motive := fun _ => Bool) (slowBin P .sub t a b k)
        (Bool.rec (motive := fun _ => Bool)
          (Bool.rec (motive := fun _ => Bool) (slowBin P .sub t a b k)
            (forceN (Nat.sub (Nat.sub nb na) 1) fun r => Bool.rec (motive := fun _ => Bool) (slowBin P .sub t a b k) (k (.int ka (.negSucc r))) (Nat.ble r (maxk ka))) (sgnk ka))
          (forceN (Nat.sub na nb) fun r => Bool.rec (motive := fun _ => Bool) (slowBin P .sub t a b k) (k (.int ka (.ofNat r))) (Nat.ble r (maxk ka)))
          (Nat.ble nb na))
        (ikeq ka kb)) (asNat b)) (asNat a)⟩

/-- shifts: the second's kind is free -/
def shBin (f : Nat → Nat → Nat) (op : BinOp) (t : TypeId) : Bin := ⟨fun a b k =>
  ONat.rec (motive := fun _ => Bool) (slowBin P op t a b k) (fun ka na =>
    ONat.rec (motive := fun _ => Bool) (slowBin P op t a b k) (fun _ nb =>
      Bool.rec (motive := fun _ => Bool) (slowBin P op t a b k)
        (forceN (Nat.mod (f na nb) (modk ka)) fun r => Bool.rec (motive := fun _ => Bool) (slowBin P op t a b k) (k (.int ka (.ofNat r))) (Nat.ble r (maxk ka)))
        (Nat.ble nb (bitk ka))) (asNat b)) (asNat a)⟩

def shrBin (t : TypeId) : Bin := ⟨fun a b k =>
  ONat.rec (motive := fun _ => Bool) (slowBin P .shr t a b k) (fun ka na =>
    ONat.rec (motive := fun _ => Bool) (slowBin P .shr t a b k) (fun _ nb =>
      Bool.rec (motive := fun _ => Bool) (slowBin P .shr t a b k)
        (forceN (Nat.div na (Nat.pow 2 nb)) fun r => k (.int ka (.ofNat r)))
        (Nat.ble nb (bitk ka))) (asNat b)) (asNat a)⟩

/-- division -/
def divBin (f : Nat → Nat → Nat) (op : BinOp) (t : TypeId) : Bin := ⟨fun a b k =>
  ONat.rec (motive := fun _ => Bool) (slowBin P op t a b k) (fun ka na =>
    ONat.rec (motive := fun _ => Bool) (slowBin P op t a b k) (fun kb nb =>
      Bool.rec (motive := fun _ => Bool) (slowBin P op t a b k)
        (Bool.rec (motive := fun _ => Bool) (slowBin P op t a b k)
        (forceN (f na nb) fun r => Bool.rec (motive := fun _ => Bool) (slowBin P op t a b k) (k (.int ka (.ofNat r))) (Nat.ble r (maxk ka))) (Nat.ble 1 nb))
        (ikeq ka kb)) (asNat b)) (asNat a)⟩

def cmpBin (f : Int → Int → Bool) (rest : Value → Value → (Value → Bool) → Bool) : Bin := ⟨fun a b k =>
  OInt.rec (motive := fun _ => Bool) (rest a b k) (fun ka na =>
    OInt.rec (motive := fun _ => Bool) (rest a b k) (fun kb nb =>
      Bool.rec (motive := fun _ => Bool) (rest a b k) (forceB (f na nb) fun r => k (.bool r)) (ikeq ka kb)) (asInt b)) (asInt a)⟩

def isPtrTy (t : TypeId) : Bool := match tyOf P t with
  | some (.pointer _) => true
  | _ => false

/-- pointers held against nil -/
def ptrEq (neg : Bool) (op : BinOp) (t : TypeId) (a b : Value) (k : Value → Bool) : Bool :=
  OPtr.rec (motive := fun _ => Bool) (slowBin P op t a b k)
    (OPtr.rec (motive := fun _ => Bool) (slowBin P op t a b k) (k (.bool (bnot neg))) (fun _ _ _ => k (.bool neg)) (asPtr b))
    (fun _ _ _ => OPtr.rec (motive := fun _ => Bool) (slowBin P op t a b k) (k (.bool neg)) (fun _ _ _ => slowBin P op t a b k) (asPtr b)) (asPtr a)

def eqRest (neg : Bool) (op : BinOp) (t : TypeId) : Value → Value → (Value → Bool) → Bool := cond (isPtrTy P t) (ptrEq P neg op t) (slowBin P op t)

def binC (op : BinOp) (t : TypeId) : Bin := match op with
  | .add => natBin P Nat.add .add t
  | .mul => natBin P Nat.mul .mul t
  | .and => natBin P Nat.land .and t
  | .or => natBin P Nat.lor .or t
  | .xor => natBin P Nat.xor .xor t
  | .sub => subBin P t
  | .shl => shBin P (fun a b => Nat.mul a (Nat.pow 2 b)) .shl t
  | .shr => shrBin P t
  | .quo => divBin P Nat.div .quo t
  | .rem => divBin P Nat.mod .rem t
  | .lss => cmpBin ilt (slowBin P .lss t)
  | .gtr => cmpBin (fun a b => ilt b a) (slowBin P .gtr t)
  | .leq => cmpBin (fun a b => bnot (ilt b a)) (slowBin P .leq t)
  | .geq => cmpBin (fun a b => bnot (ilt a b)) (slowBin P .geq t)
  | .eql => cmpBin ibeq (eqRest P false .eql t)
  | .neq => cmpBin (fun a b => bnot (ibeq a b)) (eqRest P true .neq t)
  | op => ⟨fun a b k => slowBin P op t a b k⟩

/-! ### Operands -/
def opdC (x : Operand) : Clo (Sl → Option Value) := match x with
  | .tmp t => cond (Nat.blt t (16 ^ SD)) (sget t) ⟨fun _ => none⟩
  | .const v => cond (plainConst v) ⟨fun _ => some v⟩ ⟨fun _ => none⟩
  | .func g => ⟨fun _ => some (.func (.func g) #[] #[])⟩
  | .global _ => ⟨fun _ => none⟩

def opdF (s : Sl) (x : Operand) : Option Value := (opdC x).run s

/-- the operands' values, one behind the other -/
def valsC (l : List Operand) : Clo (Sl → (List Value → Bool) → Bool) :=
  List.rec (motive := fun _ => Clo (Sl → (List Value → Bool) → Bool)) ⟨fun _ k => k []⟩
    (fun x _ ih => ih.use fun r => (opdC x).use fun f => ⟨fun s k => Option.rec (motive := fun _ => Bool) false (fun v => r s (fun vs => k (v :: vs))) (f s)⟩) l

/-! ### The operations that only compute, or read -/
abbrev KV := Value → Hp → Nat → Bool

structure Hd where
  call : FuncId → List Value → Hp → Nat → KV → Bool
  rnd : Nat → List Value → Hp → Nat → KV → Bool
  dfr : FuncId → List Value → Hp → Nat → (Hp → Nat → Bool) → Bool

/-- what an activation has beside its slots -/
structure Ms where
  C : Hd
  df : Df
  h : Hp
  nx : Nat

abbrev K := Sl → Ms → Bool
abbrev KM := Value → Ms → Bool

abbrev ValC := Clo (Sl → Ms → (Value → Bool) → Bool)

def slowVal (o : Op) : ValC := ⟨fun s m k => Option.rec (motive := fun _ => Bool) false k (evVal P (opdF s) m.h o)⟩

/-- the cell at a place of a row -/
def lnth (n : Nat) (l : List Value) : Option Value :=
  Nat.rec (motive := fun _ => List Value → Option Value) (fun l => List.rec (motive := fun _ => Option Value) none (fun x _ _ => some x) l)
    (fun _ ih l => List.rec (motive := fun _ => Option Value) none (fun _ xs _ => ih xs) l) n l

def rnth {α : Type} (n : Nat) (l : List α) : Option α :=
  Nat.rec (motive := fun _ => List α → Option α) (fun l => List.rec (motive := fun _ => Option α) none (fun x _ _ => some x) l)
    (fun _ ih l => List.rec (motive := fun _ => Option α) none (fun _ xs _ => ih xs) l) n l
def fnAt (g : FuncId) : Option Func := rnth g P.funcs.toList
def llen {α : Type} (l : List α) : Nat := List.rec (motive := fun _ => Nat) 0 (fun _ _ n => Nat.succ n) l
def allOne (l : List Value) : Bool := List.rec (motive := fun _ => Bool) true (fun v _ ih => Bool.rec (motive := fun _ => Bool) false ih (oneCell v)) l

/-- behind n cells -/
def ldropK (n : Nat) (l : List Value) (k : List Value → Bool) : Bool :=
  Nat.rec (motive := fun _ => List Value → (List Value → Bool) → Bool) (fun l k => k l) (fun _ ih l k => List.rec (motive := fun _ => Bool) false (fun _ xs _ => ih xs k) l) n l k

/-- n cells of the first over the second's begin -/
def overK (n : Nat) (src dst : List Value) (k : List Value → Bool) : Bool :=
  Nat.rec (motive := fun _ => List Value → List Value → (List Value → Bool) → Bool) (fun _ dst k => k dst)
    (fun _ ih src dst k => List.rec (motive := fun _ => Bool) false (fun x xs _ => List.rec (motive := fun _ => Bool) false (fun _ ys _ => Bool.rec (motive := fun _ => Bool) false (ih xs ys (fun r => k (x :: r))) (oneCell x)) dst) src) n src dst k

/-- .. from place d on -/
def spliceK (d n : Nat) (src dst : List Value) (k : List Value → Bool) : Bool :=
  Nat.rec (motive := fun _ => List Value → (List Value → Bool) → Bool) (fun dst k => overK n src dst k)
    (fun _ ih dst k => List.rec (motive := fun _ => Bool) false (fun y ys _ => ih ys (fun r => k (y :: r))) dst) d dst k

def copyK0 (o d n : Nat) (src dst : List Value) (k : List Value → Bool) : Bool := ldropK o src fun s => spliceK d n s dst k

/-- the row behind a copy of n cells of the one, from o on, over the other, from d on -/
def copyK (o d n : Nat) (src dst : List Value) (k : List Value → Bool) : Bool :=
  Bool.rec (motive := fun _ => Bool) (copyK0 o d n src dst k)
    (Bool.rec (motive := fun _ => Bool) (copyK0 o d n src dst k)
      (Bool.rec (motive := fun _ => Bool) (copyK0 o d n src dst k)
        (Bool.rec (motive := fun _ => Bool) false (k src) (allOne src)) (Nat.beq (llen dst) n)) (Nat.beq (llen src) n))
    (Nat.beq (Nat.add o d) 0)

/-- an entry's key, one above; 0: not such a number -/
def ekey (k : IntKind) (e : Ent) : Nat := match asNat e.key with
  | .is k' n => cond (ikeq k k') (Nat.succ n) 0
  | .no => 0

/-- the entry of a key one below m -/
def findE {β : Type} (ik : IntKind) (m : Nat) (es : List Ent) (bad : β) (no : β) (yes : Nat → Ent → β) : β :=
  List.rec (motive := fun _ => Nat → β) (fun _ => no) (fun e _ ih i => Bool.rec (motive := fun _ => β) (Bool.rec (motive := fun _ => β) (ih (Nat.succ i)) bad (Nat.beq (ekey ik e) 0)) (yes i e) (Nat.beq (ekey ik e) m)) es 0

def lsnoc {α : Type} (l : List α) (x : α) : List α := List.rec (motive := fun _ => List α) [x] (fun y _ ih => y :: ih) l
def lsetR {α : Type} (n : Nat) (x : α) (l : List α) : List α :=
  Nat.rec (motive := fun _ => List α → List α) (fun l => List.rec (motive := fun _ => List α) [] (fun _ ys _ => x :: ys) l) (fun _ ih l => List.rec (motive := fun _ => List α) [] (fun y ys _ => y :: ih ys) l) n l

def intTy (t : TypeId) : Option IntKind := match tyOf P t with
  | some (.int k) => some k
  | _ => none
def mapTy (t : TypeId) : Option (IntKind × TypeId) := match tyOf P t with
  | some (.map kt e) => (intTy P kt).map fun k => (k, e)
  | _ => none
inductive OMp where
  | no
  | nil
  | is (r : Nat)
def mpO (r : Option Nat) : OMp := Option.rec (motive := fun _ => OMp) .nil (fun r => .is r) r
def asMp (v : Value) : OMp := Value.rec (motive_1 := fun _ => OMp) (motive_2 := fun _ => Unit) (motive_3 := fun _ => Unit)
  (fun _ => .no) (fun _ _ => .no) (fun _ _ => .no) (fun _ _ _ => .no) (fun _ => .no) (fun _ => .no) (fun _ _ _ => .no) (fun r => mpO r) (fun _ => .no) (fun _ _ _ _ _ => .no) .no (fun _ _ _ => .no) .no (fun _ _ => .no) (fun _ _ => .no) (fun _ _ => ()) () (fun _ _ _ _ => ()) v

/-- x.field's address -/
def ptrAdd (off c : Nat) (b : Nat) (spot : Option Nat) (k : Value → Bool) : Bool := Option.rec (motive := fun _ => Bool) (forceN (Nat.add off c) fun o => k (.pointer (some ⟨b, o, none⟩))) (fun _ => false) spot

def fieldOff (t : TypeId) (f : Nat) : Option Nat := match tyOf P t with
  | some (.struct fs) => match fs[f]? with
    | some f => match szOf P f.type with
      | some (_ + 1) => some f.offset
      | _ => none
    | none => none
  | _ => none

inductive IxTy where
  | no
  | arr (n s : Nat)
  | sl (s : Nat)
def ixTy (t : TypeId) : IxTy := match tyOf P t with
  | some (.array n e) => match szOf P e with
    | some s => .arr n s
    | none => .no
  | some (.slice e) => match szOf P e with
    | some s => .sl s
    | none => .no
  | _ => .no

def oneTy (t : TypeId) : Bool := match aggOf P t, szOf P t with
  | some false, some _ => true
  | _, _ => false

def valC (o : Op) : ValC := match o with
  | .move x | .assign x => (opdC x).use fun f => ⟨fun s _ k => Option.rec (motive := fun _ => Bool) false k (f s)⟩
  | .pick c a b => (opdC c).use fun fc => (opdC a).use fun fa => (opdC b).use fun fb => ⟨fun s _ k => OBool.rec (motive := fun _ => Bool) false (Option.rec (motive := fun _ => Bool) false k (fa s)) (Option.rec (motive := fun _ => Bool) false k (fb s)) (asBoolO (fc s))⟩
  | .nilCheck x => (opdC x).use fun f => ⟨fun s h k => Option.rec (motive := fun _ => Bool) false (fun v => OPtr.rec (motive := fun _ => Bool) ((slowVal P (.nilCheck x)).run s h k) false (fun _ _ _ => k v) (asPtr v)) (f s)⟩
  | .binOp op t x y _ => (opdC x).use fun fx => (opdC y).use fun fy => (binC P op t).use fun g => ⟨fun s _ k => Option.rec (motive := fun _ => Bool) false (fun a => Option.rec (motive := fun _ => Bool) false (fun b => g a b k) (fy s)) (fx s)⟩
  | .unOp .not t x => (opdC x).use fun f => ⟨fun s h k => OBool.rec (motive := fun _ => Bool) ((slowVal P (.unOp .not t x)).run s h k) (k (.bool false)) (k (.bool true)) (asBoolO (f s))⟩
  | .convert src dst x => match tyOf P src, tyOf P dst with
    | some _, some (.int kd) => (opdC x).use fun f => ⟨fun s h k => Option.rec (motive := fun _ => Bool) false (fun v => ONat.rec (motive := fun _ => Bool) ((slowVal P (.convert src dst x)).run s h k)
        (fun _ n => forceN (Nat.mod n (modk kd)) fun r => Bool.rec (motive := fun _ => Bool) ((slowVal P (.convert src dst x)).run s h k) (k (.int kd (.ofNat r))) (Nat.ble r (maxk kd))) (asNat v)) (f s)⟩
    | _, _ => slowVal P (.convert src dst x)
  | .fieldAddr t x f => match fieldOff P t f with
    | some c => (opdC x).use fun f => ⟨fun s _ k => Option.rec (motive := fun _ => Bool) false (fun v => OPtr.rec (motive := fun _ => Bool) false false (fun b off spot => ptrAdd off c b spot k) (asPtr v)) (f s)⟩
    | none => ⟨fun _ _ _ => false⟩
  | .indexAddr t x i => match ixTy P t with
    | .arr n sz => (opdC x).use fun fx => (opdC i).use fun fi => ⟨fun s _ k => Option.rec (motive := fun _ => Bool) false (fun v => Option.rec (motive := fun _ => Bool) false (fun i => OPtr.rec (motive := fun _ => Bool) false false (fun b off spot =>
        ONat.rec (motive := fun _ => Bool) false (fun _ i => Bool.rec (motive := fun _ => Bool) false (ptrAdd off (Nat.mul i sz) b spot k) (Nat.ble (Nat.succ i) n)) (asNat i)) (asPtr v)) (fi s)) (fx s)⟩
    | .sl sz => (opdC x).use fun fx => (opdC i).use fun fi => ⟨fun s _ k => Option.rec (motive := fun _ => Bool) false (fun v => Option.rec (motive := fun _ => Bool) false (fun i => OSl.rec (motive := fun _ => Bool) false (fun a n _ =>
        OPtr.rec (motive := fun _ => Bool) false false (fun b off spot =>
        ONat.rec (motive := fun _ => Bool) false (fun _ i => Bool.rec (motive := fun _ => Bool) false (ptrAdd off (Nat.mul i sz) b spot k) (Nat.ble (Nat.succ i) n)) (asNat i)) (ptrO a)) (asSl v)) (fi s)) (fx s)⟩
    | .no => ⟨fun _ _ _ => false⟩
  | .load t a => cond (oneTy P t)
      ((opdC a).use fun f => ⟨fun s h k => Option.rec (motive := fun _ => Bool) false (fun v => OPtr.rec (motive := fun _ => Bool) false false (fun b off spot =>
        Option.rec (motive := fun _ => Bool) (ORow.rec (motive := fun _ => Bool) false (fun row _ _ => Option.rec (motive := fun _ => Bool) false k (lnth off row)) (asRow ((tget HD b).run (Ms.h h)))) (fun _ => false) spot) (asPtr v)) (f s)⟩)
      (slowVal P (.load t a))
  | .lookup t m k ok => match mapTy P t with
    | some (ik, e) => match zrOf P e with
      | some z => (opdC m).use fun fm => (opdC k).use fun fk => ⟨fun s h kk => Option.rec (motive := fun _ => Bool) false (fun vm => Option.rec (motive := fun _ => Bool) false (fun vk => ONat.rec (motive := fun _ => Bool) ((slowVal P (.lookup t m k ok)).run s h kk) (fun ik' n =>
          Bool.rec (motive := fun _ => Bool) false
          (OMp.rec (motive := fun _ => Bool) false (kk (cond ok (.tuple #[z, .bool false]) z)) (fun r => OMap.rec (motive := fun _ => Bool) false (fun es _ => findE ik (Nat.succ n) es false (kk (cond ok (.tuple #[z, .bool false]) z)) (fun _ x => kk (cond ok (.tuple #[x.val, .bool true]) x.val))) (asMap ((tget HD r).run (Ms.h h)))) (asMp vm)) (ikeq ik ik')) (asNat vk)) (fk s)) (fm s)⟩
      | none => slowVal P (.lookup t m k ok)
    | none => slowVal P (.lookup t m k ok)
  | o => slowVal P o

/-! ### Operations -/
abbrev OperC := Clo (Sl → Ms → K → Bool)

/-- the outcome into its slot -/
def finC (nt : Nat) (dst : Option Nat) : Clo (Value → Sl → (Sl → Bool) → Bool) := match dst with
  | none => ⟨fun _ s k => k s⟩
  | some d => cond (Nat.blt d nt) ((sput d).use fun p => ⟨fun v s k => p s (some v) k⟩) ⟨fun _ _ _ => false⟩

/-- which operations only compute or read -/
def isVal : Op → Bool
  | .move _ | .assign _ | .pick .. | .nilCheck _ | .binOp .. | .unOp .. | .fieldAddr .. | .field .. | .indexAddr .. | .index .. | .load .. | .lookup .. | .extract .. | .build .. | .slice .. | .makeFunc .. | .sliceToArrayPointer .. => true
  | .convert _ d _ => match tyOf P d with
    | some (.int _) => true
    | _ => false
  | _ => false

/-- an operation that is no call of a function -/
def slowOper (s : Sl) (h : Hp) (nx : Nat) (op : Op) : Option (Value × St) := match evVal P (opdF s) h op with
  | some v => some (v, ⟨h, nx⟩)
  | none => match evNew P (opdF s) op with
    | some (obj, f) => match St.new ⟨h, nx⟩ obj with
      | some (b, s') => some (f b, s')
      | none => none
    | none => evEff P (opdF s) ⟨h, nx⟩ op

def slowBuiltin (s : Sl) (h : Hp) (nx : Nat) (op : Op) : Option (Value × St) := match evEff P (opdF s) ⟨h, nx⟩ op with
  | some r => some r
  | none => (evVal P (opdF s) h op).map fun v => (v, ⟨h, nx⟩)

def takeVS (r : Option (Value × St)) (k : KV) : Bool :=
  Option.rec (motive := fun _ => KV → Bool) (fun _ => false) (fun r k => Prod.rec (motive := fun _ => KV → Bool) (fun v s k => St.rec (motive := fun _ => Value → KV → Bool) (fun hp nx v k => k v hp nx) s v k) r k) r k

abbrev EffC := Clo (Sl → Ms → KM → Bool)
def slowEff (o : Op) : EffC := ⟨fun s m k => Ms.rec (motive := fun _ => Bool) (fun C df h nx => takeVS (slowOper P s h nx o) (fun v h' nx' => k v ⟨C, df, h', nx'⟩)) m⟩
def slowBlt (o : Op) : EffC := ⟨fun s m k => Ms.rec (motive := fun _ => Bool) (fun C df h nx => takeVS (slowBuiltin P s h nx o) (fun v h' nx' => k v ⟨C, df, h', nx'⟩)) m⟩

/-- the row with a cell anew -/
def lput1 (n : Nat) (v : Value) (l : List Value) (k : List Value → Bool) : Bool :=
  Nat.rec (motive := fun _ => List Value → (List Value → Bool) → Bool) (fun l k => List.rec (motive := fun _ => Bool) false (fun _ xs _ => k (v :: xs)) l)
    (fun _ ih l k => List.rec (motive := fun _ => Bool) false (fun x xs _ => ih xs (fun r => k (x :: r))) l) n l k

def effC (o : Op) : EffC := match o with
  | .store t a x => match szOf P t with
    | some 1 => (opdC a).use fun fa => (opdC x).use fun fx => ⟨fun s m k => Option.rec (motive := fun _ => Bool) false (fun p => Option.rec (motive := fun _ => Bool) false (fun v => OPtr.rec (motive := fun _ => Bool) false false (fun b off spot =>
        Bool.rec (motive := fun _ => Bool) ((slowEff P (.store t a x)).run s m k)
        (Option.rec (motive := fun _ => Bool) (Ms.rec (motive := fun _ => Bool) (fun C df h nx => ORow.rec (motive := fun _ => Bool) false (fun row e o => lput1 off v row (fun r => (tput HD b).run h (some (.cells r e o)) (fun h' => k (.tuple #[]) ⟨C, df, h', nx⟩))) (asRow ((tget HD b).run h))) m) (fun _ => false) spot)
        (oneCell v)) (asPtr p)) (fx s)) (fa s)⟩
    | _ => slowEff P (.store t a x)
  | .mapUpdate t m k x => match mapTy P t with
    | some (ik, _) => (opdC m).use fun fm => (opdC k).use fun fk => (opdC x).use fun fx => ⟨fun s mm kk => Option.rec (motive := fun _ => Bool) false (fun vm => Option.rec (motive := fun _ => Bool) false (fun vk => Option.rec (motive := fun _ => Bool) false (fun vx => ONat.rec (motive := fun _ => Bool) ((slowEff P (.mapUpdate t m k x)).run s mm kk) (fun ik' n =>
        Bool.rec (motive := fun _ => Bool) false
        (OMp.rec (motive := fun _ => Bool) false false (fun r => Ms.rec (motive := fun _ => Bool) (fun C df h nx => OMap.rec (motive := fun _ => Bool) false (fun es c =>
          findE ik (Nat.succ n) es false ((tput HD r).run h (some (.map (lsnoc es ⟨vk, vx, c⟩) (Nat.succ c))) (fun h' => kk (.tuple #[]) ⟨C, df, h', nx⟩))
            (fun i e => (tput HD r).run h (some (.map (lsetR i ⟨e.key, vx, e.born⟩ es) c)) (fun h' => kk (.tuple #[]) ⟨C, df, h', nx⟩))) (asMap ((tget HD r).run h))) mm) (asMp vm)) (ikeq ik ik')) (asNat vk)) (fx s)) (fk s)) (fm s)⟩
    | none => slowEff P (.mapUpdate t m k x)
  | .makeSlice t l c => match ixTy P t with
    | .sl 1 => match tyOf P t with
      | some (.slice e) => match byOf P e, zrOf P e with
        | some by_, some z => (opdC l).use fun fl => (opdC c).use fun fc => cond (oneCell z) ⟨fun s mm kk => Option.rec (motive := fun _ => Bool) false (fun vl => Option.rec (motive := fun _ => Bool) false (fun vc => ONat.rec (motive := fun _ => Bool) false (fun _ l => ONat.rec (motive := fun _ => Bool) false (fun _ c =>
            Bool.rec (motive := fun _ => Bool) false (Bool.rec (motive := fun _ => Bool) false (Bool.rec (motive := fun _ => Bool) false (Ms.rec (motive := fun _ => Bool) (fun C df h nx => Bool.rec (motive := fun _ => Bool) false
              ((tput HD nx).run h (some (.cells (repl c [z]) e false)) (fun h' => kk (.slice (some ⟨nx, 0, none⟩) l c) ⟨C, df, h', Nat.succ nx⟩)) (Nat.ble (Nat.succ nx) (16 ^ HD))) mm)
              (Nat.ble (Nat.mul by_ c) (2 ^ 40))) (Nat.ble (Nat.succ c) (2 ^ 40))) (Nat.ble l c)) (asNat vc)) (asNat vl)) (fc s)) (fl s)⟩ (slowEff P (.makeSlice t l c))
        | _, _ => slowEff P (.makeSlice t l c)
      | _ => slowEff P (.makeSlice t l c)
    | _ => slowEff P (.makeSlice t l c)
  | o => slowEff P o

def lenTy (ts : Array TypeId) : Bool := match ts[0]?.bind (tyOf P) with
  | some (.slice _) => true
  | _ => false

def builtinC (c : Call) (b : Builtin) : EffC := match b, c.args.toList with
  | .len, [x] => cond (lenTy P c.argTypes)
      ((opdC x).use fun f => ⟨fun s m k => Option.rec (motive := fun _ => Bool) false (fun v => OSl.rec (motive := fun _ => Bool) false (fun _ n _ => k (.int .i64 (.ofNat n)) m) (asSl v)) (f s)⟩)
      (slowBlt P (.call c))
  | .copy, [x, y] => match c.argTypes[0]?.bind (fun t => match ixTy P t with | .sl 1 => some () | _ => none) with
    | some _ => (opdC x).use fun fx => (opdC y).use fun fy => ⟨fun s mm kk => Option.rec (motive := fun _ => Bool) false (fun vx => Option.rec (motive := fun _ => Bool) false (fun vy => OSl.rec (motive := fun _ => Bool) false (fun ax nn _ => OSl.rec (motive := fun _ => Bool) ((slowBlt P (.call c)).run s mm kk) (fun ay mn _ =>
        OPtr.rec (motive := fun _ => Bool) false ((slowBlt P (.call c)).run s mm kk) (fun bx ox sx => OPtr.rec (motive := fun _ => Bool) false ((slowBlt P (.call c)).run s mm kk) (fun bY oy sy =>
          Option.rec (motive := fun _ => Bool) (Option.rec (motive := fun _ => Bool)
            (forceN (Bool.rec (motive := fun _ => Nat) nn mn (Nat.ble mn nn)) fun len => Ms.rec (motive := fun _ => Bool) (fun C df h nx => ORow.rec (motive := fun _ => Bool) false (fun src _ _ => ORow.rec (motive := fun _ => Bool) false (fun dst e o =>
              copyK oy ox len src dst fun r => (tput HD bx).run h (some (.cells r e o)) (fun h' => kk (.int .i64 (.ofNat len)) ⟨C, df, h', nx⟩)) (asRow ((tget HD bx).run h))) (asRow ((tget HD bY).run h))) mm)
            (fun _ => false) sy) (fun _ => false) sx) (ptrO ay)) (ptrO ax)) (asSl vy)) (asSl vx)) (fy s)) (fx s)⟩
    | none => slowBlt P (.call c)
  | _, _ => slowBlt P (.call c)

def slowCall (c : Call) : EffC := ⟨fun s m k => Ms.rec (motive := fun _ => Bool) (fun C df h nx =>
  Option.rec (motive := fun _ => Bool) false (fun r => Sum.rec (motive := fun _ => Bool) (fun x => Prod.rec (motive := fun _ => Bool) (fun f args => C.call f args h nx (fun v h' nx' => k v ⟨C, df, h', nx'⟩)) x) (fun x => Prod.rec (motive := fun _ => Bool) (fun l args => C.rnd l args h nx (fun v h' nx' => k v ⟨C, df, h', nx'⟩)) x) r) (callee (opdF s) c)) m⟩

def callC (c : Call) : EffC := match c.callee with
  | .value (.func f) => (valsC c.args.toList).use fun r => ⟨fun s m k => r s (fun vs => Ms.rec (motive := fun _ => Bool) (fun C df h nx => C.call f vs h nx (fun v h' nx' => k v ⟨C, df, h', nx'⟩)) m)⟩
  | .builtin b => builtinC P c b
  | _ => slowCall c

def ofVal (nt : Nat) (dst : Option Nat) (c : ValC) : OperC := c.use fun g => (finC nt dst).use fun f => ⟨fun s m k => g s m (fun v => f v s (fun s' => k s' m))⟩
def ofEff (nt : Nat) (dst : Option Nat) (c : EffC) : OperC := c.use fun g => (finC nt dst).use fun f => ⟨fun s m k => g s m (fun v m' => f v s (fun s' => k s' m'))⟩

def fnOf : Value → Option (FuncId × List Value × List Value)
  | .func (.func f) first cap => some (f, first.toList, cap.toList)
  | _ => none

def deferC (nt : Nat) (dst : Option Nat) (c : Call) : OperC := match c.callee with
  | .value g => (opdC g).use fun fg => (valsC c.args.toList).use fun r => (finC nt dst).use fun f => ⟨fun s m k => r s (fun vs => Option.rec (motive := fun _ => Bool) false (fun v => Option.rec (motive := fun _ => Bool) false (fun x => Prod.rec (motive := fun _ => Bool) (fun id fc => Prod.rec (motive := fun _ => Bool) (fun first cap =>
      Ms.rec (motive := fun _ => Bool) (fun C df h nx => f (.tuple #[]) s (fun s' => k s' ⟨C, { target := .fn (.func id) cap.toArray, args := (first ++ vs).toArray } :: df, h, nx⟩)) m) fc) x) (fnOf v)) (fg s))⟩
  | _ => ⟨fun _ _ _ => false⟩

def operC0 (nt : Nat) (rd : Bool) (o : Oper) : OperC := match o.op with
  | .defer c => cond rd ⟨fun _ _ _ => false⟩ (deferC nt o.dst c)
  | .call c => ofEff nt o.dst (callC P c)
  | op => cond (isVal P op) (ofVal nt o.dst (valC P op)) (ofEff nt o.dst (effC P op))

/-- the slot that a guard looks at -/
def guardAt (ops : List Oper) (o : Oper) : Option (Option (Nat × Bool)) := match o.guard with
  | none => some none
  | some (j, want) => match (lget ops j).bind (·.dst) with
    | some t => cond (Nat.blt t (16 ^ SD)) (some (some (t, want))) none
    | none => none

def undefC (nt : Nat) (dst : Option Nat) : OperC := (finC nt dst).use fun f => ⟨fun s m k => f undef s (fun s' => k s' m)⟩

def operC (nt : Nat) (rd : Bool) (ops : List Oper) (o : Oper) : OperC := match guardAt ops o with
  | some none => operC0 P nt rd o
  | some (some (t, true)) => (operC0 P nt rd o).use fun f => (undefC nt o.dst).use fun u => (sget t).use fun g => ⟨fun s m k => OBool.rec (motive := fun _ => Bool) false (f s m k) (u s m k) (asWantT (g s))⟩
  | some (some (t, false)) => (operC0 P nt rd o).use fun f => (undefC nt o.dst).use fun u => (sget t).use fun g => ⟨fun s m k => OBool.rec (motive := fun _ => Bool) false (u s m k) (f s m k) (asWantF (g s))⟩
  | none => ⟨fun _ _ _ => false⟩

def opsC (nt : Nat) (rd : Bool) (ops l : List Oper) : OperC :=
  List.rec (motive := fun _ => OperC) ⟨fun s m k => k s m⟩
    (fun o _ ih => (operC P nt rd ops o).use fun f => ih.use fun r => ⟨fun s m k => f s m (fun s' m' => tick (r s' m' k))⟩) l

/-! ### Drawn regions -/
def sameC (x y : Value) : Bool :=
  OInt.rec (motive := fun _ => Bool) (sameVal x y) (fun kx nx => OInt.rec (motive := fun _ => Bool) (sameVal x y) (fun ky ny => Bool.rec (motive := fun _ => Bool) false (ibeq nx ny) (ikeq kx ky)) (asInt y)) (asInt x)

/-- one operation tells the same as before -/
def again1 (o : Oper) : Clo (Sl → Ms → Bool) := cond (isVal P o.op)
  (match o.dst with
    | some d => cond (Nat.blt d (16 ^ SD)) ((valC P o.op).use fun f => (sget d).use fun g => ⟨fun s h => f s h (fun v => Option.rec (motive := fun _ => Bool) false (fun u => sameC v u) (g s))⟩) ⟨fun _ _ => false⟩
    | none => ⟨fun s h => (valC P o.op).run s h (fun _ => true)⟩)
  ⟨fun s h => match evVal P (opdF s) (Ms.h h) o.op with
    | some v => match o.dst with
      | some d => match Fr.get ⟨s, 0, [], false⟩ d with
        | some u => sameVal v u
        | none => false
      | none => true
    | none => (evNew P (opdF s) o.op).isSome⟩

def againC (ops : List Oper) (l : List Oper) : Clo (Sl → Ms → Bool) :=
  List.rec (motive := fun _ => Clo (Sl → Ms → Bool)) ⟨fun _ _ => true⟩
    (fun o _ ih => match guardAt ops o with
      | some none => ⟨fun s h => Bool.rec (motive := fun _ => Bool) false (ih.run s h) ((again1 P o).run s h)⟩
      | some (some (t, true)) => ⟨fun s h => OBool.rec (motive := fun _ => Bool) false (Bool.rec (motive := fun _ => Bool) false (ih.run s h) ((again1 P o).run s h)) (ih.run s h) (asWantT ((sget t).run s))⟩
      | some (some (t, false)) => ⟨fun s h => OBool.rec (motive := fun _ => Bool) false (ih.run s h) (Bool.rec (motive := fun _ => Bool) false (ih.run s h) ((again1 P o).run s h)) (asWantF ((sget t).run s))⟩
      | none => ⟨fun _ _ => false⟩) l

def stepsC (nt : Nat) (rd : Bool) (ops : List Oper) (l : List Rop) : List Rop → OperC :=
  List.rec (motive := fun _ => List Rop → OperC) (fun _ => ⟨fun s m k => k s m⟩)
    (fun r _ ih done => (operC P nt rd ops r.o).use fun f => (ih (done ++ [r])).use fun g => cond (isWriter r.o.op)
      ((againC P ops (againOf done r.anc)).use fun a => ⟨fun s m k => f s m (fun s' m' => Bool.rec (motive := fun _ => Bool) false (tick (g s' m' k)) (a s' m'))⟩)
      ⟨fun s m k => f s m (fun s' m' => tick (g s' m' k))⟩) l

/-! ### Code -/
abbrev CodeC := Clo (Sl → Ms → K → (Nat → K) → K → Bool)

/-- so many rounds of a loop at most -/
def LOOPS : Nat := 1048576

def failC : CodeC := ⟨fun _ _ _ _ _ => false⟩

inductive OLoop where
  | no
  | done
  | exit (id : Nat)
  | ret
def asLoop (o : Option DObj) : OLoop := match o with
  | some (.loop _ _ _ _ _ _ true none _) => .done
  | some (.loop _ _ _ _ _ _ _ (some (.exit id)) _) => .exit id
  | some (.loop _ _ _ _ _ _ _ (some .ret) _) => .ret
  | _ => .no

def rangeC (nt : Nat) (g : Operand) (ps : Array Tmp) (asg body : Code) : CodeC := ⟨fun s m kn ke kr => Ms.rec (motive := fun _ => Bool) (fun C df h nx =>
  Option.rec (motive := fun _ => Bool) false (fun r => Prod.rec (motive := fun _ => Bool) (fun f r => Prod.rec (motive := fun _ => Bool) (fun first cap =>
    Bool.rec (motive := fun _ => Bool) false
      (Bool.rec (motive := fun _ => Bool) false
        ((tput HD nx).run h (some .defers) fun h1 => (tput HD (Nat.succ nx)).run h1 (some (.loop f s nt ps.toList asg body true none nx)) fun h2 =>
          C.call f (first ++ [.func (.yield (Nat.succ nx)) #[] #[]] ++ cap) h2 (Nat.succ (Nat.succ nx)) fun _ h3 nx3 =>
            OLoop.rec (motive := fun _ => Bool) false
              ((tput HD (Nat.succ nx)).run h3 none fun h4 => kn s ⟨C, { target := .collected nx, args := #[] } :: df, h4, nx3⟩)
              (fun id => (tput HD (Nat.succ nx)).run h3 none fun h4 => ke id s ⟨C, { target := .collected nx, args := #[] } :: df, h4, nx3⟩)
              ((tput HD (Nat.succ nx)).run h3 none fun h4 => kr s ⟨C, { target := .collected nx, args := #[] } :: df, h4, nx3⟩)
              (asLoop ((tget HD (Nat.succ nx)).run h3)))
        ((fnAt P f).bind (·.body)).isSome)
      (Nat.ble (Nat.succ (Nat.succ nx)) (16 ^ HD))) r) r)
    (((opdC g).run s).bind fnOf)) m⟩

def loopC (a : CodeC) : CodeC := ⟨fun s m _ ke kr => Nat.rec (motive := fun _ => K) (fun _ _ => false) (fun _ ih s m => a.run s m ih ke kr) LOOPS s m⟩

def codeC (nt : Nat) (rd : Bool) (c : Code) : CodeC :=
  Code.rec (motive := fun _ => CodeC)
    ⟨fun s m kn _ _ => kn s m⟩
    (fun _ ops draw => cond draw
      (match sched ops.toList with
        | some rs => (stepsC P nt rd ops.toList rs []).use fun f => ⟨fun s m kn _ _ => f s m kn⟩
        | none => failC)
      ((opsC P nt rd ops.toList ops.toList).use fun f => ⟨fun s m kn _ _ => f s m kn⟩))
    (fun _ _ a b => ⟨fun s m kn ke kr => a.run s m (fun s m => b.run s m kn ke kr) ke kr⟩)
    (fun x _ _ a b => (opdC x).use fun f => ⟨fun s m kn ke kr => OBool.rec (motive := fun _ => Bool) false (a.run s m kn ke kr) (b.run s m kn ke kr) (asBoolO (f s))⟩)
    (fun id _ a => ⟨fun s m kn ke kr => a.run s m kn (fun j s m => Bool.rec (motive := fun _ => Bool) (ke j s m) (kn s m) (Nat.beq j id)) kr⟩)
    (fun _ a => loopC a)
    (fun g ps asg body _ _ => cond rd failC (rangeC P nt g ps asg body))
    (fun id => ⟨fun s m _ ke _ => ke id s m⟩)
    (fun _ _ => failC) (fun _ => failC) (fun _ => failC)
    ⟨fun s m _ _ kr => kr s m⟩
    (fun _ => failC) c

/-! ### Functions -/
def argsK (args : List Value) (i : Nat) (s : Sl) (k : Sl → Bool) : Bool :=
  List.rec (motive := fun _ => Nat → Sl → (Sl → Bool) → Bool) (fun _ s k => k s) (fun v _ ih i s k => (sput i).run s (some v) (fun s' => ih (Nat.succ i) s' k)) args i s k

inductive ODef where
  | no
  | col (b : Nat)
  | fn (f : FuncId) (args : List Value)
def asDef (d : Deferred) : ODef := match d with
  | { target := .collected b, .. } => .col b
  | { target := .fn (.func f) cap, args } => .fn f (args.toList ++ cap.toList)
  | _ => .no
def isDefers (o : Option DObj) : Bool := match o with
  | some .defers => true
  | _ => false

def leaveK (C : Hd) (df : Df) (h : Hp) (nx : Nat) (k : Hp → Nat → Bool) : Bool :=
  List.rec (motive := fun _ => Hp → Nat → Bool) (fun h nx => k h nx) (fun d _ ih h nx =>
    ODef.rec (motive := fun _ => Bool) false (fun b => Bool.rec (motive := fun _ => Bool) false ((tput HD b).run h none (fun h' => ih h' nx)) (isDefers ((tget HD b).run h)))
      (fun f args => C.dfr f args h nx ih) (asDef d)) df h nx

def resL (l : List ResultVar) : Clo (Sl → Hp → (List Value → Bool) → Bool) :=
  List.rec (motive := fun _ => Clo (Sl → Hp → (List Value → Bool) → Bool)) ⟨fun _ _ k => k []⟩
    (fun r _ ih => match r with
      | .tmp t => (opdC (.tmp t)).use fun f => ih.use fun r => ⟨fun s h k => Option.rec (motive := fun _ => Bool) false (fun v => r s h (fun vs => k (v :: vs))) (f s)⟩
      | .cell a t => ⟨fun s h k => Option.rec (motive := fun _ => Bool) false (fun v => ih.run s h (fun vs => k (v :: vs))) (((opdC (.tmp a)).run s).bind (dLoad P h t))⟩) l

def resC (l : List ResultVar) : Clo (Sl → Hp → (Value → Bool) → Bool) := match l with
  | [_] => ⟨fun s h k => (resL P l).run s h (fun vs => List.rec (motive := fun _ => Bool) false (fun v _ _ => k v) vs)⟩
  | _ => ⟨fun s h k => (resL P l).run s h (fun vs => k (.tuple vs.toArray))⟩

abbrev FnC := Clo (Hd → List Value → Hp → Nat → KV → Bool)

def bodyC (g : FuncId) : FnC := match fnAt P g with
  | some fn => match fn.body with
    | some c => cond (Nat.ble fn.ntmps (16 ^ SD))
      ⟨fun C args h nx k => Bool.rec (motive := fun _ => Bool) false
        (argsK args 0 (Tr.nil SD) fun s => (codeC P fn.ntmps false c).run s ⟨C, [], h, nx⟩
          (fun s m => Ms.rec (motive := fun _ => Bool) (fun _ df h nx => leaveK C df h nx fun h nx => (resC P fn.results.toList).run s h fun v => k v h nx) m)
          (fun _ _ _ => false)
          (fun s m => Ms.rec (motive := fun _ => Bool) (fun _ df h nx => leaveK C df h nx fun h nx => (resC P fn.results.toList).run s h fun v => k v h nx) m))
        (Nat.ble (llen args) fn.ntmps)⟩
      ⟨fun _ _ _ _ _ => false⟩
    | none => ⟨fun _ _ _ _ _ => false⟩
  | none => ⟨fun _ _ _ _ _ => false⟩

/-- what is taken for granted of some functions, by their numbers -/
abbrev Jntr := FuncId → Option (List Value → St → Option (Value × St))
variable (J : Jntr)

def Jntr.I : Intr := fun g args s => (J g).bind fun f => f args s

def fnC (g : FuncId) : FnC := match J g with
  | some f => ⟨fun C args h nx k => Option.rec (motive := fun _ => Bool) ((bodyC P g).run C args h nx k) (fun r => takeVS (some r) k) (f args ⟨h, nx⟩)⟩
  | none => bodyC P g

def setParams (ps : List Nat) (args : List Value) (tm : Sl) : Sl := (ps.zip args).foldl (fun t (p, v) => t.set SD p v) tm

def putLoop (h : Hp) (l : Nat) (was ready : Bool) (pend : Option Code) (k : Hp → Bool) : Bool := match (tget HD l).run h with
  | some (.loop fn tm nt ps asg body rdy _ d) => cond (!was || rdy) ((tput HD l).run h (some (.loop fn tm nt ps asg body ready pend d)) k) false
  | _ => false

def roundK (C : Hd) (l : Nat) (args : List Value) (h : Hp) (nx : Nat) (k : KV) : Bool := match (tget HD l).run h with
  | some (.loop _ tm nt ps asg body _ _ _) =>
    cond (Nat.beq ps.length args.length && ps.all fun p => Nat.blt p nt)
      ((codeC P nt true asg).run (setParams ps args tm) ⟨C, [], h, nx⟩
        (fun s1 m1 => putLoop m1.h l true false none fun h2 => (codeC P nt true body).run s1 ⟨C, m1.df, h2, m1.nx⟩
          (fun _ m3 => putLoop m3.h l false true none fun h4 => k (.bool true) h4 m3.nx)
          (fun id _ m3 => putLoop m3.h l false false (some (.exit id)) fun h4 => k (.bool false) h4 m3.nx)
          (fun _ m3 => putLoop m3.h l false false (some .ret) fun h4 => k (.bool false) h4 m3.nx))
        (fun _ _ _ => false) (fun _ _ => false)) false
  | _ => false

/-- a deferred function -/
def dfrC (g : FuncId) : Clo (Hd → List Value → Hp → Nat → (Hp → Nat → Bool) → Bool) := match fnAt P g with
  | some fn => match fn.body with
    | some c => cond (Nat.ble fn.ntmps (16 ^ SD))
      ⟨fun C args h nx k => Bool.rec (motive := fun _ => Bool) false
        (argsK args 0 (Tr.nil SD) fun s => (codeC P fn.ntmps false c).run s ⟨C, [], h, nx⟩
          (fun s m => Ms.rec (motive := fun _ => Bool) (fun _ df h nx => List.rec (motive := fun _ => Bool) ((resC P fn.results.toList).run s h fun _ => k h nx) (fun _ _ _ => false) df) m)
          (fun _ _ _ => false)
          (fun s m => Ms.rec (motive := fun _ => Bool) (fun _ df h nx => List.rec (motive := fun _ => Bool) ((resC P fn.results.toList).run s h fun _ => k h nx) (fun _ _ _ => false) df) m))
        (Nat.ble (llen args) fn.ntmps)⟩
      ⟨fun _ _ _ _ _ => false⟩
    | none => ⟨fun _ _ _ _ _ => false⟩
  | none => ⟨fun _ _ _ _ _ => false⟩

def hdC (n : Nat) : Hd :=
  Nat.rec (motive := fun _ => Hd) ⟨fun _ _ _ _ _ => false, fun _ _ _ _ _ => false, fun _ _ _ _ _ => false⟩
    (fun _ ih => ⟨fun g args h nx k => (fnC P J g).run ih args h nx k, fun l args h nx k => roundK P ih l args h nx k, fun g args h nx k => (dfrC P g).run ih args h nx k⟩) n

end
end
end Go.Det
