/-
  A part of the proof: TO.
-/
import Derived.Test.YtlegohnjbkgclaaDoorSxSound
import Derived.Test.YtlegohnjbkgclaaDoorProg
namespace Go.Proofs.YtlegohnjbkgclaaDoor
open Go Go.Sx
set_option linter.unusedVariables false
set_option maxRecDepth 100000
-- function 42
def F42 (p0 : Int) (p1 : Int) (w : World) (R : Value → World → Prop) : Prop :=
  ∃ (I : Nat → (List Value) → World → Prop), (∃ (n : Nat), I n [Value.int IntKind.u64 p0, Value.string (ByteArray.mk (List.toArray [])), Value.int IntKind.i64 ((0 : Int))] w) ∧ (∀ (n : Nat), ∀ (vs : List Value), ∀ (w1 : World), (I n vs w1) → ∃ (n1 : Int), ∃ (s : ByteArray), ∃ (n2 : Int), (vs = [Value.int IntKind.u64 n1, Value.string s, Value.int IntKind.i64 n2]) ∧ ((Nat → Value) → ∀ (K : (List Value) → World → Prop), (∀ (b : Bool), ∀ (w2 : World), ((Nat → Value) → SplitK b ((Ne ((256 : Int)) ((0 : Int))) ∧ (NewK w2 (List.toArray [Value.int IntKind.u8 (wrapI IntKind.u8 (remI n1 ((256 : Int))))]) 5 (fun (b1 : Nat) => fun (w3 : World) => ∃ (l : List UInt8), (BytesAt w3 (Option.some (Addr.mk b1 0 Option.none)) 1 l) ∧ (((addN (sizeS (bs l)) (sizeS s)) ≤ 9223372036854775807) ∧ ((Ne ((256 : Int)) ((0 : Int))) ∧ (∃ (m : Nat), (m < n) ∧ (I m [Value.int IntKind.u64 (quoI IntKind.u64 n1 ((256 : Int))), Value.string (catS (bs l) s), Value.int IntKind.i64 (addI IntKind.i64 n2 ((1 : Int)))] w3))))))) (R (Value.string s) w2)) → K [Value.bool b] w2) → SplitK (ltI n2 p1) (K [Value.bool (ltI n2 ((8 : Int)))] w1) (K [Value.bool Bool.false] w1)))
theorem F42_eq (p0 : Int) (p1 : Int) (w : World) (R : Value → World → Prop) : F42 p0 p1 w R = bodyK Go.Proofs.Tryd.prog Go.Proofs.Tryd.f42 [Value.int IntKind.u64 p0, Value.int IntKind.i64 p1] w R := by kernel_rfl
theorem F42_calls (p0 : Int) (p1 : Int) (w : World) (R : Value → World → Prop) (h : F42 p0 p1 w R) : Calls Go.Proofs.Tryd.prog 42 (List.toArray [Value.int IntKind.u64 p0, Value.int IntKind.i64 p1]) w (fun e w' => ∃ v, e = Ending.returned v ∧ R v w') :=
  calls_of_body Go.Proofs.Tryd.func42 (Eq.mp (F42_eq p0 p1 w R) h)

-- function 47
def F47 (p0 : Int) (p1 : Int) (w : World) (R : Value → World → Prop) : Prop :=
  ∃ (I : Nat → (List Value) → World → Prop), (∃ (n : Nat), I n [Value.slice Option.none 0 0, Value.int IntKind.i64 ((0 : Int))] w) ∧ (∀ (n : Nat), ∀ (vs : List Value), ∀ (w1 : World), (I n vs w1) → ∃ (a : Option Addr), ∃ (l : Nat), ∃ (c : Nat), ∃ (n1 : Int), (vs = [Value.slice a l c, Value.int IntKind.i64 n1]) ∧ ((Nat → Value) → SplitK (ltI n1 (minI (maxI p1 ((0 : Int))) ((8 : Int)))) ((((0 : Int)) ≤ (mulI IntKind.i64 ((8 : Int)) n1)) ∧ (NewK w1 (List.toArray [Value.int IntKind.u8 (wrapI IntKind.u8 (shrI IntKind.u64 p0 (mulI IntKind.i64 ((8 : Int)) n1)))]) 5 (fun (b : Nat) => fun (w2 : World) => ∃ (ys : List Value), (OldAt w2 (Option.some (Addr.mk b 0 Option.none)) (mulN 1 1) ys) ∧ ((((Option.some (Addr.mk b 0 Option.none)) = Option.none) → 1 = 0) ∧ (AppK w2 5 1 1 [Value.int IntKind.u8 ((0 : Int))] a l c ys 1 (fun (a1 : Option Addr) => fun (l1 : Nat) => fun (c1 : Nat) => fun (w3 : World) => ∃ (m : Nat), (m < n) ∧ (I m [Value.slice a1 l1 c1, Value.int IntKind.i64 (addI IntKind.i64 n1 ((1 : Int)))] w3))))))) (∃ (I1 : Nat → (List Value) → World → Prop), (∃ (n2 : Nat), I1 n2 [Value.int IntKind.i64 ((0 : Int)), Value.int IntKind.i64 (subI IntKind.i64 (natI l) ((1 : Int)))] w1) ∧ (∀ (n2 : Nat), ∀ (vs1 : List Value), ∀ (w2 : World), (I1 n2 vs1 w2) → ∃ (n3 : Int), ∃ (n4 : Int), (vs1 = [Value.int IntKind.i64 n3, Value.int IntKind.i64 n4]) ∧ ((Nat → Value) → SplitK (ltI n3 n4) (∀ (w3 : World), (w3 = (World.drew w2)) → ∃ (S : World → Prop), (S w3) ∧ ((((0 : Int)) ≤ n4) ∧ ((n4 < (natI l)) ∧ (SomeK a (fun (p : Addr) => ∃ (n5 : Int), (∀ (w4 : World), (S w4) → (World.cell? w4 (addA p (mulN (intN n4) 1))) = (Option.some (Value.int IntKind.u8 n5))) ∧ ((((0 : Int)) ≤ n3) ∧ ((n3 < (natI l)) ∧ (SomeK a (fun (p2 : Addr) => ∃ (n6 : Int), (∀ (w4 : World), (S w4) → (World.cell? w4 (addA p2 (mulN (intN n3) 1))) = (Option.some (Value.int IntKind.u8 n6))) ∧ ((((0 : Int)) ≤ n3) ∧ ((n3 < (natI l)) ∧ (SomeK a (fun (p3 : Addr) => StK w3 (addA p3 (mulN (intN n3) 1)) [Value.int IntKind.u8 n5] (fun (w4 : World) => (((0 : Int)) ≤ n4) ∧ ((n4 < (natI l)) ∧ (SomeK a (fun (p4 : Addr) => StK w4 (addA p4 (mulN (intN n4) 1)) [Value.int IntKind.u8 n6] (fun (w5 : World) => ∃ (m : Nat), (m < n2) ∧ (I1 m [Value.int IntKind.i64 (addI IntKind.i64 n3 ((1 : Int))), Value.int IntKind.i64 (subI IntKind.i64 n4 ((1 : Int)))] w5))))))))))))))))))) (CallK Go.Proofs.Tryd.prog 65 (List.toArray [Value.slice a l c]) w2 (fun (e : Ending) => fun (w3 : World) => ∃ (s : ByteArray), (e = (Ending.returned (Value.string s))) ∧ (R (Value.string s) w3))))))))
theorem F47_eq (p0 : Int) (p1 : Int) (w : World) (R : Value → World → Prop) : F47 p0 p1 w R = bodyK Go.Proofs.Tryd.prog Go.Proofs.Tryd.f47 [Value.int IntKind.u64 p0, Value.int IntKind.i64 p1] w R := by kernel_rfl
theorem F47_calls (p0 : Int) (p1 : Int) (w : World) (R : Value → World → Prop) (h : F47 p0 p1 w R) : Calls Go.Proofs.Tryd.prog 47 (List.toArray [Value.int IntKind.u64 p0, Value.int IntKind.i64 p1]) w (fun e w' => ∃ v, e = Ending.returned v ∧ R v w') :=
  calls_of_body Go.Proofs.Tryd.func47 (Eq.mp (F47_eq p0 p1 w R) h)

-- function 52
def F52 (p0 : ByteArray) (p1 : ByteArray) (w : World) (R : Value → World → Prop) : Prop :=
  SplitK (notB (eqI (natI (sizeS p0)) (natI (sizeS p1)))) (R (Value.bool Bool.false) w) (∃ (I : Nat → (List Value) → World → Prop), (∃ (n : Nat), I n [Value.int IntKind.u8 ((0 : Int)), Value.int IntKind.i64 ((0 : Int))] w) ∧ (∀ (n : Nat), ∀ (vs : List Value), ∀ (w1 : World), (I n vs w1) → ∃ (n1 : Int), ∃ (n2 : Int), (vs = [Value.int IntKind.u8 n1, Value.int IntKind.i64 n2]) ∧ ((Nat → Value) → SplitK (ltI n2 (natI (sizeS p0))) (∀ (w2 : World), (w2 = (World.drew w1)) → (((0 : Int)) ≤ n2) ∧ (ByteAtK p0 (intN n2) (fun (b : UInt8) => (((0 : Int)) ≤ n2) ∧ (ByteAtK p1 (intN n2) (fun (b1 : UInt8) => ∃ (m : Nat), (m < n) ∧ (I m [Value.int IntKind.u8 (orI IntKind.u8 n1 (xorI IntKind.u8 (byteI b) (byteI b1))), Value.int IntKind.i64 (addI IntKind.i64 n2 ((1 : Int)))] w2)))))) (R (Value.bool (eqI n1 ((0 : Int)))) w1))))
theorem F52_eq (p0 : ByteArray) (p1 : ByteArray) (w : World) (R : Value → World → Prop) : F52 p0 p1 w R = bodyK Go.Proofs.Tryd.prog Go.Proofs.Tryd.f52 [Value.string p0, Value.string p1] w R := by kernel_rfl
theorem F52_calls (p0 : ByteArray) (p1 : ByteArray) (w : World) (R : Value → World → Prop) (h : F52 p0 p1 w R) : Calls Go.Proofs.Tryd.prog 52 (List.toArray [Value.string p0, Value.string p1]) w (fun e w' => ∃ v, e = Ending.returned v ∧ R v w') :=
  calls_of_body Go.Proofs.Tryd.func52 (Eq.mp (F52_eq p0 p1 w R) h)

-- function 57
def F57 (p0 : ByteArray) (w : World) (R : Value → World → Prop) : Prop :=
  ∃ (I : Nat → (List Value) → World → Prop), (∃ (n : Nat), I n [Value.int IntKind.u64 ((0 : Int)), Value.int IntKind.i64 ((0 : Int))] w) ∧ (∀ (n : Nat), ∀ (vs : List Value), ∀ (w1 : World), (I n vs w1) → ∃ (n1 : Int), ∃ (n2 : Int), (vs = [Value.int IntKind.u64 n1, Value.int IntKind.i64 n2]) ∧ ((Nat → Value) → SplitK (ltI n2 (natI (sizeS p0))) ((((0 : Int)) ≤ n2) ∧ (ByteAtK p0 (intN n2) (fun (b : UInt8) => ∃ (m : Nat), (m < n) ∧ (I m [Value.int IntKind.u64 (addI IntKind.u64 (mulI IntKind.u64 n1 ((256 : Int))) (wrapI IntKind.u64 (byteI b))), Value.int IntKind.i64 (addI IntKind.i64 n2 ((1 : Int)))] w1)))) (R (Value.int IntKind.u64 n1) w1)))
theorem F57_eq (p0 : ByteArray) (w : World) (R : Value → World → Prop) : F57 p0 w R = bodyK Go.Proofs.Tryd.prog Go.Proofs.Tryd.f57 [Value.string p0] w R := by kernel_rfl
theorem F57_calls (p0 : ByteArray) (w : World) (R : Value → World → Prop) (h : F57 p0 w R) : Calls Go.Proofs.Tryd.prog 57 (List.toArray [Value.string p0]) w (fun e w' => ∃ v, e = Ending.returned v ∧ R v w') :=
  calls_of_body Go.Proofs.Tryd.func57 (Eq.mp (F57_eq p0 w R) h)

-- function 65
def F65 (p0a : Option Addr) (p0l : Nat) (p0c : Nat) (w : World) (R : Value → World → Prop) : Prop :=
  ∃ (l : List UInt8), (BytesAt w p0a p0l l) ∧ (R (Value.string (bs l)) w)
theorem F65_eq (p0a : Option Addr) (p0l : Nat) (p0c : Nat) (w : World) (R : Value → World → Prop) : F65 p0a p0l p0c w R = bodyK Go.Proofs.Tryd.prog Go.Proofs.Tryd.f65 [Value.slice p0a p0l p0c] w R := by kernel_rfl
theorem F65_calls (p0a : Option Addr) (p0l : Nat) (p0c : Nat) (w : World) (R : Value → World → Prop) (h : F65 p0a p0l p0c w R) : Calls Go.Proofs.Tryd.prog 65 (List.toArray [Value.slice p0a p0l p0c]) w (fun e w' => ∃ v, e = Ending.returned v ∧ R v w') :=
  calls_of_body Go.Proofs.Tryd.func65 (Eq.mp (F65_eq p0a p0l p0c w R) h)

-- function 67
def F67 (p0 : ByteArray) (w : World) (R : Value → World → Prop) : Prop :=
  ∃ (I : Nat → (List Value) → World → Prop), (∃ (n : Nat), I n [Value.int IntKind.u64 ((0 : Int)), Value.int IntKind.i64 ((0 : Int))] w) ∧ (∀ (n : Nat), ∀ (vs : List Value), ∀ (w1 : World), (I n vs w1) → ∃ (n1 : Int), ∃ (n2 : Int), (vs = [Value.int IntKind.u64 n1, Value.int IntKind.i64 n2]) ∧ ((Nat → Value) → SplitK (ltI n2 (natI (sizeS p0))) ((((0 : Int)) ≤ ((8 : Int))) ∧ ((((0 : Int)) ≤ n2) ∧ (ByteAtK p0 (intN n2) (fun (b : UInt8) => ∃ (m : Nat), (m < n) ∧ (I m [Value.int IntKind.u64 (orI IntKind.u64 (shlI IntKind.u64 n1 ((8 : Int))) (wrapI IntKind.u64 (byteI b))), Value.int IntKind.i64 (addI IntKind.i64 n2 ((1 : Int)))] w1))))) (R (Value.int IntKind.u64 n1) w1)))
theorem F67_eq (p0 : ByteArray) (w : World) (R : Value → World → Prop) : F67 p0 w R = bodyK Go.Proofs.Tryd.prog Go.Proofs.Tryd.f67 [Value.string p0] w R := by kernel_rfl
theorem F67_calls (p0 : ByteArray) (w : World) (R : Value → World → Prop) (h : F67 p0 w R) : Calls Go.Proofs.Tryd.prog 67 (List.toArray [Value.string p0]) w (fun e w' => ∃ v, e = Ending.returned v ∧ R v w') :=
  calls_of_body Go.Proofs.Tryd.func67 (Eq.mp (F67_eq p0 w R) h)

-- function 72
def F72 (p0 : Int) (p1 : Int) (w : World) (R : Value → World → Prop) : Prop :=
  (Ne ((32 : Int)) ((0 : Int))) ∧ (∀ (K : (List Value) → World → Prop), (∀ (n : Int), ∀ (w1 : World), ((Nat → Value) → ∃ (I : Nat → (List Value) → World → Prop), (∃ (n1 : Nat), I n1 [Value.int IntKind.u32 p0, Value.int IntKind.i64 ((0 : Int))] w1) ∧ (∀ (n1 : Nat), ∀ (vs : List Value), ∀ (w2 : World), (I n1 vs w2) → ∃ (n2 : Int), ∃ (n3 : Int), (vs = [Value.int IntKind.u32 n2, Value.int IntKind.i64 n3]) ∧ ((Nat → Value) → SplitK (ltI n3 n) ((Ne ((2147483648 : Int)) ((0 : Int))) ∧ (∃ (m : Nat), (m < n1) ∧ (I m [Value.int IntKind.u32 (addI IntKind.u32 (mulI IntKind.u32 n2 ((2 : Int))) (quoI IntKind.u32 n2 ((2147483648 : Int)))), Value.int IntKind.i64 (addI IntKind.i64 n3 ((1 : Int)))] w2))) (R (Value.int IntKind.u32 n2) w2)))) → K [Value.int IntKind.i64 n] w1) → SplitK (ltI (remI p1 ((32 : Int))) ((0 : Int))) (K [Value.int IntKind.i64 (addI IntKind.i64 (remI p1 ((32 : Int))) ((32 : Int)))] w) (K [Value.int IntKind.i64 (remI p1 ((32 : Int)))] w))
theorem F72_eq (p0 : Int) (p1 : Int) (w : World) (R : Value → World → Prop) : F72 p0 p1 w R = bodyK Go.Proofs.Tryd.prog Go.Proofs.Tryd.f72 [Value.int IntKind.u32 p0, Value.int IntKind.i64 p1] w R := by kernel_rfl
theorem F72_calls (p0 : Int) (p1 : Int) (w : World) (R : Value → World → Prop) (h : F72 p0 p1 w R) : Calls Go.Proofs.Tryd.prog 72 (List.toArray [Value.int IntKind.u32 p0, Value.int IntKind.i64 p1]) w (fun e w' => ∃ v, e = Ending.returned v ∧ R v w') :=
  calls_of_body Go.Proofs.Tryd.func72 (Eq.mp (F72_eq p0 p1 w R) h)

-- function 78
def F78 (p0 : Int) (p1 : Int) (w : World) (R : Value → World → Prop) : Prop :=
  (((0 : Int)) ≤ (andI IntKind.u64 (wrapI IntKind.u64 p1) ((31 : Int)))) ∧ ((((0 : Int)) ≤ (subI IntKind.u64 ((32 : Int)) (andI IntKind.u64 (wrapI IntKind.u64 p1) ((31 : Int))))) ∧ (R (Value.int IntKind.u32 (orI IntKind.u32 (shlI IntKind.u32 p0 (andI IntKind.u64 (wrapI IntKind.u64 p1) ((31 : Int)))) (shrI IntKind.u32 p0 (subI IntKind.u64 ((32 : Int)) (andI IntKind.u64 (wrapI IntKind.u64 p1) ((31 : Int))))))) w))
theorem F78_eq (p0 : Int) (p1 : Int) (w : World) (R : Value → World → Prop) : F78 p0 p1 w R = bodyK Go.Proofs.Tryd.prog Go.Proofs.Tryd.f78 [Value.int IntKind.u32 p0, Value.int IntKind.i64 p1] w R := by kernel_rfl
theorem F78_calls (p0 : Int) (p1 : Int) (w : World) (R : Value → World → Prop) (h : F78 p0 p1 w R) : Calls Go.Proofs.Tryd.prog 78 (List.toArray [Value.int IntKind.u32 p0, Value.int IntKind.i64 p1]) w (fun e w' => ∃ v, e = Ending.returned v ∧ R v w') :=
  calls_of_body Go.Proofs.Tryd.func78 (Eq.mp (F78_eq p0 p1 w R) h)

-- function 79
def F79 (p0 : ByteArray) (p1 : ByteArray) (w : World) (R : Value → World → Prop) : Prop :=
  MakeK w 5 [Value.int IntKind.u8 ((0 : Int))] 1 (minI (natI (sizeS p0)) (natI (sizeS p1))) (minI (natI (sizeS p0)) (natI (sizeS p1))) (fun (b : Nat) => fun (w1 : World) => ∃ (I : Nat → (List Value) → World → Prop), (∃ (n : Nat), I n [Value.int IntKind.i64 ((0 : Int))] w1) ∧ (∀ (n : Nat), ∀ (vs : List Value), ∀ (w2 : World), (I n vs w2) → ∃ (n1 : Int), (vs = [Value.int IntKind.i64 n1]) ∧ ((Nat → Value) → SplitK (ltI n1 (natI (intN (minI (natI (sizeS p0)) (natI (sizeS p1)))))) (∀ (w3 : World), (w3 = (World.drew w2)) → (((0 : Int)) ≤ n1) ∧ (ByteAtK p0 (intN n1) (fun (b1 : UInt8) => (((0 : Int)) ≤ n1) ∧ (ByteAtK p1 (intN n1) (fun (b2 : UInt8) => (((0 : Int)) ≤ n1) ∧ ((n1 < (natI (intN (minI (natI (sizeS p0)) (natI (sizeS p1)))))) ∧ (StK w3 (addA (Addr.mk b 0 Option.none) (mulN (intN n1) 1)) [Value.int IntKind.u8 (xorI IntKind.u8 (byteI b1) (byteI b2))] (fun (w4 : World) => ∃ (m : Nat), (m < n) ∧ (I m [Value.int IntKind.i64 (addI IntKind.i64 n1 ((1 : Int)))] w4))))))))) (∃ (l : List UInt8), (BytesAt w2 (Option.some (Addr.mk b 0 Option.none)) (intN (minI (natI (sizeS p0)) (natI (sizeS p1)))) l) ∧ (R (Value.string (bs l)) w2)))))
theorem F79_eq (p0 : ByteArray) (p1 : ByteArray) (w : World) (R : Value → World → Prop) : F79 p0 p1 w R = bodyK Go.Proofs.Tryd.prog Go.Proofs.Tryd.f79 [Value.string p0, Value.string p1] w R := by kernel_rfl
theorem F79_calls (p0 : ByteArray) (p1 : ByteArray) (w : World) (R : Value → World → Prop) (h : F79 p0 p1 w R) : Calls Go.Proofs.Tryd.prog 79 (List.toArray [Value.string p0, Value.string p1]) w (fun e w' => ∃ v, e = Ending.returned v ∧ R v w') :=
  calls_of_body Go.Proofs.Tryd.func79 (Eq.mp (F79_eq p0 p1 w R) h)

-- function 54
def F54 (p0 : Option Addr) (w : World) (R : Value → World → Prop) : Prop :=
  SomeK p0 (fun (p : Addr) => ∃ (a : Option Addr), ∃ (l : Nat), ∃ (c : Nat), ((World.cell? w (addA p 1)) = (Option.some (Value.slice a l c))) ∧ (R (Value.int IntKind.i64 (natI l)) w))
theorem F54_eq (p0 : Option Addr) (w : World) (R : Value → World → Prop) : F54 p0 w R = bodyK Go.Proofs.Tryd.prog Go.Proofs.Tryd.f54 [Value.pointer p0] w R := by kernel_rfl
theorem F54_calls (p0 : Option Addr) (w : World) (R : Value → World → Prop) (h : F54 p0 w R) : Calls Go.Proofs.Tryd.prog 54 (List.toArray [Value.pointer p0]) w (fun e w' => ∃ v, e = Ending.returned v ∧ R v w') :=
  calls_of_body Go.Proofs.Tryd.func54 (Eq.mp (F54_eq p0 w R) h)

-- function 55
def F55 (p0 : Option Addr) (p1 : ByteArray) (w : World) (R : Value → World → Prop) : Prop :=
  CallK Go.Proofs.Tryd.prog 71 (List.toArray [Value.pointer p0]) w (fun (e : Ending) => fun (w1 : World) => (e = (Ending.returned (Value.tuple (List.toArray [])))) ∧ (SomeK p0 (fun (p : Addr) => ∃ (a : Option Addr), ∃ (l : Nat), ∃ (c : Nat), ((World.cell? w1 (addA p 1)) = (Option.some (Value.slice a l c))) ∧ (AppK w1 5 1 1 [Value.int IntKind.u8 ((0 : Int))] a l c (bytesL p1) (sizeS p1) (fun (a1 : Option Addr) => fun (l1 : Nat) => fun (c1 : Nat) => fun (w2 : World) => SomeK p0 (fun (p2 : Addr) => StK w2 (addA p2 1) [Value.slice a1 l1 c1] (fun (w3 : World) => R (Value.tuple (List.toArray [Value.int IntKind.i64 (natI (sizeS p1)), Value.nilIface])) w3)))))))
theorem F55_eq (p0 : Option Addr) (p1 : ByteArray) (w : World) (R : Value → World → Prop) : F55 p0 p1 w R = bodyK Go.Proofs.Tryd.prog Go.Proofs.Tryd.f55 [Value.pointer p0, Value.string p1] w R := by kernel_rfl
theorem F55_calls (p0 : Option Addr) (p1 : ByteArray) (w : World) (R : Value → World → Prop) (h : F55 p0 p1 w R) : Calls Go.Proofs.Tryd.prog 55 (List.toArray [Value.pointer p0, Value.string p1]) w (fun e w' => ∃ v, e = Ending.returned v ∧ R v w') :=
  calls_of_body Go.Proofs.Tryd.func55 (Eq.mp (F55_eq p0 p1 w R) h)

end Go.Proofs.YtlegohnjbkgclaaDoor
