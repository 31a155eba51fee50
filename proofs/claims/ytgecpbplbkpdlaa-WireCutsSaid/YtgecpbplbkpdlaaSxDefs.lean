/-
  SX: a program's code as a plain proposition in continuation style: the words, and the translation 'tr'.
-/
import Derived.RangeFuncIn
import Derived.RangeFuncLeaves
import Derived.RangeFuncRecord
import Derived.OrdersHeld
import Derived.OrdersIn
import Derived.KernelRfl
import Derived.Tactics
import Derived.TacticsIn
import Derived.Laws.World
import Derived.Laws.Tables
import Derived.Laws.Append
import Derived.Laws.BytesString
import Derived.Lib.ConvBytes
namespace Go.Sx
open Go
set_option linter.unusedVariables false

/-! ### Kinds of values -/
inductive Sc where
  | int (k : IntKind) | bool | str | slc | ptr | map | any

/-- One value: a scalar, or a row of cells (a struct, an array). -/
inductive Cp where
  | one (s : Sc)
  | many (l : List Sc)

inductive Ty where
  | cp (c : Cp)
  | tup (l : List Cp)

def exS : Sc → (Value → Prop) → Prop
  | .int k, K => ∃ n : Int, K (.int k n)
  | .bool, K => ∃ b : Bool, K (.bool b)
  | .str, K => ∃ s : ByteArray, K (.string s)
  | .slc, K => ∃ (a : Option Addr) (l c : Nat), K (.slice a l c)
  | .ptr, K => ∃ a : Option Addr, K (.pointer a)
  | .map, K => ∃ r : Option Nat, K (.map r)
  | .any, K => ∃ v : Value, K v

def exL : List Sc → (List Value → Prop) → Prop
  | [], K => K []
  | s :: r, K => exS s fun v => exL r fun l => K (v :: l)

def exC : Cp → (Value → Prop) → Prop
  | .one s, K => exS s K
  | .many l, K => exL l fun vs => K (.agg vs.toArray)

def exCs : List Cp → (List Value → Prop) → Prop
  | [], K => K []
  | s :: r, K => exC s fun v => exCs r fun l => K (v :: l)

def exT : Ty → (Value → Prop) → Prop
  | .cp c, K => exC c K
  | .tup l, K => exCs l fun vs => K (.tuple vs.toArray)

def alS : Sc → (Value → Prop) → Prop
  | .int k, K => ∀ n : Int, K (.int k n)
  | .bool, K => ∀ b : Bool, K (.bool b)
  | .str, K => ∀ s : ByteArray, K (.string s)
  | .slc, K => ∀ (a : Option Addr) (l c : Nat), K (.slice a l c)
  | .ptr, K => ∀ a : Option Addr, K (.pointer a)
  | .map, K => ∀ r : Option Nat, K (.map r)
  | .any, K => ∀ v : Value, K v

def alL : List Sc → (List Value → Prop) → Prop
  | [], K => K []
  | s :: r, K => alS s fun v => alL r fun l => K (v :: l)

def alC : Cp → (Value → Prop) → Prop
  | .one s, K => alS s K
  | .many l, K => alL l fun vs => K (.agg vs.toArray)

def alCs : List Cp → (List Value → Prop) → Prop
  | [], K => K []
  | s :: r, K => alC s fun v => alCs r fun l => K (v :: l)

/-! ### Types of the program -/
def flatT (P : Program) : Nat → TypeId → List Sc
  | 0, _ => [.any]
  | d + 1, t =>
    match P.underlying t with
    | some (.int k) => [.int k]
    | some .bool => [.bool]
    | some .string => [.str]
    | some (.slice _) => [.slc]
    | some (.pointer _) => [.ptr]
    | some .unsafePointer => [.ptr]
    | some (.map _ _) => [.map]
    | some (.struct fs) => fs.toList.flatMap fun f => flatT P d f.type
    | some (.array n e) => (List.replicate n (flatT P d e)).flatten
    | _ => [.any]

def aggT (P : Program) (t : TypeId) : Option Bool :=
  match P.underlying t with
  | some (.struct _) => some true
  | some (.array _ _) => some true
  | some _ => some false
  | none => none

def cpT (P : Program) (t : TypeId) : Cp :=
  match aggT P t with
  | some true => .many (flatT P 20 t)
  | _ => .one ((flatT P 20 t).headD .any)

def tyT (P : Program) (t : TypeId) : Ty :=
  match P.underlying t with
  | some (.tuple ts) => .tup (ts.toList.map (cpT P))
  | _ => .cp (cpT P t)

def sizeT (P : Program) (t : TypeId) : Option Nat := (P.info? t).map (·.size)
def zeroT (P : Program) (t : TypeId) : Option Value := (P.info? t).bind (·.zero)

/-! ### What an operation asks of the world -/
def isCell : Value → Bool
  | .agg _ => false
  | .tuple _ => false
  | _ => true

/-- A new block. -/
def NewK (w : World) (c : Array Value) (T : TypeId) (k : Nat → World → Prop) : Prop :=
  ∀ b w1, b = w.heap.size → w1 = w.alloc (.cells c T (0, 0)) → k b w1

/-- A cell is read. -/
def LdK (w : World) (p : Addr) (s : Sc) (k : Value → Prop) : Prop := exS s fun v => w.cell? p = some v ∧ k v

def CellsAt (w : World) (p : Addr) (vs : List Value) : Prop := ∀ i v, vs[i]? = some v → w.cell? (p.add i) = some v

/-- A row of cells is read. -/
def LdsK (w : World) (p : Addr) (l : List Sc) (k : List Value → Prop) : Prop := exL l fun vs => CellsAt w p vs ∧ k vs

/-- A cell that is read, whichever world of S it is. -/
def LdSK (S : World → Prop) (p : Addr) (s : Sc) (k : Value → Prop) : Prop := exS s fun v => (∀ w, S w → w.cell? p = some v) ∧ k v
def LdsSK (S : World → Prop) (p : Addr) (l : List Sc) (k : List Value → Prop) : Prop := exL l fun vs => (∀ w, S w → CellsAt w p vs) ∧ k vs

def CanSt (w : World) (p : Addr) (n : Nat) : Prop := ∀ i, i < n → (∃ v, w.cell? (p.add i) = some v) ∧ w.frozen? (p.add i) = false

def storeAll (w : World) (p : Addr) (i : Nat) : List Value → World
  | [] => w
  | v :: r => storeAll (w.setCell (p.add i) v) p (i + 1) r

/-- A row of cells is written. -/
def StK (w : World) (p : Addr) (vs : List Value) (k : World → Prop) : Prop :=
  vs.all isCell = true ∧ CanSt w p vs.length ∧ ∀ w1, w1 = storeAll w p 0 vs → k w1

@[reducible] def SomeK {α : Type} (o : Option α) (k : α → Prop) : Prop :=
  match o with
  | some a => k a
  | none => False

@[reducible] def SplitK (b : Bool) (x y : Prop) : Prop :=
  match b with
  | true => x
  | false => y

/-- What a call must come to. -/
def retK (t : Ty) (k : Value → World → Prop) (e : Ending) (w : World) : Prop := exT t fun v => e = .returned v ∧ k v w

/-- The same, where the caller may panic: xp says what must hold then. -/
def retX (xp : Option (List PanicEntry → World → Prop)) (t : Ty) (k : Value → World → Prop) (e : Ending) (w : World) : Prop :=
  match xp with
  | none => retK t k e w
  | some X => retK t k e w ∨ ∃ ch, e = .panicked ch ∧ X ch w

def CallK (P : Program) (f : FuncId) (args : Array Value) (w : World) (R : Ending → World → Prop) : Prop := Calls P f args w R

def RoundK (P : Program) (l : Nat) (args : Array Value) (w : World) (R : Ending → World → Prop) : Prop :=
  ∃ f tmps assign body, (Instr.yield l args).run P w = .ok (.round l f tmps assign body) w ∧ RoundIn Fence.wide 0 P l f tmps assign body w R

def callableB (P : Program) (f : FuncId) : Bool :=
  match P.funcs[f]? with
  | some fn => !(fn.name == "runtime.NumGoroutine") && !fn.body.isNone
  | none => false

/-- A function that the model itself stands for: it answers at once, and memory is as it was. -/
def ExtK (P : Program) (f : FuncId) (args : Array Value) (w : World) (R : Ending → World → Prop) : Prop :=
  ∃ fn e v, P.funcs[f]? = some fn ∧ (fn.name == "runtime.NumGoroutine") = false ∧ fn.body.isNone = true ∧ Extern.findNext fn = none ∧ Extern.find fn = some e ∧
    (e args).run P w = .ok v w ∧ R (.returned v) w

/-- A function value is called. -/
def FnK (P : Program) (y : Bool) (v : Value) (args : Array Value) (w : World) (R : Ending → World → Prop) : Prop :=
  match v with
  | .func (.func f) first capt =>
    match callableB P f with
    | true => CallK P f (first ++ args ++ capt) w R
    | false => match y with
      | true => ExtK P f (first ++ args ++ capt) w R
      | false => False
  | .func (.yield l) first _ =>
    match y with
    | true => RoundK P l (first ++ args) w R
    | false => False
  | _ => False

/-- A string's byte. -/
def ByteAtK (s : ByteArray) (i : Nat) (k : UInt8 → Prop) : Prop := ∃ b : UInt8, s.data.toList[i]? = some b ∧ k b
/-- An array's element. -/
def ElemK (cs : List Value) (i : Nat) (c : Cp) (k : Value → Prop) : Prop := exC c fun v => cs[i]? = some v ∧ k v

def nilB : Value → Bool
  | .slice none _ _ => true
  | .pointer none => true
  | .nilIface => true
  | .nilFunc => true
  | .map none => true
  | _ => false

/-- The numbers' operations, by names of their own. -/
def wrapI (k : IntKind) (x : Int) : Int := k.wrap x
def addI (k : IntKind) (a b : Int) : Int := k.wrap (a + b)
def subI (k : IntKind) (a b : Int) : Int := k.wrap (a - b)
def mulI (k : IntKind) (a b : Int) : Int := k.wrap (a * b)
def quoI (k : IntKind) (a b : Int) : Int := k.wrap (a.tdiv b)
def remI (a b : Int) : Int := a.tmod b
def shlI (k : IntKind) (a b : Int) : Int := k.wrap (a * 2 ^ min b.toNat k.bits)
def shrI (k : IntKind) (a b : Int) : Int := a.fdiv (2 ^ min b.toNat k.bits)
def andI (k : IntKind) (a b : Int) : Int := k.wrap ((BitVec.ofInt k.bits a &&& BitVec.ofInt k.bits b).toNat)
def orI (k : IntKind) (a b : Int) : Int := k.wrap ((BitVec.ofInt k.bits a ||| BitVec.ofInt k.bits b).toNat)
def xorI (k : IntKind) (a b : Int) : Int := k.wrap ((BitVec.ofInt k.bits a ^^^ BitVec.ofInt k.bits b).toNat)
def andNotI (k : IntKind) (a b : Int) : Int := k.wrap ((BitVec.ofInt k.bits a &&& ~~~ BitVec.ofInt k.bits b).toNat)
def notI (k : IntKind) (a : Int) : Int := k.wrap ((BitVec.ofInt k.bits (if k.signed then -1 else k.max) ^^^ BitVec.ofInt k.bits a).toNat)
def minI (a b : Int) : Int := if b < a then b else a
def maxI (a b : Int) : Int := if b > a then b else a
def ltI (a b : Int) : Bool := decide (a < b)
def leI (a b : Int) : Bool := decide (a ≤ b)
def eqI (a b : Int) : Bool := a == b
def eqS (a b : ByteArray) : Bool := a.toList == b.toList
def eqB (a b : Bool) : Bool := a == b
/-- Three numbers against three. -/
def eq3I (a0 a1 a2 b0 b1 b2 : Int) : Bool := a0 == b0 && (a1 == b1 && a2 == b2)
def notB (a : Bool) : Bool := !a
def andB (a b : Bool) : Bool := a && b
def noneA (a : Option Addr) : Bool := a.isNone
def catS (a b : ByteArray) : ByteArray := a ++ b
def cutS (s : ByteArray) (l h : Nat) : ByteArray := s.extract l h
def sizeS (s : ByteArray) : Nat := s.size
def natI (n : Nat) : Int := n
def intN (i : Int) : Nat := i.toNat
def byteI (b : UInt8) : Int := b.toNat
def subN (a b : Nat) : Nat := a - b
def addN (a b : Nat) : Nat := a + b
def mulN (a b : Nat) : Nat := a * b
def addA (p : Addr) (n : Nat) : Addr := p.add n
/-- Where a slice expression's row begins: at the very end nothing is moved. -/
def cutA (o : Option Addr) (full l sz : Nat) : Option Addr := if full = l then o else o.map (·.add (l * sz))

/-- A slice expression's bound. -/
def BoundK (v : Option Value) (dflt : Nat) (y : Nat) (k : Nat → Prop) : Prop :=
  match v with
  | none => k dflt
  | some (.int _ i) => 0 ≤ i ∧ i ≤ natI y ∧ k (intN i)
  | some _ => False

/-- Rows of three numbers against one another. -/
def agg3K (P : Program) (T : TypeId) (xs ys : List Value) (k : Value → Prop) : Prop :=
  match xs, ys with
  | [.int k0 a0, .int k1 a1, .int k2 a2], [.int l0 b0, .int l1 b1, .int l2 b2] =>
    match decide (k0 = l0), decide (k1 = l1), decide (k2 = l2), P.underlying T with
    | true, true, true, some (.array 3 e) =>
      match P.underlying e, P.info? e with
      | some (.int _), some i => match Nat.beq i.size 1 with
        | true => match P.eqGuardType P.depth T with
          | false => k (.bool (eq3I a0 a1 a2 b0 b1 b2))
          | true => False
        | false => False
      | _, _ => False
    | _, _, _, _ => False
  | _, _ => False

/-- Two values of one cell. -/
def eqVK (u : Option TypeDesc) (x y : Option Value) (k : Bool → Prop) : Prop :=
  match u, x, y with
  | some (.int _), some (.int kx a), some (.int ky b) => match decide (kx = ky) with | true => k (eqI a b) | false => False
  | some .string, some (.string a), some (.string b) => k (eqS a b)
  | some .bool, some (.bool a), some (.bool b) => k (eqB a b)
  | _, _, _ => False
def eqFieldK (P : Program) (xs ys : List Value) (f : Field) (k : Bool → Prop) : Prop :=
  match f.name == "_", sizeT P f.type with
  | false, some _ => eqVK (P.underlying f.type) xs[f.offset]? ys[f.offset]? k
  | _, _ => False
/-- Two structs, field by field. -/
def eqFs (P : Program) (xs ys : List Value) : List Field → (Bool → Prop) → Prop
  | [], k => k true
  | [f], k => eqFieldK P xs ys f k
  | f :: r, k => eqFieldK P xs ys f fun b => eqFs P xs ys r fun c => k (andB b c)
/-- Two rows of cells. -/
def aggK (P : Program) (T : TypeId) (xs ys : List Value) (neg : Bool) (k : Value → Prop) : Prop :=
  match P.underlying T with
  | some (.struct fs) => match P.stoodInHeld T, P.eqGuardType P.depth T with
    | false, false => eqFs P xs ys fs.toList fun b => match neg with | true => k (.bool (notB b)) | false => k (.bool b)
    | _, _ => False
  | _ => match neg with
    | true => False
    | false => agg3K P T xs ys k

def arithK (P : Program) (op : BinOp) (T : TypeId) (x y : Value) (k : Value → Prop) : Prop :=
  match op with
  | .quo =>
    match x, y with
    | .int kx a, .int ky b => match decide (kx = ky) with | true => b ≠ 0 ∧ k (.int kx (quoI kx a b)) | false => False
    | _, _ => False
  | .rem =>
    match x, y with
    | .int kx a, .int ky b => match decide (kx = ky) with | true => b ≠ 0 ∧ k (.int kx (remI a b)) | false => False
    | _, _ => False
  | .shl =>
    match x, y with
    | .int kx a, .int _ b => 0 ≤ b ∧ k (.int kx (shlI kx a b))
    | _, _ => False
  | .shr =>
    match x, y with
    | .int kx a, .int _ b => 0 ≤ b ∧ k (.int kx (shrI kx a b))
    | _, _ => False
  | .add =>
    match x, y with
    | .int kx a, .int ky b => match decide (kx = ky) with | true => k (.int kx (addI kx a b)) | false => False
    | .string a, .string b => addN (sizeS a) (sizeS b) ≤ 9223372036854775807 ∧ k (.string (catS a b))
    | _, _ => False
  | .sub =>
    match x, y with
    | .int kx a, .int ky b => match decide (kx = ky) with | true => k (.int kx (subI kx a b)) | false => False
    | _, _ => False
  | .mul =>
    match x, y with
    | .int kx a, .int ky b => match decide (kx = ky) with | true => k (.int kx (mulI kx a b)) | false => False
    | _, _ => False
  | .and =>
    match x, y with
    | .int kx a, .int ky b => match decide (kx = ky) with | true => k (.int kx (andI kx a b)) | false => False
    | _, _ => False
  | .or =>
    match x, y with
    | .int kx a, .int ky b => match decide (kx = ky) with | true => k (.int kx (orI kx a b)) | false => False
    | _, _ => False
  | .xor =>
    match x, y with
    | .int kx a, .int ky b => match decide (kx = ky) with | true => k (.int kx (xorI kx a b)) | false => False
    | _, _ => False
  | .andNot =>
    match x, y with
    | .int kx a, .int ky b => match decide (kx = ky) with | true => k (.int kx (andNotI kx a b)) | false => False
    | _, _ => False
  | .eql =>
    match x, y with
    | .int kx a, .int ky b => match decide (kx = ky) with | true => k (.bool (eqI a b)) | false => False
    | .string a, .string b => k (.bool (eqS a b))
    | .bool a, .bool b => match P.underlying T with | some .bool => k (.bool (eqB a b)) | _ => False
    | .slice a _ _, .slice none _ _ => match P.underlying T with | some (.slice _) => k (.bool (noneA a)) | _ => False
    | .slice none _ _, .slice b _ _ => match P.underlying T with | some (.slice _) => k (.bool (noneA b)) | _ => False
    | .pointer a, .pointer none => match P.underlying T with | some (.pointer _) => k (.bool (noneA a)) | _ => False
    | .agg xs, .agg ys => aggK P T xs.toList ys.toList false k
    | _, _ => False
  | .neq =>
    match x, y with
    | .int kx a, .int ky b => match decide (kx = ky) with | true => k (.bool (notB (eqI a b))) | false => False
    | .string a, .string b => k (.bool (notB (eqS a b)))
    | .bool a, .bool b => match P.underlying T with | some .bool => k (.bool (notB (eqB a b))) | _ => False
    | .slice a _ _, .slice none _ _ => match P.underlying T with | some (.slice _) => k (.bool (notB (noneA a))) | _ => False
    | .slice none _ _, .slice b _ _ => match P.underlying T with | some (.slice _) => k (.bool (notB (noneA b))) | _ => False
    | .pointer a, .pointer none => match P.underlying T with | some (.pointer _) => k (.bool (notB (noneA a))) | _ => False
    | .agg xs, .agg ys => aggK P T xs.toList ys.toList true k
    | _, _ => False
  | .lss => match x, y with | .int kx a, .int ky b => (match decide (kx = ky) with | true => k (.bool (ltI a b)) | false => False) | _, _ => False
  | .leq => match x, y with | .int kx a, .int ky b => (match decide (kx = ky) with | true => k (.bool (leI a b)) | false => False) | _, _ => False
  | .gtr => match x, y with | .int kx a, .int ky b => (match decide (kx = ky) with | true => k (.bool (ltI b a)) | false => False) | _, _ => False
  | .geq => match x, y with | .int kx a, .int ky b => (match decide (kx = ky) with | true => k (.bool (leI b a)) | false => False) | _, _ => False

def unK (op : UnOp) (x : Value) (k : Value → Prop) : Prop :=
  match op, x with
  | .not, .bool b => k (.bool (notB b))
  | .neg, .int kx a => k (.int kx (subI kx 0 a))
  | .xor, .int kx a => k (.int kx (notI kx a))
  | _, _ => False

/-- Which operations 'pureK' knows. -/
def isPure : Op → Bool
  | .move _ | .assign _ | .pick .. | .binOp .. | .unOp .. | .makeFunc .. | .makeInterface .. | .extract .. | .field .. | .fieldAddr .. | .indexAddr .. | .index .. | .build .. | .nilCheck _ => true
  | .slice t _ _ _ _ => true
  | .convert .. => false
  | .call c => match c.callee with | .builtin .len => true | .builtin .cap => true | .builtin .min => true | .builtin .max => true | _ => false
  | _ => false

def partK (P : Program) (t : TypeId) (cs : Array Value) (off : Nat) (k : Value → Prop) : Prop :=
  match sizeT P t with
  | none => False
  | some n =>
    match aggT P t with
    | some true => k (.agg (cs.extract off (off + n)))
    | some false => match cs[off]? with | some v => k v | none => False
    | none => False

def pureK (P : Program) (ρ : Operand → Value) (o : Op) (k : Value → Prop) : Prop :=
  match o with
  | .move x => k (ρ x)
  | .assign x => k (ρ x)
  | .pick c x y => match ρ c with | .bool b => SplitK b (k (ρ x)) (k (ρ y)) | _ => False
  | .binOp op T x y _ => arithK P op T (ρ x) (ρ y) k
  | .unOp op _ x => unK op (ρ x) k
  | .makeFunc fn first capt => k (.func fn (first.map ρ) (capt.map ρ))
  | .makeInterface T x => match P.underlying T with | some (.interface _) => False | none => False | _ => k (.iface T (ρ x))
  | .extract t ix => match ρ t with | .tuple vs => (match vs[ix]? with | some v => k v | none => False) | _ => False
  | .field T x f =>
    match P.underlying T with
    | some (.struct fs) => match fs[f]? with
      | some fd => match ρ x with | .agg cs => partK P fd.type cs fd.offset k | _ => False
      | none => False
    | _ => False
  | .fieldAddr T x f =>
    match P.underlying T with
    | some (.struct fs) => match fs[f]? with
      | some fd => match sizeT P fd.type with
        | some (_ + 1) => match ρ x with | .pointer o => SomeK o fun p => k (.pointer (some (addA p fd.offset))) | _ => False
        | _ => False
      | none => False
    | _ => False
  | .indexAddr T x i =>
    match ρ i with
    | .int _ n =>
      match P.underlying T with
      | some (.slice e) => match sizeT P e with
        | some sz => match ρ x with
          | .slice o len _ => 0 ≤ n ∧ n < natI len ∧ SomeK o fun p => k (.pointer (some (addA p (mulN (intN n) sz))))
          | _ => False
        | none => False
      | some (.array len e) => match sizeT P e with
        | some sz => match ρ x with
          | .pointer o => 0 ≤ n ∧ n < natI len ∧ SomeK o fun p => k (.pointer (some (addA p (mulN (intN n) sz))))
          | _ => False
        | none => False
      | _ => False
    | _ => False
  | .index T x i =>
    match ρ i with
    | .int _ n =>
      match P.underlying T with
      | some .string => match ρ x with
        | .string s => 0 ≤ n ∧ ByteAtK s (intN n) fun b => k (.int .u8 (byteI b))
        | _ => False
      | some (.array len e) => match sizeT P e, ρ x with
        | some sz, .agg cs => match aggT P e with
          | some true => 0 ≤ n ∧ n < natI len ∧ k (.agg (cs.extract (mulN (intN n) sz) (addN (mulN (intN n) sz) sz)))
          | some false => 0 ≤ n ∧ n < natI len ∧ ElemK cs.toList (mulN (intN n) sz) (cpT P e) k
          | none => False
        | _, _ => False
      | _ => False
    | _ => False
  | .slice T x lo hi mx =>
    match P.underlying T with
    | some .string => match ρ x, mx with
      | .string s, none => BoundK (hi.map ρ) (sizeS s) (sizeS s) fun h => BoundK (lo.map ρ) 0 h fun l => k (.string (cutS s l h))
      | _, _ => False
    | some (.slice e) => match sizeT P e, ρ x with
      | some sz, .slice a len cap =>
        match mx with
        | none => BoundK (hi.map ρ) len cap fun h => BoundK (lo.map ρ) 0 h fun l => k (.slice (cutA a cap l sz) (subN h l) (subN cap l))
        | some m => match hi with
          | none => False
          | some _ => BoundK (some (ρ m)) 0 cap fun mm => BoundK (hi.map ρ) 0 mm fun h => BoundK (lo.map ρ) 0 h fun l => k (.slice (cutA a mm l sz) (subN h l) (subN mm l))
      | _, _ => False
    | some (.array n e) => match sizeT P e, ρ x with
      | some sz, .pointer o =>
        match mx with
        | none => BoundK (hi.map ρ) n n fun h => BoundK (lo.map ρ) 0 h fun l => SomeK o fun p => k (.slice (cutA (some p) n l sz) (subN h l) (subN n l))
        | some _ => False
      | _, _ => False
    | _ => False
  | .build T parts =>
    match P.built T (parts.toList.map fun p => (p.1, ρ p.2)) with
    | some cells => k (.agg cells)
    | none => False
  | .nilCheck x => match ρ x with
    | .pointer o => SomeK o fun p => k (.pointer (some p))
    | .func (.func f) first capt => k (.func (.func f) first capt)
    | .func (.yield f) first capt => k (.func (.yield f) first capt)
    | _ => False
  | .call c =>
    match c.callee with
    | .builtin .len => match c.argTypes[0]?, (c.args[0]?).map ρ with
      | some t, some v => match P.underlying t, v with
        | some .string, .string s => k (.int .i64 (natI (sizeS s)))
        | some (.slice _), .slice _ n _ => k (.int .i64 (natI n))
        | some (.array n _), _ => k (.int .i64 (natI n))
        | _, _ => False
      | _, _ => False
    | .builtin .cap => match c.argTypes[0]?, (c.args[0]?).map ρ with
      | some t, some v => match P.underlying t, v with
        | some (.slice _), .slice _ _ n => k (.int .i64 (natI n))
        | _, _ => False
      | _, _ => False
    | .builtin .min => match c.args.toList.map ρ with
      | [.int kx a, .int ky b] => match decide (kx = ky) with | true => k (.int kx (minI a b)) | false => False
      | _ => False
    | .builtin .max => match c.args.toList.map ρ with
      | [.int kx a, .int ky b] => match decide (kx = ky) with | true => k (.int kx (maxI a b)) | false => False
      | _ => False
    | _ => False
  | _ => False


/-! ### Operations that read, write or make memory -/

/-- n times the same cells. -/
def zerosL (z : List Value) (n : Nat) : List Value :=
  match z with
  | [v] => List.replicate n v
  | l => (List.replicate n l).flatten

/-- The same, for a number that is not known. -/
def zerosV (z : List Value) (n : Nat) : List Value := zerosL z n

def builtS (P : Program) (t : TypeId) (len : Nat) (parts : List (Nat × Value)) : Option (TypeId × List Value) :=
  match P.underlying t with
  | some (.slice e) =>
    match P.info? e with
    | some ie =>
      match ie.zero with
      | some z =>
        match decide (z.cells.size = ie.size ∧ len * ie.size ≤ 16777216) with
        | true => (Instr.fill (fun i => some (i * ie.size, ie.size)) (zerosL z.cells.toList len).toArray parts).map fun cs => (e, cs.toList)
        | false => none
      | none => none
    | none => none
  | _ => none

/-- The value of one cell. -/
@[reducible] def CellK (v : Value) (p : Prop) : Prop :=
  match v with
  | .agg _ => False
  | .tuple _ => False
  | _ => p

def bs (l : List UInt8) : ByteArray := ⟨l.toArray⟩
def byteV (b : UInt8) : Value := .int .u8 (b.toNat : Int)

/-- What a []byte holds. -/
def BytesAt (w : World) (o : Option Addr) (len : Nat) (l : List UInt8) : Prop :=
  match o with
  | none => l = []
  | some a => l.length = len ∧ CellsAt w a (l.map byteV)

def StrOfK (w : World) (o : Option Addr) (len : Nat) (k : ByteArray → Prop) : Prop := ∃ l : List UInt8, BytesAt w o len l ∧ k (bs l)

/-- A string's bytes in a new block. -/
def BytesOfK (w : World) (s : ByteArray) (T : TypeId) (k : Nat → Nat → World → Prop) : Prop :=
  ∀ b cap w1, b = w.heap.size → s.size ≤ cap →
    w1 = w.drew.alloc (.cells ((s.data.toList.map byteV) ++ List.replicate (cap - s.size) (Value.int .u8 0)).toArray T (cap, cap + 1)) → k b cap w1

/-- Room for so many. -/
def MakeK (w : World) (e : TypeId) (z : List Value) (bytes : Nat) (l c : Int) (k : Nat → World → Prop) : Prop :=
  0 ≤ l ∧ l ≤ c ∧ c * bytes ≤ 281474976710656 ∧ c ≤ 9223372036854775807 ∧
    ∀ b w1, b = w.heap.size → w1 = w.alloc (.cells (zerosL z c.toNat).toArray e (0, 0)) → k b w1

/-- What is appended. -/
inductive AppRel (w : World) (e : TypeId) (sz : Nat) (z : List Value) (base : Option Addr) (sLen sCap : Nat) (old ys : List Value) (n : Nat) : Option Addr → Nat → Nat → World → Prop
  | room (h : sLen + n ≤ sCap) : AppRel w e sz z base sLen sCap old ys n base (sLen + n) sCap
      (match base with | some a => storeAll w (a.add (sLen * sz)) 0 ys | none => w)
  | grows (cap : Nat) (h : sCap < sLen + n) (hc : sLen + n ≤ cap) (hC : cap ≤ 9223372036854775807) : AppRel w e sz z base sLen sCap old ys n (some ⟨w.heap.size, 0, none⟩) (sLen + n) cap
      (w.drew.alloc (.cells (old ++ ys ++ zerosL z (cap - (sLen + n))).toArray e (0, 0)))

def OldAt (w : World) (base : Option Addr) (n : Nat) (old : List Value) : Prop :=
  match base with
  | none => old = []
  | some a => old.length = n ∧ CellsAt w a old

def AppK (w : World) (e : TypeId) (sz bytes : Nat) (z : List Value) (base : Option Addr) (sLen sCap : Nat) (ys : List Value) (n : Nat) (k : Option Addr → Nat → Nat → World → Prop) : Prop :=
  ys.all isCell = true ∧ (sLen + n) * bytes ≤ 140737488355328 ∧ sLen + n ≤ 4611686018427387904 ∧
    ∃ old, OldAt w base (sLen * sz) old ∧ (∀ a, base = some a → sLen + n ≤ sCap → CanSt w (a.add (sLen * sz)) ys.length) ∧
      ∀ a l c w1, AppRel w e sz z base sLen sCap old ys n a l c w1 → k a l c w1

def minN (a b : Nat) : Nat := Nat.min a b
def bytesL (s : ByteArray) : List Value := s.data.toList.map byteV

def CopyK (w : World) (a : Option Addr) (ys : List Value) (k : World → Prop) : Prop :=
  match a with
  | none => k w
  | some a => StK w a ys k

def effK (P : Program) (y : Bool) (xp : Option (List PanicEntry → World → Prop)) (ρ : Operand → Value) (o : Op) (T : TypeId) (w : World) (k : Value → World → Prop) : Prop :=
  match o with
  | .alloc e => match zeroT P e, aggT P e with
    | some z, some true => NewK w z.cells e fun b w1 => k (.pointer (some ⟨b, 0, none⟩)) w1
    | some z, some false => CellK z (NewK w #[z] e fun b w1 => k (.pointer (some ⟨b, 0, none⟩)) w1)
    | _, _ => False
  | .box e x => match aggT P e with
    | some true => NewK w (ρ x).cells e fun b w1 => k (.pointer (some ⟨b, 0, none⟩)) w1
    | some false => CellK (ρ x) (NewK w #[ρ x] e fun b w1 => k (.pointer (some ⟨b, 0, none⟩)) w1)
    | none => False
  | .buildSlice t len parts => match builtS P t len (parts.toList.map fun p => (p.1, ρ p.2)) with
    | some (e, cells) => NewK w cells.toArray e fun b w1 => k (.slice (some ⟨b, 0, none⟩) len len) w1
    | none => False
  | .load t x => match ρ x with
    | .pointer o => SomeK o fun p => match aggT P t, sizeT P t with
      | some true, some n => match decide ((flatT P 20 t).length = n) with
        | true => LdsK w p (flatT P 20 t) fun vs => k (.agg vs.toArray) w
        | false => False
      | some false, some _ => LdK w p ((flatT P 20 t).headD .any) fun v => k v w
      | _, _ => False
    | _ => False
  | .store t x v => match ρ x with
    | .pointer o => SomeK o fun p => match aggT P t, sizeT P t with
      | some true, some n => match decide ((ρ v).cells.size = n) with
        | true => StK w p (ρ v).cells.toList fun w1 => k undef w1
        | false => False
      | some false, some 1 => StK w p [ρ v] fun w1 => k undef w1
      | _, _ => False
    | _ => False
  | .makeSlice t l c => match P.underlying t with
    | some (.slice e) => match P.info? e with
      | some ie => match ie.zero with
        | some z => match decide (z.cells.size = ie.size) with
          | true => match ρ l, ρ c with
            | .int _ l, .int _ c => MakeK w e z.cells.toList ie.bytes l c fun b w1 => k (.slice (some ⟨b, 0, none⟩) (intN l) (intN c)) w1
            | _, _ => False
          | false => False
        | none => False
      | none => False
    | _ => False
  | .convert src dst x => match P.underlying src, P.underlying dst, ρ x with
    | some _, some (.int kk), .int _ n => k (.int kk (wrapI kk n)) w
    | some _, some .string, .string s => k (.string s) w
    | some (.slice e), some .string, .slice a len _ => match P.underlying e with
      | some (.int .u8) => StrOfK w a len fun s => k (.string s) w
      | _ => False
    | some .string, some (.slice e), .string s => match P.underlying e with
      | some (.int .u8) => BytesOfK w s e fun b cap w1 => k (.slice (some ⟨b, 0, none⟩) (sizeS s) cap) w1
      | _ => False
    | _, _, _ => False
  | .panic x => match xp with
    | some X => match ρ x with
      | .iface t v => X [{ v := .iface t v, recovered := false }] w
      | _ => False
    | none => False
  | .call c => match c.callee with
    | .value f => FnK P y (ρ f) (c.args.map ρ) w (retX xp (tyT P T) k)
    | .builtin .append => match c.argTypes[0]?, c.argTypes[1]?, c.args.toList.map ρ with
      | some t, some t2, [.slice base sLen sCap, x] => match P.underlying t, P.underlying t2 with
        | some (.slice e), some u2 => match P.info? e with
          | some ie => match ie.zero with
            | some z => match decide (z.cells.size = ie.size) with
              | true => match u2, x with
                | .int _, .int _ n => 0 ≤ n ∧ n ≤ 4611686018427387904 ∧ AppK w e ie.size ie.bytes z.cells.toList base sLen sCap (zerosV z.cells.toList (intN n)) (intN n) fun a l c w1 => k (.slice a l c) w1
                | .slice _, .slice b n _ => ∃ ys, OldAt w b (mulN n ie.size) ys ∧ (b = none → n = 0) ∧ AppK w e ie.size ie.bytes z.cells.toList base sLen sCap ys n fun a l c w1 => k (.slice a l c) w1
                | .string, .string s => AppK w e ie.size ie.bytes z.cells.toList base sLen sCap (bytesL s) (sizeS s) fun a l c w1 => k (.slice a l c) w1
                | _, _ => False
              | false => False
            | none => False
          | none => False
        | _, _ => False
      | _, _, _ => False
    | .builtin .copy => match c.argTypes[0]?, c.args.toList.map ρ with
      | some t, [.slice a dLen _, .slice b n _] => match P.underlying t with
        | some (.slice e) => match P.info? e with
          | some ie => ∃ ys, OldAt w b (mulN (minN n dLen) ie.size) ys ∧ CopyK w a ys fun w1 => k (.int .i64 (natI (minN n dLen))) w1
          | none => False
        | _ => False
      | _, _ => False
    | _ => False
  | _ => False

/-- Any operation. -/
def opK (P : Program) (y : Bool) (xp : Option (List PanicEntry → World → Prop)) (ρ : Operand → Value) (o : Op) (T : TypeId) (w : World) (k : Value → World → Prop) : Prop :=
  match isPure o with
  | true => pureK P ρ o fun v => k v w
  | false => effK P y xp ρ o T w k

/-- What is asked of an operation's run. -/
def OpPost (P : Program) (y : Bool) (xp : Option (List PanicEntry → World → Prop)) (k : Value → World → Prop) : Result Next → Prop
  | .ok (.value v) w' => k v w'
  | .ok .skip w' => k undef w'
  | .ok (.enter f args) w' => Calls P f args w' fun e w'' => (∃ v, e = .returned v ∧ k v w'') ∨ ∃ ch X, xp = some X ∧ e = .panicked ch ∧ X ch w''
  | .ok (.round l f tmps assign body) w' => y = true ∧ RoundIn Fence.wide 0 P l f tmps assign body w' fun e w'' => (∃ v, e = .returned v ∧ k v w'') ∨ ∃ ch X, xp = some X ∧ e = .panicked ch ∧ X ch w''
  | .halt (.panic v) w' => ∃ X, xp = some X ∧ X [{ v, recovered := false }] w'
  | _ => False

/-! ### The frame, by slots -/
structure Env where
  l : List (Nat × Value)
  d : List Deferred

def look : List (Nat × Value) → Nat → Value
  | [], _ => undef
  | (s, v) :: r, t => match Nat.beq s t with | true => v | false => look r t

def Env.ev (e : Env) : Operand → Value
  | .tmp t => look e.l t
  | .const v => v
  | .global g => .pointer (some ⟨g, 0, none⟩)
  | .func f => .func (.func f) #[] #[]

def Env.put (e : Env) (dst : Option Tmp) (v : Value) : Env :=
  match dst with
  | some t => ⟨(t, v) :: e.l, e.d⟩
  | none => e

structure Rep (n : Nat) (e : Env) (a : Act) : Prop where
  d : a.defers = e.d
  size : a.tmps.size = n
  get : ∀ t, a.tmps.getD t undef = look e.l t

def dstOk (n : Nat) (dst : Option Tmp) : Bool :=
  match dst with
  | some t => Nat.blt t n
  | none => true

/-- Two frames are the same but for what M lets turn: 0 the deferred calls, t + 1 slot t. -/
structure Agree (M : Nat → Prop) (a a' : Act) : Prop where
  d : ¬ M 0 → a'.defers = a.defers
  get : ∀ t, ¬ M (t + 1) → a'.tmps.getD t undef = a.tmps.getD t undef

/-- What holds where it panics, by the deferred calls. -/
abbrev XD := Option (List Deferred → List PanicEntry → World → Prop)
def atD (xp : XD) (ds : List Deferred) : Option (List PanicEntry → World → Prop) :=
  match xp with
  | none => none
  | some X => some (X ds)

/-! ### A region in its text's order -/
def guardK (ops : Array Oper) (o : Oper) (e : Env) (go : Env → Prop) (no : Env → Prop) : Prop :=
  match o.guard with
  | none => go e
  | some (j, want) =>
    match (ops[j]?).bind (·.dst) with
    | none => False
    | some d =>
      match look e.l d with
      | .bool b => match want with
        | true => SplitK b (go (e.put (some d) (.bool true))) (no (e.put (some d) (.bool false)))
        | false => SplitK b (no (e.put (some d) (.bool true))) (go (e.put (some d) (.bool false)))
      | .tuple _ => no e
      | _ => False

def trOps (P : Program) (xp : XD) (n : Nat) (ops : Array Oper) : List Oper → (Env → World → Prop) → Env → World → Prop
  | [], K, e, w => K e w
  | o :: rest, K, e, w =>
    match dstOk n o.dst with
    | true => guardK ops o e
        (fun e => opK P true (atD xp e.d) e.ev o.op o.type w fun v w1 => trOps P xp n ops rest K (e.put o.dst v) w1)
        (fun e => trOps P xp n ops rest K (e.put o.dst undef) w)
    | false => False

def Fc (r : Option Nat) : Fence := { Fence.wide with round := r }

/-- The post of a region. -/
def regQ (xp : XD) (n : Nat) (M : Nat → Prop) (a0 : Act) (K : Env → World → Prop) : Exit → Act → World → Prop
  | .normal, a, w => ∃ e, Rep n e a ∧ Agree M a0 a ∧ K e w
  | .panic ch, a, w => ∃ X, xp = some X ∧ X a.defers ch w
  | _, _, _ => False

/-! ### A region that draws its order -/
/-- A load whose value every world of S has. -/
def ldSK (P : Program) (S : World → Prop) (ρ : Operand → Value) (o : Op) (k : Value → Prop) : Prop :=
  match o with
  | .load t x => match ρ x with
    | .pointer o => SomeK o fun p => match aggT P t, sizeT P t with
      | some true, some n => match decide ((flatT P 20 t).length = n) with
        | true => LdsSK S p (flatT P 20 t) fun vs => k (.agg vs.toArray)
        | false => False
      | some false, some _ => LdSK S p ((flatT P 20 t).headD .any) fun v => k v
      | _, _ => False
    | _ => False
  | _ => False

def isLoad : Op → Bool
  | .load .. => true
  | _ => false

def withS (hs : Bool) (S : World → Prop) (w : World) (p : Prop) : Prop :=
  match hs with
  | true => S w ∧ p
  | false => p

def allR (f : Nat → Prop) : List Nat → Prop
  | [] => True
  | [i] => f i
  | i :: r => f i ∧ allR f r

/-- May a load of the region still come up behind o? Then S must hold behind o. -/
def needS (ops : Array Oper) (o : Oper) : Bool :=
  (List.range ops.size).any fun x => match ops[x]? with
    | some l => isLoad l.op && !(o.after.any fun e => Region.binds .any e && e.on == x)
    | none => false

def slotM : Operand → Nat
  | .tmp t => 2 ^ t
  | _ => 0
def slotsM (l : List Operand) : Nat := l.foldl (fun m x => m ||| slotM x) 0

/-! The tables of a drawn region, as numbers whose bits are its operations. -/
def maskW (f : Nat → Bool) : Nat → Nat
  | 0 => 0
  | k + 1 => match f k with | true => maskW f k ||| 2 ^ k | false => maskW f k
def depM (o : Oper) : Nat := o.after.toList.foldl (fun m e => match Region.binds .any e with | true => m ||| 2 ^ e.on | false => m) 0
def confM (ops : Array Oper) (i : Nat) : Nat :=
  match ops[i]? with
  | none => 0
  | some oi => match isPure oi.op || isLoad oi.op with
    | false => 0
    | true => maskW (fun j => !(j == i) && match ops[j]? with
        | some oj => !(oj.after.any (fun e => Region.binds .any e && e.on == i) || oi.apart ops oj)
        | none => false) ops.size
def inRange (ops : Array Oper) : Bool := ops.toList.all fun o => o.after.toList.all fun e => Nat.blt e.on ops.size

/-- What each operation is behind, directly or through others. (Advice alone: nothing hangs on it.) -/
def ancs : List Nat → List Nat → List Nat
  | [], acc => acc
  | d :: r, acc => ancs r (acc ++ [(d ||| (List.range acc.length).foldl (fun m k => match Nat.testBit d k with | true => m ||| acc.getD k 0 | false => m) 0)])
def useM (ops : Array Oper) (o : Oper) : Nat :=
  match o.guard with
  | some (j, _) => match (ops[j]?).bind (·.dst) with | some t => slotsM o.op.operands.toList ||| 2 ^ t | none => slotsM o.op.operands.toList
  | none => slotsM o.op.operands.toList
def dstSlots : List Oper → List Nat
  | [] => []
  | o :: r => match o.dst with | some t => t :: (dstSlots r).filter (fun s => !(Nat.beq s t)) | none => dstSlots r

structure Tab where
  dep : List Nat
  conf : List Nat
  anc : List Nat
  desc : List Nat
  guards : Nat
  loads : Nat
  needs : Nat

def leM (a b : Nat) : Bool := Nat.beq (a &&& b) a
def readyM (dep : List Nat) (listed : Nat) : Nat → List Nat
  | 0 => []
  | k + 1 => match !Nat.testBit listed k && leM (dep.getD k 0) listed with | true => readyM dep listed k ++ [k] | false => readyM dep listed k
def takeM (conf : List Nat) (ops : Array Oper) (listed : Nat) : List Nat → Option Nat
  | [] => none
  | i :: r => match ops[i]? with
    | none => takeM conf ops listed r
    | some o => match (isPure o.op || isLoad o.op) && leM (conf.getD i 0) listed with
      | true => some i
      | false => takeM conf ops listed r

def forceN (n : Nat) (k : Nat → Prop) : Prop :=
  match n with
  | 0 => k 0
  | m + 1 => k (m + 1)
def forceL : List Nat → (List Nat → Prop) → Prop
  | [], k => k []
  | x :: r, k => forceN x fun n => forceL r fun l => k (n :: l)
def tabK (ops : Array Oper) (k : Tab → Prop) : Prop :=
  forceL (ops.toList.map depM) fun dep => forceL ((List.range ops.size).map (confM ops)) fun conf => forceL (ancs dep []) fun anc =>
    forceL ((List.range ops.size).map fun j => maskW (fun k => Nat.testBit (anc.getD k 0) j) ops.size) fun desc =>
      forceN (maskW (fun k => match ops[k]? with | some o => o.guard.isSome | none => false) ops.size) fun guards =>
        forceN (maskW (fun k => match ops[k]? with | some o => isLoad o.op | none => false) ops.size) fun loads =>
          forceN (maskW (fun k => match ops[k]? with | some o => needS ops o | none => false) ops.size) fun needs => k ⟨dep, conf, anc, desc, guards, loads, needs⟩

def pickOps (ops : Array Oper) (m : Nat) : Nat → List Oper
  | 0 => []
  | k + 1 => match Nat.testBit m k, ops[k]? with
    | true, some o => pickOps ops m k ++ [o]
    | _, _ => pickOps ops m k

/-- The cut that comes next: all of what is not in it comes behind one operation, j. -/
def cutAt (ops : Array Oper) (T : Tab) (out lm cm : Nat) (j : Nat) : Option (Nat × List Nat × List Nat) :=
  match Nat.testBit lm j || !Nat.testBit cm j with
  | true => none
  | false =>
    (fun s => match Nat.beq s cm || !leM (cm ^^^ (cm &&& s)) (T.desc.getD j 0) with
      | true => none
      | false =>
        (fun (late early : List Oper) =>
          (fun (use wr : Nat) (ds : List Nat) =>
            (fun (L : List Nat) =>
              match early.all fun o => match o.dst, o.guard with | some t, some _ => !(L.any fun x => Nat.beq x t) | _, _ => true with
              | true => some (s, L, ds.filter fun t => !(L.any fun x => Nat.beq x t))
              | false => none)
            (ds.filter fun t => Nat.testBit use t || (Nat.testBit out t && !Nat.testBit wr t)))
          (late.foldl (fun m o => m ||| useM ops o) 0) (late.foldl (fun m o => match o.dst, o.guard with | some t, none => m ||| 2 ^ t | _, _ => m) 0) (dstSlots early))
        (pickOps ops ((2 ^ ops.size - 1) ^^^ s) ops.size) (pickOps ops (s ^^^ lm) ops.size))
    (lm ||| (T.anc.getD j 0 ||| 2 ^ j))
def cutFrom (ops : Array Oper) (T : Tab) (out lm cm : Nat) : List Nat → Option (Nat × List Nat × List Nat)
  | [] => none
  | j :: r => match cutAt ops T out lm cm j with
    | some x => some x
    | none => cutFrom ops T out lm cm r
def arrOf (n s : Nat) : Array Bool := ((List.range n).map (Nat.testBit s)).toArray
def cnt (l : Array Bool) : Nat := l.toList.countP (fun b => b)

/-- The slots L bear vs, the slots D whatever g tells. -/
def mixed (e : Env) (L D : List Nat) (vs : List Value) (g : Nat → Value) : Env := ⟨L.zip vs ++ (D.map (fun s => (s, g s)) ++ e.l), e.d⟩

def JoinK (cs : List Cp) (rest : List Value → World → Prop) (body : (List Value → World → Prop) → Prop) : Prop :=
  ∀ K : List Value → World → Prop, (alCs cs fun vs => ∀ w, rest vs w → K vs w) → body K

def typeOfSlot : List (Nat × Cp) → Nat → Option Cp
  | [], _ => none
  | (s, T) :: r, t => match Nat.beq s t with | true => some T | false => typeOfSlot r t

/-- Is a cut worth while: more than one may come up, or the one that does is guarded? -/
def wantsCut (T : Tab) (rd : List Nat) (t : Option Nat) : Bool :=
  match t with
  | some i => Nat.testBit T.guards i
  | none => match rd with
    | [i] => Nat.testBit T.guards i
    | _ => true

/-- Are all slots that may still be written in l, and is what is listed in C? -/
def coversB (ops : Array Oper) (listed C : Nat) (l : List Nat) : Bool :=
  leM listed C && (pickOps ops (C ^^^ listed) ops.size).all fun o => match o.dst with | some t => l.any fun x => Nat.beq x t | none => true

/-- kn: is S known of the world at hand? -/
def trAny (P : Program) (xp : XD) (n : Nat) (ty : List (Nat × Cp)) (out : Nat) (ops : Array Oper) (T : Tab) (S : World → Prop) : (g : Nat) → (C : Nat) → (K : Env → World → Prop) → Bool → Nat → Env → World → Prop
  | g, C, K, kn, listed, e, w =>
  match Nat.beq listed C with
  | true => K e w
  | false => match g with
    | 0 => False
    | g + 1 => match readyM T.dep listed ops.size with
        | [] => False
        | i0 :: rs =>
          match (match wantsCut T (i0 :: rs) (takeM T.conf ops listed (i0 :: rs)) with | true => cutFrom ops T out listed C (List.range ops.size) | false => none) with
          | some (s, L, D) => forceN s fun s => forceL L fun L => forceL D fun D => match coversB ops listed s (L ++ D) && leM s C with
           | false => False
           | true =>
            JoinK (L.map fun t => (typeOfSlot ty t).getD (.one .any))
              (fun vs w => ∀ f : Nat → Value, trAny P xp n ty out ops T S g C K (!leM T.loads s) s (mixed e L D vs f) w)
              (fun Kj => trAny P xp n ty out ops T S g s (fun e w => withS (!leM T.loads s) S w (Kj (L.map (look e.l)) w)) kn listed e w)
          | none =>
            match takeM T.conf ops listed (i0 :: rs) with
            | some i =>
              match ops[i]? with
              | none => False
              | some o =>
                match dstOk n o.dst && Nat.testBit C i with
                | false => False
                | true => guardK ops o e
                  (fun e => match isPure o.op with
                    | true => pureK P e.ev o.op fun v => forceN (listed ||| 2 ^ i) fun l1 => trAny P xp n ty out ops T S g C K kn l1 (e.put o.dst v) w
                    | false => match isLoad o.op with
                      | true => withS (!kn) S w (ldSK P S e.ev o.op fun v => forceN (listed ||| 2 ^ i) fun l1 => trAny P xp n ty out ops T S g C K true l1 (e.put o.dst v) w)
                      | false => False)
                  (fun e => forceN (listed ||| 2 ^ i) fun l1 => trAny P xp n ty out ops T S g C K kn l1 (e.put o.dst undef) w)
            | none => allR (fun i =>
              match ops[i]? with
              | none => False
              | some o =>
                match dstOk n o.dst && Nat.testBit C i && !(isPure o.op || isLoad o.op) with
                | false => False
                | true => guardK ops o e
                  (fun e => opK P false (atD xp e.d) e.ev o.op o.type w fun v w1 => withS (Nat.testBit T.needs i) S w1 (forceN (listed ||| 2 ^ i) fun l1 => trAny P xp n ty out ops T S g C K (Nat.testBit T.needs i) l1 (e.put o.dst v) w1))
                  (fun e => withS (Nat.testBit T.needs i) S w (forceN (listed ||| 2 ^ i) fun l1 => trAny P xp n ty out ops T S g C K (Nat.testBit T.needs i) l1 (e.put o.dst undef) w))) (i0 :: rs)

def hasLoad (ops : Array Oper) : Bool := ops.toList.any fun o => isLoad o.op

/-- A world but for the count of its draws. -/
def DrawK (w : World) (k : World → Prop) : Prop := ∀ w1, w1 = w.drew → k w1

def noDefer (ops : Array Oper) : Bool := ops.toList.all fun o => match o.op with | .defer _ => false | _ => true

def trDraw (P : Program) (xp : XD) (n : Nat) (ty : List (Nat × Cp)) (out : Nat) (ops : Array Oper) (K : Env → World → Prop) (e : Env) (w : World) : Prop :=
  match P.follows .mixedOrders && Region.noSelect ops && noDefer ops && inRange ops with
  | false => False
  | true => DrawK w fun w1 => tabK ops fun T => forceN (2 ^ ops.size - 1) fun C => forceN out fun out =>
    match hasLoad ops with
    | true => ∃ S : World → Prop, S w1 ∧ trAny P xp n ty out ops T S (ops.size + ops.size) C K true 0 e w1
    | false => trAny P xp n ty out ops T (fun _ => True) (ops.size + ops.size) C K true 0 e w1

/-! ### Code -/
inductive Ex where
  | normal
  | exit (id : Nat)
  | ret

/-- What a function's translation knows: the program, its slots, their types, what is read at the end. -/
structure Cx where
  P : Program
  n : Nat
  ty : List (Nat × Cp)
  ret : Nat
  rnd : Bool := false
  xp : XD := none

def dstM (dst : Option Tmp) : Nat := match dst with | some t => 2 ^ (t + 1) | none => 0
def opsM : List Oper → Nat
  | [] => 0
  | o :: r => dstM o.dst ||| opsM r

/-- What code may turn: bit 0 the deferred calls, bit t + 1 slot t. -/
def modM : Code → Nat
  | .region _ ops _ => opsM ops.toList
  | .seq a b => modM a ||| modM b
  | .cond _ a b => modM a ||| modM b
  | .block _ c => modM c
  | .loop c => modM c
  | .scope c => modM c
  | .rangeFunc _ _ _ _ => 1
  | _ => 0

/-- m without t. -/
def without (m t : Nat) : Nat := match Nat.testBit m t with | true => m - 2 ^ t | false => m

def liveOps (ops : Array Oper) : List Oper → Nat → Nat
  | [], out => out
  | o :: r, out =>
    let l := liveOps ops r out
    let l := match o.dst with | some t => without l t | none => l
    let l := l ||| slotsM o.op.operands.toList
    match o.guard with
    | some (j, _) => match (ops[j]?).bind (·.dst) with | some t => l ||| 2 ^ t | none => l
    | none => l

def exitM : List (Nat × Nat) → Nat → Nat
  | [], _ => 0
  | (i, m) :: r, id => match Nat.beq i id with | true => m | false => exitM r id

/-- Slots that are read from here on: advice alone, nothing hangs on it. -/
def liveIn (all ret : Nat) : Code → Nat → List (Nat × Nat) → Nat
  | .region _ ops _, out, _ => liveOps ops ops.toList out
  | .seq a b, out, ex => liveIn all ret a (liveIn all ret b out ex) ex
  | .cond c a b, out, ex => slotM c ||| (liveIn all ret a out ex ||| liveIn all ret b out ex)
  | .block id c, out, ex => liveIn all ret c out ((id, out) :: ex)
  | .loop c, _, ex => liveIn all ret c (liveIn all ret c 0 ex) ex
  | .exit id, _, ex => exitM ex id
  | .ret, _, _ => ret
  | .scope c, out, ex => liveIn all ret c out ex
  | .rangeFunc f _ a b, out, ex => slotM f ||| (out ||| liveIn all ret a (liveIn all ret b (out ||| liveIn all ret b out ex) ex) ex)
  | _, out, _ => out

/-- The slots that m may turn (b = true: those of them that are in l; false: the others). -/
def slotsOf (m l : Nat) (b : Bool) : Nat → List Nat
  | 0 => []
  | k + 1 => match Nat.testBit m (k + 1) && (Nat.testBit l k == b) with | true => slotsOf m l b k ++ [k] | false => slotsOf m l b k

def makesB (o : Oper) : Bool :=
  match o.op with
  | .alloc _ | .box _ _ | .buildSlice _ _ _ | .makeSlice _ _ _ | .makeMap _ _ | .convert _ _ _ => true
  | _ => false

/-- How often the code goes on behind itself in its translation. -/
def falls : Code → Nat
  | .skip => 1
  | .label _ => 1
  | .region _ ops draw => match ops.toList.any (fun o => o.guard.isSome) || (draw && ops.toList.any makesB) with | true => 2 | false => 1
  | .seq a b => match falls a with | 0 => 0 | _ => falls b
  | .cond _ a b => falls a + falls b
  | .block id c => falls c + exitsOf id c
  | .loop _ => 0
  | .scope c => falls c
  | .rangeFunc _ _ _ _ => 1
  | _ => 0
where exitsOf (id : Nat) : Code → Nat
  | .seq a b => match falls a with | 0 => exitsOf id a | _ => exitsOf id a + exitsOf id b
  | .cond _ a b => exitsOf id a + exitsOf id b
  | .block _ c => exitsOf id c
  | .loop c => exitsOf id c
  | .scope c => exitsOf id c
  | .exit i => match Nat.beq i id with | true => 1 | false => 0
  | .rangeFunc _ _ _ b => Nat.min 1 (exitsOf id b)
  | _ => 0

/-- The exits that leave code, and whether it may return. -/
def exitIds : Code → List Nat
  | .seq a b => exitIds a ++ exitIds b
  | .cond _ a b => exitIds a ++ exitIds b
  | .block i c => (exitIds c).filter fun j => !(Nat.beq i j)
  | .loop c => exitIds c
  | .scope c => exitIds c
  | .exit i => [i]
  | .rangeFunc _ _ a b => exitIds a ++ exitIds b
  | _ => []
def uniq : List Nat → List Nat
  | [] => []
  | x :: r => x :: (uniq r).filter fun j => !(Nat.beq x j)
def retsB : Code → Bool
  | .seq a b => retsB a || retsB b
  | .cond _ a b => retsB a || retsB b
  | .block _ c => retsB c
  | .loop c => retsB c
  | .scope c => retsB c
  | .ret => true
  | .rangeFunc _ _ a b => retsB a || retsB b
  | _ => false

/-- Is what follows so short that it may stand twice? -/
def short : Code → Bool
  | .skip | .ret | .exit _ | .label _ => true
  | _ => false

def cpOfSlot (c : Cx) (t : Nat) : Cp := match typeOfSlot c.ty t with | some T => T | none => .one .any

/-- A loop: I says what holds at a round's head when at most so many rounds are left. -/
def LoopK (cs : List Cp) (vs0 : List Value) (w0 : World) (body : (List Value → World → Prop) → List Value → World → Prop) : Prop :=
  ∃ I : Nat → List Value → World → Prop, (∃ n, I n vs0 w0) ∧ ∀ n vs w, I n vs w → exCs cs fun vs' => vs = vs' ∧ body (fun vs2 w2 => ∃ m, m < n ∧ I m vs2 w2) vs' w

/-- The same, where the code in front may turn the list of deferred calls. -/
def JoinDK (cs : List Cp) (rest : List Value → List Deferred → World → Prop) (body : (List Value → List Deferred → World → Prop) → Prop) : Prop :=
  ∀ K : List Value → List Deferred → World → Prop, (alCs cs fun vs => ∀ ds w, rest vs ds w → K vs ds w) → body K

/-- A round's end: the record, and what yield hands back. -/
def EndK (l : Nat) (rec : LoopState → Option Code → Obj) (j : Option Code) (w : World) (R : Ending → World → Prop) : Prop :=
  match j with
  | none => w.heap[l]? = some (rec .busy none) ∧ ∀ w1, w1 = w.putObj l (rec .ready none) → R (.returned (.bool true)) w1
  | some c => w.heap[l]? = some (rec .busy none) ∧ ∀ w1, w1 = w.putObj l (rec .done (some c)) → R (.returned (.bool false)) w1

def assocP : List (Nat × Prop) → Nat → Prop
  | [], _ => False
  | (i, p) :: r, id => match Nat.beq i id with | true => p | false => assocP r id

/-- Where it goes on behind a range over a function: off its end, by 'ret', by an exit. -/
def JumpK (j : Option Code) (n r : Prop) (x : List (Nat × Prop)) : Prop :=
  match j with
  | none => n
  | some .ret => r
  | some (.exit id) => assocP x id
  | some _ => False

def stOf (j : Option Code) : LoopState := match j with | none => .ready | some _ => .done

/-- A range over a function. -/
def RangeK (P : Program) (cs : List Cp) (g : Value) (w : World) (body : Nat → (LoopState → Option Code → Obj) → List Value → World → (Ending → World → Prop) → Prop) (K : Option Code → Nat → World → Prop) : Prop :=
  ∀ (D l : Nat) (rec : LoopState → Option Code → Obj) (w1 : World), D = w.heap.size → l = w.heap.size + 1 → w1 = (w.alloc (.deferred (some []))).alloc (rec .ready none) →
    (alCs cs fun vs => ∀ w2 R, w2.heap[l]? = some (rec .ready none) → body l rec vs w2 R → RoundK P l vs.toArray w2 R) →
    FnK P false g #[.func (.yield l) #[] #[]] w1 (fun e w2 => ∃ v, e = .returned v ∧ ∃ j, w2.heap[l]? = some (rec (stOf j) j) ∧ ∀ w3, w3 = w2.putObj l (rec .exhausted j) → K j D w3)

def putAll (e : List (Nat × Value)) : List (Nat × Value) → List (Nat × Value)
  | [] => e
  | p :: r => putAll (p :: e) r

def tr (c : Cx) : Code → (out : Nat) → (ex : List (Nat × Nat)) → (Ex → Env → World → Prop) → Env → World → Prop
  | .skip, _, _, Q, e, w => Q .normal e w
  | .label _, _, _, Q, e, w => Q .normal e w
  | .exit id, _, _, Q, e, w => Q (.exit id) e w
  | .ret, _, _, Q, e, w => Q .ret e w
  | .region _ ops false, _, _, Q, e, w => trOps c.P c.xp c.n ops ops.toList (fun e w => Q .normal e w) e w
  | .region _ ops true, out, _, Q, e, w => trDraw c.P c.xp c.n c.ty out ops (fun e w => Q .normal e w) e w
  | .cond x a b, out, ex, Q, e, w => match e.ev x with
    | .bool t => SplitK t (tr c a out ex Q e w) (tr c b out ex Q e w)
    | _ => False
  | .block id a, out, ex, Q, e, w => tr c a out ((id, out) :: ex) (fun x e w => match x with
      | .exit id' => match Nat.beq id' id with | true => Q .normal e w | false => Q (.exit id') e w
      | .normal => Q .normal e w
      | .ret => Q .ret e w) e w
  | .scope a, out, ex, Q, e, w => False
  | .seq a b, out, ex, Q, e, w =>
    match Nat.ble (falls a) 1 || short b with
    | true => tr c a (liveIn (2 ^ c.n - 1) c.ret b out ex) ex (fun x e w => match x with
        | .normal => tr c b out ex Q e w
        | .exit id => Q (.exit id) e w
        | .ret => Q .ret e w) e w
    | false =>
      match Nat.testBit (modM a) 0 with
      | true =>
        forceL (slotsOf (modM a) (liveIn (2 ^ c.n - 1) c.ret b out ex) true c.n) fun L => forceL (slotsOf (modM a) (liveIn (2 ^ c.n - 1) c.ret b out ex) false c.n) fun D =>
          JoinDK (L.map (cpOfSlot c)) (fun vs ds w => ∀ g : Nat → Value, tr c b out ex Q ⟨(mixed e L D vs g).l, ds⟩ w) (fun K =>
            tr c a (liveIn (2 ^ c.n - 1) c.ret b out ex) ex (fun x e w => match x with
              | .normal => K (L.map (look e.l)) e.d w
              | .exit id => Q (.exit id) e w
              | .ret => Q .ret e w) e w)
      | false =>
        forceL (slotsOf (modM a) (liveIn (2 ^ c.n - 1) c.ret b out ex) true c.n) fun L => forceL (slotsOf (modM a) (liveIn (2 ^ c.n - 1) c.ret b out ex) false c.n) fun D =>
          JoinK (L.map (cpOfSlot c)) (fun vs w => ∀ g : Nat → Value, tr c b out ex Q (mixed e L D vs g) w) (fun K =>
            tr c a (liveIn (2 ^ c.n - 1) c.ret b out ex) ex (fun x e w => match x with
              | .normal => K (L.map (look e.l)) w
              | .exit id => Q (.exit id) e w
              | .ret => Q .ret e w) e w)
  | .loop a, out, ex, Q, e, w =>
    match Nat.testBit (modM a) 0 with
    | true => False
    | false =>
      forceL (slotsOf (modM a) (liveIn (2 ^ c.n - 1) c.ret (.loop a) out ex) true c.n) fun L => forceL (slotsOf (modM a) (liveIn (2 ^ c.n - 1) c.ret (.loop a) out ex) false c.n) fun D =>
        LoopK (L.map (cpOfSlot c)) (L.map (look e.l)) w (fun cont vs w => ∀ g : Nat → Value,
          tr c a (liveIn (2 ^ c.n - 1) c.ret (.loop a) out ex) ex (fun x e w => match x with
            | .normal => cont (L.map (look e.l)) w
            | .exit id => Q (.exit id) e w
            | .ret => Q .ret e w) (mixed e L D vs g) w)
  | .rangeFunc g ps a b, out, ex, Q, e, w =>
    match !c.rnd && c.xp.isNone && ps.toList.all (fun t => Nat.blt t c.n) with
    | false => False
    | true => RangeK c.P (ps.toList.map (cpOfSlot c)) (e.ev g) w
        (fun l rec vs w1 R => tr ⟨c.P, c.n, c.ty, 0, true, none⟩ a (2 ^ c.n - 1) [] (fun x e1 w1 => match x with
          | .normal => w1.heap[l]? = some (rec .ready none) ∧ ∀ w2, w2 = w1.putObj l (rec .busy none) → tr ⟨c.P, c.n, c.ty, 0, true, none⟩ b 0 [] (fun x _ w3 => match x with
            | .normal => EndK l rec none w3 R
            | .ret => EndK l rec (some .ret) w3 R
            | .exit id => EndK l rec (some (.exit id)) w3 R) e1 w2
          | _ => False) ⟨putAll e.l (ps.toList.zip vs), []⟩ w1)
        (fun j D w3 => JumpK j (Q .normal ⟨e.l, ⟨.collected D, #[]⟩ :: e.d⟩ w3)
          (match retsB b with | true => Q .ret ⟨e.l, ⟨.collected D, #[]⟩ :: e.d⟩ w3 | false => False)
          ((uniq (exitIds b)).map fun id => (id, Q (.exit id) ⟨e.l, ⟨.collected D, #[]⟩ :: e.d⟩ w3)))
  | _, _, _, _, _, _ => False

def getA (a : Act) (t : Nat) : Value := a.tmps.getD t undef

/-- The post of code. -/
def upQ (xp : XD) (n : Nat) (M : Nat → Prop) (a0 : Act) (Q : Ex → Env → World → Prop) : Exit → Act → World → Prop
  | .panic ch, a, w => ∃ X, xp = some X ∧ X a.defers ch w
  | .normal, a, w => ∃ e, Rep n e a ∧ Agree M a0 a ∧ Q .normal e w
  | .exit id, a, w => ∃ e, Rep n e a ∧ Agree M a0 a ∧ Q (.exit id) e w
  | .ret, a, w => ∃ e, Rep n e a ∧ Agree M a0 a ∧ Q .ret e w
  | _, _, _ => False

def bitM (m : Nat) (t : Nat) : Prop := Nat.testBit m t = true

/-! ### A function's entry and its results -/
def resL (P : Program) (e : Env) (w : World) : List ResultVar → (List Value → Prop) → Prop
  | [], k => k []
  | .tmp t :: r, k => resL P e w r fun vs => k (look e.l t :: vs)
  | .cell a T :: r, k => match look e.l a with
    | .pointer o => SomeK o fun p => match aggT P T, sizeT P T with
      | some true, some n => match decide ((flatT P 20 T).length = n) with
        | true => LdsK w p (flatT P 20 T) fun vs => resL P e w r fun rs => k (.agg vs.toArray :: rs)
        | false => False
      | some false, some _ => LdK w p ((flatT P 20 T).headD .any) fun v => resL P e w r fun rs => k (v :: rs)
      | _, _ => False
    | _ => False

def LeaveOne (D : Nat) (k : World → Prop) (w : World) : Prop := w.heap[D]? = some (.deferred (some [])) ∧ ∀ w1, w1 = w.putObj D (.deferred none) → k w1

/-- A function's leaving: its marks are taken. -/
def LeaveK : List Deferred → World → (World → Prop) → Prop
  | [], w, k => k w
  | d :: r, w, k => match d.target with
    | .collected D => LeaveOne D (fun w1 => LeaveK r w1 k) w
    | _ => False

def resK (P : Program) (fn : Func) (R : Value → World → Prop) (e : Env) (w : World) : Prop :=
  LeaveK e.d w fun w => resL P e w fn.results.toList fun vs => match vs with
    | [v] => R v w
    | l => R (.tuple l.toArray) w

def retQ (P : Program) (fn : Func) (R : Value → World → Prop) : Ex → Env → World → Prop
  | .normal, e, w => resK P fn R e w
  | .ret, e, w => resK P fn R e w
  | _, _, _ => False

def opCp (P : Program) (o : Oper) : Cp :=
  match o.op with
  | .alloc _ => .one .ptr
  | .box _ _ => .one .ptr
  | .fieldAddr _ _ _ => .one .ptr
  | .indexAddr _ _ _ => .one .ptr
  | _ => cpT P o.type
def opsTy (P : Program) : List Oper → List (Nat × Cp)
  | [] => []
  | o :: r => match o.dst with | some t => (t, opCp P o) :: opsTy P r | none => opsTy P r
/-- The types of slots that are read, by the operations that read them. -/
def useTy (P : Program) : List Oper → List (Nat × Cp)
  | [] => []
  | o :: r => match o.op with
    | .move (.tmp t) => (t, cpT P o.type) :: useTy P r
    | .assign (.tmp t) => (t, cpT P o.type) :: useTy P r
    | _ => useTy P r
def codeUse (P : Program) : Code → List (Nat × Cp)
  | .region _ ops _ => useTy P ops.toList
  | .seq a b => codeUse P a ++ codeUse P b
  | .cond _ a b => codeUse P a ++ codeUse P b
  | .block _ c => codeUse P c
  | .loop c => codeUse P c
  | .scope c => codeUse P c
  | .rangeFunc _ _ a b => codeUse P a ++ codeUse P b
  | _ => []
def codeTy (P : Program) : Code → List (Nat × Cp)
  | .region _ ops _ => opsTy P ops.toList
  | .seq a b => codeTy P a ++ codeTy P b
  | .cond _ a b => codeTy P a ++ codeTy P b
  | .block _ c => codeTy P c
  | .loop c => codeTy P c
  | .scope c => codeTy P c
  | .rangeFunc _ _ a b => codeTy P a ++ (codeTy P b ++ (codeUse P a ++ codeUse P b))
  | _ => []
def paramTy (P : Program) : Nat → List TypeId → List (Nat × Cp)
  | _, [] => []
  | i, t :: r => (i, cpT P t) :: paramTy P (i + 1) r
def resM : List ResultVar → Nat
  | [] => 0
  | .tmp t :: r => 2 ^ t ||| resM r
  | .cell t _ :: r => 2 ^ t ||| resM r

def cxOf (P : Program) (fn : Func) (c : Code) : Cx := ⟨P, fn.ntmps, paramTy P 0 fn.params.toList ++ codeTy P c, resM fn.results.toList, false, none⟩

def env0 : Nat → List Value → List (Nat × Value)
  | _, [] => []
  | i, v :: r => (i, v) :: env0 (i + 1) r

/-- A range over a function where a round, or the function, may panic. -/
def RangeP (P : Program) (cs : List Cp) (g : Value) (w : World) (body : Nat → (LoopState → Option Code → Obj) → List Value → World → (Ending → World → Prop) → Prop) (K : Option Code → Nat → World → Prop) (X : Nat → List PanicEntry → World → Prop) : Prop :=
  ∀ (D l : Nat) (rec : LoopState → Option Code → Obj) (w1 : World), D = w.heap.size → l = w.heap.size + 1 → w1 = (w.alloc (.deferred (some []))).alloc (rec .ready none) →
    (alCs cs fun vs => ∀ w2 R, w2.heap[l]? = some (rec .ready none) → body l rec vs w2 R → RoundK P l vs.toArray w2 R) →
    FnK P false g #[.func (.yield l) #[] #[]] w1 (fun e w2 => (∃ v, e = .returned v ∧ ∃ j, w2.heap[l]? = some (rec (stOf j) j) ∧ ∀ w3, w3 = w2.putObj l (rec .exhausted j) → K j D w3) ∨ ∃ ch, e = .panicked ch ∧ X D ch w2)

/-- Where no call is deferred. -/
def NoneD (ds : List Deferred) (p : Prop) : Prop :=
  match ds with
  | [] => p
  | _ :: _ => False

/-- The spine of a body that may panic: ranges over functions stand on it alone. -/
def trS (c : Cx) (X : List Deferred → List PanicEntry → World → Prop) : Code → (out : Nat) → (ex : List (Nat × Nat)) → (Ex → Env → World → Prop) → Env → World → Prop
  | .seq a b, out, ex, Q, e, w =>
    match Nat.ble (falls a) 1 || short b with
    | true => trS c X a (liveIn (2 ^ c.n - 1) c.ret b out ex) ex (fun x e w => match x with
        | .normal => trS c X b out ex Q e w
        | .exit id => Q (.exit id) e w
        | .ret => Q .ret e w) e w
    | false =>
      forceL (slotsOf (modM a) (liveIn (2 ^ c.n - 1) c.ret b out ex) true c.n) fun L => forceL (slotsOf (modM a) (liveIn (2 ^ c.n - 1) c.ret b out ex) false c.n) fun D =>
        JoinDK (L.map (cpOfSlot c)) (fun vs ds w => ∀ g : Nat → Value, trS c X b out ex Q ⟨(mixed e L D vs g).l, ds⟩ w) (fun K =>
          trS c X a (liveIn (2 ^ c.n - 1) c.ret b out ex) ex (fun x e w => match x with
            | .normal => K (L.map (look e.l)) e.d w
            | .exit id => Q (.exit id) e w
            | .ret => Q .ret e w) e w)
  | .rangeFunc g ps a b, out, ex, Q, e, w =>
    match ps.toList.all (fun t => Nat.blt t c.n) with
    | false => False
    | true => RangeP c.P (ps.toList.map (cpOfSlot c)) (e.ev g) w
        (fun l rec vs w1 R => tr ⟨c.P, c.n, c.ty, 0, true, some fun ds ch w3 => NoneD ds (R (.panicked ch) w3)⟩ a (2 ^ c.n - 1) [] (fun x e1 w1 => match x with
          | .normal => w1.heap[l]? = some (rec .ready none) ∧ ∀ w2, w2 = w1.putObj l (rec .busy none) → tr ⟨c.P, c.n, c.ty, 0, true, some fun ds ch w3 => NoneD ds (R (.panicked ch) w3)⟩ b 0 [] (fun x _ w3 => match x with
            | .normal => EndK l rec none w3 R
            | .ret => EndK l rec (some .ret) w3 R
            | .exit id => EndK l rec (some (.exit id)) w3 R) e1 w2
          | _ => False) ⟨putAll e.l (ps.toList.zip vs), []⟩ w1)
        (fun j D w3 => JumpK j (Q .normal ⟨e.l, ⟨.collected D, #[]⟩ :: e.d⟩ w3)
          (match retsB b with | true => Q .ret ⟨e.l, ⟨.collected D, #[]⟩ :: e.d⟩ w3 | false => False)
          ((uniq (exitIds b)).map fun id => (id, Q (.exit id) ⟨e.l, ⟨.collected D, #[]⟩ :: e.d⟩ w3)))
        (fun D ch w3 => X (⟨.collected D, #[]⟩ :: e.d) ch w3)
  | .block id a, out, ex, Q, e, w => trS c X a out ((id, out) :: ex) (fun x e w => match x with
      | .exit id' => match Nat.beq id' id with | true => Q .normal e w | false => Q (.exit id') e w
      | .normal => Q .normal e w
      | .ret => Q .ret e w) e w
  | x, out, ex, Q, e, w => tr ⟨c.P, c.n, c.ty, c.ret, false, some X⟩ x out ex Q e w

/-- What is to be shown of a body that may panic. -/
def bodyP (P : Program) (fn : Func) (args : List Value) (w : World) (R : Ending → World → Prop) : Prop :=
  match fn.body, Nat.ble args.length fn.ntmps with
  | some c, true => trS (cxOf P fn c) (fun ds ch w => LeaveK ds w fun w => R (.panicked ch) w) c 0 [] (retQ P fn fun v w => R (.returned v) w) ⟨env0 0 args, []⟩ w
  | _, _ => False

/-- What is to be shown of a function's body. -/
def bodyK (P : Program) (fn : Func) (args : List Value) (w : World) (R : Value → World → Prop) : Prop :=
  match fn.body, Nat.ble args.length fn.ntmps with
  | some c, true => tr (cxOf P fn c) c 0 [] (retQ P fn R) ⟨env0 0 args, []⟩ w
  | _, _ => False

def resOne (tmps : Array Value) : ResultVar → Sem Value
  | .tmp t => pure (tmps.getD t undef)
  | .cell a t => do loadVar t (← asAddr (tmps.getD a undef))

end Go.Sx
