/-
  Sums under a key, in plain words; no program.
-/
import Derived.Test.YtlegohnjbkgclaaDoorSxHex
import Derived.Lib.Repeat
namespace Go.Mac
open Go Go.Sx Go.Oct Go.Sha
set_option linter.unusedVariables false

def keyL (key : List UInt8) : List UInt8 := if 64 < key.length then sumL key else key
def padK (key : List UInt8) : List UInt8 := keyL key ++ zerosB (64 - (keyL key).length)
def turnL (s : List UInt8) (by' : UInt8) : List UInt8 := s.map (· ^^^ by')
def hmacL (key s : List UInt8) : List UInt8 := sumL (turnL (padK key) 92 ++ sumL (turnL (padK key) 54 ++ s))
/-- So many parts of an expanded key: the last one. -/
def lastL (key info : List UInt8) : Nat → List UInt8
  | 0 => []
  | i + 1 => hmacL key (lastL key info i ++ info ++ [UInt8.ofNat (i + 1)])
/-- So many parts, one behind the other. -/
def expL (key info : List UInt8) : Nat → List UInt8
  | 0 => []
  | i + 1 => expL key info i ++ lastL key info (i + 1)
def expand (key info : List UInt8) (n : Int) : List UInt8 := if n < 0 ∨ 8160 < n then [] else (expL key info ((n.toNat + 31) / 32)).take n.toNat
def expandE (n : Int) : Int := if n < 0 ∨ 8160 < n then 1 else 0
def catX (xs : List ByteArray) : List UInt8 := (xs.map fun x => x.data.toList).flatten
def lenX (xs : List ByteArray) : Nat := (catX xs).length
def infoL (xs : List ByteArray) : List UInt8 := (xs.map fun x => bigL x.size 4 ++ x.data.toList).flatten

theorem keyL_length (key : List UInt8) : (keyL key).length ≤ 64 := by
  unfold keyL; split
  · rw [sumL_length]; decide
  · omega
theorem padK_length (key : List UInt8) : (padK key).length = 64 := by
  have := keyL_length key
  rw [padK, List.length_append, zerosB, List.length_replicate]; omega
theorem turnL_length (s : List UInt8) (b : UInt8) : (turnL s b).length = s.length := by simp [turnL]
theorem hmacL_length (key s : List UInt8) : (hmacL key s).length = 32 := sumL_length _
theorem xorL_rep : ∀ (s : List UInt8) (b : UInt8), xorL s (List.replicate s.length b) = turnL s b
  | [], b => rfl
  | x :: r, b => by
    have := xorL_rep r b
    simp only [xorL, turnL] at this
    simp [xorL, turnL, List.replicate_succ, this]
theorem repeatL_one (b : UInt8) : ∀ n, Lib.repeatL [b] n = List.replicate n b
  | 0 => rfl
  | n + 1 => by rw [Lib.repeatL, repeatL_one b n]; simp [List.replicate_succ]
theorem lastL_length (key info : List UInt8) : ∀ i, (lastL key info (i + 1)).length = 32 := fun i => hmacL_length _ _
theorem lastL_le (key info : List UInt8) : ∀ i, (lastL key info i).length ≤ 32
  | 0 => by simp [lastL]
  | i + 1 => by rw [lastL_length]; exact Nat.le_refl _
theorem expL_length (key info : List UInt8) : ∀ i, (expL key info i).length = 32 * i
  | 0 => rfl
  | i + 1 => by rw [expL, List.length_append, expL_length key info i, lastL_length]; omega
theorem expL_prefix (key info : List UInt8) (i : Nat) : ∀ j n, n ≤ 32 * i → (expL key info (i + j)).take n = (expL key info i).take n
  | 0, n, h => rfl
  | j + 1, n, h => by
    rw [show i + (j + 1) = (i + j) + 1 from rfl, expL, List.take_append_of_le_length (by rw [expL_length]; omega), expL_prefix key info i j n h]
theorem expand_length (key info : List UInt8) (n : Int) (h : 0 ≤ n) (h2 : n ≤ 8160) : (expand key info n).length = n.toNat := by
  rw [expand, if_neg (by omega), List.length_take, expL_length]; omega
theorem expand_begins (key info : List UInt8) (n m : Int) (h : 0 ≤ n) (hnm : n ≤ m) (h2 : m ≤ 8160) : (expand key info m).take n.toNat = expand key info n := by
  rw [expand, if_neg (by omega), expand, if_neg (by omega), List.take_take, Nat.min_eq_left (by omega)]
  have e : (m.toNat + 31) / 32 = (n.toNat + 31) / 32 + ((m.toNat + 31) / 32 - (n.toNat + 31) / 32) := by omega
  rw [e, expL_prefix _ _ _ _ _ (by omega)]
theorem catX_take (xs : List ByteArray) (k : Nat) (hk : k < xs.length) : catX (xs.take (k + 1)) = catX (xs.take k) ++ xs[k].data.toList := by
  rw [List.take_succ_eq_append_getElem hk, catX, List.map_append, List.flatten_append]
  simp [catX]
theorem infoL_take (xs : List ByteArray) (k : Nat) (hk : k < xs.length) : infoL (xs.take (k + 1)) = infoL (xs.take k) ++ bigL xs[k].size 4 ++ xs[k].data.toList := by
  rw [List.take_succ_eq_append_getElem hk, infoL, List.map_append, List.flatten_append]
  simp [infoL]
theorem catX_le (xs : List ByteArray) (k : Nat) : (catX (xs.take k)).length ≤ (catX xs).length := by
  have : catX xs = catX (xs.take k) ++ catX (xs.drop k) := by
    conv => lhs; rw [← List.take_append_drop k xs]
    rw [catX, List.map_append, List.flatten_append]; rfl
  rw [this, List.length_append]; omega
theorem infoL_cons (x : ByteArray) (r : List ByteArray) : infoL (x :: r) = bigL x.size 4 ++ x.data.toList ++ infoL r := rfl
theorem infoL_le : ∀ (xs : List ByteArray) (B : Nat), (∀ x ∈ xs, x.size ≤ B) → (infoL xs).length ≤ (B + 4) * xs.length
  | [], B, h => by simp [infoL]
  | x :: r, B, h => by
    have h1 := infoL_le r B (fun y hy => h y (List.mem_cons_of_mem _ hy))
    have h2 := h x (List.mem_cons_self ..)
    have h3 : x.data.toList.length = x.size := rfl
    rw [infoL_cons, List.length_append, List.length_append, bigL_length, h3, List.length_cons, Nat.mul_add]
    omega
theorem infoL_inj : ∀ (xs ys : List ByteArray), (∀ x ∈ xs, x.size < 4294967296) → (∀ y ∈ ys, y.size < 4294967296) → infoL xs = infoL ys → xs = ys
  | [], [], _, _, _ => rfl
  | [], y :: r, _, _, h => by
    have := congrArg List.length h
    rw [infoL_cons, List.length_append, List.length_append, bigL_length] at this
    simp [infoL] at this
    omega
  | x :: r, [], _, _, h => by
    have := congrArg List.length h
    rw [infoL_cons, List.length_append, List.length_append, bigL_length] at this
    simp [infoL] at this
  | x :: r, y :: s, hx, hy, h => by
    rw [infoL_cons, infoL_cons, List.append_assoc, List.append_assoc] at h
    have h1 := List.append_inj h (by simp)
    have hs := bigL_inj (k := 4) (hx x (List.mem_cons_self ..)) (hy y (List.mem_cons_self ..)) h1.1
    have h2 := List.append_inj h1.2 (by exact hs)
    have hxy : x = y := by
      cases x; cases y
      congr 1
      exact Array.ext' h2.1
    rw [hxy, infoL_inj r s (fun z hz => hx z (List.mem_cons_of_mem _ hz)) (fun z hz => hy z (List.mem_cons_of_mem _ hz)) h2.2]
/-- Bytes 0 behind a short key. -/
theorem padK_zero (key : List UInt8) (h : key.length < 64) : padK (key ++ [0]) = padK key := by
  have e1 : keyL key = key := by rw [keyL, if_neg (by omega)]
  have e2 : keyL (key ++ [0]) = key ++ [0] := by rw [keyL, if_neg (by simp; omega)]
  rw [padK, padK, e1, e2, List.append_assoc]
  congr 1
  rw [List.length_append, zerosB, zerosB]
  have : 64 - key.length = (64 - (key.length + 1)) + 1 := by omega
  rw [this, List.replicate_succ]; rfl
theorem padK_sum (key : List UInt8) (h : 64 < key.length) : padK (sumL key) = padK key := by
  have e1 : keyL key = sumL key := by rw [keyL, if_pos h]
  have e2 : keyL (sumL key) = sumL key := by rw [keyL, if_neg (by rw [sumL_length]; decide)]
  rw [padK, padK, e1, e2]
end Go.Mac
