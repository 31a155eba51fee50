/-
  Numbers and texts as bytes: what octet and its reference compute, in plain words; no program.
-/
import Derived.Test.YtgecpbplbkpdlaaSxTxt
namespace Go.Oct
open Go Go.Sx
set_option linter.unusedVariables false

/-- The lowest k bytes of n, the lowest one first. -/
def lowL (n k : Nat) : List UInt8 := (List.range k).map fun i => UInt8.ofNat (n / 256 ^ i)
def bigL (n k : Nat) : List UInt8 := (lowL n k).reverse
/-- The number that bytes are, the lowest one first. -/
def valL : List UInt8 → Nat
  | [] => 0
  | b :: r => b.toNat + 256 * valL r
def M64 : Nat := 18446744073709551616
def readL (s : List UInt8) : Nat := valL s % 18446744073709551616
def readB (s : List UInt8) : Nat := valL s.reverse % 18446744073709551616
/-- How many bytes are put. -/
def many (k : Int) : Nat := min k.toNat 8
def xorL (a b : List UInt8) : List UInt8 := List.zipWith (· ^^^ ·) a b
def fillN (n size : Nat) : Nat := (size - n % size) % size
def zerosB (n : Nat) : List UInt8 := List.replicate n 0
def fillL (s : List UInt8) (size : Int) : List UInt8 := if size < 1 then s else s ++ zerosB (fillN s.length size.toNat)
/-- A number of 32 bits, turned by one bit, by k. -/
def rol1 (x : Nat) : Nat := (x * 2 + x / 2147483648) % 4294967296
def rolN : Nat → Nat → Nat
  | 0, x => x
  | k + 1, x => rol1 (rolN k x)
def rolI (x : Nat) (n : Int) : Nat := rolN (n % 32).toNat x
def wordAt (s : List UInt8) (i : Nat) : Nat := valL ((s.drop (4 * i)).take 4)
def wordsL (s : List UInt8) : List Nat := (List.range (s.length / 4)).map (wordAt s)
def textL (l : List Nat) : List UInt8 := (l.map fun x => lowL x 4).flatten

/-! ### Lengths -/
@[simp] theorem lowL_length (n k : Nat) : (lowL n k).length = k := by simp [lowL]
@[simp] theorem bigL_length (n k : Nat) : (bigL n k).length = k := by simp [bigL]
theorem lowL_succ (n k : Nat) : lowL n (k + 1) = lowL n k ++ [UInt8.ofNat (n / 256 ^ k)] := by simp [lowL, List.range_succ]
theorem bigL_succ (n k : Nat) : bigL n (k + 1) = UInt8.ofNat (n / 256 ^ k) :: bigL n k := by simp [bigL, lowL_succ]
theorem lowL_cons (n k : Nat) : lowL n (k + 1) = UInt8.ofNat n :: lowL (n / 256) k := by
  simp [lowL, List.range_succ_eq_map, Function.comp_def, Nat.pow_succ, Nat.div_div_eq_div_mul, Nat.mul_comm]
theorem many_le (k : Int) : many k ≤ 8 := by unfold many; omega
@[simp] theorem xorL_length (a b : List UInt8) : (xorL a b).length = min a.length b.length := by simp [xorL]

/-! ### Values -/
theorem valL_lt : ∀ (s : List UInt8), valL s < 256 ^ s.length
  | [] => by simp [valL]
  | b :: r => by
    have := valL_lt r
    have hb := b.toNat_lt
    simp only [valL, List.length_cons, Nat.pow_succ]
    omega
theorem valL_append : ∀ (a b : List UInt8), valL (a ++ b) = valL a + 256 ^ a.length * valL b
  | [], b => by simp [valL]
  | x :: r, b => by
    simp only [List.cons_append, valL, valL_append r b, List.length_cons, Nat.pow_succ]
    rw [Nat.mul_add, Nat.mul_comm (256 ^ r.length) 256, Nat.mul_assoc, Nat.add_assoc]
theorem valL_take8 (s : List UInt8) : valL (s.take 8) = readL s := by
  unfold readL
  rw [← List.take_append_drop 8 s, valL_append, List.take_append_drop]
  by_cases h : 8 ≤ s.length
  · have h8 : (s.take 8).length = 8 := by simp; omega
    have := valL_lt (s.take 8)
    rw [h8] at this ⊢
    have e : (256 : Nat) ^ 8 = 18446744073709551616 := by decide
    rw [e] at this ⊢
    rw [Nat.add_mul_mod_self_left, Nat.mod_eq_of_lt this]
  · have : s.drop 8 = [] := by apply List.drop_eq_nil_of_le; omega
    rw [this]
    have h1 := valL_lt (s.take 8)
    have h2 : (256 : Nat) ^ (s.take 8).length ≤ 256 ^ 8 := Nat.pow_le_pow_right (by decide) (by simp; omega)
    simp [valL]
    rw [Nat.mod_eq_of_lt]
    omega
theorem readL_lt (s : List UInt8) : readL s < 18446744073709551616 := Nat.mod_lt _ (by decide)
theorem readB_lt (s : List UInt8) : readB s < 18446744073709551616 := Nat.mod_lt _ (by decide)
theorem readB_rev (s : List UInt8) : readB s.reverse = readL s := by simp [readB, readL]
theorem readB_snoc (s : List UInt8) (b : UInt8) : readB (s ++ [b]) = (readB s * 256 + b.toNat) % 18446744073709551616 := by
  simp only [readB, List.reverse_append, List.reverse_cons, List.reverse_nil, List.nil_append, List.singleton_append, valL]
  omega
theorem valL_lowL : ∀ (k n : Nat), valL (lowL n k) = n % 256 ^ k
  | 0, n => by simp [lowL, valL, Nat.mod_one]
  | k + 1, n => by
    rw [lowL_cons, valL, valL_lowL k, Nat.pow_succ, Nat.mul_comm (256 ^ k) 256, Nat.mod_mul]
    simp
theorem lowL_valL : ∀ (s : List UInt8), lowL (valL s) s.length = s
  | [] => rfl
  | b :: r => by
    have hb := b.toNat_lt
    rw [List.length_cons, lowL_cons, valL]
    have e : (b.toNat + 256 * valL r) / 256 = valL r := by omega
    rw [e, lowL_valL r]
    congr 1
    apply UInt8.toNat_inj.1
    rw [UInt8.toNat_ofNat']
    omega
theorem readL_lowL {n k : Nat} (hk : k ≤ 8) : readL (lowL n k) = n % 256 ^ k := by
  rw [readL, valL_lowL, Nat.mod_eq_of_lt]
  have h1 : n % 256 ^ k < 256 ^ k := Nat.mod_lt _ (Nat.pow_pos (by decide))
  have h2 : (256 : Nat) ^ k ≤ 256 ^ 8 := Nat.pow_le_pow_right (by decide) hk
  have e : (256 : Nat) ^ 8 = 18446744073709551616 := by decide
  omega
theorem readB_bigL {n k : Nat} (hk : k ≤ 8) : readB (bigL n k) = n % 256 ^ k := by
  rw [bigL, readB_rev, readL_lowL hk]
theorem lowL_inj {n m k : Nat} (hn : n < 256 ^ k) (hm : m < 256 ^ k) (h : lowL n k = lowL m k) : n = m := by
  have := congrArg valL h
  rwa [valL_lowL, valL_lowL, Nat.mod_eq_of_lt hn, Nat.mod_eq_of_lt hm] at this
theorem bigL_inj {n m k : Nat} (hn : n < 256 ^ k) (hm : m < 256 ^ k) (h : bigL n k = bigL m k) : n = m := by
  apply lowL_inj hn hm
  have := congrArg List.reverse h
  simpa [bigL] using this

/-! ### Turns -/
theorem rol1_lt (x : Nat) : rol1 x < 4294967296 := Nat.mod_lt _ (by decide)
theorem rolN_lt {x : Nat} (hx : x < 4294967296) : ∀ k, rolN k x < 4294967296
  | 0 => hx
  | k + 1 => rol1_lt _
theorem rolN_add (x : Nat) : ∀ a b, rolN (a + b) x = rolN a (rolN b x)
  | 0, b => by simp [rolN]
  | a + 1, b => by rw [show a + 1 + b = (a + b) + 1 from by omega, rolN, rolN_add x a b, rolN]
def rolC (k x : Nat) : Nat := (x * 2 ^ k) % 4294967296 + x / 2 ^ (32 - k)
theorem rol1_rolC {x k : Nat} (hx : x < 4294967296) (hk : k < 32) : rol1 (rolC k x) = rolC (k + 1) x := by
  unfold rol1 rolC
  have hpm : 2 ^ (31 - k) * 2 ^ k = 2147483648 := by rw [← Nat.pow_add, show 31 - k + k = 31 from by omega]
  have h2m : 2 ^ (32 - k) = 2 * 2 ^ (31 - k) := by rw [show 32 - k = (31 - k) + 1 from by omega, Nat.pow_succ, Nat.mul_comm]
  have h1m : 32 - (k + 1) = 31 - k := by omega
  rw [h1m, h2m, Nat.pow_succ]
  have hm : 0 < 2 ^ (31 - k) := Nat.pow_pos (by decide)
  have hp : 0 < 2 ^ k := Nat.pow_pos (by decide)
  generalize 2 ^ (31 - k) = m at *
  generalize 2 ^ k = p at *
  obtain ⟨q, r, hr, hxq⟩ : ∃ q r, r < 2 * m ∧ x = q * (2 * m) + r := ⟨x / (2 * m), x % (2 * m), Nat.mod_lt _ (by omega), by rw [Nat.mul_comm]; exact (Nat.div_add_mod x (2 * m)).symm⟩
  obtain ⟨h, t, ht, hrt⟩ : ∃ h t, t < m ∧ r = h * m + t := ⟨r / m, r % m, Nat.mod_lt _ hm, by rw [Nat.mul_comm]; exact (Nat.div_add_mod r m).symm⟩
  have hh : h < 2 := by
    apply Nat.lt_of_not_le
    intro h2
    have := Nat.mul_le_mul_right m h2
    omega
  have htp : t * p + p ≤ 2147483648 := by
    have := Nat.mul_le_mul_right p (show t + 1 ≤ m from ht)
    rw [hpm, Nat.add_mul] at this
    omega
  have hq : q < p := by
    apply Nat.lt_of_not_le
    intro hpq
    have h1 := Nat.mul_le_mul_right (2 * m) hpq
    have h2 : p * (2 * m) = 4294967296 := by rw [Nat.mul_comm, Nat.mul_assoc, hpm]
    omega
  have e1 : x / (2 * m) = q := by
    rw [hxq, Nat.mul_comm, Nat.mul_add_div (by omega), Nat.div_eq_of_lt hr]; rfl
  have e2 : x / m = 2 * q + h := by
    rw [hxq, hrt, show q * (2 * m) + (h * m + t) = m * (2 * q + h) + t from by rw [Nat.mul_add, Nat.mul_left_comm q 2 m, Nat.mul_comm m h, Nat.mul_left_comm m 2 q, Nat.mul_comm m q, Nat.add_assoc], Nat.mul_add_div hm, Nat.div_eq_of_lt ht]; rfl
  have e3 : x * p = q * 4294967296 + (h * 2147483648 + t * p) := by
    rw [hxq, hrt, Nat.add_mul, Nat.add_mul, Nat.mul_assoc h m p, hpm, Nat.mul_assoc q, Nat.mul_assoc 2, hpm]
  rw [e1, e2, ← Nat.mul_assoc, e3]
  clear e1 e2 e3 hxq
  generalize t * p = z at *
  have hz : z + q < 2147483648 := by omega
  clear htp hq hpm h2m
  have a1 : (q * 4294967296 + (h * 2147483648 + z)) % 4294967296 = h * 2147483648 + z := by omega
  have a2 : (h * 2147483648 + z + q) / 2147483648 = h := by omega
  have a3 : ((h * 2147483648 + z + q) * 2 + h) % 4294967296 = 2 * z + 2 * q + h := by omega
  have a4 : (q * 4294967296 + (h * 2147483648 + z)) * 2 % 4294967296 = 2 * z := by
    rw [show (q * 4294967296 + (h * 2147483648 + z)) * 2 = 4294967296 * (2 * q + h) + 2 * z from by omega, Nat.mul_add_mod]
    omega
  rw [a1, a2, a3, a4]
  omega
theorem rolN_eq {x : Nat} (hx : x < 4294967296) : ∀ k, k ≤ 32 → rolN k x = rolC k x
  | 0, _ => by simp [rolN, rolC]; omega
  | k + 1, h => by rw [rolN, rolN_eq hx k (by omega), rol1_rolC hx (by omega)]
theorem rolN_32 {x : Nat} (hx : x < 4294967296) : rolN 32 x = x := by
  rw [rolN_eq hx 32 (Nat.le_refl _)]; simp [rolC]
theorem rolN_mod {x : Nat} (hx : x < 4294967296) (k : Nat) : rolN (k % 32) x = rolN k x := by
  conv => rhs; rw [← Nat.div_add_mod k 32]
  generalize k / 32 = q
  induction q with
  | zero => simp
  | succ q ih => rw [show 32 * (q + 1) + k % 32 = 32 + (32 * q + k % 32) from by omega, rolN_add, ← ih, rolN_32 (rolN_lt hx _)]
theorem rolI_lt {x : Nat} (hx : x < 4294967296) (n : Int) : rolI x n < 4294967296 := rolN_lt hx _
theorem rolI_add {x : Nat} (hx : x < 4294967296) (n m : Int) : rolI (rolI x n) m = rolI x (n + m) := by
  unfold rolI
  rw [← rolN_add, ← rolN_mod hx (_ + _)]
  congr 1
  omega
theorem rolI_zero (x : Nat) : rolI x 0 = x := rfl
theorem rolI_congr {x : Nat} {n m : Int} (h : n % 32 = m % 32) : rolI x n = rolI x m := by unfold rolI; rw [h]

/-! ### Words -/
theorem wordAt_lt (s : List UInt8) (i : Nat) : wordAt s i < 4294967296 := by
  have h1 := valL_lt ((s.drop (4 * i)).take 4)
  have h2 : (256 : Nat) ^ ((s.drop (4 * i)).take 4).length ≤ 256 ^ 4 := Nat.pow_le_pow_right (by decide) (by simp; omega)
  unfold wordAt
  omega
@[simp] theorem wordsL_length (s : List UInt8) : (wordsL s).length = s.length / 4 := by simp [wordsL]
theorem textL_length (l : List Nat) : (textL l).length = 4 * l.length := by
  simp [textL, Function.comp_def]
  induction l with
  | nil => rfl
  | cons x r ih => simp [ih]; omega
theorem textL_snoc (l : List Nat) (x : Nat) : textL (l ++ [x]) = textL l ++ lowL x 4 := by simp [textL]
theorem textL_cons (l : List Nat) (x : Nat) : textL (x :: l) = lowL x 4 ++ textL l := by simp [textL]
theorem wordAt_app4 (a b : List UInt8) (h : a.length = 4) (i : Nat) : wordAt (a ++ b) (i + 1) = wordAt b i := by
  unfold wordAt
  congr 2
  rw [List.drop_append, h]
  have : a.drop (4 * (i + 1)) = [] := List.drop_eq_nil_of_le (by omega)
  rw [this]
  simp
  congr 1
theorem wordAt_zero (a b : List UInt8) (h : a.length = 4) : wordAt (a ++ b) 0 = valL a := by
  unfold wordAt
  simp [← h]
theorem wordsL_cons (a b : List UInt8) (h : a.length = 4) : wordsL (a ++ b) = valL a :: wordsL b := by
  unfold wordsL
  rw [show (a ++ b).length / 4 = b.length / 4 + 1 from by rw [List.length_append]; omega, List.range_succ_eq_map]
  simp [wordAt_zero a b h, Function.comp_def, wordAt_app4 a b h]
theorem wordsL_textL : ∀ (l : List Nat), (∀ x ∈ l, x < 4294967296) → wordsL (textL l) = l
  | [], _ => rfl
  | x :: r, h => by
    rw [textL_cons, wordsL_cons _ _ (by simp), wordsL_textL r (fun y hy => h y (List.mem_cons_of_mem _ hy)), valL_lowL]
    have := h x (List.mem_cons_self ..)
    rw [Nat.mod_eq_of_lt (by omega)]
theorem wordsL_short {s : List UInt8} (h : s.length < 4) : wordsL s = [] := by
  unfold wordsL
  rw [show s.length / 4 = 0 from by omega]
  rfl
theorem textL_wordsL (s : List UInt8) : textL (wordsL s) = s.take (s.length / 4 * 4) := by
  by_cases h : s.length < 4
  · rw [wordsL_short h, show s.length / 4 = 0 from by omega]
    simp [textL]
  · have e : s = s.take 4 ++ s.drop 4 := (List.take_append_drop 4 s).symm
    have h4 : (s.take 4).length = 4 := by simp; omega
    conv => lhs; rw [e]
    rw [wordsL_cons _ _ h4, textL_cons, textL_wordsL (s.drop 4)]
    have := lowL_valL (s.take 4)
    rw [h4] at this
    rw [this]
    conv => rhs; rw [e]
    rw [List.take_append, h4]
    have h5 : (s.take 4 ++ s.drop 4).length = s.length := by rw [← e]
    rw [h5, List.take_of_length_le (l := s.take 4) (by simp; omega)]
    congr 2
    simp
    omega
termination_by s.length
decreasing_by simp; omega

/-! ### Exclusive or -/
theorem xorL_get {a b : List UInt8} {i : Nat} (h : i < (xorL a b).length) (ha : i < a.length) (hb : i < b.length) : (xorL a b)[i] = a[i] ^^^ b[i] := by simp [xorL]
theorem xorL_comm (a b : List UInt8) : xorL a b = xorL b a := by
  unfold xorL
  rw [List.zipWith_comm]
  congr 1
  funext x y
  exact UInt8.xor_comm y x
theorem xorL_self (a : List UInt8) : xorL a a = zerosB a.length := by
  induction a with
  | nil => rfl
  | cons x r ih => simp [xorL, zerosB, List.replicate_succ] at *; exact ih
theorem xorL_zeros (a : List UInt8) : xorL a (zerosB a.length) = a := by
  induction a with
  | nil => rfl
  | cons x r ih => simp [xorL, zerosB, List.replicate_succ] at *; exact ih
theorem xorL_twice : ∀ (a b : List UInt8), xorL (xorL a b) b = a.take (min a.length b.length)
  | [], b => by simp [xorL]
  | a, [] => by cases a <;> simp [xorL]
  | x :: r, y :: s => by
    have ih := xorL_twice r s
    simp only [xorL] at ih
    simp [xorL, ih, UInt8.xor_assoc]

/-! ### Filling up -/
theorem fillN_lt {n size : Nat} (h : 0 < size) : fillN n size < size := Nat.mod_lt _ h
theorem fillN_mul {n size : Nat} (h : 0 < size) : (n + fillN n size) % size = 0 := by
  unfold fillN
  rw [Nat.add_mod, Nat.mod_mod]
  have h1 := Nat.mod_lt n h
  by_cases h0 : n % size = 0
  · simp [h0]
  · rw [Nat.mod_eq_of_lt (show size - n % size < size by omega)]
    rw [show n % size + (size - n % size) = size by omega, Nat.mod_self]
theorem fillN_zero {n size : Nat} (h : n % size = 0) : fillN n size = 0 := by simp [fillN, h]
theorem fillN_step {n size : Nat} (hs : 0 < size) (h : n % size ≠ 0) : fillN n size = fillN (n + 1) size + 1 := by
  have h1 := Nat.mod_lt n hs
  unfold fillN
  rw [Nat.mod_eq_of_lt (show size - n % size < size by omega)]
  have h2 : (n + 1) % size = (n % size + 1) % size := by rw [Nat.add_mod]; simp [Nat.add_mod]
  rw [h2]
  by_cases h3 : n % size + 1 = size
  · rw [h3, Nat.mod_self, Nat.sub_zero, Nat.mod_self]; omega
  · rw [Nat.mod_eq_of_lt (show n % size + 1 < size by omega), Nat.mod_eq_of_lt (show size - (n % size + 1) < size by omega)]; omega

end Go.Oct
