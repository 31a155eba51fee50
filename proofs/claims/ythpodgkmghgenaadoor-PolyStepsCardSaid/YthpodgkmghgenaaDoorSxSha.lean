/-
  SHA-256 in plain words, over natural numbers below 2^32; no program.
-/
import Derived.Test.YthpodgkmghgenaaDoorSxOct
namespace Go.Sha
open Go Go.Sx Go.Oct
set_option linter.unusedVariables false

def M32 : Nat := 4294967296
def KS : List Nat := [
    1116352408, 1899447441, 3049323471, 3921009573, 961987163, 1508970993, 2453635748, 2870763221,
    3624381080, 310598401, 607225278, 1426881987, 1925078388, 2162078206, 2614888103, 3248222580,
    3835390401, 4022224774, 264347078, 604807628, 770255983, 1249150122, 1555081692, 1996064986,
    2554220882, 2821834349, 2952996808, 3210313671, 3336571891, 3584528711, 113926993, 338241895,
    666307205, 773529912, 1294757372, 1396182291, 1695183700, 1986661051, 2177026350, 2456956037,
    2730485921, 2820302411, 3259730800, 3345764771, 3516065817, 3600352804, 4094571909, 275423344,
    430227734, 506948616, 659060556, 883997877, 958139571, 1322822218, 1537002063, 1747873779,
    1955562222, 2024104815, 2227730452, 2361852424, 2428436474, 2756734187, 3204031479, 3329325298]

/-- The eight numbers. -/
structure St where
  a : Nat
  b : Nat
  c : Nat
  d : Nat
  e : Nat
  f : Nat
  g : Nat
  h : Nat

def St.l (s : St) : List Nat := [s.a, s.b, s.c, s.d, s.e, s.f, s.g, s.h]
def H0 : St := ⟨1779033703, 3144134277, 1013904242, 2773480762, 1359893119, 2600822924, 528734635, 1541459225⟩
structure St.ok (s : St) : Prop where
  a : s.a < 4294967296
  b : s.b < 4294967296
  c : s.c < 4294967296
  d : s.d < 4294967296
  e : s.e < 4294967296
  f : s.f < 4294967296
  g : s.g < 4294967296
  h : s.h < 4294967296

/-- Turned to the right. -/
def rotr (n x : Nat) : Nat := rolC (32 - n) x
def s0 (x : Nat) : Nat := rotr 7 x ^^^ rotr 18 x ^^^ (x / 8)
def s1 (x : Nat) : Nat := rotr 17 x ^^^ rotr 19 x ^^^ (x / 1024)
def S0 (x : Nat) : Nat := rotr 2 x ^^^ rotr 13 x ^^^ rotr 22 x
def S1 (x : Nat) : Nat := rotr 6 x ^^^ rotr 11 x ^^^ rotr 25 x
def ch (e f g : Nat) : Nat := (e &&& f) ^^^ ((e ^^^ 4294967295) &&& g)
def maj (a b c : Nat) : Nat := (a &&& b) ^^^ (a &&& c) ^^^ (b &&& c)

/-- The numbers of a block, lengthened: as many as k behind the first sixteen. -/
def longL (m : List Nat) : Nat → List Nat
  | 0 => m
  | k + 1 => longL m k ++ [((longL m k).getD k 0 + s0 ((longL m k).getD (k + 1) 0) + (longL m k).getD (k + 9) 0 + s1 ((longL m k).getD (k + 14) 0)) % 4294967296]

def round (v : St) (k w : Nat) : St :=
  let t := (v.h + S1 v.e + ch v.e v.f v.g + k + w) % 4294967296
  let u := (S0 v.a + maj v.a v.b v.c) % 4294967296
  ⟨(t + u) % 4294967296, v.a, v.b, v.c, (v.d + t) % 4294967296, v.e, v.f, v.g⟩
/-- So many rounds. -/
def rounds (w : List Nat) : Nat → St → St
  | 0, v => v
  | i + 1, v => round (rounds w i v) (KS.getD i 0) (w.getD i 0)
def St.plus (x y : St) : St := ⟨(x.a + y.a) % 4294967296, (x.b + y.b) % 4294967296, (x.c + y.c) % 4294967296, (x.d + y.d) % 4294967296, (x.e + y.e) % 4294967296, (x.f + y.f) % 4294967296, (x.g + y.g) % 4294967296, (x.h + y.h) % 4294967296⟩
/-- The numbers of a block's bytes. -/
def bigAt (s : List UInt8) (i : Nat) : Nat := readB ((s.drop (4 * i)).take 4)
def blockW (s : List UInt8) : List Nat := (List.range 16).map (bigAt s)
/-- The eight behind a block. -/
def stepB (h : St) (s : List UInt8) : St := h.plus (rounds (longL (blockW s) 48) 64 h)
/-- The eight behind all whole blocks. -/
def stepsN : Nat → St → List UInt8 → St
  | 0, h, _ => h
  | n + 1, h, s => stepsN n (stepB h (s.take 64)) (s.drop 64)
def stepsL (h : St) (s : List UInt8) : St := stepsN (s.length / 64) h s
def restL (s : List UInt8) : List UInt8 := s.drop (s.length / 64 * 64)
/-- What is put behind. -/
def padZ (n : Nat) : Nat := (128 - (n + 9) % 64) % 64
def padL (n : Nat) : List UInt8 := [128] ++ zerosB (padZ n) ++ bigL (n * 8 % 18446744073709551616) 8
def outL (h : St) : List UInt8 := (h.l.map fun x => bigL x 4).flatten
def sumL (s : List UInt8) : List UInt8 := outL (stepsL H0 (s ++ padL s.length))
def hexD (n : Nat) : UInt8 := if n < 10 then UInt8.ofNat (48 + n) else UInt8.ofNat (87 + n)
def hexL (s : List UInt8) : List UInt8 := (s.map fun b => [hexD (b.toNat / 16), hexD (b.toNat % 16)]).flatten

/-! ### Bounds -/
theorem rotr_eq {n x : Nat} (hx : x < 4294967296) (hn : n ≤ 32) : rotr n x = rolN (32 - n) x := (rolN_eq hx _ (by omega)).symm
theorem rotr_lt {n x : Nat} (hx : x < 4294967296) (hn : n ≤ 32) : rotr n x < 4294967296 := by rw [rotr_eq hx hn]; exact rolN_lt hx _
theorem rolI_rotr {x : Nat} (hx : x < 4294967296) {n : Nat} (hn : n ≤ 32) : rolI x (-(n : Int)) = rotr n x := by
  rw [rotr_eq hx hn, rolI, ← rolN_mod hx (32 - n)]
  congr 1
  omega
theorem rolI_rotr' {x : Nat} (hx : x < 4294967296) {n : Nat} (hn : n ≤ 32) : rolI x (32 - (n : Int)) = rotr n x := by
  rw [← rolI_rotr hx hn]
  exact rolI_congr (by omega)
theorem xor_lt {a b : Nat} (ha : a < 4294967296) (hb : b < 4294967296) : a ^^^ b < 4294967296 := Nat.xor_lt_two_pow (n := 32) ha hb
theorem and_lt {a b : Nat} (hb : b < 4294967296) : a &&& b < 4294967296 := Nat.and_lt_two_pow (n := 32) _ hb
theorem or_lt {a b : Nat} (ha : a < 4294967296) (hb : b < 4294967296) : a ||| b < 4294967296 := Nat.or_lt_two_pow (n := 32) ha hb
theorem s0_lt {x : Nat} (hx : x < 4294967296) : s0 x < 4294967296 := xor_lt (xor_lt (rotr_lt hx (by decide)) (rotr_lt hx (by decide))) (by omega)
theorem s1_lt {x : Nat} (hx : x < 4294967296) : s1 x < 4294967296 := xor_lt (xor_lt (rotr_lt hx (by decide)) (rotr_lt hx (by decide))) (by omega)
theorem S0_lt {x : Nat} (hx : x < 4294967296) : S0 x < 4294967296 := xor_lt (xor_lt (rotr_lt hx (by decide)) (rotr_lt hx (by decide))) (rotr_lt hx (by decide))
theorem S1_lt {x : Nat} (hx : x < 4294967296) : S1 x < 4294967296 := xor_lt (xor_lt (rotr_lt hx (by decide)) (rotr_lt hx (by decide))) (rotr_lt hx (by decide))
theorem ch_lt {e f g : Nat} (hf : f < 4294967296) (hg : g < 4294967296) : ch e f g < 4294967296 := xor_lt (and_lt hf) (and_lt hg)
theorem maj_lt {a b c : Nat} (hb : b < 4294967296) (hc : c < 4294967296) : maj a b c < 4294967296 := xor_lt (xor_lt (and_lt hb) (and_lt hc)) (and_lt hc)
theorem round_ok {v : St} (hv : v.ok) (k w : Nat) : (round v k w).ok := ⟨Nat.mod_lt _ (by decide), hv.a, hv.b, hv.c, Nat.mod_lt _ (by decide), hv.e, hv.f, hv.g⟩
theorem rounds_ok {v : St} (hv : v.ok) (w : List Nat) : ∀ i, (rounds w i v).ok
  | 0 => hv
  | i + 1 => round_ok (rounds_ok hv w i) _ _
theorem plus_ok (x y : St) : (x.plus y).ok := ⟨Nat.mod_lt _ (by decide), Nat.mod_lt _ (by decide), Nat.mod_lt _ (by decide), Nat.mod_lt _ (by decide), Nat.mod_lt _ (by decide), Nat.mod_lt _ (by decide), Nat.mod_lt _ (by decide), Nat.mod_lt _ (by decide)⟩
theorem stepB_ok (h : St) (s : List UInt8) : (stepB h s).ok := plus_ok _ _
theorem H0_ok : H0.ok := by constructor <;> decide
theorem stepsN_ok : ∀ (n : Nat) {h : St} (s : List UInt8), h.ok → (stepsN n h s).ok
  | 0, h, s, hh => hh
  | n + 1, h, s, hh => stepsN_ok n _ (stepB_ok _ _)
theorem stepsL_ok {h : St} (hh : h.ok) (s : List UInt8) : (stepsL h s).ok := stepsN_ok _ s hh
theorem longL_length (m : List Nat) : ∀ k, (longL m k).length = m.length + k
  | 0 => rfl
  | k + 1 => by simp [longL, longL_length m k]; omega
theorem longL_prefix (m : List Nat) (k : Nat) : ∀ j i, i < m.length + k → (longL m (k + j)).getD i 0 = (longL m k).getD i 0
  | 0, i, h => rfl
  | j + 1, i, h => by
    rw [show k + (j + 1) = (k + j) + 1 from rfl, longL, List.getD_eq_getElem?_getD, List.getElem?_append_left (by rw [longL_length]; omega), ← List.getD_eq_getElem?_getD]
    exact longL_prefix m k j i h
theorem bigAt_lt (s : List UInt8) (i : Nat) : bigAt s i < 4294967296 := by
  unfold bigAt readB
  have h1 := valL_lt ((s.drop (4 * i)).take 4).reverse
  have h2 : (256 : Nat) ^ ((s.drop (4 * i)).take 4).reverse.length ≤ 256 ^ 4 := Nat.pow_le_pow_right (by decide) (by simp; omega)
  omega
theorem longL_lt {m : List Nat} (hm : ∀ x ∈ m, x < 4294967296) : ∀ k, ∀ x ∈ longL m k, x < 4294967296
  | 0 => hm
  | k + 1 => by
    intro x hx
    rw [longL, List.mem_append, List.mem_singleton] at hx
    rcases hx with hx | rfl
    · exact longL_lt hm k x hx
    · exact Nat.mod_lt _ (by decide)
theorem getD_lt {l : List Nat} (h : ∀ x ∈ l, x < 4294967296) (i : Nat) : l.getD i 0 < 4294967296 := by
  rw [List.getD_eq_getElem?_getD]
  cases hi : l[i]? with
  | none => simp
  | some x => simp; exact h x (List.mem_of_getElem? hi)
theorem blockW_length (s : List UInt8) : (blockW s).length = 16 := by simp [blockW]
theorem blockW_lt (s : List UInt8) : ∀ x ∈ blockW s, x < 4294967296 := by
  intro x hx
  simp only [blockW, List.mem_map] at hx
  obtain ⟨i, _, rfl⟩ := hx
  exact bigAt_lt s i

/-! ### What the program reckons otherwise -/
theorem ch_or {e f g : Nat} (he : e < 4294967296) : (e &&& f) ||| ((e ^^^ 4294967295) &&& g) = ch e f g := by
  unfold ch
  apply Nat.eq_of_testBit_eq
  intro i
  simp only [Nat.testBit_or, Nat.testBit_and, Nat.testBit_xor]
  have h : Nat.testBit 4294967295 i = decide (i < 32) := by
    rw [show (4294967295 : Nat) = 2 ^ 32 - 1 from rfl, Nat.testBit_two_pow_sub_one]
  rw [h]
  by_cases hi : i < 32
  · cases e.testBit i <;> cases f.testBit i <;> cases g.testBit i <;> simp [hi]
  · have : e.testBit i = false := Nat.testBit_lt_two_pow (Nat.lt_of_lt_of_le he (by
      have : (2 : Nat) ^ 32 ≤ 2 ^ i := Nat.pow_le_pow_right (by decide) (by omega)
      simpa using this))
    simp [this, hi]
theorem maj_or (a b c : Nat) : (a &&& b) ||| (a &&& c) ||| (b &&& c) = maj a b c := by
  unfold maj
  apply Nat.eq_of_testBit_eq
  intro i
  simp only [Nat.testBit_or, Nat.testBit_and, Nat.testBit_xor]
  cases a.testBit i <;> cases b.testBit i <;> cases c.testBit i <;> rfl

/-! ### Blocks -/
theorem stepsN_append : ∀ (n m : Nat) (h : St) (s t : List UInt8), s.length = 64 * n → stepsN (n + m) h (s ++ t) = stepsN m (stepsN n h s) t
  | 0, m, h, s, t, hs => by
    have : s = [] := List.eq_nil_of_length_eq_zero (by omega)
    subst this
    simp [stepsN]
  | n + 1, m, h, s, t, hs => by
    rw [show n + 1 + m = (n + m) + 1 from by omega, stepsN, stepsN, List.take_append_of_le_length (by omega), List.drop_append_of_le_length (by omega)]
    exact stepsN_append n m _ _ _ (by simp; omega)
theorem stepsN_take : ∀ (n : Nat) (h : St) (s : List UInt8), stepsN n h s = stepsN n h (s.take (64 * n))
  | 0, h, s => rfl
  | n + 1, h, s => by
    rw [stepsN, stepsN, List.take_take, Nat.min_eq_left (by omega), List.drop_take, stepsN_take n _ (s.drop 64)]
    congr 2
theorem restL_length (s : List UInt8) : (restL s).length = s.length % 64 := by
  unfold restL
  rw [List.length_drop]
  omega
/-- Written in parts. -/
theorem steps_parts (h : St) (s t : List UInt8) : stepsL h (s ++ t) = stepsL (stepsL h s) (restL s ++ t) ∧ restL (s ++ t) = restL (restL s ++ t) := by
  have hl : (s.take (s.length / 64 * 64)).length = 64 * (s.length / 64) := by rw [List.length_take]; omega
  have hn : (s ++ t).length / 64 = s.length / 64 + (restL s ++ t).length / 64 := by
    rw [List.length_append, List.length_append, restL_length]; omega
  have e : s ++ t = s.take (s.length / 64 * 64) ++ (restL s ++ t) := by
    rw [← List.append_assoc, restL, List.take_append_drop]
  constructor
  · rw [stepsL, hn, e, stepsN_append _ _ _ _ _ hl]
    rw [stepsL, stepsL, stepsN_take _ _ s, Nat.mul_comm 64]
  · conv => lhs; rw [restL, hn, e]
    rw [restL, Nat.add_mul, ← List.drop_drop, List.drop_left' (by rw [hl]; omega)]
    rfl
theorem outL_length (h : St) : (outL h).length = 32 := by simp [outL, St.l]
theorem sumL_length (s : List UInt8) : (sumL s).length = 32 := outL_length _
theorem padZ_lt (n : Nat) : padZ n < 64 := Nat.mod_lt _ (by decide)
theorem padL_length (n : Nat) : (padL n).length = padZ n + 9 := by simp [padL, zerosB]
theorem padL_fills (n : Nat) : (n + (padL n).length) % 64 = 0 := by rw [padL_length]; unfold padZ; omega

end Go.Sha
