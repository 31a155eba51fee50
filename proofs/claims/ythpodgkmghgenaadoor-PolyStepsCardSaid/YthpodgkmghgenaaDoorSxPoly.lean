/-
  Numbers by 2^130 less 5, in plain words; no program.
-/
import Derived.Test.YthpodgkmghgenaaDoorSxOct
namespace Go.Poly
open Go Go.Sx Go.Oct
set_option linter.unusedVariables false

def PP : Nat := 1361129467683753853853498429727072845819
/-- Three words, the lowest one first. -/
structure N3 where
  x : Nat
  y : Nat
  z : Nat
structure N3.ok (a : N3) : Prop where
  x : a.x < 18446744073709551616
  y : a.y < 18446744073709551616
  z : a.z < 18446744073709551616
def N3.val (a : N3) : Nat := a.x + 18446744073709551616 * a.y + 340282366920938463463374607431768211456 * a.z

/-! ### The carry of a sum of two words -/
theorem tb63 {n : Nat} (h : n < 18446744073709551616) : n.testBit 63 = decide (9223372036854775808 ≤ n) := by
  rw [Nat.testBit_eq_decide_div_mod_eq]
  by_cases hn : 9223372036854775808 ≤ n
  · have : n / 2 ^ 63 % 2 = 1 := by
      rw [show (2 : Nat) ^ 63 = 9223372036854775808 from rfl]; omega
    simp [this, hn]
  · have : n / 2 ^ 63 % 2 = 0 := by
      rw [show (2 : Nat) ^ 63 = 9223372036854775808 from rfl]; omega
    simp [this, hn]
theorem div63 {n : Nat} (h : n < 18446744073709551616) : n / 9223372036854775808 = if n.testBit 63 then 1 else 0 := by
  rw [tb63 h]
  by_cases hn : 9223372036854775808 ≤ n
  · simp [hn]; omega
  · simp [hn]; omega
theorem and64 {a b : Nat} (h : b < 18446744073709551616) : a &&& b < 18446744073709551616 := Nat.and_lt_two_pow (n := 64) _ h
theorem or64 {a b : Nat} (ha : a < 18446744073709551616) (hb : b < 18446744073709551616) : a ||| b < 18446744073709551616 := Nat.or_lt_two_pow (n := 64) ha hb
theorem xor64 {a b : Nat} (ha : a < 18446744073709551616) (hb : b < 18446744073709551616) : a ^^^ b < 18446744073709551616 := Nat.xor_lt_two_pow (n := 64) ha hb
theorem carry64 (x y c : Nat) (hx : x < 18446744073709551616) (hy : y < 18446744073709551616) (hc : c ≤ 1) :
    ((x &&& y) ||| ((x ||| y) &&& (((x + y + c) % 18446744073709551616) ^^^ 18446744073709551615))) / 9223372036854775808 = (x + y + c) / 18446744073709551616 := by
  have hs : (x + y + c) % 18446744073709551616 < 18446744073709551616 := Nat.mod_lt _ (by decide)
  generalize hsd : (x + y + c) % 18446744073709551616 = s at hs
  have hn : s ^^^ 18446744073709551615 < 18446744073709551616 := xor64 hs (by decide)
  rw [div63 (or64 (and64 hy) (and64 hn))]
  have h1 : Nat.testBit 18446744073709551615 63 = true := by decide +kernel
  simp only [Nat.testBit_or, Nat.testBit_and, Nat.testBit_xor, tb63 hx, tb63 hy, tb63 hs, h1]
  by_cases a : 9223372036854775808 ≤ x <;> by_cases b : 9223372036854775808 ≤ y <;> by_cases d : 9223372036854775808 ≤ s <;> simp [a, b, d] <;> omega

/-! ### Three words -/
def N3.plus (a b : N3) : N3 := ⟨(a.x + b.x) % 18446744073709551616, (a.y + b.y + (a.x + b.x) / 18446744073709551616) % 18446744073709551616,
  (a.z + b.z + (a.y + b.y + (a.x + b.x) / 18446744073709551616) / 18446744073709551616) % 18446744073709551616⟩
theorem N3.plus_ok (a b : N3) : (a.plus b).ok := ⟨Nat.mod_lt _ (by decide), Nat.mod_lt _ (by decide), Nat.mod_lt _ (by decide)⟩
theorem N3.plus_val {a b : N3} (ha : a.ok) (hb : b.ok) (hz : a.z + b.z < 18446744073709551615) : (a.plus b).val = a.val + b.val := by
  have h1 := ha.x; have h2 := ha.y; have h3 := hb.x; have h4 := hb.y
  simp only [N3.plus, N3.val]
  omega
theorem N3.plus_z {a b : N3} (ha : a.ok) (hb : b.ok) : (a.plus b).z ≤ a.z + b.z + 1 := by
  have h1 := ha.x; have h2 := ha.y; have h3 := hb.x; have h4 := hb.y
  simp only [N3.plus]
  omega
def N3.five (a : N3) : N3 := N3.plus ⟨a.x, a.y, a.z % 4⟩ ⟨5 * (a.z / 4) % 18446744073709551616, 0, 0⟩
theorem N3.five_val {a : N3} (ha : a.ok) (hz : a.z < 9223372036854775808) : a.five.val + PP * (a.z / 4) = a.val ∧ a.five.z ≤ 4 := by
  have h1 := ha.x; have h2 := ha.y
  have e : 5 * (a.z / 4) % 18446744073709551616 = 5 * (a.z / 4) := Nat.mod_eq_of_lt (by omega)
  have hh : (a.x + 5 * (a.z / 4)) / 18446744073709551616 ≤ 1 := by omega
  simp only [N3.five, N3.plus, N3.val, PP, e, Nat.add_zero]
  generalize hhd : (a.x + 5 * (a.z / 4)) / 18446744073709551616 = h at hh
  have hf : (a.y + h) / 18446744073709551616 ≤ 1 := by omega
  generalize hfd : (a.y + h) / 18446744073709551616 = f at hf
  have hz4 : (a.z % 4 + f) % 18446744073709551616 = a.z % 4 + f := Nat.mod_eq_of_lt (by omega)
  rw [hz4]
  constructor
  · omega
  · omega
theorem N3.five_ok (a : N3) : a.five.ok := N3.plus_ok _ _
def p3 : N3 := ⟨18446744073709551611, 18446744073709551615, 3⟩
def five3 : N3 := ⟨5, 0, 0⟩
def N3.left (a : N3) : N3 :=
  let b := a.five.five
  let c := b.plus five3
  if (b.x = p3.x ∧ b.y = p3.y ∧ b.z = p3.z) ∨ 3 < c.z then ⟨c.x, c.y, c.z % 4⟩ else b
theorem N3.left_ok (a : N3) : a.left.ok := by
  unfold N3.left
  simp only
  split
  · have := N3.plus_ok a.five.five five3
    exact ⟨this.x, this.y, Nat.lt_of_le_of_lt (Nat.mod_le _ _) this.z⟩
  · exact N3.five_ok _
theorem N3.left_val {a : N3} (ha : a.ok) (hz : a.z < 9223372036854775808) : a.left.val = a.val % PP := by
  obtain ⟨h1, h2⟩ := N3.five_val ha hz
  have ok1 := N3.five_ok a
  obtain ⟨h3, h4⟩ := N3.five_val ok1 (by omega)
  have ok2 := N3.five_ok a.five
  have h5 := N3.plus_val (b := five3) ok2 ⟨by decide, by decide, by decide⟩ (by simp only [five3]; omega)
  have okc := N3.plus_ok a.five.five five3
  have e5 : five3.val = 5 := rfl
  have hm : a.val % PP = a.five.five.val % PP := by
    rw [← h1, ← h3, Nat.add_assoc, ← Nat.mul_add, Nat.add_mul_mod_self_left]
  have hb4 : a.five.z / 4 ≤ 1 := by omega
  rw [hm]
  have b1 := ok1.x; have b2 := ok1.y; have b3 := ok2.x; have b4 := ok2.y; have b5 := okc.x; have b6 := okc.y
  have hlt : a.five.five.val < 1361129467683753853853498429727072845824 := by
    simp only [N3.val, PP] at h3 ⊢
    omega
  have hz5 : a.z / 4 < 2305843009213693952 := by omega
  unfold N3.left
  simp only
  generalize a.five.five = b at *
  generalize b.plus five3 = c at *
  have q1 : p3.x = 18446744073709551611 := rfl
  have q2 : p3.y = 18446744073709551615 := rfl
  have q3 : p3.z = 3 := rfl
  rw [e5] at h5
  clear h1 h2 h3 h4 ok1 ok2 okc b1 b2 hb4 hz5 hm e5
  by_cases hc : (b.x = p3.x ∧ b.y = p3.y ∧ b.z = p3.z) ∨ 3 < c.z
  · rw [if_pos hc]
    have hge : PP ≤ b.val := by
      rcases hc with ⟨e1, e2, e3⟩ | hc
      · simp only [N3.val, e1, e2, e3, q1, q2, q3, PP]; omega
      · simp only [N3.val] at h5
        simp only [N3.val, PP]
        omega
    have hlt2 : b.val - PP < PP := by simp only [PP] at *; omega
    rw [Nat.mod_eq_sub_mod hge, Nat.mod_eq_of_lt hlt2]
    generalize b.val = v at *
    simp only [N3.val, PP] at *
    omega
  · rw [if_neg hc]
    rw [q1, q2, q3] at hc
    have : b.val < PP := by
      have hcz : ¬ 3 < c.z := fun h => hc (.inr h)
      have hcv : c.val < 1361129467683753853853498429727072845824 := by simp only [N3.val]; omega
      simp only [PP]
      omega
    rw [Nat.mod_eq_of_lt this]

/-! ### A product of words -/
theorem mul_le {x y : Nat} (hx : x < 18446744073709551616) (hy : y < 18446744073709551616) : x * y ≤ 18446744073709551615 * 18446744073709551615 := Nat.mul_le_mul (by omega) (by omega)
theorem mul_step {x y o v : Nat} (hx : x < 18446744073709551616) (hy : y < 18446744073709551616) (ho : o < 18446744073709551616) (hv : v < 18446744073709551616) :
    (v + (x * y % 18446744073709551616 + o) % 18446744073709551616) % 18446744073709551616
      + 18446744073709551616 * (x * y / 18446744073709551616 + (x * y % 18446744073709551616 + o) / 18446744073709551616 + (v + (x * y % 18446744073709551616 + o) % 18446744073709551616) / 18446744073709551616) = x * y + o + v ∧
    x * y / 18446744073709551616 + (x * y % 18446744073709551616 + o) / 18446744073709551616 + (v + (x * y % 18446744073709551616 + o) % 18446744073709551616) / 18446744073709551616 < 18446744073709551616 := by
  have h := mul_le hx hy
  generalize x * y = t at h
  have e : (v + (t % 18446744073709551616 + o) % 18446744073709551616) % 18446744073709551616
      + 18446744073709551616 * (t / 18446744073709551616 + (t % 18446744073709551616 + o) / 18446744073709551616 + (v + (t % 18446744073709551616 + o) % 18446744073709551616) / 18446744073709551616) = t + o + v := by
    have h1 := Nat.div_add_mod t 18446744073709551616
    generalize t % 18446744073709551616 = l at *
    generalize t / 18446744073709551616 = q at *
    have h2 := Nat.div_add_mod (l + o) 18446744073709551616
    generalize (l + o) % 18446744073709551616 = m at *
    generalize (l + o) / 18446744073709551616 = c at *
    have h3 := Nat.div_add_mod (v + m) 18446744073709551616
    omega
  refine ⟨e, ?_⟩
  generalize t / 18446744073709551616 + (t % 18446744073709551616 + o) / 18446744073709551616 + (v + (t % 18446744073709551616 + o) % 18446744073709551616) / 18446744073709551616 = z at *
  omega
def WW : Nat := 18446744073709551616
def valW : List Nat → Nat
  | [] => 0
  | x :: r => x + WW * valW r
theorem valW_set : ∀ (l : List Nat) (j v : Nat), j < l.length → valW (l.set j v) + l.getD j 0 * WW ^ j = valW l + v * WW ^ j
  | [], j, v, h => by simp at h
  | x :: r, 0, v, h => by simp [valW]; omega
  | x :: r, j + 1, v, h => by
    have ih := valW_set r j v (by simpa using h)
    simp only [List.set_cons_succ, valW, List.getD_cons_succ, Nat.pow_succ]
    have e1 : r.getD j 0 * (WW ^ j * WW) = WW * (r.getD j 0 * WW ^ j) := by rw [← Nat.mul_assoc, Nat.mul_comm]
    have e2 : v * (WW ^ j * WW) = WW * (v * WW ^ j) := by rw [← Nat.mul_assoc, Nat.mul_comm]
    rw [e1, e2, Nat.add_assoc, ← Nat.mul_add, ih, Nat.mul_add, Nat.add_assoc]
theorem valW_take : ∀ (l : List Nat) (k : Nat), k < l.length → valW (l.take (k + 1)) = valW (l.take k) + l.getD k 0 * WW ^ k
  | [], k, h => by simp at h
  | x :: r, 0, h => by simp [valW]
  | x :: r, k + 1, h => by
    have ih := valW_take r k (by simpa using h)
    simp only [List.take_succ_cons, valW, List.getD_cons_succ, Nat.pow_succ]
    rw [ih, Nat.mul_add, Nat.add_assoc]
    congr 2
    rw [Nat.mul_left_comm, Nat.mul_comm WW]

theorem prod_round (A A' A0 o o' P x y T v v' Wi : Nat) (hA : A' + v * P = A + v' * P) (hI : A + o * P = A0 + x * Wi * T) (hs : v' + WW * o' = x * y + o + v) (Wk : Nat) (hP : P = Wi * Wk) :
    A' + o' * (P * WW) = A0 + x * Wi * (T + y * Wk) := by
  have e1 : o' * (P * WW) = WW * o' * P := by rw [Nat.mul_comm P, ← Nat.mul_assoc, Nat.mul_comm o']
  have e2 : (v' + WW * o') * P = (x * y + o + v) * P := by rw [hs]
  rw [Nat.add_mul, Nat.add_mul, Nat.add_mul] at e2
  have e3 : x * Wi * (T + y * Wk) = x * Wi * T + x * y * P := by
    rw [Nat.mul_add, hP]
    congr 1
    rw [Nat.mul_assoc, Nat.mul_assoc, Nat.mul_left_comm Wi y]
  rw [e1, e3]
  generalize WW * o' * P = a at *
  generalize v' * P = b at *
  generalize x * y * P = c at *
  generalize o * P = d at *
  generalize v * P = e at *
  generalize x * Wi * T = f at *
  omega

theorem left_lt {a : N3} (ha : a.ok) (hz : a.z < 9223372036854775808) : a.left.val < PP ∧ a.left.z ≤ 3 := by
  have h := N3.left_val ha hz
  have h2 : a.left.val < PP := by rw [h]; exact Nat.mod_lt _ (by decide)
  refine ⟨h2, ?_⟩
  simp only [N3.val, PP] at h2
  omega
/-- What stands below 2^130 of six words, and above. -/
def lowN (x0 x1 x2 : Nat) : N3 := ⟨x0, x1, x2 % 4⟩
def highN (x2 x3 x4 : Nat) : N3 := ⟨x2 / 4 + x3 % 4 * 4611686018427387904, x3 / 4 + x4 % 4 * 4611686018427387904, x4 / 4⟩
theorem low_high (x0 x1 x2 x3 x4 x5 : Nat) (h : ∀ x ∈ [x0, x1, x2, x3, x4, x5], x < 18446744073709551616) (hv : valW [x0, x1, x2, x3, x4, x5] < 1852673427797059126777135760139006525652319754650249024631321344126610074238976) :
    (lowN x0 x1 x2).ok ∧ (highN x2 x3 x4).ok ∧ (highN x2 x3 x4).z < 4611686018427387904 ∧ valW [x0, x1, x2, x3, x4, x5] = (lowN x0 x1 x2).val + 1361129467683753853853498429727072845824 * (highN x2 x3 x4).val := by
  have h0 := h x0 (by simp); have h1 := h x1 (by simp); have h2 := h x2 (by simp); have h3 := h x3 (by simp); have h4 := h x4 (by simp); have h5 := h x5 (by simp)
  simp only [valW, WW] at hv ⊢
  have e5 : x5 = 0 := by omega
  subst e5
  refine ⟨⟨h0, h1, ?_⟩, ⟨?_, ?_, ?_⟩, ?_, ?_⟩
  · simp only [lowN]; omega
  · simp only [highN]; omega
  · simp only [highN]; omega
  · simp only [highN]; omega
  · simp only [highN]; omega
  · simp only [lowN, highN, N3.val]; omega
theorem fold5 (l h : Nat) : (l + 1361129467683753853853498429727072845824 * h) % PP = (l + 5 * h) % PP := by
  have : l + 1361129467683753853853498429727072845824 * h = (l + 5 * h) + PP * h := by simp only [PP]; omega
  rw [this, Nat.add_mul_mod_self_left]

end Go.Poly
