/-
  What is left by 2^130 less 5 of a number as a row of digits, and products as rows of digits, in plain words; no program.
-/
import Derived.Test.YthpodgkmghgenaaDoorSxDigits
namespace Go.Poly
open Go Go.Sx Go.Oct
set_option linter.unusedVariables false

theorem F5_mod (V : Nat) : F5 V % PP = V % PP := by
  unfold F5 T130 PP; omega
theorem F5_b {V B : Nat} (h : V < B * T130) : F5 V < T130 + 5 * B := by
  have h1 : V / T130 < B := Nat.div_lt_of_lt_mul (by rw [Nat.mul_comm]; exact h)
  have h2 : V % T130 < T130 := Nat.mod_lt _ (by decide)
  unfold F5; omega
theorem F5_four {V : Nat} (h : V < 256 ^ 36) : F5 (F5 (F5 (F5 V))) < T130 := by
  have h0 : V < 365375409332725729550921208179070754913983135744 * T130 := Nat.lt_of_lt_of_le h (by decide)
  have h1 := F5_b h0
  have h1 : F5 V < 1342177281 * T130 := Nat.lt_of_lt_of_le h1 (by decide)
  have h2 := F5_b h1
  generalize F5 (F5 V) = X at h2
  have h3 : F5 X < T130 := by unfold F5 T130 at *; omega
  generalize F5 X = Y at h3
  unfold F5 T130 at *; omega
theorem F5_four_mod (V : Nat) : F5 (F5 (F5 (F5 V))) % PP = V % PP := by rw [F5_mod, F5_mod, F5_mod, F5_mod]
theorem F5_le {V n : Nat} (h : V < 256 ^ n) (hn : 17 ≤ n) : F5 V < 256 ^ (n + 2) := by
  have h1 : F5 V ≤ V + 5 * V := by
    unfold F5
    have a := Nat.mod_le V T130
    have b := Nat.div_le_self V T130
    omega
  rw [Nat.pow_add]
  omega

/-- The digits of what is at least p, below 2^130. -/
theorem pp_digits : ∀ i, i < 15 → PP / 256 / 256 ^ i % 256 = 255 := by decide
theorem less_pp {V i : Nat} (hV : V < T130) (hi : i < 15) (h : V / 256 ^ (i + 1) % 256 ≠ 255) : V < PP := by
  rcases Nat.lt_or_ge V PP with h1 | h1
  · exact h1
  · exfalso
    apply h
    have e : V / 256 = PP / 256 := by unfold T130 at hV; unfold PP at h1 ⊢; omega
    rw [Nat.pow_succ, Nat.mul_comm, ← Nat.div_div_eq_div_mul, e]
    exact pp_digits i hi
theorem all255 {V : Nat} (h : ∀ i, i < 15 → V / 256 ^ (i + 1) % 256 = 255) : V / 256 % 256 ^ 15 = 256 ^ 15 - 1 := by
  have e : digs (V / 256) 15 = List.replicate 15 255 := by
    refine List.ext_getElem (by simp [digs_length]) fun j h1 h2 => ?_
    have hj : j < 15 := by simpa using h2
    simp only [digs, List.getElem_map, List.getElem_range, List.getElem_replicate]
    rw [Nat.div_div_eq_div_mul, Nat.mul_comm, ← Nat.pow_succ]
    exact h j hj
  have d := D_digs (V / 256) 15
  rw [e] at d
  rw [← d]; decide
theorem less_all {V : Nat} (hV : V < T130) (h : ∀ i, i < 15 → V / 256 ^ (i + 1) % 256 = 255) :
    (V < PP) = (V / 256 ^ 16 % 256 < 3 ∨ V / 256 ^ 16 % 256 = 3 ∧ V % 256 < 251) := by
  have h1 := all255 h
  rw [show (256 : Nat) ^ 15 = 1329227995784915872903807060280344576 from rfl] at h1
  rw [show (256 : Nat) ^ 16 = 340282366920938463463374607431768211456 from rfl]
  unfold T130 at hV
  unfold PP
  apply propext
  omega
theorem top_le {V : Nat} (hV : V < T130) : V / 256 ^ 16 % 256 ≤ 3 := by
  rw [show (256 : Nat) ^ 16 = 340282366920938463463374607431768211456 from rfl]
  unfold T130 at hV
  omega
/-- p less: 5 more, and of the last digit only two bits. -/
theorem minus_pp {V : Nat} (hV : V < T130) (h : PP ≤ V) : (V + 5) % T130 = V % PP := by
  unfold T130 at *; unfold PP at *; omega
theorem digs_top (V : Nat) : (digs V 17).set 16 (V / 256 ^ 16 % 256 % 4) = digs (V % T130) 17 := by
  refine List.ext_getElem (by simp [digs_length]) fun j h1 h2 => ?_
  have hj : j < 17 := by simpa [digs_length] using h2
  rw [List.getElem_set]
  simp only [digs, List.getElem_map, List.getElem_range]
  rw [low_digit]
  by_cases h16 : j = 16
  · subst h16; simp
  · rw [if_neg (by omega), if_pos (by omega)]

/-! ### Rows of numbers -/
theorem D_set : ∀ (l : List Nat) (j v : Nat), j < l.length → D (l.set j (l.getD j 0 + v)) = D l + v * 256 ^ j
  | [], j, v, h => by simp at h
  | x :: r, 0, v, h => by simp [D]; omega
  | x :: r, j + 1, v, h => by
    have ih := D_set r j v (by simpa using h)
    simp only [List.set_cons_succ, D, List.getD_cons_succ, ih, Nat.pow_succ]
    rw [Nat.mul_add, Nat.mul_left_comm, Nat.mul_comm 256 (256 ^ j), Nat.add_assoc]
theorem D_zeros (n : Nat) : D (List.replicate n 0) = 0 := by
  induction n with
  | zero => rfl
  | succ n ih => rw [List.replicate_succ, D, ih]
theorem D_zip : ∀ (x y : List Nat), x.length = y.length → D (List.zipWith (· + ·) x y) = D x + D y
  | [], [], _ => rfl
  | a :: r, b :: s, h => by
    have ih := D_zip r s (by simpa using h)
    simp only [List.zipWith_cons_cons, D, ih]
    omega
  | [], _ :: _, h => by simp at h
  | _ :: _, [], h => by simp at h
/-- Sums of digits, not carried. -/
def sumL (A B n : Nat) : List Nat := (List.range n).map fun i => A / 256 ^ i % 256 + B / 256 ^ i % 256
theorem sumL_succ (A B n : Nat) : sumL A B (n + 1) = sumL A B n ++ [A / 256 ^ n % 256 + B / 256 ^ n % 256] := by simp [sumL, List.range_succ]
theorem sumL_length (A B n : Nat) : (sumL A B n).length = n := by simp [sumL]
theorem sumL_le (A B n : Nat) : ∀ x ∈ sumL A B n, x ≤ 1099511627776 := by
  intro x hx
  simp only [sumL, List.mem_map] at hx
  obtain ⟨i, _, rfl⟩ := hx
  have h1 := Nat.mod_lt (A / 256 ^ i) (show 0 < 256 by decide)
  have h2 := Nat.mod_lt (B / 256 ^ i) (show 0 < 256 by decide)
  omega
theorem D_sumL (A B : Nat) : ∀ n, D (sumL A B n) = A % 256 ^ n + B % 256 ^ n
  | 0 => by simp [sumL, D, Nat.mod_one]
  | n + 1 => by
    have ha := D_digs A (n + 1)
    have hb := D_digs B (n + 1)
    rw [digs_succ, D_snoc, D_digs, digs_length] at ha hb
    rw [sumL_succ, D_snoc, D_sumL A B n, sumL_length, ← ha, ← hb, Nat.add_mul]
    omega
/-- One product more. -/
theorem D_prod {V Y : List Nat} {T x k i B : Nat} (hV : V.length = 34) (hk : i + k < 34) (h : D V = T + x * 256 ^ i * D (Y.take k)) (hb : ∀ v ∈ V, v ≤ B) (hx : x < 256) (hy : Y.getD k 0 < 256) :
    D (V.set (i + k) (V.getD (i + k) 0 + x * Y.getD k 0)) = T + x * 256 ^ i * D (Y.take (k + 1)) ∧ ∀ v ∈ V.set (i + k) (V.getD (i + k) 0 + x * Y.getD k 0), v ≤ B + 65025 := by
  constructor
  · rw [D_set V (i + k) _ (by omega), h, D_take, Nat.mul_add, Nat.pow_add]
    rw [show x * Y.getD k 0 * (256 ^ i * 256 ^ k) = x * 256 ^ i * (Y.getD k 0 * 256 ^ k) by ac_rfl]
    omega
  · intro v hv
    rcases List.mem_or_eq_of_mem_set hv with h1 | rfl
    · have := hb v h1; omega
    · have h2 : V.getD (i + k) 0 ≤ B := by
        rw [List.getD_eq_getElem?_getD, List.getElem?_eq_getElem (by omega), Option.getD_some]
        exact hb _ (List.getElem_mem _)
      have h3 : x * Y.getD k 0 ≤ 255 * 255 := Nat.mul_le_mul (by omega) (by omega)
      omega
end Go.Poly
