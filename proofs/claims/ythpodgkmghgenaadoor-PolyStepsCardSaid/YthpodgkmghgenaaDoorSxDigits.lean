/-
  Numbers as rows of digits below 256, in plain words; no program.
-/
import Derived.Test.YthpodgkmghgenaaDoorSxPoly
namespace Go.Poly
open Go Go.Sx Go.Oct
set_option linter.unusedVariables false

/-- The number that digits are (of any size). -/
def D : List Nat → Nat
  | [] => 0
  | x :: r => x + 256 * D r
/-- A number's digits. -/
def digs (v n : Nat) : List Nat := (List.range n).map fun i => v / 256 ^ i % 256
theorem digs_length (v n : Nat) : (digs v n).length = n := by simp [digs]
theorem digs_succ (v n : Nat) : digs v (n + 1) = digs v n ++ [v / 256 ^ n % 256] := by simp [digs, List.range_succ]
theorem D_take : ∀ (l : List Nat) (k : Nat), D (l.take (k + 1)) = D (l.take k) + l.getD k 0 * 256 ^ k
  | [], k => by simp [D]
  | x :: r, 0 => by simp [D]
  | x :: r, k + 1 => by
    have ih := D_take r k
    simp only [List.take_succ_cons, D, List.getD_cons_succ, Nat.pow_succ]
    rw [ih, Nat.mul_add, Nat.add_assoc]
    congr 2
    rw [Nat.mul_left_comm, Nat.mul_comm 256]
theorem D_split : ∀ (l : List Nat) (k : Nat), D l = D (l.take k) + 256 ^ k * D (l.drop k)
  | l, 0 => by simp [D]
  | [], k + 1 => by simp [D]
  | x :: r, k + 1 => by
    have ih := D_split r k
    simp only [List.take_succ_cons, List.drop_succ_cons, D, Nat.pow_succ]
    rw [ih, Nat.mul_add, ← Nat.mul_assoc, Nat.mul_comm 256 (256 ^ k), Nat.add_assoc]
theorem D_le {l : List Nat} {B : Nat} (h : ∀ x ∈ l, x ≤ B) : ∀ k, D (l.take k) ≤ B * 256 ^ k
  | 0 => by simp [D]
  | k + 1 => by
    have ih := D_le h k
    have hk : l.getD k 0 ≤ B := by
      rw [List.getD_eq_getElem?_getD]
      cases hi : l[k]? with
      | none => simp
      | some x => simpa using h x (List.mem_of_getElem? hi)
    have h2 : l.getD k 0 * 256 ^ k ≤ B * 256 ^ k := Nat.mul_le_mul_right _ hk
    rw [D_take, Nat.pow_succ, ← Nat.mul_assoc]
    omega
/-- One round of carrying. -/
theorem carry_step (l : List Nat) (i : Nat) : (D (l.take i) / 256 ^ i + l.getD i 0) % 256 = D l / 256 ^ i % 256 ∧ (D (l.take i) / 256 ^ i + l.getD i 0) / 256 = D (l.take (i + 1)) / 256 ^ (i + 1) := by
  have hp : 0 < 256 ^ i := Nat.pow_pos (by decide)
  have e1 : D (l.take i) / 256 ^ i + l.getD i 0 = D (l.take (i + 1)) / 256 ^ i := by
    rw [D_take, Nat.add_mul_div_right _ _ hp]
  constructor
  · rw [e1]
    have e2 := D_split l (i + 1)
    rw [e2, Nat.pow_succ, Nat.mul_assoc, Nat.add_mul_div_left _ _ hp, Nat.add_mul_mod_self_left]
  · rw [e1, Nat.div_div_eq_div_mul, Nat.pow_succ]
theorem digs_lt (v n : Nat) : ∀ x ∈ digs v n, x < 256 := by
  intro x hx
  simp only [digs, List.mem_map] at hx
  obtain ⟨i, _, rfl⟩ := hx
  exact Nat.mod_lt _ (by decide)
theorem D_digs (v : Nat) : ∀ n, D (digs v n) = v % 256 ^ n
  | 0 => by simp [digs, D, Nat.mod_one]
  | n + 1 => by
    have h := D_take (digs v (n + 1)) n
    have e1 : (digs v (n + 1)).take (n + 1) = digs v (n + 1) := List.take_of_length_le (by rw [digs_length]; exact Nat.le_refl _)
    have e2 : (digs v (n + 1)).take n = digs v n := by
      rw [digs_succ, List.take_append_of_le_length (by rw [digs_length]; exact Nat.le_refl _), List.take_of_length_le (by rw [digs_length]; exact Nat.le_refl _)]
    have e3 : (digs v (n + 1)).getD n 0 = v / 256 ^ n % 256 := by
      rw [digs_succ, List.getD_eq_getElem?_getD, List.getElem?_append_right (by rw [digs_length]; exact Nat.le_refl _), digs_length]; simp
    rw [e1, e2, e3, D_digs v n] at h
    rw [h, Nat.pow_succ, Nat.mul_comm (v / 256 ^ n % 256), Nat.mod_mul]
theorem digs_getD (v n i : Nat) : (digs v n).getD i 0 = if i < n then v / 256 ^ i % 256 else 0 := by
  by_cases h : i < n
  · rw [if_pos h]; simp [digs, List.getD_eq_getElem?_getD, h]
  · rw [if_neg h, List.getD_eq_getElem?_getD, List.getElem?_eq_none (by rw [digs_length]; omega)]; rfl

theorem valL_digit : ∀ (t : List UInt8) (i : Nat), valL t / 256 ^ i % 256 = (t.getD i 0).toNat
  | [], i => by simp [valL]
  | b :: r, 0 => by
    have := b.toNat_lt
    simp [valL]
  | b :: r, i + 1 => by
    have hb := b.toNat_lt
    have ih := valL_digit r i
    simp only [valL, List.getD_cons_succ]
    rw [← ih, Nat.pow_succ, Nat.mul_comm (256 ^ i), ← Nat.div_div_eq_div_mul]
    congr 2
    omega
theorem digs_mod (v n : Nat) : digs (v % 256 ^ n) n = digs v n := by
  unfold digs
  refine List.map_congr_left fun i hi => ?_
  have hi : i < n := List.mem_range.1 hi
  obtain ⟨k, rfl⟩ := Nat.exists_eq_add_of_lt hi
  rw [show i + k + 1 = i + (k + 1) by omega, Nat.pow_add, Nat.mod_mul_right_div_self, Nat.pow_succ, Nat.mul_comm (256 ^ k) 256, Nat.mod_mul_right_mod]
theorem digs_congr {v v' n : Nat} (h : v % 256 ^ n = v' % 256 ^ n) : digs v n = digs v' n := by rw [← digs_mod v, h, digs_mod]
def T130 : Nat := 1361129467683753853853498429727072845824
theorem T130_eq : T130 = 256 ^ 16 * 4 := by decide
/-- What stands above 2^130, five times, and what stands below. -/
def F5 (V : Nat) : Nat := V % T130 + 5 * (V / T130)
theorem low_digit (V i : Nat) : (V % T130) / 256 ^ i % 256 = if i < 16 then V / 256 ^ i % 256 else if i = 16 then V / 256 ^ 16 % 256 % 4 else 0 := by
  have e : V % T130 = V % 256 ^ 16 + 256 ^ 16 * (V / 256 ^ 16 % 4) := by rw [T130_eq, Nat.mod_mul]
  by_cases h : i < 16
  · rw [if_pos h]
    obtain ⟨k, hk⟩ : ∃ k, 16 = i + (k + 1) := ⟨16 - i - 1, by omega⟩
    rw [T130_eq, hk, Nat.pow_add, Nat.mul_assoc, Nat.mod_mul_right_div_self, Nat.pow_succ, Nat.mul_comm (256 ^ k) 256, Nat.mul_assoc, Nat.mod_mul_right_mod]
  · rw [if_neg h]
    have hlt : V % 256 ^ 16 < 256 ^ 16 := Nat.mod_lt _ (Nat.pow_pos (by decide))
    have e2 : (V % T130) / 256 ^ 16 = V / 256 ^ 16 % 4 := by
      rw [e, Nat.add_mul_div_left _ _ (Nat.pow_pos (by decide)), Nat.div_eq_of_lt hlt, Nat.zero_add]
    by_cases h16 : i = 16
    · rw [if_pos h16, h16, e2]
      generalize V / 256 ^ 16 = q
      omega
    · rw [if_neg h16]
      obtain ⟨k, hk⟩ : ∃ k, i = 16 + (k + 1) := ⟨i - 17, by omega⟩
      rw [hk, Nat.pow_add, ← Nat.div_div_eq_div_mul, e2]
      have hq : V / 256 ^ 16 % 4 < 4 := Nat.mod_lt _ (by decide)
      generalize V / 256 ^ 16 % 4 = q at hq
      have hp : 256 ≤ 256 ^ (k + 1) := by
        rw [Nat.pow_succ]
        have := Nat.pow_pos (n := k) (show 0 < 256 by decide)
        omega
      rw [Nat.div_eq_of_lt (by omega)]
theorem high_digit (V i : Nat) : (V / T130) / 256 ^ i % 256 = (V / 256 ^ (i + 16) % 256) / 4 + (V / 256 ^ (i + 17) % 256) % 4 * 64 := by
  have e1 : V / T130 / 256 ^ i = V / 256 ^ (i + 16) / 4 := by
    rw [T130_eq, Nat.div_div_eq_div_mul, Nat.div_div_eq_div_mul, Nat.pow_add, Nat.mul_assoc, Nat.mul_comm 4, ← Nat.mul_assoc, Nat.mul_comm (256 ^ 16)]
  have e2 : V / 256 ^ (i + 17) = V / 256 ^ (i + 16) / 256 := by rw [Nat.div_div_eq_div_mul, ← Nat.pow_succ]
  rw [e1, e2]
  generalize V / 256 ^ (i + 16) = u
  omega

/-- The digits, before they are carried. -/
def rawF (V : Nat) (n : Nat) : List Nat := (List.range n).map fun i => (V % T130) / 256 ^ i % 256 + 5 * ((V / T130) / 256 ^ i % 256)
theorem rawF_succ (V n : Nat) : rawF V (n + 1) = rawF V n ++ [(V % T130) / 256 ^ n % 256 + 5 * ((V / T130) / 256 ^ n % 256)] := by simp [rawF, List.range_succ]
theorem rawF_length (V n : Nat) : (rawF V n).length = n := by simp [rawF]
theorem rawF_le (V n : Nat) : ∀ x ∈ rawF V n, x ≤ 1099511627776 := by
  intro x hx
  simp only [rawF, List.mem_map] at hx
  obtain ⟨i, _, rfl⟩ := hx
  have h1 := Nat.mod_lt ((V % T130) / 256 ^ i) (show 0 < 256 by decide)
  have h2 := Nat.mod_lt ((V / T130) / 256 ^ i) (show 0 < 256 by decide)
  omega
theorem D_snoc (l : List Nat) (x : Nat) : D (l ++ [x]) = D l + x * 256 ^ l.length := by
  have h := D_take (l ++ [x]) l.length
  have e1 : (l ++ [x]).take (l.length + 1) = l ++ [x] := List.take_of_length_le (by simp)
  have e2 : (l ++ [x]).take l.length = l := by simp
  have e3 : (l ++ [x]).getD l.length 0 = x := by simp [List.getD_eq_getElem?_getD]
  rw [e1, e2, e3] at h
  exact h
theorem D_rawF (V : Nat) : ∀ n, D (rawF V n) = D (digs (V % T130) n) + 5 * D (digs (V / T130) n)
  | 0 => rfl
  | n + 1 => by
    rw [rawF_succ, D_snoc, D_rawF V n, digs_succ, digs_succ, D_snoc, D_snoc, rawF_length, digs_length, digs_length]
    rw [Nat.add_mul, Nat.mul_add, Nat.mul_assoc]
    omega
theorem five_digs (V n : Nat) : digs (D (rawF V n)) n = digs (F5 V) n := by
  refine digs_congr ?_
  rw [D_rawF, D_digs, D_digs, F5, Nat.add_mod, Nat.mod_mod, Nat.mul_mod, Nat.mod_mod, ← Nat.mul_mod, ← Nat.add_mod]

end Go.Poly
