/-
  A part of the proof: OC.
-/
import Derived.Test.YtgecpbplbkpdlaaSxOB
namespace Go.Proofs.Ytgecpbplbkpdlaa
open Go Go.Sx Go.Oct
set_option linter.unusedVariables false

theorem min_len (a b : List UInt8) : minI (natI (sizeS (bs a))) (natI (sizeS (bs b))) = ((min a.length b.length : Nat) : Int) := by
  rw [sizeS_bs, sizeS_bs]; exact minI_nat _ _

/-- Which bytes differ so far. -/
def oddL (a b : List UInt8) : UInt8 := (xorL a b).foldl (· ||| ·) 0
theorem oddL_zero {a b : List UInt8} (h : a.length = b.length) : oddL a b = 0 ↔ a = b := by
  unfold oddL
  have gen : ∀ (l : List UInt8) (x : UInt8), l.foldl (· ||| ·) x = 0 ↔ x = 0 ∧ ∀ y ∈ l, y = 0 := by
    intro l
    induction l with
    | nil => simp
    | cons y r ih =>
      intro x
      simp only [List.foldl_cons, ih, List.mem_cons, forall_eq_or_imp]
      have : x ||| y = 0 ↔ x = 0 ∧ y = 0 := by
        constructor
        · intro h
          have := congrArg UInt8.toNat h
          rw [UInt8.toNat_or] at this
          have h2 : x.toNat ||| y.toNat = 0 := this
          have h3 := Nat.or_eq_zero_iff.1 h2
          exact ⟨UInt8.toNat_inj.1 h3.1, UInt8.toNat_inj.1 h3.2⟩
        · rintro ⟨rfl, rfl⟩; rfl
      rw [this, and_assoc]
  rw [gen]
  simp only [true_and]
  induction a generalizing b with
  | nil => cases b with | nil => simp [xorL] | cons _ _ => simp at h
  | cons x r ih =>
    cases b with
    | nil => simp at h
    | cons y s =>
      have ih := ih (b := s) (by simpa using h)
      simp only [xorL] at ih
      simp only [xorL, List.zipWith_cons_cons, List.mem_cons, forall_eq_or_imp, List.cons.injEq, ih]
      rw [UInt8.xor_eq_zero_iff]
theorem oddL_snoc (a b : List UInt8) (x y : UInt8) (h : a.length = b.length) : oddL (a ++ [x]) (b ++ [y]) = oddL a b ||| (x ^^^ y) := by
  unfold oddL xorL
  rw [List.zipWith_append h]
  simp

theorem rot_eq {x k : Nat} (hx : x < 4294967296) (hk : k < 32) : (x * 2 ^ k % 4294967296) ||| (x / 2 ^ (32 - k)) = rolN k x := by
  rw [rolN_eq hx k (by omega), rolC]
  have h1 : x / 2 ^ (32 - k) < 2 ^ k := by
    rw [Nat.div_lt_iff_lt_mul (Nat.pow_pos (by decide)), ← Nat.pow_add, show k + (32 - k) = 32 from by omega]
    exact hx
  have h2 : x * 2 ^ k % 4294967296 = (x % 2 ^ (32 - k)) * 2 ^ k := by
    rw [show (4294967296 : Nat) = 2 ^ (32 - k) * 2 ^ k from by rw [← Nat.pow_add, show 32 - k + k = 32 from by omega], Nat.mul_mod_mul_right]
  rw [h2, or_add h1]

end Go.Proofs.Ytgecpbplbkpdlaa
