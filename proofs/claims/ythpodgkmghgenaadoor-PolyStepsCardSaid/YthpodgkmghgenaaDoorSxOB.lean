/-
  A part of the proof: OB.
-/
import Derived.Test.YthpodgkmghgenaaDoorSxOA
namespace Go.Proofs.YthpodgkmghgenaaDoor
open Go Go.Sx Go.Oct
set_option linter.unusedVariables false

theorem take_snoc {l : List UInt8} {k : Nat} (h : k < l.length) : l.take (k + 1) = l.take k ++ [l[k]] := List.take_succ_eq_append_getElem h

theorem valL_snoc (s : List UInt8) (b : UInt8) : valL (s ++ [b]) = valL s + b.toNat * 256 ^ s.length := by rw [valL_append]; simp [valL, Nat.mul_comm]

theorem o_ReadLow (w : World) (s : List UInt8) (hs : s.length < 4611686018427387904) : Calls Tryd.prog 40 #[.string (bs s)] w (Ret w (.int .u64 (readL s))) := by
  refine calls_ret (F40_calls _ _ _ ?_)
  unfold F40
  have hm : minI (natI (sizeS (bs s))) 8 = ((min s.length 8 : Nat) : Int) := by rw [sizeS_bs, natI_eq]; exact minI_nat _ 8
  rw [hm]
  refine ⟨fun n vs w1 => ∃ k : Nat, vs = [.int .u64 (valL (s.take k)), .int .i64 k] ∧ k + n = min s.length 8 ∧ Keep [] w w1, ⟨min s.length 8, 0, by simp [valL], by omega, Keep.refl _ _⟩, ?_⟩
  rintro n vs w1 ⟨k, rfl, hk, hK⟩
  refine ⟨_, _, rfl, fun _ => SplitK.of (fun h => ?_) (fun h => ?_)⟩
  · simp at h
    have e8 : mulI .i64 8 (k : Int) = ((8 * k : Nat) : Int) := mulI_nat 8 k (by omega)
    refine ⟨by omega, byteAt (by simp; omega) ⟨by rw [e8]; omega, n - 1, by omega, k + 1, ?_, by omega, hK⟩⟩
    have hb := (s[k]'(by omega)).toNat_lt
    have h1 := valL_lt (s.take k)
    rw [List.length_take, Nat.min_eq_left (by omega)] at h1
    have hp : (256 : Nat) ^ k = 2 ^ (8 * k) := by rw [Nat.pow_mul]
    have hp8 : (256 : Nat) ^ (k + 1) ≤ 256 ^ 8 := Nat.pow_le_pow_right (by decide) (by omega)
    rw [Nat.pow_succ] at hp8
    have e8' : (256 : Nat) ^ 8 = 18446744073709551616 := by decide
    simp only [intN_eq, Int.toNat_natCast, byteI_eq]
    rw [addI_one (by omega), take_snoc (by omega), valL_snoc, List.length_take, Nat.min_eq_left (by omega), e8, wrapI_u64, Nat.mod_eq_of_lt (a := (s[k]).toNat) (by omega), shlI_u64]
    have h3 : (s[k]).toNat * 2 ^ (8 * k) + 256 ^ k ≤ 18446744073709551616 := by
      have := Nat.mul_le_mul_right (256 ^ k) (show (s[k]).toNat + 1 ≤ 256 by omega)
      rw [Nat.add_mul] at this
      rw [← hp]
      omega
    have h4 : 0 < (256 : Nat) ^ k := Nat.pow_pos (by decide)
    rw [Nat.mod_eq_of_lt (by omega), orI_u64 _ _ (by omega) (by omega), or_add' (by rw [← hp]; exact h1), hp]
    congr 3
    omega
  · simp at h
    have : k = min s.length 8 := by omega
    subst this
    have e : s.take (min s.length 8) = s.take 8 := by
      by_cases h8 : s.length ≤ 8
      · rw [Nat.min_eq_left h8, List.take_length, List.take_of_length_le h8]
      · rw [Nat.min_eq_right (by omega)]
    rw [e, valL_take8]
    exact ⟨rfl, hK⟩

end Go.Proofs.YthpodgkmghgenaaDoor
