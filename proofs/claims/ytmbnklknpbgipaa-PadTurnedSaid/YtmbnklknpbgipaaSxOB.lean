/-
  A part of the proof: OB.
-/
import Derived.Test.YtmbnklknpbgipaaSxOA
namespace Go.Proofs.Ytmbnklknpbgipaa
open Go Go.Sx Go.Oct
set_option linter.unusedVariables false

theorem take_snoc {l : List UInt8} {k : Nat} (h : k < l.length) : l.take (k + 1) = l.take k ++ [l[k]] := List.take_succ_eq_append_getElem h

theorem o_ReadBig (w : World) (s : List UInt8) (hs : s.length < 4611686018427387904) : Calls Try.prog 22 #[.string (bs s)] w (Ret w (.int .u64 (readB s))) := by
  refine calls_ret (F22_calls _ _ _ ?_)
  refine ⟨fun n vs w1 => ∃ k : Nat, vs = [.int .u64 (readB (s.take k)), .int .i64 k] ∧ k + n = s.length ∧ Keep [] w w1, ⟨s.length, 0, by simp [readB, valL], by omega, Keep.refl _ _⟩, ?_⟩
  rintro n vs w1 ⟨k, rfl, hk, hK⟩
  refine ⟨_, _, rfl, fun _ => SplitK.of (fun h => ?_) (fun h => ?_)⟩
  · simp [sizeS_bs] at h
    refine ⟨by decide, by omega, byteAt (by simp; omega) ⟨n - 1, by omega, k + 1, ?_, by omega, hK⟩⟩
    have hb := (s[k]'(by omega)).toNat_lt
    have h1 := readB_lt (s.take k)
    rw [addI_one (by omega), take_snoc (by omega), readB_snoc]
    have e1 : shlI .u64 (readB (s.take k) : Int) 8 = ((readB (s.take k) * 2 ^ 8 % 18446744073709551616 : Nat) : Int) := shlI_u64 _ 8
    simp only [intN_eq, Int.toNat_natCast, byteI_eq]
    rw [e1, wrapI_u64, Nat.mod_eq_of_lt (a := (s[k]).toNat) (by omega), orI_u64 _ _ (Nat.mod_lt _ (by decide)) (by omega)]
    have e2 : readB (s.take k) * 2 ^ 8 % 18446744073709551616 = (readB (s.take k) % 72057594037927936) * 2 ^ 8 := by omega
    rw [e2, or_add (by omega)]
    congr 3
    omega
  · simp [sizeS_bs] at h
    have : k = s.length := by omega
    subst this
    rw [List.take_length]
    exact ⟨rfl, hK⟩

theorem valL_snoc (s : List UInt8) (b : UInt8) : valL (s ++ [b]) = valL s + b.toNat * 256 ^ s.length := by rw [valL_append]; simp [valL, Nat.mul_comm]

theorem o_ReadLow (w : World) (s : List UInt8) (hs : s.length < 4611686018427387904) : Calls Try.prog 23 #[.string (bs s)] w (Ret w (.int .u64 (readL s))) := by
  refine calls_ret (F23_calls _ _ _ ?_)
  unfold F23
  have hm : minI (natI (sizeS (bs s))) 8 = ((min s.length 8 : Nat) : Int) := by rw [sizeS_bs, natI_eq]; exact minI_nat _ 8
  rw [hm]
  refine ⟨fun n vs w1 => ∃ k : Nat, vs = [.int .u64 (valL (s.take k)), .int .i64 k] ∧ k + n = min s.length 8 ∧ Keep [] w w1, ⟨min s.length 8, 0, by simp [valL], by omega, Keep.refl _ _⟩, ?_⟩
  rintro n vs w1 ⟨k, rfl, hk, hK⟩
  refine ⟨_, _, rfl, fun _ => SplitK.of (fun h => ?_) (fun h => ?_)⟩
  · simp at h
    have e8 : mulI .i64 8 (k : Int) = ((8 * k : Nat) : Int) := mulI_nat 8 k (by omega)
    refine ⟨by omega, byteAt (by simp; omega) ⟨by rw [e8]; omega, n - 1, by omega, k + 1, ?_, by omega, hK⟩⟩
    have hb := (s[k]'(by omega)).toNat_lt
    have h1 := valL_lt (s.take k)
    rw [List.length_take, Nat.min_eq_left (by omega)] at h1
    have hp : (256 : Nat) ^ k = 2 ^ (8 * k) := by rw [Nat.pow_mul]
    have hp8 : (256 : Nat) ^ (k + 1) ≤ 256 ^ 8 := Nat.pow_le_pow_right (by decide) (by omega)
    rw [Nat.pow_succ] at hp8
    have e8' : (256 : Nat) ^ 8 = 18446744073709551616 := by decide
    simp only [intN_eq, Int.toNat_natCast, byteI_eq]
    rw [addI_one (by omega), take_snoc (by omega), valL_snoc, List.length_take, Nat.min_eq_left (by omega), e8, wrapI_u64, Nat.mod_eq_of_lt (a := (s[k]).toNat) (by omega), shlI_u64]
    have h3 : (s[k]).toNat * 2 ^ (8 * k) + 256 ^ k ≤ 18446744073709551616 := by
      have := Nat.mul_le_mul_right (256 ^ k) (show (s[k]).toNat + 1 ≤ 256 by omega)
      rw [Nat.add_mul] at this
      rw [← hp]
      omega
    have h4 : 0 < (256 : Nat) ^ k := Nat.pow_pos (by decide)
    rw [Nat.mod_eq_of_lt (by omega), orI_u64 _ _ (by omega) (by omega), or_add' (by rw [← hp]; exact h1), hp]
    congr 3
    omega
  · simp at h
    have : k = min s.length 8 := by omega
    subst this
    have e : s.take (min s.length 8) = s.take 8 := by
      by_cases h8 : s.length ≤ 8
      · rw [Nat.min_eq_left h8, List.take_length, List.take_of_length_le h8]
      · rw [Nat.min_eq_right (by omega)]
    rw [e, valL_take8]
    exact ⟨rfl, hK⟩

theorem x_Big (w : World) (n : Nat) (k : Int) (hn : n < 18446744073709551616) : Calls Try.prog 16 #[.int .u64 n, .int .i64 k] w (Ret w (.string (bs (bigL n (many k))))) := by
  refine calls_ret (F16_calls _ _ _ _ ?_)
  have h8 := many_le k
  refine ⟨fun n' vs w1 => ∃ i : Nat, vs = [.int .u64 (n / 256 ^ i : Nat), .string (bs (bigL n i)), .int .i64 i] ∧ i + n' = many k ∧ Keep [] w w1, ⟨many k, 0, by simp [bigL, lowL], by omega, Keep.refl _ _⟩, ?_⟩
  rintro n' vs w1 ⟨i, rfl, hi, hK⟩
  refine ⟨_, _, _, rfl, fun _ => ?_⟩
  have hd : n / 256 ^ i ≤ n := Nat.div_le_self _ _
  intro K hKK
  have go : ∀ b, b = decide (i < many k) → K [.bool b] w1 := by
    intro b hb
    refine hKK b w1 fun _ => SplitK.of (fun h => ?_) (fun h => ?_)
    · subst hb
      simp at h
      have er : remI ((n / 256 ^ i : Nat) : Int) 256 = ((n / 256 ^ i % 256 : Nat) : Int) := remI_nat _ 256
      have eq : quoI .u64 ((n / 256 ^ i : Nat) : Int) 256 = ((n / 256 ^ i / 256 : Nat) : Int) := quoI_u64 _ 256 (by omega)
      refine ⟨by decide, (Mem.start w1).newK fun b1 w2 M => ?_⟩
      rw [er, eq, wrapI_u8, Nat.mod_mod, byteV_ofNat] at *
      refine ⟨[UInt8.ofNat (n / 256 ^ i)], M.bytes 0 rfl rfl, by simp [sizeS_bs]; omega, by decide, n' - 1, by omega, i + 1, ?_, by omega, hK.trans0 M.keep⟩
      rw [addI_one (by omega), catS_bs, bigL_succ, Nat.pow_succ, Nat.div_div_eq_div_mul]
      rfl
    · subst hb
      simp at h
      have : i = many k := by omega
      subst this
      exact ⟨rfl, hK⟩
  refine SplitK.of (fun h => ?_) (fun h => ?_)
  · refine go _ ?_
    simp at h
    rw [Bool.eq_iff_iff]
    simp
    unfold many
    omega
  · refine go _ ?_
    simp at h
    symm
    simp
    unfold many
    omega

theorem x_Back (w : World) (s : List UInt8) (hs : s.length < 4611686018427387904) : Calls Try.prog 47 #[.string (bs s)] w (Ret w (.string (bs s.reverse))) := by
  refine calls_ret (F47_calls _ _ _ ?_)
  refine ⟨fun n vs w1 => ∃ k : Nat, vs = [.string (bs (s.take k).reverse), .int .i64 k] ∧ k + n = s.length ∧ Keep [] w w1, ⟨s.length, 0, by simp, by omega, Keep.refl _ _⟩, ?_⟩
  rintro n vs w1 ⟨k, rfl, hk, hK⟩
  refine ⟨_, _, rfl, fun _ => SplitK.of (fun h => ?_) (fun h => ?_)⟩
  · simp [sizeS_bs] at h
    refine ⟨by omega, byteAt (by simp; omega) ?_⟩
    refine (Mem.start w1).newK fun b1 w2 M => ?_
    refine ⟨[s[k]], M.bytes (T := 5) (fr := (0, 0)) 0 rfl rfl, by simp [sizeS_bs]; omega, n - 1, by omega, k + 1, ?_, by omega, hK.trans0 M.keep⟩
    rw [addI_one (by omega), catS_bs, take_snoc (by omega), List.reverse_append]
    rfl
  · simp [sizeS_bs] at h
    have : k = s.length := by omega
    subst this
    rw [List.take_length]
    exact ⟨rfl, hK⟩

theorem x_Low (w : World) (n : Nat) (k : Int) (hn : n < 18446744073709551616) : Calls Try.prog 17 #[.int .u64 n, .int .i64 k] w (Ret w (.string (bs (lowL n (many k))))) := by
  refine calls_ret (F17_calls _ _ _ _ ?_)
  have h8 := many_le k
  refine CallK.ret (x_Big w n k hn) fun w1 h1 => ⟨_, rfl, ?_⟩
  refine CallK.ret (x_Back w1 _ (by simp; omega)) fun w2 h2 => ⟨_, rfl, ?_, h1.trans0 h2⟩
  simp [bigL]

theorem x_ReadBig (w : World) (s : List UInt8) (hs : s.length < 4611686018427387904) : Calls Try.prog 18 #[.string (bs s)] w (Ret w (.int .u64 (readB s))) := by
  refine calls_ret (F18_calls _ _ _ ?_)
  refine ⟨fun n vs w1 => ∃ k : Nat, vs = [.int .u64 (readB (s.take k)), .int .i64 k] ∧ k + n = s.length ∧ Keep [] w w1, ⟨s.length, 0, by simp [readB, valL], by omega, Keep.refl _ _⟩, ?_⟩
  rintro n vs w1 ⟨k, rfl, hk, hK⟩
  refine ⟨_, _, rfl, fun _ => SplitK.of (fun h => ?_) (fun h => ?_)⟩
  · simp [sizeS_bs] at h
    refine ⟨by omega, byteAt (by simp; omega) ⟨n - 1, by omega, k + 1, ?_, by omega, hK⟩⟩
    have hb := (s[k]'(by omega)).toNat_lt
    have e1 : mulI .u64 (readB (s.take k) : Int) 256 = ((readB (s.take k) * 256 % 18446744073709551616 : Nat) : Int) := mulI_u64 _ 256
    simp only [intN_eq, Int.toNat_natCast, byteI_eq]
    rw [addI_one (by omega), take_snoc (by omega), readB_snoc, e1, wrapI_u64, addI_u64]
    congr 3
    omega
  · simp [sizeS_bs] at h
    have : k = s.length := by omega
    subst this
    rw [List.take_length]
    exact ⟨rfl, hK⟩

theorem x_ReadLow (w : World) (s : List UInt8) (hs : s.length < 4611686018427387904) : Calls Try.prog 19 #[.string (bs s)] w (Ret w (.int .u64 (readL s))) := by
  refine calls_ret (F19_calls _ _ _ ?_)
  refine CallK.ret (x_Back w s hs) fun w1 h1 => ⟨_, rfl, ?_⟩
  refine CallK.ret (x_ReadBig w1 _ (by simpa using hs)) fun w2 h2 => ⟨_, rfl, ?_, h1.trans0 h2⟩
  rw [readB_rev]

end Go.Proofs.Ytmbnklknpbgipaa
