/-
  A part of the proof: OB.
-/
import Derived.Test.YtgecpbplbkpdlaaSxOA
namespace Go.Proofs.Ytgecpbplbkpdlaa
open Go Go.Sx Go.Oct
set_option linter.unusedVariables false

theorem take_snoc {l : List UInt8} {k : Nat} (h : k < l.length) : l.take (k + 1) = l.take k ++ [l[k]] := List.take_succ_eq_append_getElem h

theorem o_ReadBig (w : World) (s : List UInt8) (hs : s.length < 4611686018427387904) : Calls Try.prog 76 #[.string (bs s)] w (Ret w (.int .u64 (readB s))) := by
  refine calls_ret (F76_calls _ _ _ ?_)
  refine ⟨fun n vs w1 => ∃ k : Nat, vs = [.int .u64 (readB (s.take k)), .int .i64 k] ∧ k + n = s.length ∧ Keep [] w w1, ⟨s.length, 0, by simp [readB, valL], by omega, Keep.refl _ _⟩, ?_⟩
  rintro n vs w1 ⟨k, rfl, hk, hK⟩
  refine ⟨_, _, rfl, fun _ => SplitK.of (fun h => ?_) (fun h => ?_)⟩
  · simp [sizeS_bs] at h
    refine ⟨by decide, by omega, byteAt (by simp; omega) ⟨n - 1, by omega, k + 1, ?_, by omega, hK⟩⟩
    have hb := (s[k]'(by omega)).toNat_lt
    have h1 := readB_lt (s.take k)
    rw [addI_one (by omega), take_snoc (by omega), readB_snoc]
    have e1 : shlI .u64 (readB (s.take k) : Int) 8 = ((readB (s.take k) * 2 ^ 8 % 18446744073709551616 : Nat) : Int) := shlI_u64 _ 8
    simp only [intN_eq, Int.toNat_natCast, byteI_eq]
    rw [e1, wrapI_u64, Nat.mod_eq_of_lt (a := (s[k]).toNat) (by omega), orI_u64 _ _ (Nat.mod_lt _ (by decide)) (by omega)]
    have e2 : readB (s.take k) * 2 ^ 8 % 18446744073709551616 = (readB (s.take k) % 72057594037927936) * 2 ^ 8 := by omega
    rw [e2, or_add (by omega)]
    congr 3
    omega
  · simp [sizeS_bs] at h
    have : k = s.length := by omega
    subst this
    rw [List.take_length]
    exact ⟨rfl, hK⟩

theorem valL_snoc (s : List UInt8) (b : UInt8) : valL (s ++ [b]) = valL s + b.toNat * 256 ^ s.length := by rw [valL_append]; simp [valL, Nat.mul_comm]

theorem x_Big (w : World) (n : Nat) (k : Int) (hn : n < 18446744073709551616) : Calls Try.prog 33 #[.int .u64 n, .int .i64 k] w (Ret w (.string (bs (bigL n (many k))))) := by
  refine calls_ret (F33_calls _ _ _ _ ?_)
  have h8 := many_le k
  refine ⟨fun n' vs w1 => ∃ i : Nat, vs = [.int .u64 (n / 256 ^ i : Nat), .string (bs (bigL n i)), .int .i64 i] ∧ i + n' = many k ∧ Keep [] w w1, ⟨many k, 0, by simp [bigL, lowL], by omega, Keep.refl _ _⟩, ?_⟩
  rintro n' vs w1 ⟨i, rfl, hi, hK⟩
  refine ⟨_, _, _, rfl, fun _ => ?_⟩
  have hd : n / 256 ^ i ≤ n := Nat.div_le_self _ _
  intro K hKK
  have go : ∀ b, b = decide (i < many k) → K [.bool b] w1 := by
    intro b hb
    refine hKK b w1 fun _ => SplitK.of (fun h => ?_) (fun h => ?_)
    · subst hb
      simp at h
      have er : remI ((n / 256 ^ i : Nat) : Int) 256 = ((n / 256 ^ i % 256 : Nat) : Int) := remI_nat _ 256
      have eq : quoI .u64 ((n / 256 ^ i : Nat) : Int) 256 = ((n / 256 ^ i / 256 : Nat) : Int) := quoI_u64 _ 256 (by omega)
      refine ⟨by decide, (Mem.start w1).newK fun b1 w2 M => ?_⟩
      rw [er, eq, wrapI_u8, Nat.mod_mod, byteV_ofNat] at *
      refine ⟨[UInt8.ofNat (n / 256 ^ i)], M.bytes 0 rfl rfl, by simp [sizeS_bs]; omega, by decide, n' - 1, by omega, i + 1, ?_, by omega, hK.trans0 M.keep⟩
      rw [addI_one (by omega), catS_bs, bigL_succ, Nat.pow_succ, Nat.div_div_eq_div_mul]
      rfl
    · subst hb
      simp at h
      have : i = many k := by omega
      subst this
      exact ⟨rfl, hK⟩
  refine SplitK.of (fun h => ?_) (fun h => ?_)
  · refine go _ ?_
    simp at h
    rw [Bool.eq_iff_iff]
    simp
    unfold many
    omega
  · refine go _ ?_
    simp at h
    symm
    simp
    unfold many
    omega

theorem x_ReadBig (w : World) (s : List UInt8) (hs : s.length < 4611686018427387904) : Calls Try.prog 40 #[.string (bs s)] w (Ret w (.int .u64 (readB s))) := by
  refine calls_ret (F40_calls _ _ _ ?_)
  refine ⟨fun n vs w1 => ∃ k : Nat, vs = [.int .u64 (readB (s.take k)), .int .i64 k] ∧ k + n = s.length ∧ Keep [] w w1, ⟨s.length, 0, by simp [readB, valL], by omega, Keep.refl _ _⟩, ?_⟩
  rintro n vs w1 ⟨k, rfl, hk, hK⟩
  refine ⟨_, _, rfl, fun _ => SplitK.of (fun h => ?_) (fun h => ?_)⟩
  · simp [sizeS_bs] at h
    refine ⟨by omega, byteAt (by simp; omega) ⟨n - 1, by omega, k + 1, ?_, by omega, hK⟩⟩
    have hb := (s[k]'(by omega)).toNat_lt
    have e1 : mulI .u64 (readB (s.take k) : Int) 256 = ((readB (s.take k) * 256 % 18446744073709551616 : Nat) : Int) := mulI_u64 _ 256
    simp only [intN_eq, Int.toNat_natCast, byteI_eq]
    rw [addI_one (by omega), take_snoc (by omega), readB_snoc, e1, wrapI_u64, addI_u64]
    congr 3
    omega
  · simp [sizeS_bs] at h
    have : k = s.length := by omega
    subst this
    rw [List.take_length]
    exact ⟨rfl, hK⟩

end Go.Proofs.Ytgecpbplbkpdlaa
