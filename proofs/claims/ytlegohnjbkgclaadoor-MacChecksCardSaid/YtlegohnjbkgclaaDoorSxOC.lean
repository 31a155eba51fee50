/-
  A part of the proof: OC.
-/
import Derived.Test.YtlegohnjbkgclaaDoorSxOB
namespace Go.Proofs.YtlegohnjbkgclaaDoor
open Go Go.Sx Go.Oct
set_option linter.unusedVariables false

theorem min_len (a b : List UInt8) : minI (natI (sizeS (bs a))) (natI (sizeS (bs b))) = ((min a.length b.length : Nat) : Int) := by
  rw [sizeS_bs, sizeS_bs]; exact minI_nat _ _

theorem o_Xor (w : World) (a b : List UInt8) (ha : a.length ≤ 1000000) : Calls Tryd.prog 79 #[.string (bs a), .string (bs b)] w (Ret w (.string (bs (xorL a b)))) := by
  refine calls_ret (F79_calls _ _ _ _ ?_)
  unfold F79
  rw [min_len]
  generalize hN : min a.length b.length = N
  refine ⟨by omega, by omega, by omega, by omega, ?_⟩
  intro b0 w1 hb hw
  subst hb hw
  have M := (Mem.start w).alloc (.cells (zerosL [Value.int .u8 0] N).toArray 5 (0, 0))
  generalize w.heap.size = b0 at M
  have hz : zerosL [Value.int .u8 0] N = byteVs ((xorL a b).take 0) ++ List.replicate N (byteV 0) := by simp [zerosL, byteVs, byteV]
  simp only [Int.toNat_natCast]
  rw [hz] at M ⊢
  generalize hw1 : World.alloc w _ = w1 at M ⊢
  refine ⟨fun n vs w2 => ∃ k : Nat, vs = [.int .i64 k] ∧ k + n = N ∧ Mem w [] [(b0, .cells (byteVs ((xorL a b).take k) ++ List.replicate n (byteV 0)).toArray 5 (0, 0))] (fun _ => True) w2, ⟨N, 0, rfl, by omega, M⟩, ?_⟩
  rintro n vs w2 ⟨k, rfl, hk, M⟩
  refine ⟨_, rfl, fun _ => SplitK.of (fun h => ?_) (fun h => ?_)⟩
  · simp at h
    rintro w3 rfl
    have hx : k < (xorL a b).length := by simp; omega
    refine ⟨by omega, byteAt (by simp; omega) ⟨by omega, byteAt (by simp; omega) ⟨by omega, by simpa using h, ?_⟩⟩⟩
    rw [byteI_eq, byteI_eq, xorI_u8]
    rw [addA_int, addr_add, Nat.zero_add]
    have hl : (byteVs ((xorL a b).take k)).length = k := by simp [byteVs]; omega
    refine M.drew.stK 0 rfl (by simp [hl]; omega) rfl fun w4 M4 => ?_
    refine ⟨n - 1, by omega, k + 1, by rw [addI_one (by omega)], by omega, ?_⟩
    obtain ⟨n, rfl⟩ : ∃ m, n = m + 1 := ⟨n - 1, by omega⟩
    have := spliceL_mid [byteV (xorL a b)[k]] (byteVs ((xorL a b).take k)) (List.replicate (n + 1) (byteV 0)) (by simp)
    rw [hl] at this
    rw [take_snoc hx]
    have e2 : Value.int .u8 (((a[k]'(by omega)) ^^^ (b[k]'(by omega))).toNat : Int) = byteV (xorL a b)[k] := by rw [xorL_get hx (by omega) (by omega)]; rfl
    simp only [intN_eq, Int.toNat_natCast, e2, this, List.set_cons_zero] at M4
    have e3 : byteVs ((xorL a b).take k ++ [(xorL a b)[k]]) ++ List.replicate (n + 1 - 1) (byteV 0) = byteVs ((xorL a b).take k) ++ [byteV (xorL a b)[k]] ++ (List.replicate (n + 1) (byteV 0)).drop [byteV (xorL a b)[k]].length := by
      simp only [byteVs, List.map_append]; rfl
    rw [e3]
    exact M4
  · simp at h
    have : k = N := by omega
    subst this
    have hn : n = 0 := by omega
    subst hn
    have hx : (xorL a b).take k = xorL a b := List.take_of_length_le (by simp; omega)
    rw [hx] at M
    refine ⟨xorL a b, ?_, rfl, M.keep⟩
    refine M.bytes 0 (T := 5) (fr := (0, 0)) (by simp) (by simp; omega)

/-- Which bytes differ so far. -/
def oddL (a b : List UInt8) : UInt8 := (xorL a b).foldl (· ||| ·) 0
theorem oddL_zero {a b : List UInt8} (h : a.length = b.length) : oddL a b = 0 ↔ a = b := by
  unfold oddL
  have gen : ∀ (l : List UInt8) (x : UInt8), l.foldl (· ||| ·) x = 0 ↔ x = 0 ∧ ∀ y ∈ l, y = 0 := by
    intro l
    induction l with
    | nil => simp
    | cons y r ih =>
      intro x
      simp only [List.foldl_cons, ih, List.mem_cons, forall_eq_or_imp]
      have : x ||| y = 0 ↔ x = 0 ∧ y = 0 := by
        constructor
        · intro h
          have := congrArg UInt8.toNat h
          rw [UInt8.toNat_or] at this
          have h2 : x.toNat ||| y.toNat = 0 := this
          have h3 := Nat.or_eq_zero_iff.1 h2
          exact ⟨UInt8.toNat_inj.1 h3.1, UInt8.toNat_inj.1 h3.2⟩
        · rintro ⟨rfl, rfl⟩; rfl
      rw [this, and_assoc]
  rw [gen]
  simp only [true_and]
  induction a generalizing b with
  | nil => cases b with | nil => simp [xorL] | cons _ _ => simp at h
  | cons x r ih =>
    cases b with
    | nil => simp at h
    | cons y s =>
      have ih := ih (b := s) (by simpa using h)
      simp only [xorL] at ih
      simp only [xorL, List.zipWith_cons_cons, List.mem_cons, forall_eq_or_imp, List.cons.injEq, ih]
      rw [UInt8.xor_eq_zero_iff]
theorem oddL_snoc (a b : List UInt8) (x y : UInt8) (h : a.length = b.length) : oddL (a ++ [x]) (b ++ [y]) = oddL a b ||| (x ^^^ y) := by
  unfold oddL xorL
  rw [List.zipWith_append h]
  simp

theorem o_Equal (w : World) (a b : List UInt8) (ha : a.length ≤ 1000000) : Calls Tryd.prog 52 #[.string (bs a), .string (bs b)] w (Ret w (.bool (decide (a = b)))) := by
  refine calls_ret (F52_calls _ _ _ _ ?_)
  refine SplitK.of (fun h => ?_) (fun h => ?_)
  · simp at h
    refine ⟨?_, Keep.refl _ _⟩
    have : a ≠ b := fun e => h (by rw [e])
    simp [this]
  · simp at h
    have hl : a.length = b.length := by omega
    refine ⟨fun n vs w2 => ∃ k : Nat, vs = [.int .u8 (oddL (a.take k) (b.take k)).toNat, .int .i64 k] ∧ k + n = a.length ∧ Keep [] w w2, ⟨a.length, 0, by simp [oddL, xorL], by omega, Keep.refl _ _⟩, ?_⟩
    rintro n vs w2 ⟨k, rfl, hk, hK⟩
    refine ⟨_, _, rfl, fun _ => SplitK.of (fun h => ?_) (fun h => ?_)⟩
    · simp at h
      rintro w3 rfl
      refine ⟨by omega, byteAt (by simp; omega) ⟨by omega, byteAt (by simp; omega) ⟨n - 1, by omega, k + 1, ?_, by omega, hK.drew⟩⟩⟩
      rw [addI_one (by omega), byteI_eq, byteI_eq, xorI_u8, orI_u8 _ _ (UInt8.toNat_lt _) (UInt8.toNat_lt _)]
      rw [take_snoc (l := a) (k := k) (by omega), take_snoc (l := b) (k := k) (by omega), oddL_snoc _ _ _ _ (by simp; omega), UInt8.toNat_or]
      rfl
    · simp at h
      have : k = a.length := by omega
      subst this
      refine ⟨?_, hK⟩
      rw [List.take_length, List.take_of_length_le (by omega)]
      congr 1
      rw [Bool.eq_iff_iff]
      simp only [eqI_t, decide_eq_true_eq]
      rw [← oddL_zero hl]
      constructor
      · intro h
        have h1 : (oddL a b).toNat = 0 := by omega
        exact UInt8.toNat_inj.1 h1
      · intro h; rw [h]; rfl

theorem rot_eq {x k : Nat} (hx : x < 4294967296) (hk : k < 32) : (x * 2 ^ k % 4294967296) ||| (x / 2 ^ (32 - k)) = rolN k x := by
  rw [rolN_eq hx k (by omega), rolC]
  have h1 : x / 2 ^ (32 - k) < 2 ^ k := by
    rw [Nat.div_lt_iff_lt_mul (Nat.pow_pos (by decide)), ← Nat.pow_add, show k + (32 - k) = 32 from by omega]
    exact hx
  have h2 : x * 2 ^ k % 4294967296 = (x % 2 ^ (32 - k)) * 2 ^ k := by
    rw [show (4294967296 : Nat) = 2 ^ (32 - k) * 2 ^ k from by rw [← Nat.pow_add, show 32 - k + k = 32 from by omega], Nat.mul_mod_mul_right]
  rw [h2, or_add h1]

theorem o_Rot (w : World) (x : Nat) (n : Int) (hx : x < 4294967296) : Calls Tryd.prog 78 #[.int .u32 x, .int .i64 n] w (Ret w (.int .u32 (rolI x n))) := by
  refine calls_ret (F78_calls _ _ _ _ ?_)
  unfold F78
  have e1 : andI .u64 (wrapI .u64 n) 31 = (((n % 32).toNat : Nat) : Int) := by
    rw [wrapI_u64i]
    obtain ⟨m, hm⟩ := Int.eq_ofNat_of_zero_le (show 0 ≤ n % 18446744073709551616 by omega)
    have hm' : m < 18446744073709551616 := by omega
    rw [hm]
    have := andI_u64 m 31 hm' (by decide)
    rw [show ((31 : Nat) : Int) = 31 from rfl] at this
    rw [this, Nat.and_two_pow_sub_one_eq_mod m 5]
    simp
    omega
  rw [e1]
  have hk : (n % 32).toNat < 32 := by omega
  unfold rolI
  generalize (n % 32).toNat = k at hk
  have e2 : subI .u64 32 (k : Int) = ((32 - k : Nat) : Int) := subI_u64 32 k (by omega) (by decide)
  rw [e2, shlI_u32, shrI_u32 _ _ hx, orI_u32 _ _ (Nat.mod_lt _ (by decide)) (Nat.lt_of_le_of_lt (Nat.div_le_self _ _) hx), rot_eq hx hk]
  exact ⟨by omega, by omega, rfl, Keep.refl _ _⟩

theorem x_Rol (w : World) (x : Nat) (n : Int) (hx : x < 4294967296) : Calls Tryd.prog 72 #[.int .u32 x, .int .i64 n] w (Ret w (.int .u32 (rolI x n))) := by
  refine calls_ret (F72_calls _ _ _ _ ?_)
  refine ⟨by decide, ?_⟩
  intro K hK
  have h0 := Int.mul_tdiv_add_tmod n 32
  have h1 : -32 < Int.tmod n 32 ∧ Int.tmod n 32 < 32 := by
    refine ⟨?_, Int.tmod_lt_of_pos n (by decide)⟩
    have := Int.lt_tmod_of_pos n (b := 32) (by decide)
    exact this
  have go : ∀ m : Int, m = ((n % 32).toNat : Nat) → K [.int .i64 m] w := by
    rintro m rfl
    refine hK _ _ fun _ => ?_
    have hk : (n % 32).toNat < 32 := by omega
    unfold rolI
    generalize (n % 32).toNat = k at hk
    refine ⟨fun n' vs w1 => ∃ i : Nat, vs = [.int .u32 (rolN i x), .int .i64 i] ∧ i + n' = k ∧ Keep [] w w1, ⟨k, 0, rfl, by omega, Keep.refl _ _⟩, ?_⟩
    rintro n' vs w1 ⟨i, rfl, hi, hK⟩
    refine ⟨_, _, rfl, fun _ => SplitK.of (fun h => ?_) (fun h => ?_)⟩
    · simp at h
      refine ⟨by decide, n' - 1, by omega, i + 1, ?_, by omega, hK⟩
      have hl := rolN_lt hx i
      have e1 : mulI .u32 (rolN i x : Int) 2 = ((rolN i x * 2 % 4294967296 : Nat) : Int) := mulI_u32 _ 2
      have e2 : quoI .u32 (rolN i x : Int) 2147483648 = ((rolN i x / 2147483648 : Nat) : Int) := quoI_u32 _ 2147483648 hl
      rw [addI_one (by omega), e1, e2, addI_u32, rolN, rol1]
      congr 3
      omega
    · simp at h
      have : i = k := by omega
      subst this
      exact ⟨rfl, hK⟩
  refine SplitK.of (fun h => ?_) (fun h => ?_)
  · simp only [ltI_t, remI] at h
    refine go _ ?_
    rw [remI, addI_i64 (by omega) (by omega)]
    omega
  · simp only [ltI_f, remI] at h
    refine go _ ?_
    rw [remI]
    omega

end Go.Proofs.YtlegohnjbkgclaaDoor
