/-
  A part of the proof: PB.
-/
import Derived.Test.YtmbnklknpbgipaaSxPA
namespace Go.Proofs.Ytmbnklknpbgipaa
open Go Go.Sx Go.Oct
set_option linter.unusedVariables false

theorem sizes_cells : (List.toArray [Value.int .i64 32, .int .i64 64, .int .i64 128, .int .i64 256, .int .i64 512, .int .i64 1024, .int .i64 2048, .int .i64 4096]) = ((sizesL 8).map i64V).toArray := by simp [sizesL, List.range_succ, sizeAt, i64V]

theorem x_Sizes (w : World) : Calls Try.prog 44 #[] w (RetV w ((sizesL 8).map i64V)) := by
  refine calls_retV (F44_calls _ _ ?_)
  unfold F44
  rw [sizes_cells]
  refine (Mem.start w).newK fun b w1 M => ?_
  have ho : OwnM [(b, .cells ((sizesL 8).map i64V ++ []).toArray 3 (0, 0))] 3 (some ⟨b, 0, none⟩) 8 8 ((sizesL 8).map i64V) := .inr ⟨b, [], rfl, rfl, by decide, by decide, by decide⟩
  refine ⟨_, _, _, rfl, ?_, M.keep⟩
  refine OwnM.freshV (m := []) (F := fun _ => True) ho ?_
  simpa using M

theorem sizesL_get {k : Nat} (hk : k < ((sizesL 8).map i64V).length) : ((sizesL 8).map i64V)[k] = .int .i64 ((sizeAt k : Nat) : Int) := by
  simp [sizesL, i64V]

theorem x_Bucket (w : World) (n : Int) (hn : -9223372036854775808 ≤ n ∧ n ≤ 9223372036854775807) : Calls Try.prog 37 #[.int .i64 n] w (Ret w (.int .i64 (bucket n : Nat))) := by
  refine calls_ret (F37_calls _ _ _ ?_)
  refine CallK.retV (x_Sizes w) fun a l c w1 hf k1 => ⟨a, l, c, rfl, ?_⟩
  have hl := hf.now.1
  have h8 : ((sizesL 8).map i64V).length = 8 := by decide
  rw [h8] at hl
  subst hl
  refine ⟨fun n' vs w2 => ∃ k : Nat, vs = [.int .i64 k] ∧ k + n' = 8 ∧ (∀ j, j < k → ¬ (0 ≤ n ∧ n ≤ (sizeAt j : Int) - 2)) ∧ Keep [] w1 w2, ⟨8, 0, rfl, rfl, fun j hj => by omega, Keep.refl _ _⟩, ?_⟩
  rintro n' vs w2 ⟨k, rfl, hk, hno, k2⟩
  refine ⟨_, rfl, fun _ => SplitK.of (fun h => ?_) (fun h => ?_)⟩
  · simp at h
    have h : k < 8 := by omega
    obtain ⟨p, hp, hpc⟩ := (hf.now.keep0 k2).get (k := k) (by rw [h8]; exact h)
    rw [sizesL_get] at hpc
    have hge := sizeAt_ge k
    have hle := sizeAt_le h
    intro K hK
    have go : ∀ b, b = decide (0 ≤ n ∧ n ≤ (sizeAt k : Int) - 2) → K [.bool b] w2 := by
      rintro b rfl
      refine hK _ _ fun _ => SplitK.of (fun hh => ?_) (fun hh => ?_)
      · simp only [decide_eq_true_eq] at hh
        refine ⟨by omega, by simp; omega, SomeK.of p hp ⟨_, by rw [addA_int]; exact hpc, ?_, k1.trans0 k2⟩⟩
        rw [bucket_at h hno hh]
      · simp only [decide_eq_false_iff_not] at hh
        refine ⟨n' - 1, by omega, k + 1, by rw [addI_one (by omega)], by omega, fun j hj => ?_, k2⟩
        by_cases hji : j = k
        · subst hji; exact hh
        · exact hno j (by omega)
    refine SplitK.of (fun hh => ⟨by omega, by simp; omega, SomeK.of p hp ⟨_, by rw [addA_int]; exact hpc, go _ ?_⟩⟩) (fun hh => go _ ?_)
    · simp only [leI_t] at hh
      rw [Bool.eq_iff_iff, subI_i64 (by omega) (by omega)]
      simp only [leI_t, decide_eq_true_eq]
      omega
    · simp only [leI_f] at hh
      symm
      simp
      omega
  · simp at h
    refine ⟨?_, k1.trans0 k2⟩
    rw [bucket_none (fun i hi => hno i (by omega))]
    rfl

/-! ### What is padded -/
def padE (s : List UInt8) : Int := if bucket (s.length : Int) = 0 then 4 else 0
def padS (s : List UInt8) : List UInt8 := if bucket (s.length : Int) = 0 then [] else bigL s.length 2 ++ s ++ zerosB (bucket (s.length : Int) - (s.length + 2))
def unT (p : List UInt8) : List UInt8 := (p.take (readB (p.take 2) + 2)).drop 2
def unOk (p : List UInt8) : Bool := decide (2 ≤ p.length ∧ readB (p.take 2) + 2 ≤ p.length ∧ padE (unT p) = 0 ∧ padS (unT p) = p)
def unE (p : List UInt8) : Int := if unOk p then 0 else 5
def unS (p : List UInt8) : List UInt8 := if unOk p then unT p else []

theorem bucket_ge {n : Int} (h : bucket n ≠ 0) : ∃ i, i < 8 ∧ bucket n = sizeAt i ∧ 0 ≤ n ∧ n ≤ (sizeAt i : Int) - 2 ∧ ∀ j, j < i → ¬ (0 ≤ n ∧ n ≤ (sizeAt j : Int) - 2) := by
  unfold bucket at h ⊢
  cases hf : (List.range 8).find? (fun i => decide (0 ≤ n ∧ n ≤ (sizeAt i : Int) - 2)) with
  | none => rw [hf] at h; exact absurd rfl h
  | some i =>
    rw [List.find?_range_eq_some] at hf
    have h1 := hf.1
    simp only [decide_eq_true_eq] at h1
    refine ⟨i, by simpa using hf.2.1, rfl, h1.1, h1.2, fun j hj => ?_⟩
    have := hf.2.2 j hj
    rw [Bool.not_eq_true', decide_eq_false_iff_not] at this
    exact this
theorem bucket_len {s : List UInt8} (h : bucket (s.length : Int) ≠ 0) : s.length + 2 ≤ bucket (s.length : Int) ∧ bucket (s.length : Int) ≤ 4096 := by
  obtain ⟨i, hi, hb, h1, h2, _⟩ := bucket_ge h
  have := sizeAt_le hi
  omega
theorem padS_length {s : List UInt8} (h : bucket (s.length : Int) ≠ 0) : (padS s).length = bucket (s.length : Int) := by
  have := bucket_len h
  simp [padS, h, zerosB]
  omega
theorem fillN_sub {a n : Nat} (h1 : 0 < a) (h2 : a ≤ n) : fillN a n = n - a := by
  unfold fillN
  by_cases h : a = n
  · subst h; simp
  · rw [Nat.mod_eq_of_lt (show a < n by omega), Nat.mod_eq_of_lt (show n - a < n by omega)]

theorem p_Pad (w : World) (s : List UInt8) : Calls Try.prog 38 #[.string (bs s)] w (Ret w (.tuple #[.string (bs (padS s)), .int .i64 (padE s)])) := by
  refine calls_ret (F38_calls _ _ _ ?_)
  unfold F38
  have hl : natI (sizeS (bs s)) = (s.length : Int) := by rw [sizeS_bs]; rfl
  rw [hl]
  refine CallK.ret (p_Bucket w _) fun w1 k1 => ⟨_, rfl, SplitK.of (fun h => ?_) (fun h => ?_)⟩
  · simp at h
    refine ⟨?_, k1⟩
    simp [padS, padE, h]
  · simp at h
    have hb := bucket_len h
    rw [wrapI_u64, Nat.mod_eq_of_lt (by omega)]
    refine CallK.ret (o_Big w1 s.length 2 (by omega)) fun w2 k2 => ⟨_, rfl, ?_⟩
    have hm : many 2 = 2 := rfl
    rw [hm]
    refine ⟨by simp; omega, ?_⟩
    rw [catS_bs]
    refine CallK.ret (o_Fill w2 _ _ (by simp; omega) (by omega)) fun w3 k3 => ⟨_, rfl, ?_, (k1.trans0 k2).trans0 k3⟩
    rw [fillL, if_neg (by omega)]
    simp only [Int.toNat_natCast, List.length_append, bigL_length]
    rw [fillN_sub (by omega) (by omega), Nat.add_comm 2]
    simp [padS, padE, h]

theorem x_Pad (w : World) (s : List UInt8) (hs : s.length < 4611686018427387904) : Calls Try.prog 39 #[.string (bs s)] w (Ret w (.tuple #[.string (bs (padS s)), .int .i64 (padE s)])) := by
  refine calls_ret (F39_calls _ _ _ ?_)
  unfold F39
  have hl : natI (sizeS (bs s)) = (s.length : Int) := by rw [sizeS_bs]; rfl
  rw [hl]
  refine CallK.ret (x_Bucket w _ (by omega)) fun w1 k1 => ⟨_, rfl, SplitK.of (fun h => ?_) (fun h => ?_)⟩
  · simp at h
    refine ⟨?_, k1⟩
    simp [padS, padE, h]
  · simp at h
    have hb := bucket_len h
    rw [wrapI_u64, Nat.mod_eq_of_lt (by omega)]
    refine CallK.ret (x_Big w1 s.length 2 (by omega)) fun w2 k2 => ⟨_, rfl, ?_⟩
    have hm : many 2 = 2 := rfl
    rw [hm]
    refine ⟨by simp; omega, ?_⟩
    rw [catS_bs]
    refine ⟨fun n' vs w3 => ∃ k : Nat, vs = [.string (bs (bigL s.length 2 ++ s ++ zerosB k))] ∧ k + n' = bucket (s.length : Int) - (s.length + 2) ∧ Keep [] w w3, ⟨_, 0, by simp [zerosB], Nat.zero_add _, k1.trans0 k2⟩, ?_⟩
    rintro n' vs w3 ⟨k, rfl, hk, k3⟩
    have hlen : natI (sizeS (bs (bigL s.length 2 ++ s ++ zerosB k))) = ((s.length + 2 + k : Nat) : Int) := by rw [sizeS_bs]; simp [zerosB]; omega
    refine ⟨_, rfl, fun _ => SplitK.of (fun hh => ?_) (fun hh => ?_)⟩
    · rw [hlen] at hh
      simp only [ltI_t] at hh
      refine (Mem.start w3).newK fun b1 w4 M => ⟨[0], M.bytes 0 (T := 5) (fr := (0, 0)) rfl rfl, ?_⟩
      refine ⟨by simp [zerosB]; omega, n' - 1, by omega, k + 1, ?_, by omega, k3.trans0 M.keep⟩
      rw [catS_bs]
      simp [zerosB, List.replicate_succ']
    · rw [hlen] at hh
      simp only [ltI_f] at hh
      have : k = bucket (s.length : Int) - (s.length + 2) := by omega
      subst this
      refine ⟨?_, k3⟩
      simp [padS, padE, h]

theorem readB_two {p : List UInt8} : readB (p.take 2) < 65536 := by
  unfold readB
  have h1 := valL_lt (p.take 2).reverse
  have h2 : (256 : Nat) ^ (p.take 2).reverse.length ≤ 256 ^ 2 := Nat.pow_le_pow_right (by decide) (by simp; omega)
  omega

theorem unpad_gen {P : Program} {fR fP : FuncId} {p : List UInt8} {w : World} {R : Value → World → Prop}
    (hR : ∀ w (s : List UInt8), s.length < 4611686018427387904 → Calls P fR #[.string (bs s)] w (Ret w (.int .u64 (readB s))))
    (hP : ∀ w (s : List UInt8), s.length < 4611686018427387904 → Calls P fP #[.string (bs s)] w (Ret w (.tuple #[.string (bs (padS s)), .int .i64 (padE s)])))
    (h : ∀ w', Keep [] w w' → R (.tuple (List.toArray [.string (bs (unS p)), .int .i64 (unE p)])) w') :
    SplitK (ltI (natI (sizeS (bs p))) 2) (R (.tuple (List.toArray [.string (ByteArray.mk (List.toArray [])), .int .i64 5])) w)
      ((0 : Int) ≤ 2 ∧ (2 : Int) ≤ natI (sizeS (bs p)) ∧ CallK P fR #[.string (cutS (bs p) 0 (intN 2))] w fun e w1 => ∃ n : Int, e = .returned (.int .u64 n) ∧
        SplitK (ltI (natI (sizeS (bs p))) (addI .i64 (wrapI .i64 n) 2)) (R (.tuple (List.toArray [.string (ByteArray.mk (List.toArray [])), .int .i64 5])) w1)
          (0 ≤ addI .i64 (wrapI .i64 n) 2 ∧ addI .i64 (wrapI .i64 n) 2 ≤ natI (sizeS (bs p)) ∧ (0 : Int) ≤ 2 ∧ 2 ≤ natI (intN (addI .i64 (wrapI .i64 n) 2)) ∧
            CallK P fP #[.string (cutS (bs p) (intN 2) (intN (addI .i64 (wrapI .i64 n) 2)))] w1 fun e1 w2 => ∃ (s : ByteArray) (n1 : Int), e1 = .returned (.tuple (List.toArray [.string s, .int .i64 n1])) ∧
              ∀ K : List Value → World → Prop, (∀ (b : Bool) (w3 : World), ((Nat → Value) → SplitK b (R (.tuple (List.toArray [.string (ByteArray.mk (List.toArray [])), .int .i64 5])) w3)
                (0 ≤ addI .i64 (wrapI .i64 n) 2 ∧ addI .i64 (wrapI .i64 n) 2 ≤ natI (sizeS (bs p)) ∧ (0 : Int) ≤ 2 ∧ 2 ≤ natI (intN (addI .i64 (wrapI .i64 n) 2)) ∧
                  R (.tuple (List.toArray [.string (cutS (bs p) (intN 2) (intN (addI .i64 (wrapI .i64 n) 2))), .int .i64 0])) w3)) → K [.bool b] w3) →
                SplitK (notB (eqI n1 0)) (K [.bool true] w2) (K [.bool (notB (eqS s (bs p)))] w2))) := by
  have bad : unOk p = false → ∀ w', Keep [] w w' → R (.tuple (List.toArray [.string (ByteArray.mk (List.toArray [])), .int .i64 5])) w' := by
    intro hf w' hk
    have := h w' hk
    simpa [unS, unE, hf] using this
  refine SplitK.of (fun hl => ?_) (fun hl => ?_)
  · simp at hl
    refine bad ?_ w (Keep.refl _ _)
    simp [unOk]; omega
  · simp at hl
    refine ⟨by decide, by simp; omega, ?_⟩
    rw [cutS_bs]
    refine CallK.ret (hR w _ (by rw [List.length_drop, List.length_take, show intN 2 = 2 from rfl]; omega)) fun w1 k1 => ⟨_, rfl, ?_⟩
    have e0 : (p.take (intN 2)).drop 0 = p.take 2 := by rw [List.drop_zero]; rfl
    rw [e0]
    have hlt := readB_two (p := p)
    have e1 : addI .i64 (wrapI .i64 (readB (p.take 2) : Int)) 2 = ((readB (p.take 2) + 2 : Nat) : Int) := by
      rw [wrapI_i64 _ (by omega)]; exact addI_nat _ 2 (by omega)
    rw [e1]
    refine SplitK.of (fun hh => ?_) (fun hh => ?_)
    · simp only [ltI_t, natI_eq, sizeS_eq, bs_size] at hh
      refine bad ?_ w1 k1
      rw [unOk, decide_eq_false_iff_not]
      omega
    · simp only [ltI_f, natI_eq, sizeS_eq, bs_size] at hh
      refine ⟨by omega, by simp; omega, by decide, by simp; omega, ?_⟩
      rw [cutS_bs]
      have e2 : (p.take (intN ((readB (p.take 2) + 2 : Nat) : Int))).drop (intN 2) = unT p := by simp only [intN_eq, Int.toNat_natCast]; rfl
      rw [e2]
      refine CallK.ret (hP w1 _ (by simp [unT]; omega)) fun w2 k2 => ⟨_, _, rfl, fun K hK => ?_⟩
      refine SplitK.of (fun h1 => hK _ _ fun _ => SplitK.t rfl ?_) (fun h1 => hK _ _ fun _ => SplitK.of (fun h2 => ?_) (fun h2 => ?_))
      · simp at h1
        refine bad ?_ w2 (k1.trans0 k2)
        simp [unOk, h1]
      · simp at h2
        refine bad ?_ w2 (k1.trans0 k2)
        simp [unOk, h2]
      · simp at h1 h2
        refine ⟨by omega, by simp; omega, by decide, by simp; omega, ?_⟩
        have := h w2 (k1.trans0 k2)
        have ok : unOk p = true := by rw [unOk, decide_eq_true_eq]; exact ⟨by omega, by omega, h1, h2⟩
        simpa [unS, unE, ok] using this

theorem p_Unpad (w : World) (p : List UInt8) : Calls Try.prog 40 #[.string (bs p)] w (Ret w (.tuple #[.string (bs (unS p)), .int .i64 (unE p)])) :=
  calls_ret (F40_calls _ _ _ (unpad_gen (R := fun v' w' => v' = .tuple #[.string (bs (unS p)), .int .i64 (unE p)] ∧ Keep [] w w') o_ReadBig (fun w s _ => p_Pad w s) fun w' hk => ⟨rfl, hk⟩))
theorem x_Unpad (w : World) (p : List UInt8) : Calls Try.prog 41 #[.string (bs p)] w (Ret w (.tuple #[.string (bs (unS p)), .int .i64 (unE p)])) :=
  calls_ret (F41_calls _ _ _ (unpad_gen (R := fun v' w' => v' = .tuple #[.string (bs (unS p)), .int .i64 (unE p)] ∧ Keep [] w w') x_ReadBig x_Pad fun w' hk => ⟨rfl, hk⟩))

theorem x_Ints (w : World) {a a' : Option Addr} {l l' c c' : Nat} {xs ys : List Int} (h1 : VsAt w a l (xs.map i64V)) (h2 : VsAt w a' l' (ys.map i64V)) (hb : xs.length ≤ 1000000) :
    Calls Try.prog 42 #[.slice a l c, .slice a' l' c'] w (Ret w (.bool (decide (xs = ys)))) := by
  refine calls_ret (F42_calls _ _ _ _ _ _ _ _ ?_)
  have e1 := h1.1; have e2 := h2.1
  simp at e1 e2
  refine SplitK.of (fun h => ?_) (fun h => ?_)
  · simp at h
    refine ⟨?_, Keep.refl _ _⟩
    have : xs ≠ ys := fun e => h (by rw [e1, e2, e])
    simp [this]
  · simp at h
    have hlen : xs.length = ys.length := by omega
    refine ⟨fun n vs w1 => ∃ k : Nat, vs = [.int .i64 (k : Int)] ∧ k + n = xs.length ∧ xs.take k = ys.take k ∧ Keep [] w w1, ⟨xs.length, 0, rfl, by omega, by simp, Keep.refl _ _⟩, ?_⟩
    rintro n vs w1 ⟨k, rfl, hk, heq, hK⟩
    refine ⟨k, rfl, fun _ => SplitK.of (fun h => ?_) (fun h => ?_)⟩
    · simp at h
      have hkx : k < xs.length := by omega
      have hky : k < ys.length := by omega
      obtain ⟨p, hp, hpc⟩ := h1.get (k := k) (by simpa using hkx)
      obtain ⟨q, hq, hqc⟩ := h2.get (k := k) (by simpa using hky)
      rw [List.getElem_map] at hpc hqc
      intro w2 hw2
      subst hw2
      refine ⟨fun w' => Keep [] w w', hK.drew, by omega, by simp; omega, SomeK.of p hp ⟨_, fun w3 hw3 => by rw [addA_int]; exact hw3.cell hpc (by simp), by omega, by simp; omega, SomeK.of q hq ⟨_, fun w3 hw3 => by rw [addA_int]; exact hw3.cell hqc (by simp), ?_⟩⟩⟩
      refine SplitK.of (fun h => ?_) (fun h => ?_)
      · simp at h
        refine ⟨?_, hK.drew⟩
        have : xs ≠ ys := fun e => by subst e; exact h rfl
        simp [this]
      · simp at h
        refine ⟨n - 1, by omega, k + 1, ?_, by omega, ?_, hK.drew⟩
        · rw [addI_one (by omega)]
        · rw [List.take_succ_eq_append_getElem hkx, List.take_succ_eq_append_getElem hky, heq, h]
    · simp at h
      have : k = xs.length := by omega
      subst this
      refine ⟨?_, hK⟩
      have : xs = ys := by rw [List.take_of_length_le (by omega), List.take_of_length_le (by omega)] at heq; exact heq
      simp [this]

end Go.Proofs.Ytmbnklknpbgipaa
