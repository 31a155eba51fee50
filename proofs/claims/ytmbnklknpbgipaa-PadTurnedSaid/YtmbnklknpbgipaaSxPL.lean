/-
  A part of the proof: PL.
-/
import Derived.Test.YtmbnklknpbgipaaSxPB
import Derived.Test.YtmbnklknpbgipaaSxTQ
namespace Go.Proofs.Ytmbnklknpbgipaa
open Go Go.Sx Go.Oct
set_option linter.unusedVariables false

theorem padE_zero {s : List UInt8} : padE s = 0 ↔ bucket (s.length : Int) ≠ 0 := by
  unfold padE; split <;> simp [*]
theorem padS_head {s : List UInt8} (h : bucket (s.length : Int) ≠ 0) : (padS s).take (s.length + 2) = bigL s.length 2 ++ s := by
  simp only [padS, if_neg h]
  rw [List.take_left' (by simp; omega)]
theorem head_readB {q : List UInt8} {s : List UInt8} (hs : s.length < 65536) (h : q.take 2 = bigL s.length 2) : readB (q.take 2) = s.length := by
  rw [h, readB_bigL (by decide)]
  omega
theorem take2 {q s : List UInt8} (h : q.take (s.length + 2) = bigL s.length 2 ++ s) : q.take 2 = bigL s.length 2 := by
  have := congrArg (List.take 2) h
  rw [List.take_take, Nat.min_eq_left (by omega), List.take_left' (by simp)] at this
  exact this
theorem unT_of {q s : List UInt8} (hs : s.length < 65536) (h : q.take (s.length + 2) = bigL s.length 2 ++ s) : unT q = s := by
  unfold unT
  rw [head_readB hs (take2 h), h, List.drop_left' (by simp)]
theorem len_of {q s : List UInt8} (h : q.take (s.length + 2) = bigL s.length 2 ++ s) : s.length + 2 ≤ q.length := by
  have := congrArg List.length h
  rw [List.length_take, List.length_append, bigL_length] at this
  omega
theorem unOk_iff {q s : List UInt8} (hb : bucket (s.length : Int) ≠ 0) (h : q.take (s.length + 2) = bigL s.length 2 ++ s) : unOk q = true ↔ q = padS s := by
  have hl := bucket_len hb
  have h1 := unT_of (by omega) h
  have h2 := head_readB (by omega) (take2 h)
  have h3 := len_of h
  unfold unOk
  rw [decide_eq_true_eq, h1, h2]
  constructor
  · rintro ⟨_, _, _, h⟩; exact h.symm
  · intro e; exact ⟨by omega, by omega, padE_zero.2 hb, e.symm⟩
theorem unOk_padS {s : List UInt8} (hb : bucket (s.length : Int) ≠ 0) : unOk (padS s) = true := (unOk_iff hb (padS_head hb)).2 rfl
theorem unS_padS {s : List UInt8} (hb : bucket (s.length : Int) ≠ 0) : unS (padS s) = s ∧ unE (padS s) = 0 := by
  have hl := bucket_len hb
  rw [unS, unE, unOk_padS hb]
  exact ⟨unT_of (by omega) (padS_head hb), rfl⟩
theorem padS_inj {a b : List UInt8} (ha : bucket (a.length : Int) ≠ 0) (hb : bucket (b.length : Int) ≠ 0) : padS a = padS b ↔ a = b := by
  constructor
  · intro h
    rw [← (unS_padS ha).1, h, (unS_padS hb).1]
  · intro h; rw [h]
theorem unE_ok {p : List UInt8} : unE p = 0 ↔ unOk p = true := by
  unfold unE; split <;> simp [*]
theorem unE_bad {p : List UInt8} (h : unOk p = false) : unE p = 5 := by unfold unE; simp [h]
theorem bucket_mono {n m : Int} (h0 : 0 ≤ n) (h : n ≤ m) (hm : bucket m ≠ 0) : bucket n ≠ 0 ∧ bucket n ≤ bucket m := by
  obtain ⟨i, hi, hb, h1, h2, _⟩ := bucket_ge hm
  have hn : bucket n ≠ 0 := by
    intro h0'
    have : (List.range 8).find? (fun i => decide (0 ≤ n ∧ n ≤ (sizeAt i : Int) - 2)) = none := by
      cases hf : (List.range 8).find? (fun i => decide (0 ≤ n ∧ n ≤ (sizeAt i : Int) - 2)) with
      | none => rfl
      | some j =>
        unfold bucket at h0'
        rw [hf] at h0'
        have := sizeAt_ge j
        simp only at h0'
        omega
    rw [List.find?_eq_none] at this
    have := this i (List.mem_range.2 hi)
    simp only [decide_eq_true_eq, not_and] at this
    exact this h0 (by omega)
  refine ⟨hn, ?_⟩
  obtain ⟨j, hj, hb', h1', h2', hno⟩ := bucket_ge hn
  rw [hb, hb']
  have : j ≤ i := by
    apply Nat.le_of_not_lt
    intro hij
    exact hno i hij ⟨h0, by omega⟩
  unfold sizeAt
  exact Nat.mul_le_mul_left _ (Nat.pow_le_pow_right (by decide) this)

theorem works_13 (w : World) : Calls Try.prog 36 #[] w (Ret w (.bool true)) := by
  refine calls_ret (F36_calls _ _ ?_)
  have hb3 : bucket (([97, 98, 99] : List UInt8).length : Int) ≠ 0 := by decide
  refine CallK.ret (p_Pad w [97, 98, 99]) fun w1 k1 => ⟨_, _, rfl, ?_⟩
  refine CallK.ret (p_Unpad w1 _) fun w2 k2 => ⟨_, _, rfl, ?_⟩
  refine CallK.ret (p_Unpad w2 [97, 98, 99]) fun w3 k3 => ⟨_, _, rfl, ?_⟩
  rintro w4 rfl K h0
  have hl := padS_length hb3
  refine SplitK.t (by rw [sizeS_bs, hl]; decide) ⟨by decide, by rw [sizeS_bs, hl]; decide, ?_⟩
  refine (((Mem.start w).call ((k1.trans0 k2).trans0 k3)).drew).newK fun b w5 M => ⟨[0, 3], M.bytes 0 (T := 5) (fr := (0, 0)) rfl rfl, by decide, ?_⟩
  have k5 := M.keep
  refine h0 _ _ fun _ K1 h1 => SplitK.t ?_ (h1 _ _ fun _ K2 h2 => SplitK.t ?_ (h2 _ _ fun _ K3 h3 => SplitK.t ?_ (h3 _ _ fun _ K4 h4 => SplitK.t ?_ (h4 _ _ fun _ K5 h5 => SplitK.t ?_ ?_))))
  · rw [cutS_bs, lit_bs, catS_bs, eqS_bs]; decide
  · rw [padE_zero.2 hb3]; rfl
  · rw [(unS_padS hb3).1, lit_bs, eqS_bs]; decide
  · rw [(unS_padS hb3).2]; rfl
  · rw [unE_bad (by decide)]; rfl
  refine CallK.ret (p_Bucket w5 30) fun w6 k6 => ⟨_, rfl, h5 _ _ fun _ K6 h6 => SplitK.t (by decide) ?_⟩
  refine CallK.ret (p_Bucket w6 31) fun w7 k7 => ⟨_, rfl, h6 _ _ fun _ K7 h7 => SplitK.t (by decide) ?_⟩
  refine CallK.ret (p_Bucket w7 (-1)) fun w8 k8 => ⟨_, rfl, h7 _ _ fun _ K8 h8 => SplitK.t (by decide) ?_⟩
  refine CallK.retV (p_Sizes w8) fun a l c w9 hf k9 => ⟨_, _, _, rfl, h8 _ _ fun _ K9 h9 => SplitK.t (by rw [hf.now.1]; decide) ?_⟩
  refine CallK.ret (p_Same w9 0 30) fun w10 k10 => ⟨_, rfl, h9 _ _ fun _ K10 h10 => SplitK.t (by decide) ?_⟩
  refine CallK.ret (p_Same w10 30 31) fun w11 k11 => ⟨_, rfl, h10 _ _ fun _ => ⟨congrArg Value.bool (by decide), (((((k5.trans0 k6).trans0 k7).trans0 k8).trans0 k9).trans0 k10).trans0 k11⟩⟩

theorem tells_13 (w : World) (n m : Int) (s p : List UInt8) (hn : -9223372036854775808 ≤ n ∧ n ≤ 9223372036854775807) (hm : -9223372036854775808 ≤ m ∧ m ≤ 9223372036854775807) :
    Calls Try.prog 10 #[.int .i64 n, .int .i64 m, .string (bs s), .string (bs p)] w (Ret w (.bool true)) := by
  refine calls_ret (F10_calls _ _ _ _ _ _ ?_)
  refine CallK.ret (works_13 w) fun w1 k1 => ⟨_, rfl, SplitK.f rfl fun K hK => ?_⟩
  refine SplitK.of (fun h => hK _ _ fun _ => SplitK.t rfl ⟨rfl, k1⟩) fun hs => ?_
  refine hK _ _ fun _ => SplitK.of (fun h => ⟨rfl, k1⟩) fun hp => ?_
  simp at hs hp
  refine CallK.ret (x_Bucket w1 n hn) fun w2 k2 => ⟨_, rfl, ?_⟩
  refine CallK.ret (x_Bucket w2 m hm) fun w3 k3 => ⟨_, rfl, ?_⟩
  refine CallK.ret (p_Pad w3 s) fun w4 k4 => ⟨_, _, rfl, ?_⟩
  refine CallK.ret (x_Pad w4 s (by omega)) fun w5 k5 => ⟨_, _, rfl, ?_⟩
  refine CallK.ret (p_Unpad w5 p) fun w6 k6 => ⟨_, _, rfl, ?_⟩
  refine CallK.ret (x_Unpad w6 p) fun w7 k7 => ⟨_, _, rfl, ?_⟩
  refine CallK.retV (p_Sizes w7) fun a l c w8 f8 k8 => ⟨_, _, _, rfl, ?_⟩
  refine CallK.retV (x_Sizes w8) fun a1 l1 c1 w9 f9 k9 => ⟨_, _, _, rfl, ?_⟩
  refine CallK.ret (x_Ints w9 (f8.now.keep0 k9) f9.now (by decide)) fun w10 k10 => ⟨_, rfl, SplitK.t rfl ?_⟩
  refine CallK.ret (p_Bucket w10 n) fun w11 k11 => ⟨_, rfl, SplitK.t (by simp [eqI]) ?_⟩
  have K11 := (((((((((k1.trans0 k2).trans0 k3).trans0 k4).trans0 k5).trans0 k6).trans0 k7).trans0 k8).trans0 k9).trans0 k10).trans0 k11
  refine CallK.ret (p_Same w11 n m) fun w12 k12 => ⟨_, rfl, ?_⟩
  have fin : SplitK (eqS (bs (padS s)) (bs (padS s))) (SplitK (eqI (padE s) (padE s)) (SplitK (eqS (bs (unS p)) (bs (unS p))) (SplitK (eqI (unE p) (unE p)) ((fun v' w' => v' = Value.bool true ∧ Keep [] w w') (.bool (decide (sizesL 8 = sizesL 8))) w12)
      ((fun v' w' => v' = Value.bool true ∧ Keep [] w w') (.bool false) w12)) ((fun v' w' => v' = Value.bool true ∧ Keep [] w w') (.bool false) w12)) ((fun v' w' => v' = Value.bool true ∧ Keep [] w w') (.bool false) w12)) ((fun v' w' => v' = Value.bool true ∧ Keep [] w w') (.bool false) w12) :=
    SplitK.t (by simp) (SplitK.t (by simp [eqI]) (SplitK.t (by simp) (SplitK.t (by simp [eqI]) ⟨by simp, K11.trans0 k12⟩)))
  refine SplitK.of (fun h => SplitK.t ?_ fin) (fun h => SplitK.t ?_ fin)
  · simp only [eqI_t] at h
    have h : bucket n = bucket m := by omega
    rw [eqB_t, Bool.eq_iff_iff]
    simp [← h]
  · simp only [eqI_f] at h
    rw [eqB_t]
    simp
    omega

theorem back_13 (w : World) (s p : List UInt8) : Calls Try.prog 11 #[.string (bs s), .string (bs p)] w (Ret w (.bool true)) := by
  refine calls_ret (F11_calls _ _ _ _ ?_)
  refine CallK.ret (works_13 w) fun w1 k1 => ⟨_, rfl, SplitK.f rfl fun K hK => ?_⟩
  refine SplitK.of (fun h => hK _ _ fun _ => SplitK.t rfl ⟨rfl, k1⟩) fun hs => ?_
  refine hK _ _ fun _ => SplitK.of (fun h => ⟨rfl, k1⟩) fun hp => ?_
  simp at hs hp
  refine CallK.ret (p_Pad w1 s) fun w2 k2 => ⟨_, _, rfl, ?_⟩
  refine CallK.ret (p_Unpad w2 _) fun w3 k3 => ⟨_, _, rfl, fun K1 h1 => ?_⟩
  have K3 := (k1.trans0 k2).trans0 k3
  have rest : ∀ w4, Keep [] w w4 → K1 [.bool false] w4 := by
    intro w4 k4
    refine h1 _ _ fun _ => SplitK.f rfl ?_
    refine CallK.ret (p_Unpad w4 p) fun w5 k5 => ⟨_, _, rfl, SplitK.of (fun hu => ?_) (fun hu => ?_)⟩
    · refine SplitK.t rfl ⟨?_, k4.trans0 k5⟩
      have : unOk p = false := by
        cases ho : unOk p
        · rfl
        · simp [unE, ho] at hu
      simp [unS, this]
    · have ho : unOk p = true := by
        rw [← unE_ok]; simpa using hu
      have ho' := ho
      unfold unOk at ho'
      rw [decide_eq_true_eq] at ho'
      have e : unS p = unT p := by simp [unS, ho]
      rw [e]
      refine CallK.ret (p_Pad w5 _) fun w6 k6 => ⟨_, _, rfl, SplitK.t rfl (SplitK.t ?_ ⟨?_, (k4.trans0 k5).trans0 k6⟩)⟩
      · rw [ho'.2.2.1]; rfl
      · rw [ho'.2.2.2]; simp
  by_cases hb : bucket (s.length : Int) = 0
  · have e1 : padE s = 4 := by simp [padE, hb]
    have e2 : padS s = [] := by simp [padS, hb]
    rw [e1, e2]
    refine SplitK.f (by decide) (SplitK.t (by decide) ?_)
    have : notB (eqS (bs []) (ByteArray.mk (List.toArray []))) = false := by rw [empty_bs, eqS_bs]; decide
    rw [this]
    exact rest _ K3
  · have e1 := padE_zero.2 hb
    obtain ⟨e2, e3⟩ := unS_padS hb
    rw [e1, e2, e3]
    refine SplitK.t (by decide) (SplitK.f (by decide) (SplitK.f (by simp) ?_))
    have hl : natI (sizeS (bs s)) = (s.length : Int) := by rw [sizeS_bs]; rfl
    rw [hl]
    refine CallK.ret (p_Bucket w3 _) fun w4 k4 => ⟨_, rfl, SplitK.f ?_ (SplitK.f (by decide) (rest _ (K3.trans0 k4)))⟩
    rw [sizeS_bs, padS_length hb]; simp [eqI]

theorem hides_13 (w : World) (a b : List UInt8) : Calls Try.prog 12 #[.string (bs a), .string (bs b)] w (Ret w (.bool true)) := by
  refine calls_ret (F12_calls _ _ _ _ ?_)
  refine CallK.ret (works_13 w) fun w1 k1 => ⟨_, rfl, SplitK.f rfl fun K hK => ?_⟩
  have out : K [.bool true] w1 := hK _ _ fun _ => SplitK.t rfl ⟨rfl, k1⟩
  refine SplitK.of (fun h => out) fun ha => SplitK.of (fun h => out) fun hb => ?_
  refine hK _ _ fun _ => SplitK.of (fun h => ⟨rfl, k1⟩) fun hab => ?_
  simp at ha hb hab
  refine CallK.ret (p_Pad w1 a) fun w2 k2 => ⟨_, _, rfl, ?_⟩
  refine CallK.ret (p_Pad w2 b) fun w3 k3 => ⟨_, _, rfl, ?_⟩
  have K3 := (k1.trans0 k2).trans0 k3
  by_cases hB : bucket (b.length : Int) = 0
  · have e1 : padE b = 4 := by simp [padE, hB]
    have e2 : padS b = [] := by simp [padS, hB]
    rw [e1, e2]
    refine SplitK.t (by decide) (SplitK.t rfl (SplitK.t (by rw [empty_bs, eqS_bs]; decide) ?_))
    by_cases hA : bucket (a.length : Int) = 0
    · have e3 : padE a = 4 := by simp [padE, hA]
      have e4 : padS a = [] := by simp [padS, hA]
      rw [e3, e4]
      exact SplitK.f (by decide) ⟨by rw [empty_bs, eqS_bs]; rfl, K3⟩
    · rw [padE_zero.2 hA]
      exact SplitK.t (by decide) ⟨rfl, K3⟩
  · obtain ⟨hA, hle⟩ := bucket_mono (n := a.length) (m := b.length) (by omega) (by omega) hB
    rw [padE_zero.2 hA, padE_zero.2 hB]
    have la := padS_length hA
    have lb := padS_length hB
    have hla : natI (sizeS (bs a)) = (a.length : Int) := by rw [sizeS_bs]; rfl
    have hlb : natI (sizeS (bs b)) = (b.length : Int) := by rw [sizeS_bs]; rfl
    rw [sizeS_bs, sizeS_bs, la, lb, hla, hlb]
    refine SplitK.f (by decide) (SplitK.t rfl (SplitK.t (by decide) (SplitK.t (by simp; omega) ?_)))
    refine CallK.ret (p_Same w3 _ _) fun w4 k4 => ⟨_, rfl, SplitK.t ?_ ⟨?_, K3.trans0 k4⟩⟩
    · rw [eqB_t, Bool.eq_iff_iff]
      simp [hA]
      omega
    · rw [eqS_bs, eqS_bs]
      congr 1
      rw [eqB_t, Bool.eq_iff_iff]
      simp [padS_inj hA hB]

theorem least_13 (w : World) (n : Int) (hn : -9223372036854775808 ≤ n ∧ n ≤ 9223372036854775807) : Calls Try.prog 13 #[.int .i64 n] w (Ret w (.bool true)) := by
  refine calls_ret (F13_calls _ _ _ ?_)
  refine CallK.ret (works_13 w) fun w1 k1 => ⟨_, rfl, SplitK.f rfl ?_⟩
  refine CallK.retV (p_Sizes w1) fun a l c w2 f2 k2 => ⟨a, l, c, rfl, ?_⟩
  refine CallK.ret (p_Bucket w2 n) fun w3 k3 => ⟨_, rfl, ?_⟩
  have h8 : ((sizesL 8).map i64V).length = 8 := by decide
  have hl := f2.now.1
  rw [h8] at hl
  subst hl
  have K3 := (k1.trans0 k2).trans0 k3
  have cell : ∀ w4, Keep [] w3 w4 → ∀ k, k < 8 → ∃ p, a = some p ∧ ∀ w5, Keep [] w4 w5 → w5.cell? (p.add k) = some (.int .i64 ((sizeAt k : Nat) : Int)) := by
    intro w4 k4 k hk
    obtain ⟨p, hp, hpc⟩ := ((f2.now.keep0 k3).keep0 k4).get (k := k) (by rw [h8]; exact hk)
    rw [sizesL_get] at hpc
    exact ⟨p, hp, fun w5 k5 => k5.cell hpc (by simp)⟩
  refine ⟨fun n' vs w4 => ∃ k : Nat, vs = [.int .i64 k] ∧ k + n' = 8 ∧ (∀ j, j < k → bucket n ≠ sizeAt j) ∧ Keep [] w3 w4, ⟨8, 0, rfl, rfl, fun j hj => by omega, Keep.refl _ _⟩, ?_⟩
  rintro n' vs w4 ⟨k, rfl, hk, hno, k4⟩
  refine ⟨_, rfl, fun _ => SplitK.of (fun h => ?_) (fun h => ?_)⟩
  · simp at h
    have h : k < 8 := by omega
    obtain ⟨p, hp, hpc⟩ := cell w4 k4 k h
    have hle := sizeAt_le h
    have hge := sizeAt_ge k
    intro K hK
    have go : ∀ w5, Keep [] w4 w5 → K [.bool false] w5 := by
      intro w5 k5
      refine hK _ _ fun _ => SplitK.f rfl ⟨by omega, by simp; omega, SomeK.of p hp ⟨_, by rw [addA_int]; exact hpc w5 k5, ?_⟩⟩
      refine SplitK.of (fun hh => SplitK.t rfl ?_) (fun hh => ?_)
      · simp only [eqI_t] at hh
        have hb : bucket n ≠ 0 := by omega
        obtain ⟨i, hi, hbi, h0, h1, hmin⟩ := bucket_ge hb
        have hik : sizeAt i = sizeAt k := by omega
        refine SplitK.t (by simp; omega) (SplitK.t ?_ ?_)
        · rw [subI_i64 (by omega) (by omega)]; simp; omega
        refine SplitK.of (fun hz => ⟨rfl, (K3.trans0 k4).trans0 k5⟩) (fun hz => ?_)
        simp at hz
        obtain ⟨k, rfl⟩ : ∃ j, k = j + 1 := ⟨k - 1, by omega⟩
        obtain ⟨p1, hp1, hpc1⟩ := cell w4 k4 k (by omega)
        have e1 : subI .i64 ((k + 1 : Nat) : Int) 1 = (k : Int) := by rw [subI_i64 (by omega) (by omega)]; omega
        rw [e1]
        have hlk := sizeAt_le (i := k) (by omega)
        refine ⟨by omega, by simp; omega, SomeK.of p1 hp1 ⟨_, by rw [addA_int]; exact hpc1 w5 k5, ?_, (K3.trans0 k4).trans0 k5⟩⟩
        rw [subI_i64 (by omega) (by omega)]
        have hpow : sizeAt k < sizeAt (k + 1) := by
          unfold sizeAt; rw [Nat.pow_succ]
          have : 0 < (2 : Nat) ^ k := Nat.pow_pos (by decide)
          omega
        have hik' : k < i := by
          apply Nat.lt_of_not_le
          intro hle
          have : sizeAt i ≤ sizeAt k := by unfold sizeAt; exact Nat.mul_le_mul_left _ (Nat.pow_le_pow_right (by decide) hle)
          omega
        have := hmin k hik'
        congr 1
        simp
        omega
      · simp only [eqI_f] at hh
        refine ⟨n' - 1, by omega, k + 1, by rw [addI_one (by omega)], by omega, fun j hj => ?_, k4.trans0 k5⟩
        by_cases hjk : j = k
        · subst hjk; omega
        · exact hno j (by omega)
    rintro w5 rfl
    refine ⟨fun w' => Keep [] w4.drew w', Keep.refl _ _, SplitK.of (fun hz => ?_) (fun hz => go _ (Keep.refl [] w4).drew)⟩
    simp at hz
    obtain ⟨k, rfl⟩ : ∃ j, k = j + 1 := ⟨k - 1, by omega⟩
    obtain ⟨p1, hp1, hpc1⟩ := cell w4 k4 k (by omega)
    have e1 : subI .i64 ((k + 1 : Nat) : Int) 1 = (k : Int) := by rw [subI_i64 (by omega) (by omega)]; omega
    have hd : Keep [] w4 w4.drew := (Keep.refl [] w4).drew
    rw [e1]
    refine ⟨by omega, by simp; omega, SomeK.of p hp ⟨_, fun w6 h6 => by rw [addA_int]; exact hpc w6 (hd.trans0 h6), by omega, by simp; omega, SomeK.of p1 hp1 ⟨_, fun w6 h6 => by rw [addA_int]; exact hpc1 w6 (hd.trans0 h6), ?_⟩⟩⟩
    have hlk := sizeAt_le (i := k) (by omega)
    have e2 : notB (eqI ((sizeAt (k + 1) : Nat) : Int) (mulI .i64 2 ((sizeAt k : Nat) : Int))) = false := by
      rw [notB_f, eqI_t, mulI_i64 (by omega) (by omega)]
      unfold sizeAt; rw [Nat.pow_succ]; omega
    rw [e2]
    exact go _ hd
  · simp at h
    have : k = 8 := by omega
    subst this
    have hb : bucket n = 0 := by
      apply Classical.byContradiction
      intro hb
      obtain ⟨i, hi, hbi, _⟩ := bucket_ge hb
      exact hno i hi hbi
    rw [hb]
    refine SplitK.t rfl (SplitK.t (by decide) (SplitK.of (fun h0 => ⟨rfl, K3.trans0 k4⟩) (fun h0 => ?_)))
    simp at h0
    obtain ⟨p1, hp1, hpc1⟩ := cell w4 k4 7 (by decide)
    refine ⟨by decide, by decide, SomeK.of p1 hp1 ⟨_, hpc1 w4 (Keep.refl _ _), ?_, K3.trans0 k4⟩⟩
    congr 1
    have : ¬ (0 ≤ n ∧ n ≤ (sizeAt 7 : Int) - 2) := by
      intro hh
      have := (bucket_mono (n := n) (m := 4094) h0 (by have := sizeAt_le (i := 7) (by decide); omega) (by decide)).1
      exact this hb
    have e : sizeAt 7 = 4096 := by decide
    rw [e] at this ⊢
    have e4 : subI .i64 ((4096 : Nat) : Int) 2 = 4094 := by decide
    rw [e4]
    simp
    omega

theorem turned_13 (w : World) (s : List UInt8) (at' by' : Nat) (hat : at' < 65536) (hby : by' < 256) : Calls Try.prog 14 #[.string (bs s), .int .u16 at', .int .u8 by'] w (Ret w (.bool true)) := by
  refine calls_ret (F14_calls _ _ _ _ _ ?_)
  refine CallK.ret (works_13 w) fun w1 k1 => ⟨_, rfl, SplitK.f rfl ?_⟩
  refine CallK.ret (p_Pad w1 s) fun w2 k2 => ⟨_, _, rfl, fun K hK => ?_⟩
  have K2 := k1.trans0 k2
  have out : K [.bool true] w2 := hK _ _ fun _ => SplitK.t rfl ⟨rfl, K2⟩
  refine SplitK.of (fun h => out) fun hs => SplitK.of (fun h => out) fun he => ?_
  refine hK _ _ fun _ => SplitK.of (fun h => ⟨rfl, K2⟩) fun hb => ?_
  simp at hs he hb
  have hbk := padE_zero.1 he
  have hl := padS_length hbk
  have hbl := bucket_len hbk
  obtain ⟨N, hN⟩ : ∃ N, bucket (s.length : Int) = N := ⟨_, rfl⟩
  rw [hN] at hl hbl
  have hx : natI (sizeS (bs (padS s))) = (N : Int) := by rw [sizeS_bs, hl]; rfl
  have hs' : natI (sizeS (bs s)) = (s.length : Int) := by rw [sizeS_bs]; rfl
  have hat' : wrapI .i64 (at' : Int) = (at' : Int) := wrapI_i64 _ (by omega)
  rw [hx, hs', hat', remI_nat]
  have hmod := Nat.mod_lt at' (show 0 < N by omega)
  refine ⟨by omega, by omega, by omega, ?_⟩
  rw [cutS_bs]
  refine CallK.ret (p_Unpad w2 _) fun w3 k3 => ⟨_, _, rfl, ?_⟩
  have K3 := K2.trans0 k3
  refine ((Mem.start w).call K3).newK fun b w4 M => ⟨[0], M.bytes 0 (T := 5) (fr := (0, 0)) rfl rfl, by simp [hl]; omega, ?_⟩
  rw [catS_bs]
  refine CallK.ret (p_Unpad w4 _) fun w5 k5 => ⟨_, _, rfl, fun K1 h1 => ?_⟩
  have K5 := M.keep.trans0 k5
  -- the text that is cut
  have cutBad : unOk (((padS s).take (intN ((at' % N : Nat) : Int))).drop 0) = false := by
    simp only [intN_eq, Int.toNat_natCast, List.drop_zero]
    cases hu : unOk ((padS s).take (at' % N)) with
    | false => rfl
    | true =>
      exfalso
      have hu' := hu
      unfold unOk at hu'
      rw [decide_eq_true_eq] at hu'
      obtain ⟨g1, g2, g3, g4⟩ := hu'
      rw [List.length_take] at g1 g2
      have ht : ((padS s).take (at' % N)).take 2 = bigL s.length 2 := by
        rw [List.take_take, Nat.min_eq_left (by omega)]
        exact take2 (padS_head hbk)
      rw [head_readB (by omega) ht] at g2
      have hh : ((padS s).take (at' % N)).take (s.length + 2) = bigL s.length 2 ++ s := by
        rw [List.take_take, Nat.min_eq_left (by omega)]
        exact padS_head hbk
      have := (unOk_iff hbk hh).1 hu
      have := congrArg List.length this
      rw [List.length_take, hl] at this
      omega
  have longBad : unOk (padS s ++ [0]) = false := by
    cases hu : unOk (padS s ++ [0]) with
    | false => rfl
    | true =>
      exfalso
      have hh : (padS s ++ [0]).take (s.length + 2) = bigL s.length 2 ++ s := by
        rw [List.take_append_of_le_length (by omega)]
        exact padS_head hbk
      have := (unOk_iff hbk hh).1 hu
      have := congrArg List.length this
      simp at this
  rw [unE_bad cutBad, unE_bad longBad]
  refine SplitK.f (by decide) (h1 _ _ fun _ => SplitK.f (by decide) ?_)
  have ef : subI .i64 (subI .i64 (N : Int) (s.length : Int)) 2 = ((N - (s.length + 2) : Nat) : Int) := by
    rw [subI_nat _ _ (by omega) (by omega)]
    have := subI_nat (N - s.length) 2 (by omega) (by omega)
    rw [show ((2 : Nat) : Int) = 2 from rfl] at this
    rw [this, Nat.sub_sub]
  rw [ef]
  refine SplitK.of (fun hfr => ⟨rfl, K5⟩) (fun hfr => ?_)
  simp only [ltI_f] at hfr
  generalize hfree : N - (s.length + 2) = free at *
  refine Mem.bytesOfK ((Mem.start w).call K5) fun b4 rest w6 M => ⟨by omega, ?_⟩
  have hmf := Nat.mod_lt at' (show 0 < free by omega)
  have ek : addI .i64 (addI .i64 (s.length : Int) 2) (remI (at' : Int) (free : Int)) = ((s.length + 2 + at' % free : Nat) : Int) := by
    have := addI_nat s.length 2 (by omega)
    rw [show ((2 : Nat) : Int) = 2 from rfl] at this
    rw [this, remI_nat, addI_nat _ _ (by omega)]
  rw [ek]
  generalize hkk : s.length + 2 + at' % free = k
  have hk : k < (padS s).length := by omega
  have hkc : (byteVs (padS s) ++ rest)[k]? = some (.int .u8 ((((padS s)[k]).toNat : Nat) : Int)) := by
    rw [List.getElem?_append_left (by simpa [byteVs] using hk)]
    simp [byteVs, byteV, hk]
  have eA : addA ⟨b4, 0, none⟩ (mulN (intN (k : Int)) 1) = ⟨b4, k, none⟩ := by simp
  rw [eA]
  refine ⟨by omega, by omega, _, M.cell 0 rfl hkc, by omega, by omega, ?_⟩
  have hbx : by' = (UInt8.ofNat by').toNat := by rw [UInt8.toNat_ofNat']; omega
  rw [hbx, xorI_u8]
  refine M.stKf 0 rfl (by simp [byteVs]; omega) (fun j h1 h2 => by simp at h2 ⊢; omega) rfl fun w7 M => ?_
  have eq : spliceL (byteVs (padS s) ++ rest) k [Value.int .u8 (((padS s)[k] ^^^ UInt8.ofNat by').toNat : Nat)] = byteVs ((padS s).set k ((padS s)[k] ^^^ UInt8.ofNat by')) ++ rest := by
    show (byteVs (padS s) ++ rest).set k (byteV _) = _
    rw [List.set_append_left _ _ (by simpa [byteVs] using hk)]
    simp [byteVs, List.map_set]
  rw [eq] at M
  refine ⟨(padS s).set k ((padS s)[k] ^^^ UInt8.ofNat by'), ⟨by rw [sizeS_bs]; simp, M.cellsFrom 0 rfl fun j v hv => ?_⟩, ?_⟩
  · have := (List.getElem?_eq_some_iff.1 hv).1
    rw [Nat.zero_add, List.getElem?_append_left (by simpa [byteVs] using this)]
    exact hv
  refine CallK.ret (p_Unpad w7 _) fun w8 k8 => ⟨_, _, rfl, SplitK.t rfl ⟨?_, M.keep.trans0 k8⟩⟩
  rw [unE_bad]
  · rfl
  cases hu : unOk ((padS s).set k ((padS s)[k] ^^^ UInt8.ofNat by')) with
  | false => rfl
  | true =>
    exfalso
    have hh : ((padS s).set k ((padS s)[k] ^^^ UInt8.ofNat by')).take (s.length + 2) = bigL s.length 2 ++ s := by
      rw [List.take_set_of_le (by omega)]
      exact padS_head hbk
    have := (unOk_iff hbk hh).1 hu
    have := congrArg (fun l => l[k]?) this
    simp only [List.getElem?_set_self hk, List.getElem?_eq_getElem hk, Option.some.injEq] at this
    have h2 : UInt8.ofNat by' = 0 := by
      have h3 := congrArg ((padS s)[k] ^^^ ·) this
      simp only [← UInt8.xor_assoc, UInt8.xor_self, UInt8.zero_xor] at h3
      exact h3
    have := congrArg UInt8.toNat h2
    rw [← hbx] at this
    exact hb this

end Go.Proofs.Ytmbnklknpbgipaa
