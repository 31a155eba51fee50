/-
  A part of the proof: LA.
-/
import Derived.Test.YtmbnklknpbgipaaSxOS
import Derived.Test.YtmbnklknpbgipaaSxTL
namespace Go.Proofs.Ytmbnklknpbgipaa
open Go Go.Sx Go.Oct
set_option linter.unusedVariables false

/-- A call that hands back a text, and a row of bytes that is made and turned to a text, in any order. -/
theorem orders3 {P : Program} {f : FuncId} {args : Array Value} {x xs : List UInt8} {cs : Array Value} {T : TypeId} {n : Nat} {w : World} {k : ByteArray → List UInt8 → World → Prop}
    (h : ∀ w, Calls P f args w (Ret w (.string (bs x)))) (hc : cs = (byteVs xs).toArray) (hn : n = xs.length) (hk : ∀ w', Keep [] w w' → k (bs x) xs w') :
    CallK P f args w (fun e w2 => ∃ s : ByteArray, e = .returned (.string s) ∧ NewK w2 cs T fun b w3 => ∃ l, BytesAt w3 (some ⟨b, 0, none⟩) n l ∧ k s l w3) ∧
    NewK w cs T (fun b w2 => CallK P f args w2 (fun e w3 => ∃ s : ByteArray, e = .returned (.string s) ∧ ∃ l, BytesAt w3 (some ⟨b, 0, none⟩) n l ∧ k s l w3) ∧
      ∃ l, BytesAt w2 (some ⟨b, 0, none⟩) n l ∧ CallK P f args w2 (fun e w3 => ∃ s : ByteArray, e = .returned (.string s) ∧ k s l w3)) := by
  subst hc
  refine ⟨CallK.ret (h w) fun w2 h2 => ⟨_, rfl, ?_⟩, ?_⟩
  · refine ((Mem.start w).call h2).newK fun b w3 M => ⟨xs, M.bytes 0 (T := T) (fr := (0, 0)) rfl hn, hk _ M.keep⟩
  · refine (Mem.start w).newK fun b w3 M => ⟨?_, ?_⟩
    · refine CallK.ret (h w3) fun w2 h2 => ⟨_, rfl, xs, (M.call h2).bytes 0 (T := T) (fr := (0, 0)) rfl hn, hk _ (M.keep.trans0 h2)⟩
    · refine ⟨xs, M.bytes 0 (T := T) (fr := (0, 0)) rfl hn, ?_⟩
      refine CallK.ret (h w3) fun w2 h2 => ⟨_, rfl, hk _ (M.keep.trans0 h2)⟩

/-- The same, where the row of bytes is asked something first. -/
theorem orders3c {P : Program} {f : FuncId} {args : Array Value} {x xs : List UInt8} {cs : Array Value} {T : TypeId} {n : Nat} {w : World} {c : List UInt8 → Prop} {k : ByteArray → List UInt8 → World → Prop}
    (h : ∀ w, Calls P f args w (Ret w (.string (bs x)))) (hc : cs = (byteVs xs).toArray) (hn : n = xs.length) (hcc : c xs) (hk : ∀ w', Keep [] w w' → k (bs x) xs w') :
    CallK P f args w (fun e w2 => ∃ s : ByteArray, e = .returned (.string s) ∧ NewK w2 cs T fun b w3 => ∃ l, BytesAt w3 (some ⟨b, 0, none⟩) n l ∧ c l ∧ k s l w3) ∧
    NewK w cs T (fun b w2 => CallK P f args w2 (fun e w3 => ∃ s : ByteArray, e = .returned (.string s) ∧ ∃ l, BytesAt w3 (some ⟨b, 0, none⟩) n l ∧ c l ∧ k s l w3) ∧
      ∃ l, BytesAt w2 (some ⟨b, 0, none⟩) n l ∧ c l ∧ CallK P f args w2 (fun e w3 => ∃ s : ByteArray, e = .returned (.string s) ∧ k s l w3)) := by
  subst hc
  refine ⟨CallK.ret (h w) fun w2 h2 => ⟨_, rfl, ?_⟩, ?_⟩
  · refine ((Mem.start w).call h2).newK fun b w3 M => ⟨xs, M.bytes 0 (T := T) (fr := (0, 0)) rfl hn, hcc, hk _ M.keep⟩
  · refine (Mem.start w).newK fun b w3 M => ⟨?_, ?_⟩
    · refine CallK.ret (h w3) fun w2 h2 => ⟨_, rfl, xs, (M.call h2).bytes 0 (T := T) (fr := (0, 0)) rfl hn, hcc, hk _ (M.keep.trans0 h2)⟩
    · refine ⟨xs, M.bytes 0 (T := T) (fr := (0, 0)) rfl hn, hcc, ?_⟩
      refine CallK.ret (h w3) fun w2 h2 => ⟨_, rfl, hk _ (M.keep.trans0 h2)⟩

theorem both_t {b : Bool} {A B X Y : Prop} (hb : b = true) (h : A ∧ B) : SplitK b A X ∧ SplitK b B Y := by subst hb; exact h

theorem works_01 (w : World) : Calls Try.prog 15 #[] w (Ret w (.bool true)) := by
  refine calls_ret (F15_calls _ _ ?_)
  rintro w1 rfl K0 h0
  refine orders3 (xs := [0, 0, 1, 2]) (fun w => o_Big w 258 4 (by decide)) rfl rfl fun w2 k2 => h0 _ w2 fun _ K1 h1 => ?_
  refine both_t (by rw [eqS_bs]; decide) (orders3 (xs := [2, 1]) (fun w => o_Low w 258 2 (by decide)) rfl rfl fun w3 k3 => h1 _ w3 fun _ K2 h2 => ?_)
  refine SplitK.t (by rw [eqS_bs]; decide) (CallK.ret (o_ReadBig w3 [1, 2] (by decide)) fun w4 k4 => ⟨_, rfl, h2 _ w4 fun _ K3 h3 => ?_⟩)
  refine SplitK.t (by decide) (CallK.ret (o_ReadLow w4 [1, 2] (by decide)) fun w5 k5 => ⟨_, rfl, h3 _ w5 fun _ K4 h4 => ?_⟩)
  refine SplitK.t (by decide) (CallK.ret (o_Rol w5 1 (-1) (by decide)) fun w6 k6 => ⟨_, rfl, h4 _ w6 fun _ K5 h5 => ?_⟩)
  refine both_t (by decide) (orders3 (xs := [0]) (fun w => o_Xor w [97, 98] [97] (by decide)) rfl rfl fun w7 k7 => h5 _ w7 fun _ K6 h6 => ?_)
  refine SplitK.t (by rw [eqS_bs]; decide) (CallK.ret (o_Equal w7 [97] [97] (by decide)) fun w8 k8 => ⟨_, rfl, h6 _ w8 fun _ K7 h7 => ?_⟩)
  refine SplitK.t (by decide) (CallK.ret (o_Equal w8 [97] [98] (by decide)) fun w9 k9 => ⟨_, rfl, h7 _ w9 fun _ K8 h8 => ?_⟩)
  refine both_t (by decide) (orders3c (xs := [0]) (fun w => o_Fill w [97, 98, 99] 2 (by decide) (by decide)) rfl rfl (by decide) fun w10 k10 => h8 _ w10 fun _ K9 h9 => ?_)
  refine SplitK.t (by rw [lit_bs, catS_bs, eqS_bs]; decide) (CallK.retV (o_Words w10 [97, 98, 99, 100, 101] (by decide)) fun a l c w11 hf k11 => ⟨_, _, _, rfl, h9 _ w11 fun _ K10 h10 => ?_⟩)
  have hl := hf.now.1
  refine SplitK.t (by rw [hl]; decide) (CallK.retV (o_Words w11 [97, 98, 99, 100] (by decide)) fun a l c w12 hf k12 => ⟨_, _, _, rfl, ?_⟩)
  refine CallK.ret (o_Text w12 hf.now (by decide) (by decide)) fun w13 k13 => ⟨_, rfl, h10 _ w13 fun _ => ⟨?_, ?_⟩⟩
  · rw [lit_bs, eqS_bs]
    exact congrArg Value.bool (by decide)
  · exact ((((((((((((Keep.refl [] w).drew.trans0 k2).trans0 k3).trans0 k4).trans0 k5).trans0 k6).trans0 k7).trans0 k8).trans0 k9).trans0 k10).trans0 k11).trans0 k12).trans0 k13

theorem numbers_01 (w : World) (n : Nat) (k : Int) (s : List UInt8) (hn : n < 18446744073709551616) : Calls Try.prog 3 #[.int .u64 n, .int .i64 k, .string (bs s)] w (Ret w (.bool true)) := by
  refine calls_ret (F3_calls _ _ _ _ _ ?_)
  refine CallK.ret (works_01 w) fun w1 k1 => ⟨_, rfl, SplitK.f rfl (SplitK.of (fun h => ⟨rfl, k1⟩) (fun h => ?_))⟩
  simp at h
  refine CallK.ret (x_Big w1 n k hn) fun w2 k2 => ⟨_, rfl, ?_⟩
  refine CallK.ret (x_Low w2 n k hn) fun w3 k3 => ⟨_, rfl, ?_⟩
  refine CallK.ret (x_ReadBig w3 s (by omega)) fun w4 k4 => ⟨_, rfl, ?_⟩
  refine CallK.ret (x_ReadLow w4 s (by omega)) fun w5 k5 => ⟨_, rfl, SplitK.t rfl ?_⟩
  refine CallK.ret (o_Big w5 n k hn) fun w6 k6 => ⟨_, rfl, SplitK.t (by simp) ?_⟩
  refine CallK.ret (o_Low w6 n k hn) fun w7 k7 => ⟨_, rfl, SplitK.t (by simp) ?_⟩
  refine CallK.ret (o_ReadBig w7 s (by omega)) fun w8 k8 => ⟨_, rfl, SplitK.t (by simp) ?_⟩
  refine CallK.ret (o_ReadLow w8 s (by omega)) fun w9 k9 => ⟨_, rfl, ?_, (((((((k1.trans0 k2).trans0 k3).trans0 k4).trans0 k5).trans0 k6).trans0 k7).trans0 k8).trans0 k9⟩
  simp [eqI]

theorem mixes_01 (w : World) (a b : List UInt8) (size : Int) : Calls Try.prog 4 #[.string (bs a), .string (bs b), .int .i64 size] w (Ret w (.bool true)) := by
  refine calls_ret (F4_calls _ _ _ _ _ ?_)
  refine CallK.ret (works_01 w) fun w1 k1 => ⟨_, rfl, SplitK.f rfl fun K hK => ?_⟩
  have out : K [.bool true] w1 := hK _ _ fun _ => SplitK.t rfl ⟨rfl, k1⟩
  refine SplitK.of (fun h => out) fun ha => SplitK.of (fun h => out) fun hb => ?_
  refine hK _ _ fun _ => SplitK.of (fun h => ⟨rfl, k1⟩) fun hs => ?_
  simp at ha hb hs
  refine CallK.ret (x_Xor w1 a b (by omega) (by omega)) fun w2 k2 => ⟨_, rfl, ?_⟩
  refine CallK.ret (x_Fill w2 a size (by omega) (by omega)) fun w3 k3 => ⟨_, rfl, SplitK.t rfl ?_⟩
  refine CallK.ret (o_Xor w3 a b (by omega)) fun w4 k4 => ⟨_, rfl, SplitK.t (by simp) ?_⟩
  refine CallK.ret (o_Equal w4 a b (by omega)) fun w5 k5 => ⟨_, rfl, SplitK.t (by simp) ?_⟩
  refine CallK.ret (o_Fill w5 a size (by omega) (by omega)) fun w6 k6 => ⟨_, rfl, by simp, ((((k1.trans0 k2).trans0 k3).trans0 k4).trans0 k5).trans0 k6⟩

theorem tmod_range (n : Int) : -32 < Int.tmod n 32 ∧ Int.tmod n 32 < 32 := ⟨Int.lt_tmod_of_pos n (by decide), Int.tmod_lt_of_pos n (by decide)⟩

theorem turns_01 (w : World) (x : Nat) (n m : Int) (hx : x < 4294967296) : Calls Try.prog 5 #[.int .u32 x, .int .i64 n, .int .i64 m] w (Ret w (.bool true)) := by
  refine calls_ret (F5_calls _ _ _ _ _ ?_)
  have hn := tmod_range n
  have hm := tmod_range m
  have hn0 := Int.mul_tdiv_add_tmod n 32
  have hm0 := Int.mul_tdiv_add_tmod m 32
  refine CallK.ret (works_01 w) fun w1 k1 => ⟨_, rfl, SplitK.f rfl ?_⟩
  refine CallK.ret (o_Rol w1 x n hx) fun w2 k2 => ⟨_, rfl, ?_⟩
  refine CallK.ret (x_Rol w2 x n hx) fun w3 k3 => ⟨_, rfl, fun K hK => ?_⟩
  refine SplitK.f (by simp) ⟨by decide, ?_⟩
  have e1 : subI .i64 0 (remI n 32) = - Int.tmod n 32 := by rw [remI, subI_i64 (by omega) (by omega)]; omega
  have e2 : addI .i64 (remI n 32) (remI m 32) = Int.tmod n 32 + Int.tmod m 32 := by rw [remI, remI, addI_i64 (by omega) (by omega)]
  rw [e1]
  refine CallK.ret (o_Rol w3 _ _ (rolI_lt hx n)) fun w4 k4 => ⟨_, rfl, hK _ _ fun _ => SplitK.f ?_ (SplitK.t rfl ?_)⟩
  · rw [rolI_add hx, rolI_congr (m := 0) (by omega), rolI_zero]; simp [eqI]
  refine CallK.ret (o_Rol w4 _ m (rolI_lt hx n)) fun w5 k5 => ⟨_, rfl, by decide, by decide, ?_⟩
  rw [e2]
  refine CallK.ret (o_Rol w5 x _ hx) fun w6 k6 => ⟨_, rfl, ?_, ((((k1.trans0 k2).trans0 k3).trans0 k4).trans0 k5).trans0 k6⟩
  rw [rolI_add hx, rolI_congr (n := n + m) (m := Int.tmod n 32 + Int.tmod m 32) (by omega)]
  simp [eqI]

theorem words_01 (w : World) (s : List UInt8) {a : Option Addr} {l c : Nat} {xs : List Nat} (h : VsAt w a l (u32s xs)) (hx : ∀ x ∈ xs, x < 4294967296) :
    Calls Try.prog 6 #[.string (bs s), .slice a l c] w (Ret w (.bool true)) := by
  refine calls_ret (F6_calls _ _ _ _ _ _ ?_)
  have hl := h.1
  simp at hl
  refine CallK.ret (works_01 w) fun w1 k1 => ⟨_, rfl, SplitK.f rfl fun K hK => ?_⟩
  refine SplitK.of (fun h => hK _ _ fun _ => SplitK.t rfl ⟨rfl, k1⟩) fun hs => ?_
  refine hK _ _ fun _ => SplitK.of (fun h => ⟨rfl, k1⟩) fun hb => ?_
  simp at hs hb
  refine CallK.retV (o_Words w1 s (by omega)) fun a1 l1 c1 w2 f1 k2 => ⟨_, _, _, rfl, ?_⟩
  refine CallK.retV (x_Words w2 s (by omega)) fun a2 l2 c2 w3 f2 k3 => ⟨_, _, _, rfl, ?_⟩
  have K3 := (k1.trans0 k2).trans0 k3
  refine CallK.ret (o_Text w3 (h.keep0 K3) hx (by omega)) fun w4 k4 => ⟨_, rfl, ?_⟩
  refine CallK.ret (x_Text w4 (h.keep0 (K3.trans0 k4)) hx (by omega)) fun w5 k5 => ⟨_, rfl, fun K1 hK1 => ?_⟩
  have K5 := (K3.trans0 k4).trans0 k5
  refine CallK.ret (x_Same w5 (f1.now.keep0 ((k3.trans0 k4).trans0 k5)) (f2.now.keep0 (k4.trans0 k5)) (by simp; omega)) fun w6 k6 => ⟨_, rfl, SplitK.t (by simp) ?_⟩
  have ht := textL_length xs
  refine CallK.retV (o_Words w6 _ (by omega)) fun a3 l3 c3 w7 f3 k7 => ⟨_, _, _, rfl, ?_⟩
  have K7 := (K5.trans0 k6).trans0 k7
  refine CallK.ret (x_Same w7 f3.now (h.keep0 K7) (by simp; omega)) fun w8 k8 => ⟨_, rfl, hK1 _ _ fun _ => ?_⟩
  rintro w9 rfl K2 hK2
  refine SplitK.t rfl (hK2 _ _ fun _ K3 hK3 => SplitK.t ?_ (hK3 _ _ fun _ K4 hK4 => SplitK.t (by simp) ?_))
  · simp [wordsL_textL _ hx]
  have e1 : mulI .i64 (quoI .i64 (natI (sizeS (bs s))) 4) 4 = ((s.length / 4 * 4 : Nat) : Int) := by
    rw [sizeS_bs, natI_eq]
    have := quoI_nat s.length 4 (by omega)
    rw [show ((4 : Nat) : Int) = 4 from rfl] at this
    rw [this]
    exact mulI_nat _ 4 (by omega)
  rw [e1]
  refine ⟨by decide, by omega, by simp; omega, ?_⟩
  refine CallK.ret (o_Text (World.drew w8) (f1.now.keep0 (((((k3.trans0 k4).trans0 k5).trans0 k6).trans0 k7).trans0 k8).drew) (fun x hx => ?_) (by simp; omega)) fun w9 k9 => ⟨_, rfl, hK4 _ _ fun _ => ⟨?_, (K7.trans0 k8).drew.trans0 k9⟩⟩
  · simp only [wordsL, List.mem_map] at hx
    obtain ⟨i, _, rfl⟩ := hx
    exact wordAt_lt s i
  · rw [textL_wordsL, cutS_bs, eqS_bs]
    simp only [intN_eq, Int.toNat_natCast, List.drop_zero, decide_true]

theorem back_01 (w : World) (n : Nat) (k : Int) (hn : n < 18446744073709551616) : Calls Try.prog 7 #[.int .u64 n, .int .i64 k] w (Ret w (.bool true)) := by
  refine calls_ret (F7_calls _ _ _ _ ?_)
  refine CallK.ret (works_01 w) fun w1 k1 => ⟨_, rfl, SplitK.f rfl ?_⟩
  refine CallK.ret (o_Big w1 n k hn) fun w2 k2 => ⟨_, rfl, ?_⟩
  refine CallK.ret (o_Low w2 n k hn) fun w3 k3 => ⟨_, rfl, fun K hK => ?_⟩
  have h8 := many_le k
  generalize many k = N at *
  refine SplitK.f (by simp [eqI]) (hK _ _ fun _ => SplitK.f (by simp; omega) ?_)
  refine ⟨fun n' vs w1 => ∃ i : Nat, vs = [.int .i64 i] ∧ i + n' = N ∧ Keep [] w w1, ⟨N, 0, rfl, by omega, (k1.trans0 k2).trans0 k3⟩, ?_⟩
  rintro n' vs w4 ⟨i, rfl, hi, hK4⟩
  refine ⟨_, rfl, fun _ => SplitK.of (fun h => ?_) (fun h => ?_)⟩
  · simp at h
    rintro w5 rfl
    have e1 : subI .i64 (subI .i64 (natI (sizeS (bs (lowL n N)))) 1) (i : Int) = ((N - 1 - i : Nat) : Int) := by
      rw [sizeS_bs, natI_eq, lowL_length]
      have := subI_nat N 1 (by omega) (by omega)
      rw [show ((1 : Nat) : Int) = 1 from rfl] at this
      rw [this, subI_nat _ _ (by omega) (by omega)]
    rw [e1]
    refine ⟨by omega, byteAt (by simp; omega) ⟨by omega, byteAt (by simp; omega) ?_⟩⟩
    refine SplitK.f ?_ ⟨n' - 1, by omega, i + 1, by rw [addI_one (by omega)], by omega, hK4.drew⟩
    simp [bigL]
  · simp at h
    intro K1 hK1
    have fin : ∀ m : Nat, m = n % 256 ^ N → K1 [.int .u64 m] w4 := by
      rintro m rfl
      refine hK1 _ _ fun _ => SplitK.t rfl ?_
      refine CallK.ret (o_ReadBig w4 _ (by simp; omega)) fun w5 k5 => ⟨_, rfl, SplitK.t ?_ ?_⟩
      · rw [readB_bigL h8]; simp [eqI]
      refine CallK.ret (o_ReadLow w5 _ (by simp; omega)) fun w6 k6 => ⟨_, rfl, ?_, (hK4.trans0 k5).trans0 k6⟩
      rw [readL_lowL h8]; simp [eqI]
    refine SplitK.of (fun h8 => ?_) (fun h8 => ?_)
    · simp at h8
      have e1 : wrapI .u64 (natI (sizeS (bs (bigL n N)))) = ((N : Nat) : Int) := by
        rw [sizeS_bs, natI_eq, bigL_length, wrapI_u64, Nat.mod_eq_of_lt (by omega)]
      have e2 : mulI .u64 8 (N : Int) = ((8 * N : Nat) : Int) := by
        have := mulI_u64 8 N
        rw [Nat.mod_eq_of_lt (by omega)] at this
        exact this
      have hp : (2 : Nat) ^ (8 * N) = 256 ^ N := by rw [Nat.pow_mul]
      have hlt : (2 : Nat) ^ (8 * N) < 18446744073709551616 := by
        have : (2 : Nat) ^ (8 * N) ≤ 2 ^ 56 := Nat.pow_le_pow_right (by decide) (by omega)
        omega
      have e3 : shlI .u64 1 ((8 * N : Nat) : Int) = ((256 ^ N : Nat) : Int) := by
        have := shlI_u64 1 (8 * N)
        rw [Nat.one_mul, Nat.mod_eq_of_lt hlt, hp] at this
        exact this
      have hp0 : 0 < 256 ^ N := Nat.pow_pos (by decide)
      rw [e1, e2, e3, remI_nat]
      exact ⟨by omega, by omega, fin _ rfl⟩
    · simp at h8
      have : N = 8 := by omega
      subst this
      exact fin n (by rw [Nat.mod_eq_of_lt]; exact hn)

theorem self_01 (w : World) (a b : List UInt8) : Calls Try.prog 8 #[.string (bs a), .string (bs b)] w (Ret w (.bool true)) := by
  refine calls_ret (F8_calls _ _ _ _ ?_)
  refine CallK.ret (works_01 w) fun w1 k1 => ⟨_, rfl, SplitK.f rfl fun K hK => ?_⟩
  refine SplitK.of (fun h => hK _ _ fun _ => SplitK.t rfl ⟨rfl, k1⟩) fun ha => ?_
  refine hK _ _ fun _ => SplitK.of (fun h => ⟨rfl, k1⟩) fun hb => ?_
  simp at ha hb
  refine CallK.ret (o_Fill w1 [] 1 (by decide) (by decide)) fun w2 k2 => ⟨_, rfl, ?_⟩
  refine CallK.ret (o_Xor w2 a a (by omega)) fun w3 k3 => ⟨_, rfl, ?_⟩
  rw [xorL_self]
  refine ⟨fun n vs w1 => ∃ i : Nat, vs = [.int .i64 i] ∧ i + n = a.length ∧ Keep [] w w1, ⟨a.length, 0, rfl, by omega, (k1.trans0 k2).trans0 k3⟩, ?_⟩
  rintro n vs w4 ⟨i, rfl, hi, k4⟩
  refine ⟨_, rfl, fun _ => SplitK.of (fun h => ?_) (fun h => ?_)⟩
  · simp [zerosB] at h
    refine ⟨by omega, byteAt (by simp [zerosB]; omega) (SplitK.f (by simp [zerosB]) ⟨n - 1, by omega, i + 1, by rw [addI_one (by omega)], by omega, k4⟩)⟩
  · rintro w5 rfl K1 h1
    refine SplitK.t rfl (h1 _ _ fun _ K2 h2 => SplitK.t (by rw [empty_bs, eqS_bs]; decide) (h2 _ _ fun _ K3 h3 => SplitK.t (by simp [zerosB, eqI]) ?_))
    have em : minI (natI (sizeS (bs a))) (natI (sizeS (bs b))) = ((min a.length b.length : Nat) : Int) := min_len a b
    rw [em]
    refine ⟨by omega, by simp; omega, ?_⟩
    refine CallK.ret (o_Xor _ a b (by omega)) fun w6 k6 => ⟨_, rfl, ?_⟩
    refine CallK.ret (o_Xor w6 _ b (by simp; omega)) fun w7 k7 => ⟨_, rfl, h3 _ _ fun _ K4 h4 => SplitK.t ?_ ?_⟩
    · rw [xorL_twice, cutS_bs, eqS_bs]; simp
    refine CallK.ret (o_Xor w7 a b (by omega)) fun w8 k8 => ⟨_, rfl, ?_⟩
    refine CallK.ret (o_Xor w8 b a (by omega)) fun w9 k9 => ⟨_, rfl, h4 _ _ fun _ K5 h5 => SplitK.t ?_ ?_⟩
    · rw [xorL_comm]; simp
    refine CallK.ret (o_Xor w9 a (zerosB a.length) (by omega)) fun w10 k10 => ⟨_, rfl, h5 _ _ fun _ => ⟨?_, ((((k4.drew.trans0 k6).trans0 k7).trans0 k8).trans0 k9).trans0 k10⟩⟩
    rw [xorL_zeros]; simp

theorem fills_01 (w : World) (s : List UInt8) (size : Int) : Calls Try.prog 9 #[.string (bs s), .int .i64 size] w (Ret w (.bool true)) := by
  refine calls_ret (F9_calls _ _ _ _ ?_)
  refine CallK.ret (works_01 w) fun w1 k1 => ⟨_, rfl, SplitK.f rfl fun K hK => ?_⟩
  refine SplitK.of (fun h => hK _ _ fun _ => SplitK.t rfl ⟨rfl, k1⟩) fun ha => ?_
  refine hK _ _ fun _ => SplitK.of (fun h => ⟨rfl, k1⟩) fun hb => ?_
  simp at ha hb
  refine CallK.ret (o_Fill w1 s size (by omega) (by omega)) fun w2 k2 => ⟨_, rfl, SplitK.of (fun h => ?_) (fun h => ?_)⟩
  · simp at h
    refine SplitK.t rfl ⟨?_, k1.trans0 k2⟩
    rw [fillL, if_pos (by omega)]; simp
  · simp at h
    obtain ⟨m, rfl⟩ := Int.eq_ofNat_of_zero_le (show 0 ≤ size by omega)
    have hm : 0 < m := by omega
    have hf := fillN_lt (n := s.length) hm
    have ef : fillL s (m : Int) = s ++ zerosB (fillN s.length m) := by rw [fillL, if_neg (by omega)]; rfl
    rw [ef]
    intro K1 h1
    have hlen : natI (sizeS (bs (s ++ zerosB (fillN s.length m)))) = ((s.length + fillN s.length m : Nat) : Int) := by rw [sizeS_bs]; simp [zerosB]
    have hls : natI (sizeS (bs s)) = (s.length : Int) := by rw [sizeS_bs]; rfl
    rw [hlen, hls]
    refine SplitK.f (by simp; omega) ⟨by omega, by omega, SplitK.f ?_ (SplitK.f ?_ ⟨by omega, ?_⟩)⟩
    · rw [cutS_bs, eqS_bs]; simp
    · rw [subI_nat _ _ (by omega) (by omega)]; simp; omega
    rw [remI_nat, fillN_mul hm]
    refine h1 _ _ fun _ => SplitK.f (by decide) ?_
    refine ⟨fun n vs w1 => ∃ i : Nat, vs = [.int .i64 (s.length + i : Nat)] ∧ i + n = fillN s.length m ∧ Keep [] w w1, ⟨fillN s.length m, 0, by simp, by omega, k1.trans0 k2⟩, ?_⟩
    rintro n vs w4 ⟨i, rfl, hi, k4⟩
    refine ⟨_, rfl, fun _ => SplitK.of (fun h => ?_) (fun h => ?_)⟩
    · simp only [ltI_t] at h
      refine ⟨by omega, byteAt (by simp [zerosB]; omega) (SplitK.f ?_ ⟨n - 1, by omega, i + 1, ?_, by omega, k4⟩)⟩
      · simp only [intN_eq, Int.toNat_natCast]
        rw [List.getElem_append_right (by omega)]
        simp [zerosB]
      · rw [addI_one (by omega)]; rfl
    · simp only [ltI_f] at h
      refine SplitK.t rfl ?_
      refine CallK.ret (o_Fill w4 _ (m : Int) (by simp [zerosB]; omega) (by omega)) fun w5 k5 => ⟨_, rfl, ?_, k4.trans0 k5⟩
      have e0 : fillN (s ++ zerosB (fillN s.length m)).length m = 0 := fillN_zero (by simp [zerosB]; exact fillN_mul hm)
      rw [fillL, if_neg (by omega)]
      simp only [Int.toNat_natCast]
      rw [e0]
      simp [zerosB]

end Go.Proofs.Ytmbnklknpbgipaa
