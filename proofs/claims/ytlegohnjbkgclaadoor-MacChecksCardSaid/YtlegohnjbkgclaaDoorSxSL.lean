/-
  A part of the proof: SL.
-/
import Derived.Test.YtlegohnjbkgclaaDoorSxSG
import Derived.Test.YtlegohnjbkgclaaDoorSxTSL
import Derived.Test.YtlegohnjbkgclaaDoorSxAbc
namespace Go.Proofs.YtlegohnjbkgclaaDoor
open Go Go.Sx Go.Oct Go.Sha
set_option linter.unusedVariables false

theorem Mem.swap {w0 w : World} {lo : List Nat} {m : List (Nat × Obj)} {F : World → Prop} {x y : Nat × Obj} (M : Mem w0 lo (x :: y :: m) F w) : Mem w0 lo (y :: x :: m) F w := M.perm (List.Perm.swap _ _ _)

theorem s_PadAny (w : World) (n : Int) (hn : n < 9223372036854775808) : Calls Tryd.prog 22 #[.int .i64 n] w (fun e w' => ∃ s : List UInt8, e = .returned (.string (bs s)) ∧ (n ≤ 1099511627776 → s = padI n) ∧ (n < 0 → s = []) ∧ Keep [] w w') := by
  by_cases hb : n ≤ 1099511627776
  · refine (s_Pad w n hb).mono fun e w' ⟨he, hk⟩ => ⟨_, he, fun _ => rfl, fun h => by rw [padI, if_pos h], hk⟩
  · refine Calls.mono (F22_calls n w (fun v w' => ∃ s : List UInt8, v = .string (bs s) ∧ Keep [] w w') ?_) (fun e w' ⟨v, he, s, hv, hk⟩ => ⟨s, by rw [he, hv], fun h => absurd h hb, fun h => by omega, hk⟩)
    refine SplitK.f (by simp; omega) ⟨by decide, by decide, ?_⟩
    have hx : ∀ x : Int, ∃ z : Nat, z < 64 ∧ remI (subI .i64 128 (remI x 64)) 64 = (z : Int) := by
      intro x
      have h1 := Int.lt_tmod_of_pos x (show (0 : Int) < 64 by decide)
      have h2 := Int.tmod_lt_of_pos x (show (0 : Int) < 64 by decide)
      have e : subI .i64 128 (remI x 64) = ((128 - Int.tmod x 64).toNat : Int) := by
        rw [remI, subI_i64 (by omega) (by omega)]; omega
      rw [e]
      exact ⟨(128 - Int.tmod x 64).toNat % 64, Nat.mod_lt _ (by decide), remI_nat _ 64⟩
    obtain ⟨z, hz, ez⟩ := hx (addI .i64 (addI .i64 n 1) 8)
    rw [ez]
    refine CallK.ret (s_Repeat w [0] z (by simp; omega) (by omega)) fun w1 h1 => ⟨_, rfl, ?_⟩
    rw [repeatL_zeros, lit_bs [128], catS_bs]
    refine ⟨by simp [zerosB]; omega, by decide, ?_⟩
    have e6 : shlI .u64 (wrapI .u64 n) 3 = (((n % 18446744073709551616).toNat * 8 % 18446744073709551616 : Nat) : Int) := by
      rw [wrapI_u64i]
      obtain ⟨q, hq⟩ := Int.eq_ofNat_of_zero_le (show 0 ≤ n % 18446744073709551616 by omega)
      rw [hq]
      exact shlI_u64 q 3
    rw [e6]
    refine CallK.ret (o_Big w1 _ 8 (Nat.mod_lt _ (by decide))) fun w2 h2 => ⟨_, rfl, ?_⟩
    rw [catS_bs, many8]
    exact ⟨by simp [zerosB]; omega, _, rfl, h1.trans0 h2⟩

def HEXABC : List UInt8 := [98, 97, 55, 56, 49, 54, 98, 102, 56, 102, 48, 49, 99, 102, 101, 97, 52, 49, 52, 49, 52, 48, 100, 101, 53, 100, 97, 101, 50, 50, 50, 51, 98, 48, 48, 51, 54, 49, 97, 51, 57, 54, 49, 55, 55, 97, 57, 99, 98, 52, 49, 48, 102, 102, 54, 49, 102, 50, 48, 48, 49, 53, 97, 100]
theorem hexabc : unhexR HEXABC = some (sumL [97, 98, 99]) := by rw [abc_sum]; decide +kernel
theorem hexb0 : unhexR [66, 48] = none := by decide +kernel
theorem eqS_refl (s : List UInt8) : eqS (bs s) (bs s) = true := by rw [eqS_bs]; simp
theorem nonone (b : Nat) : noneA (some ⟨b, 0, none⟩) = false := rfl

theorem works_02 (w : World) (hw : Laid w) : Calls Tryd.prog 15 #[] w (Ret w (.bool true)) := by
  refine calls_ret (F15_calls _ _ ?_)
  refine s_New (fun _ h => h) hw.mem fun a w1 M => ⟨_, rfl, SplitK.f rfl ?_⟩
  refine s_Write (s := [97, 98]) (fun _ h => h) M (by decide) fun w2 M => ⟨rfl, ?_⟩
  refine s_Clone M 0 rfl fun a1 w3 M => ⟨_, rfl, ?_⟩
  refine s_Write (s := [99]) (fun _ h => h) (Mem.swap M) (by decide) fun w4 M => ⟨rfl, ?_⟩
  have M : Mem w [] [(a, stO [97, 98, 99]), (a1, stO [97, 98])] Laid w4 := M
  refine CallK.ret (s_Unhex w4 HEXABC (by decide)) fun w5 k => ⟨_, _, rfl, ?_⟩
  have M := M.call k
  refine CallK.ret (s_Unhex w5 [66, 48] (by decide)) fun w6 k => ⟨_, _, rfl, ?_⟩
  have M := M.call k
  have e1 : unhexL HEXABC = sumL [97, 98, 99] := by rw [unhexL, hexabc]; rfl
  refine SplitK.t rfl (SplitK.t (by rw [unhexB, hexabc]; rfl) (SplitK.t (by rw [unhexB, hexb0]; rfl) ?_))
  rw [e1]
  refine CallK.ret (s_SumOf w6 M.now [97, 98, 99] (by decide)) fun w7 k => ⟨_, rfl, SplitK.t (eqS_refl _) ?_⟩
  have M := M.call k
  refine CallK.ret (s_Sum w7 M.now a _ (M.cells 0 (c := stT [97, 98, 99]) rfl) (by decide)) fun w8 k => ⟨_, rfl, SplitK.t (eqS_refl _) ?_⟩
  have M := M.call k
  refine CallK.ret (s_Sum w8 M.now a1 _ (M.cells 1 (c := stT [97, 98]) rfl) (by decide)) fun w9 k => ⟨_, rfl, ?_⟩
  have M := M.call k
  refine CallK.ret (s_SumOf w9 M.now [97, 98] (by decide)) fun w10 k => ⟨_, rfl, SplitK.t (eqS_refl _) ?_⟩
  have M := M.call k
  refine CallK.ret (s_Len M 0 rfl) fun w11 k => ⟨_, rfl, SplitK.t rfl ?_⟩
  have M := M.call k
  refine CallK.ret (s_Len M 1 rfl) fun w12 k => ⟨_, rfl, SplitK.t rfl ?_⟩
  have M := M.call k
  refine CallK.ret (s_Hex w12 [15] (by decide)) fun w13 k => ⟨_, rfl, SplitK.t (by rw [lit_bs, eqS_bs]; decide) ?_⟩
  have M := M.call k
  refine CallK.ret (s_Pad w13 3 (by decide)) fun w14 k => ⟨_, rfl, ?_, (M.call k).keep⟩
  rw [sizeS_bs]
  exact congrArg Value.bool (by decide)

theorem sums_02 (w : World) (s : List UInt8) (n : Int) (d : List UInt8) (hw : Laid w) : Calls Tryd.prog 3 #[.string (bs s), .int .i64 n, .string (bs d)] w (Ret w (.bool true)) := by
  refine calls_ret (F3_calls _ _ _ _ _ ?_)
  refine CallK.ret (works_02 w hw) fun w1 k1 => ⟨_, rfl, SplitK.f rfl fun K hK => ?_⟩
  have out : K [.bool true] w1 := hK _ _ fun _ => SplitK.t rfl ⟨rfl, k1⟩
  refine SplitK.of (fun h => out) fun hs => SplitK.of (fun h => out) fun hd => ?_
  refine hK _ _ fun _ => SplitK.of (fun h => ⟨rfl, k1⟩) fun hn => ?_
  simp at hs hd hn
  have M := hw.mem.call k1
  refine CallK.ret (x_Sum w1 s (by omega)) fun w2 k => ⟨_, rfl, ?_⟩
  have M := M.call k
  refine CallK.ret (x_Pad w2 n (by omega)) fun w3 k => ⟨_, rfl, ?_⟩
  have M := M.call k
  refine CallK.ret (x_Hex w3 s (by omega)) fun w4 k => ⟨_, rfl, ?_⟩
  have M := M.call k
  refine CallK.ret (s_Unhex w4 d (by omega)) fun w5 k => ⟨_, _, rfl, ?_⟩
  have M := M.call k
  refine CallK.ret (x_Unhex w5 d (by omega)) fun w6 k => ⟨_, _, rfl, SplitK.t rfl ?_⟩
  have M := M.call k
  refine CallK.ret (s_SumOf w6 M.now s (by omega)) fun w7 k => ⟨_, rfl, SplitK.t (eqS_refl _) ?_⟩
  have M := M.call k
  refine CallK.ret (s_Pad w7 n (by omega)) fun w8 k => ⟨_, rfl, SplitK.t (eqS_refl _) ?_⟩
  have M := M.call k
  refine CallK.ret (s_Hex w8 s (by omega)) fun w9 k => ⟨_, rfl, SplitK.t (eqS_refl _) (SplitK.t (eqS_refl _) ?_)⟩
  have M := M.call k
  exact ⟨by simp, M.keep⟩

theorem clones_02 (w : World) (a b c : List UInt8) (hw : Laid w) : Calls Tryd.prog 5 #[.string (bs a), .string (bs b), .string (bs c)] w (Ret w (.bool true)) := by
  refine calls_ret (F5_calls _ _ _ _ _ ?_)
  refine CallK.ret (works_02 w hw) fun w1 k1 => ⟨_, rfl, SplitK.f rfl ?_⟩
  have M := hw.mem.call k1
  refine s_New (fun _ h => h) M fun x w2 M => ⟨_, rfl, fun K hK => ?_⟩
  have out : K [.bool true] w2 := hK _ _ fun _ => SplitK.t rfl (SplitK.t rfl ⟨rfl, M.keep⟩)
  refine SplitK.of (fun h => out) fun ha => SplitK.of (fun h => out) fun hb => SplitK.of (fun h => out) fun hc => ?_
  simp at ha hb hc
  refine hK _ _ fun _ => SplitK.f rfl ?_
  clear out
  refine s_Write (s := a) (fun _ h => h) M (by simp; omega) fun w3 M => ⟨rfl, ?_⟩
  rw [List.nil_append] at M
  refine s_Clone M 0 rfl fun y w4 M => ⟨_, rfl, SplitK.f rfl ?_⟩
  refine s_Write (s := b) (fun _ h => h) (Mem.swap M) (by omega) fun w5 M => ⟨rfl, ?_⟩
  refine s_Write (s := c) (fun _ h => h) (Mem.swap M) (by omega) fun w6 M => ⟨rfl, SplitK.t rfl ?_⟩
  refine CallK.ret (s_Sum w6 M.now x _ (M.cells 1 (c := stT (a ++ b)) rfl) (by simp; omega)) fun w7 k => ⟨_, rfl, by simp; omega, ?_⟩
  have M := M.call k
  rw [catS_bs]
  refine CallK.ret (s_SumOf w7 M.now _ (by simp; omega)) fun w8 k => ⟨_, rfl, SplitK.t (eqS_refl _) ?_⟩
  have M := M.call k
  refine CallK.ret (s_Sum w8 M.now y _ (M.cells 0 (c := stT (a ++ c)) rfl) (by simp; omega)) fun w9 k => ⟨_, rfl, by simp; omega, ?_⟩
  have M := M.call k
  rw [catS_bs]
  refine CallK.ret (s_SumOf w9 M.now _ (by simp; omega)) fun w10 k => ⟨_, rfl, SplitK.t (eqS_refl _) ?_⟩
  have M := M.call k
  refine CallK.ret (s_Len M 1 rfl) fun w11 k => ⟨_, rfl, by simp; omega, SplitK.t (by simp) ?_⟩
  have M := M.call k
  refine CallK.ret (s_Len M 0 rfl) fun w12 k => ⟨_, rfl, by simp; omega, ?_, (M.call k).keep⟩
  simp

theorem padL_inj {n m : Nat} (hn : n ≤ 1099511627776) (hm : m ≤ 1099511627776) (h : padL n = padL m) : n = m := by
  have hl : (padL n).length = (padL m).length := by rw [h]
  rw [padL_length, padL_length] at hl
  have hz : padZ n = padZ m := by omega
  unfold padL at h
  rw [hz] at h
  have h2 := List.append_cancel_left h
  have h3 := bigL_inj (k := 8) (Nat.mod_lt _ (by decide)) (Nat.mod_lt _ (by decide)) h2
  omega

theorem pads_02 (w : World) (n m : Int) (hn : -9223372036854775808 ≤ n ∧ n ≤ 9223372036854775807) (hm : -9223372036854775808 ≤ m ∧ m ≤ 9223372036854775807) (hw : Laid w) : Calls Tryd.prog 6 #[.int .i64 n, .int .i64 m] w (Ret w (.bool true)) := by
  refine calls_ret (F6_calls _ _ _ _ ?_)
  refine CallK.ret (works_02 w hw) fun w1 k1 => ⟨_, rfl, SplitK.f rfl ?_⟩
  refine (s_PadAny w1 n (by omega)).mono ?_
  rintro e w2 ⟨p, rfl, hp, hp0, k2⟩
  refine ⟨_, rfl, (s_PadAny w2 m (by omega)).mono ?_⟩
  rintro e w3 ⟨q, rfl, hq, hq0, k3⟩
  have k := (k1.trans0 k2).trans0 k3
  refine ⟨_, rfl, SplitK.of (fun h => ?_) (fun h => ?_)⟩
  · simp at h
    rw [hp0 h]
    exact SplitK.t rfl ⟨by rw [lit_bs [], eqS_refl], k⟩
  · simp at h
    intro K hK
    refine SplitK.of (fun h => hK _ _ fun _ => SplitK.t rfl ⟨rfl, k⟩) fun hnb => ?_
    refine hK _ _ fun _ => SplitK.of (fun h => ⟨rfl, k⟩) fun hmb => SplitK.t rfl ?_
    simp at hnb hmb
    obtain ⟨n, rfl⟩ := Int.eq_ofNat_of_zero_le h
    have hpe : p = padL n := by rw [hp (by omega), padI, if_neg (by omega), Int.toNat_natCast]
    subst hpe
    have hl := padL_length n
    have hz := padZ_lt n
    have hf := padL_fills n
    refine SplitK.t (by simp; omega) (SplitK.t (by simp; omega) ⟨by decide, byteAt (by simp; omega) (SplitK.t (by rfl) ⟨by decide, SplitK.t ?_ ?_⟩)⟩)
    · rw [sizeS_bs, natI_eq, addI_nat _ _ (by omega)]
      have := remI_nat (n + (padL n).length) 64
      rw [show ((64 : Nat) : Int) = 64 from rfl] at this
      rw [this, hf]; rfl
    · refine SplitK.of (fun h => ⟨rfl, k⟩) fun hm0 => ⟨?_, k⟩
      simp at hm0
      obtain ⟨m, rfl⟩ := Int.eq_ofNat_of_zero_le hm0
      have hqe : q = padL m := by rw [hq (by omega), padI, if_neg (by omega), Int.toNat_natCast]
      subst hqe
      rw [eqS_bs, eqI_nat]
      congr 1
      by_cases hnm : n = m
      · subst hnm; simp
      · have : padL n ≠ padL m := fun he => hnm (padL_inj (by omega) (by omega) he)
        simp [this, hnm]

theorem hexes_02 (w : World) (s d : List UInt8) (hw : Laid w) : Calls Tryd.prog 7 #[.string (bs s), .string (bs d)] w (Ret w (.bool true)) := by
  refine calls_ret (F7_calls _ _ _ _ ?_)
  refine CallK.ret (works_02 w hw) fun w1 k1 => ⟨_, rfl, SplitK.f rfl fun K hK => ?_⟩
  have out : K [.bool true] w1 := hK _ _ fun _ => SplitK.t rfl ⟨rfl, k1⟩
  refine SplitK.of (fun h => out) fun hs => ?_
  refine hK _ _ fun _ => SplitK.of (fun h => ⟨rfl, k1⟩) fun hd => ?_
  simp at hs hd
  have hl := hexL_length s
  refine CallK.ret (s_Hex w1 s (by omega)) fun w2 k2 => ⟨_, rfl, ?_⟩
  refine CallK.ret (s_Unhex w2 _ (by omega)) fun w3 k3 => ⟨_, _, rfl, ?_⟩
  refine CallK.ret (s_Unhex w3 d (by omega)) fun w4 k4 => ⟨_, _, rfl, SplitK.t rfl ?_⟩
  have k := ((k1.trans0 k2).trans0 k3).trans0 k4
  have h1 := unhex_hex s
  refine SplitK.t ?_ (SplitK.t (by rw [unhexB, h1]; rfl) (SplitK.t (by rw [unhexL, h1]; exact eqS_refl s) ?_))
  · rw [sizeS_bs, sizeS_bs, natI_eq, natI_eq, hl]
    have : mulI .i64 2 (s.length : Int) = ((2 * s.length : Nat) : Int) := mulI_nat 2 _ (by omega)
    rw [this]; simp
  cases hu : unhexR d with
  | none =>
    have e1 : unhexB d = false := by rw [unhexB, hu]; rfl
    have e2 : unhexL d = [] := by rw [unhexL, hu]; rfl
    rw [e1, e2]
    exact SplitK.f rfl (SplitK.t rfl ⟨by rw [lit_bs [], eqS_refl], k⟩)
  | some t =>
    have e1 : unhexB d = true := by rw [unhexB, hu]; rfl
    have e2 : unhexL d = t := by rw [unhexL, hu]; rfl
    have e3 := hex_unhex d t hu
    have hlt := hexL_length t
    rw [e1, e2]
    refine SplitK.t rfl (CallK.ret (s_Hex w4 t (by rw [e3] at hlt; omega)) fun w5 k5 => ⟨_, rfl, ?_⟩)
    rw [e3]
    exact SplitK.t (eqS_refl _) ⟨rfl, k.trans0 k5⟩

theorem sizes_02 (w : World) (s : List UInt8) (hw : Laid w) : Calls Tryd.prog 8 #[.string (bs s)] w (Ret w (.bool true)) := by
  refine calls_ret (F8_calls _ _ _ ?_)
  refine CallK.ret (works_02 w hw) fun w1 k1 => ⟨_, rfl, SplitK.f rfl ?_⟩
  refine SplitK.of (fun h => ⟨rfl, k1⟩) fun hs => ?_
  simp at hs
  have M := hw.mem.call k1
  refine CallK.ret (s_SumOf w1 M.now s (by omega)) fun w2 k => ⟨_, rfl, SplitK.t rfl (SplitK.t (by rw [sizeS_bs, sumL_length]; rfl) ?_)⟩
  have M := M.call k
  refine CallK.ret (s_SumOf w2 M.now s (by omega)) fun w3 k => ⟨_, rfl, SplitK.t (eqS_refl _) ?_⟩
  have M := M.call k
  refine CallK.ret (s_Hex w3 _ (by rw [sumL_length]; decide)) fun w4 k => ⟨_, rfl, ?_, (M.call k).keep⟩
  rw [sizeS_bs, hexL_length, sumL_length]
  rfl

theorem parts_02 (w : World) (p : Nat) {a : Option Addr} {l c : Nat} {xs : List ByteArray} (h : StrsAt w a l xs) (hp : p < 256) (hw : Laid w) : Calls Tryd.prog 4 #[.slice a l c, .int .u8 p] w (Ret w (.bool true)) := by
  refine calls_ret (F4_calls _ _ _ _ _ _ ?_)
  refine CallK.ret (works_02 w hw) fun w1 k1 => ⟨_, rfl, SplitK.f rfl ?_⟩
  have M := (hw.mem.call k1).addF (G := fun w => StrsAt w a l xs) (fun w' hk => (h.keep0 k1).keep0 hk)
  refine s_New (fun _ h => h.1) M fun x w2 M => ⟨_, rfl, fun K hK => ?_⟩
  refine SplitK.of (fun h => hK _ _ fun _ => SplitK.t rfl (SplitK.t rfl ⟨rfl, M.keep⟩)) fun hl => ?_
  simp at hl
  have hxl : l = xs.length := h.1
  refine hK _ _ fun _ => SplitK.f rfl ?_
  refine ⟨fun n vs w3 => ∃ (k : Nat) (t : List UInt8), vs = [.string (bs t), .int .i64 k] ∧ k + n = l ∧ t.length ≤ 300 * k ∧ Mem w [] [(x, stO t)] (fun w => Laid w ∧ StrsAt w a l xs) w3, ⟨l, 0, [], rfl, by omega, by simp, M⟩, ?_⟩
  clear M hK
  rintro n vs w3 ⟨k, t, rfl, hk, ht, M⟩
  refine ⟨_, _, rfl, fun _ => SplitK.of (fun hlt => ?_) (fun hlt => ?_)⟩
  · simp at hlt
    obtain ⟨q, hq, hcell⟩ := M.now.2.get (k := k) (by omega)
    obtain ⟨s, hs⟩ := bs_surj (xs[k]'(by omega))
    rw [hs] at hcell
    subst hq
    have e1 : addA q (mulN (intN (k : Int)) 1) = q.add k := addA_int q k
    refine ⟨by omega, by simp; omega, bs s, by rw [e1]; exact hcell, ?_⟩
    refine SplitK.of (fun h => ⟨rfl, M.keep⟩) fun hb => ?_
    simp at hb
    refine ⟨by omega, by simp; omega, bs s, by rw [e1]; exact hcell, by simp; omega, by omega, by simp; omega, bs s, by rw [e1]; exact hcell, ?_⟩
    refine s_Write (fun _ h => h.1) M (by omega) fun w4 M => ⟨rfl, fun K1 hK1 => ?_⟩
    rw [catS_bs] at hK1
    have go : ∀ w5, Mem w [] [(x, stO (t ++ s))] (fun w => Laid w ∧ StrsAt w (some q) l xs) w5 → K1 [.bool false] w5 := by
      intro w5 M
      refine hK1 _ _ fun _ => SplitK.f rfl ⟨n - 1, by omega, k + 1, t ++ s, by rw [addI_one (by omega)], by omega, by simp; omega, M⟩
    refine ⟨by decide, SplitK.of (fun he => ?_) (fun he => go _ M)⟩
    refine CallK.ret (s_Sum w4 M.now.1 x _ (M.cells 0 (c := stT (t ++ s)) rfl) (by simp; omega)) fun w5 k5 => ⟨_, rfl, ?_⟩
    have M := M.call k5
    rw [catS_bs]
    refine CallK.ret (s_SumOf w5 M.now.1 _ (by simp; omega)) fun w6 k6 => ⟨_, rfl, SplitK.f (by rw [eqS_refl]; rfl) ?_⟩
    have M := M.call k6
    refine CallK.ret (s_Len M 0 rfl) fun w7 k7 => ⟨_, rfl, ?_⟩
    have M := M.call k7
    have : notB (eqI ((t ++ s).length : Int) (natI (sizeS (bs (t ++ s))))) = false := by simp
    rw [this]
    exact go _ M
  · simp at hlt
    have e : k = l := by omega
    refine SplitK.t rfl ?_
    refine CallK.ret (s_Sum w3 M.now.1 x _ (M.cells 0 (c := stT t) rfl) (by omega)) fun w5 k5 => ⟨_, rfl, ?_⟩
    have M := M.call k5
    refine CallK.ret (s_SumOf w5 M.now.1 _ (by omega)) fun w6 k6 => ⟨_, rfl, SplitK.t (eqS_refl _) ?_⟩
    have M := M.call k6
    refine CallK.ret (s_Sum w6 M.now.1 x _ (M.cells 0 (c := stT t) rfl) (by omega)) fun w7 k7 => ⟨_, rfl, ?_⟩
    have M := M.call k7
    refine CallK.ret (s_Sum w7 M.now.1 x _ (M.cells 0 (c := stT t) rfl) (by omega)) fun w8 k8 => ⟨_, rfl, SplitK.t (eqS_refl _) ?_⟩
    have M := M.call k8
    refine CallK.ret (s_Len M 0 rfl) fun w9 k9 => ⟨_, rfl, ?_, (M.call k9).keep⟩
    simp

end Go.Proofs.YtlegohnjbkgclaaDoor
