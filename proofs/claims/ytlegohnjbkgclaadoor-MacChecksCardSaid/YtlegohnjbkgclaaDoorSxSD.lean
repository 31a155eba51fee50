/-
  A part of the proof: SD.
-/
import Derived.Test.YtlegohnjbkgclaaDoorSxSC
import Derived.Test.YtlegohnjbkgclaaDoorSxHex
namespace Go.Proofs.YtlegohnjbkgclaaDoor
open Go Go.Sx Go.Oct Go.Sha
set_option linter.unusedVariables false

theorem dig_bs : ByteArray.mk (List.toArray [48, 49, 50, 51, 52, 53, 54, 55, 56, 57, 97, 98, 99, 100, 101, 102]) = bs DIG := rfl
theorem many8 : many 8 = 8 := rfl
theorem many4 : many 4 = 4 := rfl
theorem wrapU64 (n : Nat) (h : n < 18446744073709551616) : wrapI .u64 (n : Int) = (n : Int) := by rw [wrapI_u64, Nat.mod_eq_of_lt h]

theorem s_Pad (w : World) (n : Int) (hn : n ≤ 1099511627776) : Calls Tryd.prog 22 #[.int .i64 n] w (Ret w (.string (bs (padI n)))) := by
  refine calls_ret (F22_calls _ _ _ ?_)
  refine SplitK.of (fun h => ?_) (fun h => ?_)
  · simp at h
    exact ⟨by rw [padI, if_pos h]; rfl, Keep.refl _ _⟩
  · simp at h
    obtain ⟨k, rfl⟩ := Int.eq_ofNat_of_zero_le h
    have e1 : addI .i64 (k : Int) 1 = ((k + 1 : Nat) : Int) := addI_nat _ 1 (by omega)
    have e2 : addI .i64 ((k + 1 : Nat) : Int) 8 = ((k + 9 : Nat) : Int) := addI_nat _ 8 (by omega)
    have e3 : remI ((k + 9 : Nat) : Int) 64 = (((k + 9) % 64 : Nat) : Int) := remI_nat _ 64
    have e4 : subI .i64 128 (((k + 9) % 64 : Nat) : Int) = ((128 - (k + 9) % 64 : Nat) : Int) := subI_nat 128 _ (by omega) (by omega)
    have e5 : remI ((128 - (k + 9) % 64 : Nat) : Int) 64 = ((padZ k : Nat) : Int) := remI_nat _ 64
    have hz := padZ_lt k
    refine ⟨by decide, by decide, ?_⟩
    rw [e1, e2, e3, e4, e5]
    refine CallK.ret (s_Repeat w [0] (padZ k) (by simp; omega) (by omega)) fun w1 h1 => ⟨_, rfl, ?_⟩
    rw [repeatL_zeros, lit_bs [128], catS_bs]
    refine ⟨by simp [zerosB]; omega, by decide, ?_⟩
    have e6 : shlI .u64 (wrapI .u64 (k : Int)) 3 = ((k * 8 % 18446744073709551616 : Nat) : Int) := by
      rw [wrapU64 k (by omega)]
      exact shlI_u64 k 3
    rw [e6]
    refine CallK.ret (o_Big w1 _ 8 (Nat.mod_lt _ (by decide))) fun w2 h2 => ⟨_, rfl, ?_⟩
    rw [catS_bs, many8]
    refine ⟨by simp [zerosB]; omega, ?_, h1.trans0 h2⟩
    rw [padI, if_neg (by omega), Int.toNat_natCast]
    rfl

theorem x_Pad (w : World) (n : Int) (hn : n ≤ 1099511627776) : Calls Tryd.prog 17 #[.int .i64 n] w (Ret w (.string (bs (padI n)))) := by
  refine calls_ret (F17_calls _ _ _ ?_)
  refine SplitK.of (fun h => ?_) (fun h => ?_)
  · simp at h
    exact ⟨by rw [padI, if_pos h]; rfl, Keep.refl _ _⟩
  · simp at h
    obtain ⟨m, rfl⟩ := Int.eq_ofNat_of_zero_le h
    refine (Mem.start w).newK fun b w1 M => ⟨[128], M.bytes 0 (T := 5) (fr := (0, 0)) rfl rfl, ?_⟩
    have hz := padZ_lt m
    have hz' : padZ m = (128 - (m + 9) % 64) % 64 := rfl
    refine ⟨fun n vs w1 => ∃ k : Nat, vs = [.string (bs ([128] ++ zerosB k))] ∧ k + n = padZ m ∧ Keep [] w w1, ⟨padZ m, 0, by simp [zerosB], by omega, M.keep⟩, ?_⟩
    rintro n vs w2 ⟨k, rfl, hk, hK⟩
    have e1 : remI (addI .i64 (addI .i64 (m : Int) (natI (sizeS (bs ([128] ++ zerosB k))))) 8) 64 = (((m + (k + 1) + 8) % 64 : Nat) : Int) := by
      rw [sizeS_bs, natI_eq, addI_nat _ _ (by simp [zerosB]; omega)]
      have : (([128] : List UInt8) ++ zerosB k).length = k + 1 := by simp [zerosB]
      rw [this]
      have e2 : addI .i64 ((m + (k + 1) : Nat) : Int) 8 = ((m + (k + 1) + 8 : Nat) : Int) := addI_nat _ 8 (by omega)
      rw [e2]
      exact remI_nat _ 64
    refine ⟨_, rfl, fun _ => ⟨by decide, ?_⟩⟩
    rw [e1]
    refine SplitK.of (fun h => ?_) (fun h => ?_)
    · simp only [notB_t, eqI_f] at h
      have h0 : (m + (k + 1) + 8) % 64 ≠ 0 := by omega
      refine (Mem.start w2).newK fun b1 w3 M => ⟨[0], M.bytes 0 (T := 5) (fr := (0, 0)) rfl rfl, ?_⟩
      refine ⟨by simp [zerosB]; omega, n - 1, by omega, k + 1, ?_, by omega, hK.trans0 M.keep⟩
      rw [catS_bs]
      simp [zerosB, List.replicate_succ']
    · simp only [notB_f, eqI_t] at h
      have h0 : (m + (k + 1) + 8) % 64 = 0 := by omega
      have : k = padZ m := by omega
      subst this
      have e6 : mulI .u64 (wrapI .u64 (m : Int)) 8 = ((m * 8 % 18446744073709551616 : Nat) : Int) := by
        rw [wrapU64 m (by omega)]
        exact mulI_u64 m 8
      rw [e6]
      refine CallK.ret (x_Big w2 _ 8 (Nat.mod_lt _ (by decide))) fun w3 h3 => ⟨_, rfl, ?_⟩
      rw [catS_bs, many8]
      refine ⟨by simp [zerosB]; omega, ?_, hK.trans0 h3⟩
      rw [padI, if_neg (by omega), Int.toNat_natCast]
      rfl

theorem s_Clone' {w0 w : World} {lo : List Nat} {m : List (Nat × Obj)} {F : World → Prop} (M : Mem w0 lo m F w) {b0 : Nat} {t : List UInt8} (hc : CellsAt w ⟨b0, 0, none⟩ (stT t)) {R : Ending → World → Prop}
    (h : ∀ b w', Mem w0 lo ((b, stO t) :: m) F w' → R (.returned (sptr b)) w') : CallK Tryd.prog 28 #[sptr b0] w R := by
  refine Calls.mono (F28_calls (some ⟨b0, 0, none⟩) w (fun v w' => R (.returned v) w') ?_) (fun e w' ⟨v, he, hr⟩ => by rw [he]; exact hr)
  refine ⟨_, _, _, _, _, _, _, _, _, _, hc, ?_⟩
  refine M.newK fun b w1 M => ?_
  refine M.stK 0 (off := 0) (c := stV ⟨0, 0, 0, 0, 0, 0, 0, 0⟩ [] 0) rfl (by simp [stV, u32s, St.l]) rfl fun w2 M => ?_
  exact h b w2 M

theorem outL_takelen (h : St) (k : Nat) : ((h.l.take k).map fun x => bigL x 4).flatten.length ≤ 32 := by
  have : ∀ l : List Nat, (l.map fun x => bigL x 4).flatten.length = 4 * l.length := by
    intro l
    induction l with
    | nil => rfl
    | cons x r ih => rw [List.map_cons, List.flatten_cons, List.length_append, ih, bigL_length, List.length_cons]; omega
  rw [this, List.length_take]
  have : h.l.length = 8 := rfl
  omega

theorem s_Sum (w : World) (hw : Laid w) (b0 : Nat) (t : List UInt8) (hc : CellsAt w ⟨b0, 0, none⟩ (stT t)) (ht : t.length ≤ 1000000) : Calls Tryd.prog 26 #[sptr b0] w (Ret w (.string (bs (sumL t)))) := by
  refine calls_ret (F26_calls _ _ _ ?_)
  have M := hw.mem.addF (G := fun w' => CellsAt w' ⟨b0, 0, none⟩ (stT t)) (fun w' hk => hc.keep hk (by simp))
  refine s_Clone' M hc fun b w1 M => ⟨_, rfl, (t.length : Int), ?_, ?_⟩
  · exact (Go.Sx.addr_add b0 0 9 ▸ M.now.2 9 _ (by rfl) : w1.cell? ⟨b0, 0 + 9, none⟩ = some (.int .i64 ((t.length : Nat) : Int)))
  refine CallK.ret (s_Pad w1 (t.length : Int) (by omega)) fun w2 h2 => ⟨_, rfl, ?_⟩
  have M := M.call h2
  have e1 : padI (t.length : Int) = padL t.length := by rw [padI, if_neg (by omega), Int.toNat_natCast]
  rw [e1]
  have hz := padZ_lt t.length
  refine s_Write (fun w h => h.1) M (by rw [padL_length]; omega) fun w3 M => ⟨rfl, ?_⟩
  generalize hhh : stepsL H0 (t ++ padL t.length) = hh
  have hok : hh.ok := by rw [← hhh]; exact stepsL_ok H0_ok _
  have hst : stT (t ++ padL t.length) = stV hh (restL (t ++ padL t.length)) (t ++ padL t.length).length := by rw [stT, hhh]
  unfold stO at M
  rw [hst] at M
  refine ⟨_, _, _, _, _, _, _, _, M.cellsFrom 0 (off := 0 + 0) (c := stV hh (restL (t ++ padL t.length)) (t ++ padL t.length).length) (vs := u32s hh.l) rfl fun j v hj => ?_, ?_⟩
  · rw [Nat.add_zero, Nat.zero_add, stV, List.getElem?_append_left (List.getElem?_eq_some_iff.1 hj).1]; exact hj
  refine ⟨fun n vs w4 => ∃ k : Nat, vs = [.string (bs ((hh.l.take k).map fun x => bigL x 4).flatten), .int .i64 k] ∧ k + n = 8 ∧ Keep [] w w4, ⟨8, 0, rfl, rfl, M.keep⟩, ?_⟩
  rintro n vs w4 ⟨k, rfl, hk, hK⟩
  refine ⟨_, _, rfl, fun _ => SplitK.of (fun hlt => ?_) (fun hlt => ?_)⟩
  · simp at hlt
    have hk8 : k < 8 := by omega
    refine ⟨by omega, by simp; omega, ((hh.l.getD k 0 : Nat) : Int), ?_, ?_⟩
    · have := u32s_getD (vs := hh.l) (j := k) hk8
      simp only [intN_eq, Int.toNat_natCast, mulN_eq, Nat.mul_one]
      exact this
    have hx : hh.l.getD k 0 < 4294967296 := by
      match k, hk8 with
      | 0, _ => exact hok.a
      | 1, _ => exact hok.b
      | 2, _ => exact hok.c
      | 3, _ => exact hok.d
      | 4, _ => exact hok.e
      | 5, _ => exact hok.f
      | 6, _ => exact hok.g
      | 7, _ => exact hok.h
    rw [wrapU64 _ (by omega)]
    refine CallK.ret (o_Big w4 _ 4 (by omega)) fun w5 h5 => ⟨_, rfl, ?_⟩
    rw [catS_bs, many4]
    refine ⟨?_, n - 1, by omega, k + 1, ?_, by omega, hK.trans0 h5⟩
    · have hl := outL_takelen hh k
      rw [sizeS_bs, sizeS_bs, bigL_length, addN_eq]; omega
    · rw [outL_take, if_pos hk8, addI_one (by omega)]
  · simp at hlt
    have : k = 8 := by omega
    subst this
    refine ⟨?_, hK⟩
    rw [sumL, hhh, outL]
    rfl

theorem s_SumOf (w : World) (hw : Laid w) (s : List UInt8) (hs : s.length ≤ 1000000) : Calls Tryd.prog 21 #[.string (bs s)] w (Ret w (.string (bs (sumL s)))) := by
  refine calls_ret (F21_calls _ _ _ ?_)
  refine s_New (fun _ h => h) hw.mem fun b w1 M => ⟨_, rfl, ?_⟩
  refine s_Write (fun _ h => h) M (by simp; omega) fun w2 M => ⟨rfl, ?_⟩
  rw [List.nil_append] at M
  refine CallK.ret (s_Sum w2 M.now b s (M.cells 0 (c := stT s) rfl) hs) fun w3 h3 => ⟨_, rfl, rfl, (M.call h3).keep⟩

/-! ### Digits -/
theorem x_digit (w : World) (n : Nat) (hn : n < 16) : Calls Tryd.prog 43 #[.int .i64 n] w (Ret w (.string (bs [hexD n]))) := by
  refine calls_ret (F43_calls _ _ _ ?_)
  unfold F43
  rw [dig_bs]
  have e1 : addI .i64 (n : Int) 1 = ((n + 1 : Nat) : Int) := addI_nat _ 1 (by omega)
  rw [e1]
  refine ⟨by omega, by simp [DIG]; omega, by omega, by simp; omega, ?_, Keep.refl _ _⟩
  rw [cutS_bs]
  congr 2
  simp only [intN_eq, Int.toNat_natCast]
  rw [List.take_succ_eq_append_getElem (show n < DIG.length from hn), List.drop_append_of_le_length (by rw [List.length_take]; show n ≤ min n 16; omega), hexD_at hn]
  have : (List.take n DIG).drop n = [] := List.drop_eq_nil_of_le (by rw [List.length_take]; omega)
  rw [this]; rfl

theorem hexL_take (s : List UInt8) (k : Nat) (hk : k < s.length) : hexL (s.take (k + 1)) = hexL (s.take k) ++ [hexD (s[k].toNat / 16)] ++ [hexD (s[k].toNat % 16)] := by
  rw [List.take_succ_eq_append_getElem hk]
  unfold hexL
  rw [List.map_append, List.flatten_append, List.append_assoc]
  rfl

theorem s_Hex (w : World) (s : List UInt8) (hs : s.length ≤ 1000000) : Calls Tryd.prog 23 #[.string (bs s)] w (Ret w (.string (bs (hexL s)))) := by
  refine calls_ret (F23_calls _ _ _ ?_)
  refine ⟨fun n vs w1 => ∃ (k : Nat) (opt : List (Nat × Obj)) (a : Option Addr) (l c : Nat), vs = [.slice a l c, .int .i64 k] ∧ k + n = s.length ∧ OwnM opt 5 a l c (byteVs (hexL (s.take k))) ∧ Mem w [] (opt ++ []) (fun _ => True) w1,
    ⟨s.length, 0, [], none, 0, 0, rfl, by omega, OwnM.nil, Mem.start w⟩, ?_⟩
  rintro n vs w1 ⟨k, opt, a, l, c, rfl, hk, ho, M⟩
  refine ⟨a, l, c, _, rfl, fun _ => SplitK.of (fun hlt => ?_) (fun hlt => ?_)⟩
  · simp at hlt
    intro K hK
    rintro w2 rfl
    have M := M.drew
    have hb : s[k].toNat < 256 := s[k].toNat_lt
    have e1 : shrI .u8 (byteI s[k]) 4 = ((s[k].toNat / 16 : Nat) : Int) := shrI_u8 _ 4 hb
    have e2 : andI .u8 (byteI s[k]) 15 = ((s[k].toNat % 16 : Nat) : Int) := by
      have := andI_u .u8 rfl s[k].toNat 15 hb (by decide)
      rw [show (15 : Nat) = 2 ^ 4 - 1 from rfl, Nat.and_two_pow_sub_one_eq_mod] at this
      exact this
    refine ⟨by omega, byteAt (by simpa using hlt) ⟨by decide, ?_⟩⟩
    simp only [intN_eq, Int.toNat_natCast]
    rw [e1, dig_bs]
    refine ⟨by omega, byteAt (by simp [DIG]; omega) ⟨by omega, byteAt (by simpa using hlt) ?_⟩⟩
    simp only [Int.toNat_natCast]
    rw [e2]
    refine ⟨by omega, byteAt (by simp [DIG]; omega) ?_⟩
    simp only [Int.toNat_natCast]
    rw [hexD_at (by omega), hexD_at (by omega)]
    refine M.newK fun b3 w3 M => ?_
    refine ⟨byteVs [hexD (s[k].toNat / 16), hexD (s[k].toNat % 16)], ⟨rfl, M.cells 0 rfl⟩, (fun h => by cases h), ?_⟩
    refine Mem.appK (M.tail) ho rfl rfl (by simp [byteVs, hexL_length]; omega) (by simp [byteVs, hexL_length]; omega) ?_
    intro a' l' c' opt' w' ho' M' hl
    refine hK _ _ _ _ fun _ => ⟨n - 1, by omega, k + 1, opt', a', l', c', by rw [addI_one (by omega)], by omega, ?_, M'⟩
    rw [hexL_take s k hlt]
    simpa [byteVs] using ho'
  · simp at hlt
    have : k = s.length := by omega
    subst this
    rw [List.take_length] at ho
    exact ⟨_, ho.bytesAt M, rfl, M.keep⟩

theorem x_Hex (w : World) (s : List UInt8) (hs : s.length ≤ 1000000) : Calls Tryd.prog 18 #[.string (bs s)] w (Ret w (.string (bs (hexL s)))) := by
  refine calls_ret (F18_calls _ _ _ ?_)
  refine ⟨fun n vs w1 => ∃ k : Nat, vs = [.string (bs (hexL (s.take k))), .int .i64 k] ∧ k + n = s.length ∧ Keep [] w w1, ⟨s.length, 0, rfl, by omega, Keep.refl _ _⟩, ?_⟩
  rintro n vs w1 ⟨k, rfl, hk, hK⟩
  refine ⟨_, _, rfl, fun _ => SplitK.of (fun hlt => ?_) (fun hlt => ?_)⟩
  · simp at hlt
    intro K hKK
    rintro w2 rfl
    have hK := hK.drew
    refine ⟨by omega, byteAt (by simpa using hlt) ⟨by omega, byteAt (by simpa using hlt) ?_⟩⟩
    have hb : s[k].toNat < 256 := s[k].toNat_lt
    have e1 : quoI .i64 (wrapI .i64 (byteI s[k])) 16 = ((s[k].toNat / 16 : Nat) : Int) := by
      rw [byteI_eq, wrapI_i64 _ (by omega)]; exact quoI_nat _ 16 (by omega)
    have e2 : remI (wrapI .i64 (byteI s[k])) 16 = ((s[k].toNat % 16 : Nat) : Int) := by
      rw [byteI_eq, wrapI_i64 _ (by omega)]; exact remI_nat _ 16
    simp only [intN_eq, Int.toNat_natCast]
    intro K1 hK1
    have fin : ∀ w3, Keep [] w w3 → K1 [.string (bs (hexL (s.take (k + 1))))] w3 := fun w3 h3 => hK1 _ _ fun _ => hKK _ _ fun _ => ⟨n - 1, by omega, k + 1, by rw [addI_one (by omega)], by omega, h3⟩
    have hl : (hexL (s.take k)).length = 2 * k := by rw [hexL_length, List.length_take]; omega
    rw [e1, e2]
    have body : CallK Tryd.prog 43 #[.int .i64 ((s[k].toNat / 16 : Nat) : Int)] w1.drew (fun e => fun w3 => ∃ (s1 : ByteArray), (e = (Ending.returned (Value.string s1))) ∧ (((addN (sizeS (bs (hexL (s.take k)))) (sizeS s1)) ≤ 9223372036854775807) ∧ (CallK Tryd.prog 43 #[.int .i64 ((s[k].toNat % 16 : Nat) : Int)] w3 (fun e1 => fun w4 => ∃ (s2 : ByteArray), (e1 = (Ending.returned (Value.string s2))) ∧ (((addN (sizeS (catS (bs (hexL (s.take k))) s1)) (sizeS s2)) ≤ 9223372036854775807) ∧ (K1 [Value.string (catS (catS (bs (hexL (s.take k))) s1) s2)] w4)))))) := by
      refine CallK.ret (x_digit _ _ (by omega)) fun w3 h3 => ⟨_, rfl, by simp [hl]; omega, ?_⟩
      refine CallK.ret (x_digit _ _ (by omega)) fun w4 h4 => ⟨_, rfl, by rw [catS_bs]; simp [hl]; omega, ?_⟩
      rw [catS_bs, catS_bs, ← hexL_take s k hlt]
      exact fin _ ((hK.trans0 h3).trans0 h4)
    refine ⟨⟨by decide, ?_, by decide, body⟩, by decide, by decide, body⟩
    refine CallK.ret (x_digit _ _ (by omega)) fun w3 h3 => ⟨_, rfl, by simp [hl]; omega, by decide, ?_⟩
    refine CallK.ret (x_digit _ _ (by omega)) fun w4 h4 => ⟨_, rfl, by rw [catS_bs]; simp [hl]; omega, ?_⟩
    rw [catS_bs, catS_bs, ← hexL_take s k hlt]
    exact fin _ ((hK.trans0 h3).trans0 h4)
  · simp at hlt
    have : k = s.length := by omega
    subst this
    rw [List.take_length]
    exact ⟨rfl, hK⟩

end Go.Proofs.YtlegohnjbkgclaaDoor
