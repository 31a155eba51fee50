/-
  A part of the proof: ZI.
-/
import Derived.Test.YthpodgkmghgenaaDoorSxZH
namespace Go.Proofs.YthpodgkmghgenaaDoor
open Go Go.Sx Go.Oct Go.Poly
set_option linter.unusedVariables false

theorem fill16 : fillL [0] 16 = zerosB 16 := by decide
theorem fill17z : fillL [0] 17 = zerosB 17 := by decide
theorem tag_zero {r : List UInt8} (h : r.length = 16) (s : List UInt8) : tagL (r ++ zerosB 16) s = lowL (accN (num (clampL r)) s (partCnt s)) 16 ∧ tagE (r ++ zerosB 16) = 0 := by
  have h2 : (r ++ zerosB 16).length = 32 := by rw [List.length_append, h]; rfl
  have hz : num (zerosB 16) = 0 := by decide
  refine ⟨?_, by rw [tagE, if_pos h2]⟩
  rw [tagL, if_pos h2, List.take_append_of_le_length (by omega), List.take_of_length_le (by omega), List.drop_append_of_le_length (by omega), List.drop_of_length_le (by omega), List.nil_append, hz, Nat.add_zero]
theorem lowL_get {n k i : Nat} (h : i < (lowL n k).length) : (lowL n k)[i].toNat = n / 256 ^ i % 256 := by
  simp [lowL, UInt8.toNat_ofNat']
theorem drop_get {key : List UInt8} (h : key.length = 32) {i : Nat} (hi : i < 16) : (key[16 + i]'(by omega)).toNat = num (key.drop 16) / 256 ^ i % 256 := by
  rw [num, List.take_of_length_le (by rw [List.length_drop]; omega), valL_digit, List.getD_eq_getElem?_getD, List.getElem?_drop, List.getElem?_eq_getElem (by omega), Option.getD_some]

theorem moves_05 (w : World) (key s : List UInt8) (hw : LaidP w) : Calls Tryd.prog 6 #[.string (bs key), .string (bs s)] w (Ret w (.bool true)) := by
  refine calls_ret (F6_calls _ _ _ _ ?_)
  refine CallK.ret (works_05 w hw) fun w1 k1 => ⟨_, rfl, SplitK.f rfl fun K hK => ?_⟩
  refine SplitK.of (fun h => hK _ _ fun _ => SplitK.t rfl ⟨rfl, k1⟩) fun ha => hK _ _ fun _ => SplitK.of (fun h => ⟨rfl, k1⟩) fun hb => ?_
  clear hK K
  simp only [sizeS_bs, natI_eq, notB_f, eqI_t] at ha
  simp at hb
  have h32 : key.length = 32 := by omega
  have M := hw.mem.call k1
  have e16 : intN 16 = 16 := rfl
  refine CallK.ret (p_Tag w1 M.now key s (by omega) (by omega)) fun w2 k => ⟨_, _, rfl, ?_⟩
  have M := M.call k
  rintro w3 rfl
  have M := M.drew
  refine ⟨by decide, by simp; omega, ?_⟩
  rw [lit_bs [0], e16, cutS_bs, List.drop_zero]
  refine CallK.ret (o_Fill _ [0] 16 (by decide) (by decide)) fun w4 k => ⟨_, rfl, ?_⟩
  have M := M.call k
  rw [catS_bs, fill16]
  refine ⟨by simp [zerosB]; omega, ?_⟩
  have ht16 : (key.take 16).length = 16 := by rw [List.length_take]; omega
  refine CallK.ret (p_Tag w4 M.now _ s (by omega) (by simp [zerosB]; omega)) fun w5 k => ⟨_, _, rfl, ?_⟩
  have M := M.call k
  obtain ⟨t1, t2⟩ := tag_zero ht16 s
  rw [t1, t2]
  have t3 : tagL key s = lowL (accN (num (clampL (key.take 16))) s (partCnt s) + num (key.drop 16)) 16 := by rw [tagL, if_pos h32]
  have t4 : tagE key = 0 := by rw [tagE, if_pos h32]
  rw [t3, t4]
  intro K1 hK1
  refine SplitK.f rfl (SplitK.f rfl (SplitK.f (by simp) ?_))
  have eb : notB (eqI (natI (sizeS (bs (lowL (accN (num (clampL (key.take 16))) s (partCnt s)) 16)))) 16) = false := by simp
  rw [eb]
  refine hK1 _ _ fun _ => SplitK.f rfl ?_
  have hd : ∀ i (hi : i < 16), (key[16 + i]'(by omega)).toNat = num (key.drop 16) / 256 ^ i % 256 := fun i hi => drop_get h32 hi
  have kk := M.keep
  clear M t1 t2 t3 t4 hK1
  generalize accN (num (clampL (key.take 16))) s (partCnt s) = U
  generalize num (key.drop 16) = B at hd
  refine ⟨fun m vs W => ∃ i : Nat, vs = [.int .i64 ((D ((sumL U B 16).take i) / 256 ^ i : Nat) : Int), .int .i64 i] ∧ i + m = 16 ∧ Keep [] w W, ⟨16, 0, by simp [D], by omega, kk⟩, ?_⟩
  clear kk k
  rintro m vs W ⟨i, rfl, hi, kk⟩
  refine ⟨_, _, rfl, fun _ => SplitK.of (fun hlt => ?_) (fun hlt => ⟨rfl, kk⟩)⟩
  simp at hlt
  have hi16 : i < 16 := by omega
  intro K2 hK2
  rintro w6 rfl
  have e1 : addI .i64 16 (i : Int) = ((16 + i : Nat) : Int) := addI_nat 16 i (by omega)
  rw [e1]
  refine ⟨by omega, byteAt (by simp only [intN_eq, Int.toNat_natCast, lowL_length]; omega) ⟨by omega, byteAt (by simp only [intN_eq, Int.toNat_natCast]; omega) fun K3 hK3 => ?_⟩⟩
  simp only [intN_eq, Int.toNat_natCast, byteI_eq]
  rw [lowL_get, hd i hi16]
  have b1 := Nat.mod_lt (U / 256 ^ i) (show 0 < 256 by decide)
  have b2 := Nat.mod_lt (B / 256 ^ i) (show 0 < 256 by decide)
  have hc : D ((sumL U B 16).take i) / 256 ^ i ≤ 1099511627776 := Nat.div_le_of_le_mul (by rw [Nat.mul_comm]; exact D_le (sumL_le U B 16) i)
  obtain ⟨s1, s2⟩ := carry_step (sumL U B 16) i
  have eg : (sumL U B 16).getD i 0 = U / 256 ^ i % 256 + B / 256 ^ i % 256 := by simp [sumL, List.getD_eq_getElem?_getD, hi16]
  have ed : D (sumL U B 16) / 256 ^ i % 256 = (U + B) / 256 ^ i % 256 := by
    have h := digs_congr (v := D (sumL U B 16)) (v' := U + B) (n := 16) (by rw [D_sumL, ← Nat.add_mod])
    have h : (digs (D (sumL U B 16)) 16).getD i 0 = (digs (U + B) 16).getD i 0 := by rw [h]
    rwa [digs_getD, digs_getD, if_pos hi16, if_pos hi16] at h
  rw [eg, ← Nat.add_assoc] at s1 s2
  rw [ed] at s1
  generalize U / 256 ^ i % 256 = x at *
  generalize B / 256 ^ i % 256 = y at *
  generalize D ((sumL U B 16).take i) / 256 ^ i = c at *
  rw [wrapI_i64 _ (by omega), wrapI_i64 _ (by omega), addI_nat _ _ (by omega), addI_nat _ _ (by omega)]
  have fin : K2 [.int .i64 ((c + x + y : Nat) : Int)] W.drew := by
    refine hK2 _ _ fun _ => ⟨by omega, byteAt (by simp only [intN_eq, Int.toNat_natCast, lowL_length]; omega) ⟨by decide, ?_⟩⟩
    simp only [intN_eq, Int.toNat_natCast, byteI_eq]
    rw [lowL_get, wrapI_i64 _ (by have := Nat.mod_lt ((U + B) / 256 ^ i) (show 0 < 256 by decide); omega)]
    have er : remI ((c + x + y : Nat) : Int) 256 = (((U + B) / 256 ^ i % 256 : Nat) : Int) := by rw [← s1]; exact remI_nat _ 256
    have eq : quoI .i64 ((c + x + y : Nat) : Int) 256 = ((D ((sumL U B 16).take (i + 1)) / 256 ^ (i + 1) : Nat) : Int) := by rw [← s2]; exact quoI_nat _ 256 (by omega)
    rw [er, eq]
    refine SplitK.f (by simp) ⟨by decide, m - 1, by omega, i + 1, by rw [addI_one (by omega)], by omega, kk.drew⟩
  exact ⟨hK3 _ _ fun _ => fin, hK3 _ _ fun _ => fin⟩

theorem accN_lt (r : Nat) (s : List UInt8) : ∀ i, accN r s i < PP
  | 0 => PP_pos
  | i + 1 => Nat.mod_lt _ PP_pos
theorem take17 (n : Nat) : (lowL n 17).take 16 = lowL n 16 := by
  rw [show (17 : Nat) = 16 + 1 from rfl, lowL_add, List.take_append_of_le_length (by simp), List.take_of_length_le (by simp)]
theorem fill_self {t : List UInt8} (h : t.length = 17) : fillL t 17 = t := by
  have e : fillN 17 17 = 0 := by decide
  rw [fillL, if_neg (by decide), h]
  show t ++ zerosB (fillN 17 17) = t
  rw [e]; simp [zerosB]

theorem steps_05 (w : World) (r s : List UInt8) (hw : LaidP w) : Calls Tryd.prog 8 #[.string (bs r), .string (bs s)] w (Ret w (.bool true)) := by
  refine calls_ret (F8_calls _ _ _ _ ?_)
  refine CallK.ret (works_05 w hw) fun w1 k1 => ⟨_, rfl, SplitK.f rfl fun K hK => ?_⟩
  refine SplitK.of (fun h => hK _ _ fun _ => SplitK.t rfl ⟨rfl, k1⟩) fun ha => hK _ _ fun _ => SplitK.of (fun h => ⟨rfl, k1⟩) fun hb => ?_
  clear hK K
  simp only [sizeS_bs, natI_eq, notB_f, eqI_t] at ha
  simp at hb
  have h16 : r.length = 16 := by omega
  have M := hw.mem.call k1
  refine CallK.retV (p_Parts w1 s (by omega)) fun a l c w2 hf k => ⟨_, _, _, rfl, ?_⟩
  have M := M.call k
  have hv := hf.now
  have hl : l = partCnt s := by have := hv.1; rwa [partsV_length] at this
  subst hl
  have hcnt : partCnt s = (s.length + 15) / 16 := rfl
  have hpc : partCnt s ≤ 1000000 := by omega
  have M2 : Mem w [] [] (fun W => LaidP W ∧ VsAt W a (partCnt s) (partsV s (partCnt s))) w2 := M.addF fun w' hk => hv.keep0 hk
  rw [lit_bs []]
  refine ⟨fun m vs W => ∃ (i : Nat) (n : List UInt8), vs = [.string (bs n), .int .i64 ((min (16 * i) s.length : Nat) : Int), .int .i64 i] ∧ i + m = partCnt s ∧ n.length ≤ 17 ∧ num n = accN (num (clampL r)) s i ∧ (0 < i → n = lowL (accN (num (clampL r)) s i) 17) ∧ (i = 0 → n = []) ∧
      Mem w [] [] (fun W => LaidP W ∧ VsAt W a (partCnt s) (partsV s (partCnt s))) W, ⟨partCnt s, 0, [], by simp, by omega, by simp, rfl, by simp, by simp, M2⟩, ?_⟩
  clear M M2 hv
  rintro m vs W ⟨i, n, rfl, hi, hn, hnv, hn1, hn0, M⟩
  refine ⟨_, _, _, rfl, fun _ => SplitK.of (fun hlt => ?_) (fun hlt => ?_)⟩
  · simp at hlt
    have hlt : i < partCnt s := by omega
    have hpl : (partAt s i).length = min 16 (s.length - 16 * i) + 1 := by rw [partAt, List.length_append, List.length_take, List.length_drop]; rfl
    obtain ⟨p, hp, hc⟩ := VsAt.ptr M.now.2 (by rw [partsV_length]; omega)
    have hcell : ∀ {W'}, CellsAt W' p (partsV s (partCnt s)) → W'.cell? (addA p (mulN (intN (i : Int)) 1)) = some (.string (bs (partAt s i))) := fun hc => by rw [addA_int]; exact hc i _ (partsV_at hlt)
    intro K1 hK1
    refine ⟨by omega, by simp; omega, SomeK.of p hp ⟨_, hcell hc, SplitK.f ?_ ⟨by omega, by simp; omega, SomeK.of p hp ⟨_, hcell hc, ?_⟩⟩⟩⟩
    · rw [sizeS_bs, natI_eq, ltI_f]; omega
    have e17 : ltI 17 (natI (sizeS (bs (partAt s i)))) = false := by rw [sizeS_bs, natI_eq, ltI_f]; omega
    rw [e17]
    refine hK1 _ _ fun _ => SplitK.f rfl ⟨by omega, by simp; omega, SomeK.of p hp ⟨_, hcell hc, ?_⟩⟩
    refine CallK.ret (p_Plus W M.now.1 n (partAt s i) (by omega) (by omega)) fun w3 k => ⟨_, rfl, ?_⟩
    have M := M.call k
    refine CallK.ret (p_Clamp w3 r (by omega)) fun w4 k => ⟨_, rfl, ?_⟩
    have M := M.call k
    refine CallK.ret (p_Times w4 M.now.1 _ _ (by rw [txt_length]; decide) (by have := clampL_len r; omega)) fun w5 k => ⟨_, rfl, ?_⟩
    have M := M.call k
    obtain ⟨p', hp', hc'⟩ := VsAt.ptr M.now.2 (by rw [partsV_length]; omega)
    rw [hp] at hp'; cases hp'
    refine ⟨by omega, by simp; omega, SomeK.of p hp ⟨_, hcell hc', ?_⟩⟩
    rw [num_txt, hnv]
    have ev : (accN (num (clampL r)) s i + num (partAt s i)) % PP * num (clampL r) % PP = accN (num (clampL r)) s (i + 1) := by rw [accN, Nat.mod_mul_mod]
    have et : txt ((accN (num (clampL r)) s i + num (partAt s i)) % PP * num (clampL r)) = lowL (accN (num (clampL r)) s (i + 1)) 17 := by rw [txt, ev]
    rw [et]
    refine ⟨m - 1, by omega, i + 1, _, ?_, by omega, by simp, ?_, fun _ => rfl, by omega, M⟩
    · rw [sizeS_bs, addI_one (by omega), natI_eq, hpl, addI_nat _ _ (by omega)]
      have es : subI .i64 ((min (16 * i) s.length + (min 16 (s.length - 16 * i) + 1) : Nat) : Int) 1 = ((min (16 * (i + 1)) s.length : Nat) : Int) := by
        rw [subI_i64 (by omega) (by omega)]; omega
      rw [es]
    · exact num_lowL (Nat.lt_of_lt_of_le (accN_lt _ _ _) (by decide))
  · simp at hlt
    obtain rfl : i = partCnt s := by omega
    have ea : min (16 * partCnt s) s.length = s.length := by omega
    rw [ea, lit_bs [0]]
    refine CallK.ret (o_Fill W [0] 16 (by decide) (by decide)) fun w3 k => ⟨_, rfl, ?_⟩
    have M := M.call k
    rw [catS_bs, fill16]
    refine ⟨by simp [zerosB]; omega, ?_⟩
    refine CallK.ret (p_Tag w3 M.now.1 _ s (by omega) (by simp [zerosB]; omega)) fun w4 k => ⟨_, _, rfl, ?_⟩
    have M := M.call k
    obtain ⟨t1, t2⟩ := tag_zero h16 s
    rw [t1, t2]
    refine CallK.ret (o_Fill w4 n 17 (by omega) (by decide)) fun w5 k => ⟨_, rfl, ?_⟩
    have M := M.call k
    intro K1 hK1
    have e16 : intN 16 = 16 := rfl
    refine SplitK.of (fun h0 => ?_) (fun h0 => ?_)
    · simp at h0
      have h0 : partCnt s = 0 := by omega
      refine CallK.ret (o_Fill w5 [0] 17 (by decide) (by decide)) fun w6 k => ⟨_, rfl, ?_⟩
      have M := M.call k
      rw [fill17z]
      refine hK1 _ _ fun _ => SplitK.t rfl (SplitK.t rfl (SplitK.t (by rw [sizeS_bs]; simp) ⟨by decide, by decide, ?_, M.keep⟩))
      rw [e16, cutS_bs, List.drop_zero, h0]
      exact congrArg Value.bool (eqS_of (show lowL 0 16 = (zerosB 17).take 16 by decide))
    · simp at h0
      have hn := hn1 (by omega)
      rw [hn, fill_self (by simp)]
      refine hK1 _ _ fun _ => SplitK.t rfl (SplitK.t rfl (SplitK.t (by rw [sizeS_bs]; simp) ⟨by decide, by simp, ?_, M.keep⟩))
      rw [e16, cutS_bs, List.drop_zero, take17, eqS_refl]

end Go.Proofs.YthpodgkmghgenaaDoor
