/-
  A part of the proof: ZF.
-/
import Derived.Test.YthpodgkmghgenaaDoorSxZE
namespace Go.Proofs.YthpodgkmghgenaaDoor
open Go Go.Sx Go.Oct Go.Poly
set_option linter.unusedVariables false

theorem num_lowL {v : Nat} (h : v < 256 ^ 17) : num (lowL v 17) = v := by
  rw [num, List.take_of_length_le (by simp), valL_lowL, Nat.mod_eq_of_lt h]
theorem num_mod (v : Nat) : num (lowL (v % PP) 17) = v % PP :=
  num_lowL (Nat.lt_of_lt_of_le (Nat.mod_lt _ PP_pos) (by decide))
theorem partAt_len (s : List UInt8) (i : Nat) : (partAt s i).length ≤ 17 := by rw [partAt, List.length_append, List.length_take]; simp; omega
theorem clampL_len (r : List UInt8) : (clampL r).length ≤ 16 := by unfold clampL; split <;> (simp; try omega)
theorem partsV_at {s : List UInt8} {k i : Nat} (h : i < k) : (partsV s k)[i]? = some (.string (bs (partAt s i))) := by simp [partsV, h]

theorem x_Tag (w : World) (key s : List UInt8) (hs : s.length ≤ 1000000) (hk9 : key.length ≤ 1000000) : Calls Tryd.prog 15 #[.string (bs key), .string (bs s)] w (Ret w (.tuple #[.string (bs (tagL key s)), .int .i64 (tagE key)])) := by
  refine calls_ret (F15_calls _ _ _ _ ?_)
  refine SplitK.of (fun h => ?_) (fun h => ?_)
  · simp only [sizeS_bs, natI_eq, notB_t, eqI_f] at h
    exact ⟨by rw [tagL, tagE, if_neg (by omega), if_neg (by omega)]; rfl, Keep.refl _ _⟩
  simp only [sizeS_bs, natI_eq, notB_f, eqI_t] at h
  have h32 : key.length = 32 := by omega
  rw [tagL, tagE, if_pos h32, if_pos h32]
  refine CallK.retV (x_Parts w s hs) fun a l c w1 hf k1 => ⟨_, _, _, rfl, ?_⟩
  have hv := hf.now
  have hl : l = partCnt s := by have := hv.1; rwa [partsV_length] at this
  subst hl
  have hpc : partCnt s ≤ 1000000 := by unfold partCnt; omega
  have e16 : intN 16 = 16 := rfl
  rw [lit_bs []]
  refine ⟨fun m vs W => ∃ (i : Nat) (n : List UInt8), vs = [.string (bs n), .int .i64 i] ∧ i + m = partCnt s ∧ n.length ≤ 17 ∧ num n = accN (num (clampL (key.take 16))) s i ∧ Keep [] w1 W, ⟨partCnt s, 0, [], rfl, by omega, by simp, rfl, Keep.refl _ _⟩, ?_⟩
  rintro m vs W ⟨i, n, rfl, hi, hn, hnv, k⟩
  refine ⟨_, _, rfl, fun _ => SplitK.of (fun hlt => ?_) (fun hlt => ?_)⟩
  · simp at hlt
    have hlt : i < partCnt s := by omega
    rintro w3 rfl
    have hv3 : VsAt W.drew a (partCnt s) (partsV s (partCnt s)) := hv.keep0 k.drew
    refine ⟨fun W' => Keep [] W.drew W', Keep.refl _ _, by omega, by simp; omega, ?_⟩
    obtain ⟨p, hp, hc⟩ := VsAt.ptr hv3 (by rw [partsV_length]; omega)
    refine SomeK.of p hp ⟨bs (partAt s i), fun w' hk => ?_, by decide, by simp; omega, ?_⟩
    · rw [addA_int]; exact (hc.keep hk (by simp)) i _ (partsV_at hlt)
    rw [e16, cutS_bs, List.drop_zero]
    refine CallK.ret (x_Plus W.drew n (partAt s i) (by omega) (by have := partAt_len s i; omega)) fun w4 k4 => ⟨_, rfl, ?_⟩
    refine CallK.ret (x_Clamp w4 (key.take 16) (by simp; omega)) fun w5 k5 => ⟨_, rfl, k4.trans0 k5, ?_⟩
    refine CallK.ret (x_Times w5 _ _ (by simp) (by have := clampL_len (key.take 16); omega)) fun w6 k6 => ⟨_, rfl, k4.trans0 k5 |>.trans0 k6, ?_⟩
    refine ⟨m - 1, by omega, i + 1, _, by rw [addI_one (by omega)], by omega, by simp, ?_, k.drew.trans0 k4 |>.trans0 k5 |>.trans0 k6⟩
    rw [num_mod, num_mod, hnv, accN, Nat.mod_mul_mod]
  · simp at hlt
    obtain rfl : i = partCnt s := by omega
    rw [← hnv]
    refine CallK.retV (x_digits W n (by omega)) fun a1 l1 c1 w3 hf3 k3 => ⟨_, _, _, rfl, by decide, by simp; omega, ?_⟩
    rw [e16, cutS_bs, sizeS_bs, List.take_length]
    refine CallK.retV (x_digits w3 (key.drop 16) (by simp; omega)) fun a2 l2 c2 w4 hf4 k4 => ⟨_, _, _, rfl, ?_⟩
    have hx := hf3.now.keep0 k4
    have hy := hf4.now
    have hl1 := len_digs hx
    have hl2 := len_digs hy
    subst hl1; subst hl2
    have M : Mem w4 [] [] (fun W => VsAt W a1 17 (i64s (digs (num n) 17)) ∧ VsAt W a2 17 (i64s (digs (num (key.drop 16)) 17))) w4 := Mem.startF w4 (fun W k => ⟨hx.keep0 k, hy.keep0 k⟩)
    have K0 : Keep [] w w4 := k1.trans0 k |>.trans0 k3 |>.trans0 k4
    generalize num n = A at *
    generalize num (key.drop 16) = B at *
    refine ⟨fun m vs W => ∃ (i : Nat) (opt : List (Nat × Obj)) (a3 : Option Addr) (l3 c3 : Nat), vs = [.slice a3 l3 c3, .int .i64 i] ∧ i + m = 16 ∧ OwnM opt 3 a3 l3 c3 (i64s (sumL A B i)) ∧ Mem w4 [] (opt ++ []) (fun W => VsAt W a1 17 (i64s (digs A 17)) ∧ VsAt W a2 17 (i64s (digs B 17))) W,
      ⟨16, 0, [], none, 0, 0, rfl, by omega, OwnM.nil, M⟩, ?_⟩
    clear M
    rintro m vs W ⟨i, opt, a3, l3, c3, rfl, hi, ho, M⟩
    refine ⟨_, _, _, _, rfl, fun _ => SplitK.of (fun hlt => ?_) (fun hlt => ?_)⟩
    · simp at hlt
      have hi17 : i < 17 := by omega
      intro K hK
      rintro w3 rfl
      have M := M.drew
      refine ⟨fun W => VsAt W a1 17 (i64s (digs A 17)) ∧ VsAt W a2 17 (i64s (digs B 17)), M.now, ?_⟩
      obtain ⟨p, hp, hc⟩ := row_all (S := fun W => VsAt W a1 17 (i64s (digs A 17)) ∧ VsAt W a2 17 (i64s (digs B 17))) hi17 M.now (fun _ h => h.1)
      obtain ⟨p', hp', hc'⟩ := row_all (S := fun W => VsAt W a1 17 (i64s (digs A 17)) ∧ VsAt W a2 17 (i64s (digs B 17))) hi17 M.now (fun _ h => h.2)
      refine ⟨by omega, by simp; omega, SomeK.of p hp ⟨_, hc, by omega, by simp; omega, SomeK.of p' hp' ⟨_, hc', ?_⟩⟩⟩
      have b1 := Nat.mod_lt (A / 256 ^ i) (show 0 < 256 by decide)
      have b2 := Nat.mod_lt (B / 256 ^ i) (show 0 < 256 by decide)
      rw [addI_nat _ _ (by omega)]
      refine M.newK fun b w4 M => ⟨M.now, _, M.old1, ne1, ?_⟩
      refine Mem.appK M.tail ho rfl rfl (by rw [i64s_length, sumL_length]; omega) (by rw [i64s_length, sumL_length]; omega) ?_
      intro a' l' c' opt' w' ho' M' hl
      rw [i64s_snoc, ← sumL_succ] at ho'
      exact ⟨M'.now, hK _ _ _ _ fun _ => ⟨m - 1, by omega, i + 1, opt', a', l', c', by rw [addI_one (by omega)], by omega, ho', M'⟩⟩
    · simp at hlt
      obtain rfl : i = 16 := by omega
      refine CallK.retV (x_carried W (ho.vsAt M) (sumL_le A B 16) 16 (by decide)) fun a4 l4 c4 w5 hf5 k5 => ⟨_, _, _, rfl, ?_⟩
      have ed : digs (D (sumL A B 16)) 16 = digs (A + B) 16 := digs_congr (by rw [D_sumL, ← Nat.add_mod])
      rw [ed] at hf5
      refine CallK.ret (x_text w5 _ 16 (by decide) hf5.now) fun w6 k6 => ⟨_, rfl, rfl, ?_⟩
      exact K0.trans0 M.keep |>.trans0 k5 |>.trans0 k6

end Go.Proofs.YthpodgkmghgenaaDoor
