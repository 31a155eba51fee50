/-
  A part of the proof: SB.
-/
import Derived.Test.YtlegohnjbkgclaaDoorSxSA
namespace Go.Proofs.YtlegohnjbkgclaaDoor
open Go Go.Sx Go.Oct Go.Sha
set_option linter.unusedVariables false

set_option maxHeartbeats 8000000 in
theorem s_step (w : World) (hw : Laid w) (h : St) (hh : h.ok) (s : List UInt8) (hs : s.length = 64) :
    Calls Tryd.prog 49 #[.agg (u32s h.l).toArray, .string (bs s)] w (Ret w (.agg (u32s (stepB h s).l).toArray)) := by
  refine calls_ret (F49_calls _ _ _ _ _ _ _ _ _ _ _ ?_)
  refine hw.mem.newK fun b w1 M => ?_
  refine M.newK fun b1 w2 M => ?_
  refine M.newK fun b2 w3 M => ?_
  have M : Mem w [] [(b2, .cells (u32s (List.replicate 16 0)).toArray 87 (0, 0)), (b1, .cells (u32s (List.replicate 8 0)).toArray 62 (0, 0)), (b, .cells (u32s h.l).toArray 62 (0, 0))] Laid w3 := M
  refine ⟨fun n vs w4 => ∃ i : Nat, vs = [.int .i64 i] ∧ i + n = 16 ∧ Mem w [] ((b2, .cells (u32s ((List.range i).map (bigAt s) ++ List.replicate n 0)).toArray 87 (0, 0)) :: [(b1, .cells (u32s (List.replicate 8 0)).toArray 62 (0, 0)), (b, .cells (u32s h.l).toArray 62 (0, 0))]) Laid w4, ⟨16, 0, rfl, rfl, M⟩, ?_⟩
  rintro n vs w4 ⟨i, rfl, hi, M⟩
  refine ⟨_, rfl, fun _ => SplitK.of (fun hlt => ?_) (fun hlt => ?_)⟩
  · simp at hlt
    have e4 : mulI .i64 4 (i : Int) = ((4 * i : Nat) : Int) := mulI_nat 4 i (by omega)
    have e5 : addI .i64 ((4 * i : Nat) : Int) 4 = ((4 * i + 4 : Nat) : Int) := addI_nat _ 4 (by omega)
    rw [e4, e5]
    refine ⟨by omega, by simp [hs]; omega, by omega, by simp; omega, ?_⟩
    rw [cutS_bs]
    refine CallK.ret (o_ReadBig w4 _ (by simp; omega)) fun w5 h5 => ⟨_, rfl, ?_⟩
    have M := M.call h5
    have e6 : readB ((s.take (intN ((4 * i + 4 : Nat) : Int))).drop (intN ((4 * i : Nat) : Int))) = bigAt s i := by
      simp only [intN_eq, Int.toNat_natCast]
      rw [List.drop_take, show 4 * i + 4 - 4 * i = 4 from by omega]; rfl
    rw [e6, wrapI_u32, Nat.mod_eq_of_lt (bigAt_lt s i)]
    refine M.st32 0 rfl i rfl (by simp; omega) (by omega) (bigAt s i) rfl fun w6 M => ?_
    refine ⟨n - 1, by omega, i + 1, by rw [addI_one (by omega)], by omega, ?_⟩
    obtain ⟨n, rfl⟩ : ∃ k, n = k + 1 := ⟨n - 1, by omega⟩
    have e7 : ((List.range i).map (bigAt s) ++ List.replicate (n + 1) 0).set i (bigAt s i) = (List.range (i + 1)).map (bigAt s) ++ List.replicate n 0 := by
      rw [List.set_append_right _ _ (by simp), List.length_map, List.length_range, Nat.sub_self, List.replicate_succ, List.set_cons_zero, List.range_succ]
      simp
    rw [e7] at M
    exact M
  · simp at hlt
    obtain rfl : i = 16 := by omega
    obtain rfl : n = 0 := by omega
    rw [List.replicate_zero, List.append_nil] at M
    refine ⟨_, _, _, _, _, _, _, _, M.cells 2 (c := u32s h.l) rfl, ?_⟩
    refine M.newK fun b3 w5 M => ?_
    refine M.stK 0 (off := 0) (c := u32s (List.replicate 8 0)) rfl (by simp) rfl fun w6 M => ?_
    refine ⟨_, _, _, _, _, _, _, _, _, _, _, _, _, _, _, _, _, _, _, _, _, _, _, _, _, _, _, _, _, _, _, _, _, _, _, _, _, _, _, _, _, _, _, _, _, _, _, _, _, _, _, _, _, _, _, _, _, _, _, _, _, _, _, _, M.now.ks, ?_⟩
    -- the rounds
    generalize hW : longL (blockW s) 48 = W
    have hWl : ∀ x ∈ W, x < 4294967296 := by rw [← hW]; exact longL_lt (blockW_lt s) 48
    refine ⟨fun n vs w7 => ∃ (i : Nat) (arr : List Nat), vs = [.int .i64 i] ∧ i + n = 64 ∧ Ring W i arr ∧
      Mem w [] ((b3, .cells (u32s (rounds W i h).l).toArray 62 (0, 0)) :: (b2, .cells (u32s arr).toArray 87 (0, 0)) :: [(b1, .cells (u32s (List.replicate 8 0)).toArray 62 (0, 0)), (b, .cells (u32s h.l).toArray 62 (0, 0))]) Laid w7, ⟨64, 0, blockW s, rfl, rfl, ?_, M⟩, ?_⟩
    · refine ⟨blockW_length s, fun t ht _ => ?_⟩
      rw [Nat.mod_eq_of_lt (by omega), ← hW, long_first _ (blockW_length s) 48 (by omega)]
    rintro n vs w7 ⟨i, arr, rfl, hi, hR, M⟩
    refine ⟨_, rfl, fun _ => SplitK.of (fun hlt => ?_) (fun hlt => ?_)⟩
    · simp at hlt
      have hi64 : i < 64 := by omega
      have hvo := rounds_ok hh W i
      refine ⟨by omega, by simp; omega, ((KS.getD i 0 : Nat) : Int), ?_, ?_⟩
      · have := u32s_getD (vs := KS) (j := i) (by show i < 64; exact hi64)
        simp only [intN_eq, Int.toNat_natCast, mulN_eq, Nat.mul_one]
        exact this
      have hk := getD_lt KS_lt i
      intro K hK
      -- behind the schedule
      have go : ∀ (w8 : World) (arr' : List Nat), Ring W (i + 1) arr' → arr'.length = 16 → arr'.getD (i % 16) 0 = W.getD i 0 →
          Mem w [] ((b3, .cells (u32s (rounds W i h).l).toArray 62 (0, 0)) :: (b2, .cells (u32s arr').toArray 87 (0, 0)) :: [(b1, .cells (u32s (List.replicate 8 0)).toArray 62 (0, 0)), (b, .cells (u32s h.l).toArray 62 (0, 0))]) Laid w8 → K [] w8 := by
        intro w8 arr' hR' hl' hat M
        generalize hv : rounds W i h = v at M hvo
        refine hK w8 fun _ => ?_
        rintro w9 rfl
        have M := M.drew
        refine ⟨fun W' => Keep [] w8.drew W', Keep.refl _ _, ?_⟩
        refine ldA' 0 v.a (l0 v) rfl (fun w' hk => (M.call hk).cells 0 rfl) (l_len v) (by decide) ?_
        refine ldA' 4 v.e (l4 v) rfl (fun w' hk => (M.call hk).cells 0 rfl) (l_len v) (by decide) ?_
        rintro w10 rfl
        have M := M.drew
        refine ⟨fun W' => Keep [] w8.drew.drew W', Keep.refl _ _, ?_⟩
        refine ldA' 7 v.h (l7 v) rfl (fun w' hk => (M.call hk).cells 0 rfl) (l_len v) (by decide) ⟨by decide, ?_⟩
        have e16 : remI (i : Int) 16 = ((i % 16 : Nat) : Int) := remI_nat i 16
        rw [e16]
        refine ldA' (i % 16) _ hat rfl (fun w' hk => (M.call hk).cells 1 rfl) hl' (Nat.mod_lt _ (by decide)) ?_
        have hwi := getD_lt hWl i
        refine CallK.ret (s_right _ _ 6 hvo.e (by decide)) fun w11 k11 => ⟨_, rfl, ?_⟩
        have M := M.call k11
        refine CallK.ret (s_right _ _ 11 hvo.e (by decide)) fun w12 k12 => ⟨_, rfl, ?_⟩
        have M := M.call k12
        refine CallK.ret (s_right _ _ 25 hvo.e (by decide)) fun w13 k13 => ⟨_, rfl, ?_⟩
        have M := M.call k13
        refine ldW' 5 v.f (l5 v) rfl (M.cells 0 rfl) (l_len v) (by decide) ?_
        refine ldW' 6 v.g (l6 v) rfl (M.cells 0 rfl) (l_len v) (by decide) ?_
        refine CallK.ret (s_right _ _ 2 hvo.a (by decide)) fun w14 k14 => ⟨_, rfl, ?_⟩
        have M := M.call k14
        refine CallK.ret (s_right _ _ 13 hvo.a (by decide)) fun w15 k15 => ⟨_, rfl, ?_⟩
        have M := M.call k15
        refine CallK.ret (s_right _ _ 22 hvo.a (by decide)) fun w16 k16 => ⟨_, rfl, ?_⟩
        have M := M.call k16
        refine ldW' 1 v.b (l1 v) rfl (M.cells 0 rfl) (l_len v) (by decide) ?_
        refine ldW' 2 v.c (l2 v) rfl (M.cells 0 rfl) (l_len v) (by decide) ?_
        refine ldW' 1 v.b (l1 v) rfl (M.cells 0 rfl) (l_len v) (by decide) ?_
        refine ldW' 2 v.c (l2 v) rfl (M.cells 0 rfl) (l_len v) (by decide) ?_
        rintro w17 rfl
        have M := M.drew
        refine ⟨by decide, by decide, by decide, by decide, u32s [v.a, v.b, v.c, v.d, v.e, v.f, v.g], ⟨rfl, M.cellsFrom 0 rfl fun j x hx => ?_⟩, ?_⟩
        · have hj := (List.getElem?_eq_some_iff.1 hx).1
          have hj : j < 7 := by simpa using hj
          match j, hj with
          | 0, _ => exact hx
          | 1, _ => exact hx
          | 2, _ => exact hx
          | 3, _ => exact hx
          | 4, _ => exact hx
          | 5, _ => exact hx
          | 6, _ => exact hx
        show StK _ (Addr.add ⟨b3, 0, none⟩ (1 * 1)) _ _
        rw [addr_add]
        refine M.stK 0 (off := 0 + 1 * 1) (c := u32s v.l) rfl (by simp [u32s, St.l]) rfl fun w18 M => ?_
        have M : Mem w [] ((b3, .cells (u32s [v.a, v.a, v.b, v.c, v.d, v.e, v.f, v.g]).toArray 62 (0, 0)) :: (b2, .cells (u32s arr').toArray 87 (0, 0)) :: [(b1, .cells (u32s (List.replicate 8 0)).toArray 62 (0, 0)), (b, .cells (u32s h.l).toArray 62 (0, 0))]) Laid w18 := M
        refine ldW' 4 v.d rfl rfl (M.cells 0 rfl) rfl (by decide) ?_
        clear hk hwi
        rw [eS1 _ hvo.e, eS0 _ hvo.a, eCh _ _ _ hvo.e hvo.f hvo.g, eMaj _ _ _ hvo.a hvo.b hvo.c, eT, eU]
        generalize ht : (v.h + S1 v.e + ch v.e v.f v.g + KS.getD i 0 + W.getD i 0) % 4294967296 = t
        refine M.st32 0 rfl 4 rfl rfl (by decide) _ (addI_u32 _ _) fun w19 M => ?_
        refine M.st32 0 rfl 0 rfl rfl (by decide) _ rfl fun w20 M => ?_
        rw [round_l v _ _ t ht] at M
        refine ⟨n - 1, by omega, i + 1, arr', by rw [addI_one (by omega)], by omega, hR', ?_⟩
        rw [rounds_succ, hv]
        exact M
      refine SplitK.of (fun h16 => ?_) (fun h16 => ?_)
      · simp at h16
        have h16 : 16 ≤ i := by omega
        have er0 := rem16' i
        have er1 : remI (addI .i64 (i : Int) 1) 16 = (((i + 1) % 16 : Nat) : Int) := rem16 i 1 (by omega) (by decide)
        have er14 : remI (addI .i64 (i : Int) 14) 16 = (((i + 14) % 16 : Nat) : Int) := rem16 i 14 (by omega) (by decide)
        have er9 : remI (addI .i64 (i : Int) 9) 16 = (((i + 9) % 16 : Nat) : Int) := rem16 i 9 (by omega) (by decide)
        have hm := Nat.mod_lt i (show 0 < 16 by decide)
        have hmr : i % 16 < arr.length := by rw [hR.1]; exact hm
        have hne : i % 16 ≠ (i + 9) % 16 := by omega
        have g1 : arr.getD ((i + 1) % 16) 0 = W.getD (i - 15) 0 := hR.old h16 1 15 (by decide) rfl
        have g14 : arr.getD ((i + 14) % 16) 0 = W.getD (i - 2) 0 := hR.old h16 14 2 (by decide) rfl
        have g9 : arr.getD ((i + 9) % 16) 0 = W.getD (i - 7) 0 := hR.old h16 9 7 (by decide) rfl
        have g0 : arr.getD (i % 16) 0 = W.getD (i - 16) 0 := hR.old h16 0 16 (by decide) rfl
        have hx := getD_lt hWl (i - 15)
        have hy := getD_lt hWl (i - 2)
        rintro w8 rfl
        have M := M.drew
        refine ⟨fun W' => Keep [] w7.drew W', Keep.refl _ _, by decide, ?_⟩
        refine ldA' ((i + 1) % 16) _ g1 er1 (fun w' hk => (M.call hk).cells 1 rfl) hR.1 (Nat.mod_lt _ (by decide)) ⟨by decide, ?_⟩
        refine ldA' ((i + 14) % 16) _ g14 er14 (fun w' hk => (M.call hk).cells 1 rfl) hR.1 (Nat.mod_lt _ (by decide)) ?_
        rintro w9 rfl
        have M := M.drew
        refine ⟨fun W' => Keep [] w7.drew.drew W', Keep.refl _ _, by decide, ?_⟩
        refine ldA' (i % 16) _ g0 er0 (fun w' hk => (M.call hk).cells 1 rfl) hR.1 hm ⟨by decide, ?_⟩
        refine CallK.ret (s_right _ _ 7 hx (by decide)) fun w10 k10 => ⟨_, rfl, k10, ?_⟩
        have M := M.call k10
        refine CallK.ret (s_right _ _ 18 hx (by decide)) fun w11 k11 => ⟨_, rfl, k10.trans0 k11, ?_⟩
        have M := M.call k11
        rw [es0 _ hx]
        refine M.st32 1 rfl (i % 16) er0 hR.1 hm _ (addI_u32 _ _) fun w12 M => ?_
        rintro w13 rfl
        have M := M.drew
        refine ⟨fun W' => Keep [] w12.drew W', Keep.refl _ _, by decide, ?_⟩
        have hl1 : ∀ x, (arr.set (i % 16) x).length = 16 := fun x => by rw [List.length_set]; exact hR.1
        refine ldA' (i % 16) _ (set_same _ _ _ hmr) er0 (fun w' hk => (M.call hk).cells 1 rfl) (hl1 _) hm ⟨by decide, ?_⟩
        refine ldA' ((i + 9) % 16) _ ((set_other _ _ _ _ hmr hne).trans g9) er9 (fun w' hk => (M.call hk).cells 1 rfl) (hl1 _) (Nat.mod_lt _ (by decide)) ?_
        refine M.st32 1 rfl (i % 16) er0 (hl1 _) hm _ (addI_u32 _ _) fun w14 M => ?_
        have e9 : ∀ x y, (arr.set (i % 16) x).set (i % 16) y = arr.set (i % 16) y := fun _ _ => by rw [List.set_set]
        rw [e9] at M
        rintro w15 rfl
        have M := M.drew
        refine ⟨fun W' => Keep [] w14.drew W', Keep.refl _ _, by decide, ?_⟩
        refine ldA' (i % 16) _ (set_same _ _ _ hmr) er0 (fun w' hk => (M.call hk).cells 1 rfl) (hl1 _) hm ⟨by decide, ?_⟩
        refine CallK.ret (s_right _ _ 17 hy (by decide)) fun w16 k16 => ⟨_, rfl, k16, ?_⟩
        have M := M.call k16
        refine CallK.ret (s_right _ _ 19 hy (by decide)) fun w17 k17 => ⟨_, rfl, k16.trans0 k17, ?_⟩
        have M := M.call k17
        rw [es1 _ hy]
        refine M.st32 1 rfl (i % 16) er0 (hl1 _) hm _ (addI_u32 _ _) fun w18 M => ?_
        have hwi : (((W.getD (i - 16) 0 + s0 (W.getD (i - 15) 0)) % 4294967296 + W.getD (i - 7) 0) % 4294967296 + s1 (W.getD (i - 2) 0)) % 4294967296 = W.getD i 0 := by
          rw [nx_eq, ← hW, long_at _ (blockW_length s) 48 h16 (by omega)]
        rw [e9, hwi] at M
        have hR' := hR.next h16 _ rfl
        refine go _ _ hR' hR'.1 ?_ M
        exact set_same _ _ _ hmr
      · simp at h16
        have h16 : i < 16 := by omega
        have hR' := hR.same h16
        exact go _ _ hR' hR'.1 (hR.2 i (by omega) (by omega)) M
    · simp at hlt
      obtain rfl : i = 64 := by omega
      clear hlt hi
      have hvo := rounds_ok hh W 64
      have est : stepB h s = h.plus (rounds W 64 h) := by rw [stepB, hW]
      generalize rounds W 64 h = v at *
      refine ⟨fun n vs w8 => ∃ (i : Nat), vs = [.int .i64 i] ∧ i + n = 8 ∧ Mem w [] ((b3, .cells (u32s ((h.plus v).l.take i ++ v.l.drop i)).toArray 62 (0, 0)) :: (b2, .cells (u32s arr).toArray 87 (0, 0)) :: [(b1, .cells (u32s (List.replicate 8 0)).toArray 62 (0, 0)), (b, .cells (u32s h.l).toArray 62 (0, 0))]) Laid w8, ⟨8, 0, rfl, rfl, M⟩, ?_⟩
      rintro n vs w8 ⟨i, rfl, hi, M⟩
      refine ⟨_, rfl, fun _ => SplitK.of (fun hlt => ?_) (fun hlt => ?_)⟩
      · simp at hlt
        have hi8 : i < 8 := by omega
        rintro w9 rfl
        have M := M.drew
        have hlen : ((h.plus v).l.take i ++ v.l.drop i).length = 8 := part_len _ _ 8 i rfl rfl (by omega)
        refine ⟨fun W' => Keep [] w8.drew W', Keep.refl _ _, ?_⟩
        refine ldA i rfl (fun w' hk => (M.call hk).cells 0 rfl) hlen hi8 ?_
        refine ldA i rfl (fun w' hk => (M.call hk).cells 3 (c := u32s h.l) rfl) rfl hi8 ?_
        rw [part_at _ _ 8 i rfl rfl hi8]
        refine M.st32 0 rfl i rfl hlen hi8 _ (addI_u32 _ _) fun w10 M => ?_
        refine ⟨n - 1, by omega, i + 1, by rw [addI_one (by omega)], by omega, ?_⟩
        rw [part_set _ _ 8 i _ rfl rfl hi8 (plus_at h v i hi8)] at M
        exact M
      · simp at hlt
        obtain rfl : i = 8 := by omega
        have e1 : (h.plus v).l.take 8 ++ v.l.drop 8 = (h.plus v).l := by rfl
        rw [e1] at M
        refine ⟨_, _, _, _, _, _, _, _, M.cells 0 (c := u32s (h.plus v).l) rfl, ?_⟩
        rw [est]
        refine M.stK 2 (off := 0) (c := u32s (List.replicate 8 0)) rfl (by simp) rfl fun w9 M => ?_
        exact ⟨_, _, _, _, _, _, _, _, M.cells 2 (c := u32s (h.plus v).l) rfl, rfl, M.keep⟩

end Go.Proofs.YtlegohnjbkgclaaDoor
