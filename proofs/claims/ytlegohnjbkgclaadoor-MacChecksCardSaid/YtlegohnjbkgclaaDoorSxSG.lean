/-
  A part of the proof: SG.
-/
import Derived.Test.YtlegohnjbkgclaaDoorSxSF
namespace Go.Proofs.YtlegohnjbkgclaaDoor
open Go Go.Sx Go.Oct Go.Sha
set_option linter.unusedVariables false

set_option maxHeartbeats 1600000 in
theorem x_block (w : World) (pa : Option Addr) (pl pc : Nat) (h : St) (hh : h.ok) (hv : VsAt w pa pl (u32s h.l)) (s : List UInt8) (hs : s.length = 64) :
    Calls Tryd.prog 41 #[.slice pa pl pc, .string (bs s)] w (RetV w (u32s (stepB h s).l)) := by
  refine calls_retV (F41_calls _ _ _ _ _ _ ?_)
  have M : Mem w [] [] (fun w' => VsAt w' pa pl (u32s h.l)) w := Mem.startF w fun w' hk => hv.keep0 hk
  refine ⟨fun n vs W => ∃ (k : Nat) (opt : List (Nat × Obj)) (a : Option Addr) (l c : Nat), vs = [.slice a l c, .int .i64 ((4 * k : Nat) : Int)] ∧ k + n = 16 ∧ OwnM opt 53 a l c (u32s ((List.range k).map (bigAt s))) ∧ Mem w [] (opt ++ []) (fun w' => VsAt w' pa pl (u32s h.l)) W, ⟨16, 0, [], none, 0, 0, rfl, rfl, OwnM.nil, M⟩, ?_⟩
  rintro n vs W ⟨k, opt, a, l, c, rfl, hk, ho, M⟩
  refine ⟨_, _, _, _, rfl, fun _ => SplitK.of (fun h1 => ?_) (fun h1 => ?_)⟩
  · simp at h1
    have e5 : addI .i64 ((4 * k : Nat) : Int) 4 = ((4 * k + 4 : Nat) : Int) := addI_nat _ 4 (by omega)
    rw [e5]
    refine ⟨by omega, by simp [hs]; omega, by omega, by simp; omega, ?_⟩
    rw [cutS_bs]
    refine CallK.ret (x_ReadBig W _ (by simp; omega)) fun w5 h5 => ⟨_, rfl, ?_⟩
    have M := M.call h5
    have e6 : readB ((s.take (intN ((4 * k + 4 : Nat) : Int))).drop (intN ((4 * k : Nat) : Int))) = bigAt s k := by
      simp only [intN_eq, Int.toNat_natCast]
      rw [List.drop_take, show 4 * k + 4 - 4 * k = 4 from by omega]; rfl
    rw [e6, wrapI_u32, Nat.mod_eq_of_lt (bigAt_lt s k)]
    refine M.newK fun b w6 M => ⟨_, M.old1, ne1, ?_⟩
    refine Mem.appK M.tail ho rfl rfl (by simp; omega) (by simp; omega) ?_
    intro a' l' c' opt' w' ho' M' hl
    refine ⟨n - 1, by omega, k + 1, opt', a', l', c', rfl, by omega, ?_, M'⟩
    rw [u32s_snoc] at ho'
    rw [List.range_succ, List.map_append]
    exact ho'
  · simp at h1
    obtain rfl : k = 16 := by omega
    refine x_long M ho (blockW_length s) (blockW_lt s) ?_
    intro a1 l1 c1 opt1 w2 ho1 M
    refine ⟨_, _, _, rfl, ?_⟩
    have M := M.ownFrV ho1
    have hWl : ∀ x ∈ longL (blockW s) 48, x < 4294967296 := longL_lt (blockW_lt s) 48
    have hWn : (longL (blockW s) 48).length = 64 := by rw [longL_length, blockW_length]
    have est : stepB h s = h.plus (rounds (longL (blockW s) 48) 64 h) := rfl
    change Mem w [] [] (fun w' => VsAt w' pa pl (u32s h.l) ∧ Fresh w.heap.size w' fun w => VsAt w a1 l1 (u32s (longL (blockW s) 48))) w2 at M
    rw [est]
    generalize longL (blockW s) 48 = WW at M hWl hWn
    refine CallK.retV (x_ks w2) fun a2 l2 c2 w3 hf hk3 => ⟨_, _, _, rfl, ?_⟩
    have M := (M.callF hk3 hf).imp (G := fun w' => VsAt w' pa pl (u32s h.l) ∧ VsAt w' a1 l1 (u32s WW) ∧ VsAt w' a2 l2 (u32s KS)) (fun w' hw => ⟨hw.1.1, hw.1.2.now, hw.2⟩)
    refine M.newK fun b w4 M => ?_
    obtain ⟨ho4, hn4⟩ := M.now.1.old
    refine ⟨_, ho4, hn4, ?_⟩
    have hpl : pl = 8 := M.now.1.1
    refine Mem.appK (opt := [(b, .cells #[] 53 (0, 0))]) M (OwnM.empty b) (by rw [hpl]; rfl) rfl (by simp [hpl]) (by simp [hpl]) ?_
    intro a3 l3 c3 opt3 w5 ho3 M hl3
    have M := (M.ownFrV ho3).imp (G := fun w' => (VsAt w' pa pl (u32s h.l) ∧ VsAt w' a1 l1 (u32s WW) ∧ VsAt w' a2 l2 (u32s KS)) ∧ VsAt w' a3 l3 (u32s h.l)) (fun w' hw => ⟨hw.1, hw.2.now⟩)
    clear ho3 hl3
    refine ⟨fun n vs W => ∃ (i : Nat) (a : Option Addr) (l c : Nat), vs = [.slice a l c, .int .i64 (i : Int)] ∧ i + n = 64 ∧ Mem w [] [] (fun w' => (VsAt w' pa pl (u32s h.l) ∧ VsAt w' a1 l1 (u32s WW) ∧ VsAt w' a2 l2 (u32s KS)) ∧ VsAt w' a l (u32s (rounds WW i h).l)) W, ⟨64, 0, _, _, _, rfl, rfl, M⟩, ?_⟩
    clear M
    rintro n vs w6 ⟨i, a, l, c, rfl, hi, M⟩
    refine ⟨_, _, _, _, rfl, fun _ => SplitK.of (fun h2 => ?_) (fun h2 => ?_)⟩
    · simp at h2
      have hi64 : i < 64 := by omega
      have hvo := rounds_ok hh WW i
      have rs := rounds_succ WW i h
      generalize rounds WW i h = v at M hvo rs
      obtain ⟨p, hp, _⟩ := M.now.2.ptr (by simp [u32s, St.l])
      obtain ⟨p1, hp1, _⟩ := M.now.1.2.1.ptr (by simp [u32s]; omega)
      obtain ⟨p2, hp2, _⟩ := M.now.1.2.2.ptr (by decide)
      have hl : v.l.length = l := M.now.2.1.symm
      have hl1 : WW.length = l1 := by have := M.now.1.2.1.1; simp at this; omega
      have hl2 : KS.length = l2 := M.now.1.2.2.1.symm
      have h8 : l = 8 := hl.symm
      have h64 : l2 = 64 := hl2.symm
      obtain ⟨S, hSd⟩ : ∃ S : World → Prop, S = fun w' => (VsAt w' pa pl (u32s h.l) ∧ VsAt w' a1 l1 (u32s WW) ∧ VsAt w' a2 l2 (u32s KS)) ∧ VsAt w' a l (u32s v.l) := ⟨_, rfl⟩
      rw [← hSd] at M
      have hSv : ∀ w', S w' → CellsAt w' p (u32s v.l) := fun w' hw => by rw [hSd] at hw; exact vsat_at hw.2 (by simp [u32s, St.l]) hp
      have hSk : ∀ w', S w' → CellsAt w' p2 (u32s KS) := fun w' hw => by rw [hSd] at hw; exact vsat_at hw.1.2.2 (by decide) hp2
      have hSw : ∀ w', S w' → CellsAt w' p1 (u32s WW) := fun w' hw => by rw [hSd] at hw; exact vsat_at hw.1.2.1 (by simp [u32s]; omega) hp1
      intro K hK
      refine ldRW' 0 v.a (l0 v) rfl hp (hSv _ M.now) hl (by omega) ?_
      refine ldRW' 4 v.e (l4 v) rfl hp (hSv _ M.now) hl (by omega) ?_
      rintro w7 rfl
      have M := M.drew
      refine ⟨S, M.now, ?_⟩
      refine ldR' 7 v.h (l7 v) rfl hp hSv hl (by omega) ?_
      refine ldR' 5 v.f (l5 v) rfl hp hSv hl (by omega) ?_
      refine ldR' 6 v.g (l6 v) rfl hp hSv hl (by omega) ?_
      refine ldR i rfl hp2 hSk hl2 (by omega) ?_
      refine ldR i rfl hp1 hSw hl1 (by omega) ?_
      refine CallK.ret (x_right _ _ 6 hvo.e (by decide)) fun w8 k8 => ⟨_, rfl, ?_⟩
      have M := M.call k8
      refine ⟨M.now, ?_⟩
      refine CallK.ret (x_right _ _ 11 hvo.e (by decide)) fun w9 k9 => ⟨_, rfl, ?_⟩
      have M := M.call k9
      refine ⟨M.now, ?_⟩
      refine CallK.ret (x_right _ _ 25 hvo.e (by decide)) fun w10 k10 => ⟨_, rfl, ?_⟩
      have M := M.call k10
      refine ⟨M.now, ?_⟩
      rintro w11 rfl
      have M := M.drew
      refine ⟨S, M.now, ?_⟩
      refine ldR' 1 v.b rfl rfl hp hSv hl (by omega) ?_
      refine ldR' 2 v.c rfl rfl hp hSv hl (by omega) ?_
      refine ldR' 1 v.b rfl rfl hp hSv hl (by omega) ?_
      refine ldR' 2 v.c rfl rfl hp hSv hl (by omega) ?_
      refine CallK.ret (x_right _ _ 2 hvo.a (by decide)) fun w12 k12 => ⟨_, rfl, ?_⟩
      have M := M.call k12
      refine ⟨M.now, ?_⟩
      refine CallK.ret (x_right _ _ 13 hvo.a (by decide)) fun w13 k13 => ⟨_, rfl, ?_⟩
      have M := M.call k13
      refine ⟨M.now, ?_⟩
      refine CallK.ret (x_right _ _ 22 hvo.a (by decide)) fun w14 k14 => ⟨_, rfl, ?_⟩
      have M := M.call k14
      refine ⟨M.now, ?_⟩
      rintro w15 rfl
      have M := M.drew
      refine ⟨S, M.now, ?_⟩
      refine ldR' 0 v.a (l0 v) rfl hp hSv hl (by omega) ?_
      refine ldR' 1 v.b rfl rfl hp hSv hl (by omega) ?_
      refine ldR' 2 v.c rfl rfl hp hSv hl (by omega) ?_
      refine ldR' 3 v.d rfl rfl hp hSv hl (by omega) ?_
      refine ldR' 4 v.e (l4 v) rfl hp hSv hl (by omega) ?_
      refine ldR' 5 v.f (l5 v) rfl hp hSv hl (by omega) ?_
      refine ldR' 6 v.g (l6 v) rfl hp hSv hl (by omega) ?_
      rw [eS1 _ hvo.e, eS0 _ hvo.a, eChx _ _ _ hvo.e hvo.f hvo.g, eMajx _ _ _ hvo.a hvo.b hvo.c, eTx, eU, addI_u32]
      generalize ht : (v.h + S1 v.e + ch v.e v.f v.g + KS.getD i 0 + WW.getD i 0) % 4294967296 = t
      refine M.newK fun b1 w16 M => ⟨M.now, hK _ _ _ _ fun _ => ?_⟩
      have hu := round_u v (KS.getD i 0) (WW.getD i 0) t ht
      have hob : OwnM [(b1, .cells (u32s (round v (KS.getD i 0) (WW.getD i 0)).l ++ []).toArray 53 (0, 0))] 53 (some ⟨b1, 0, none⟩) 8 8 (u32s (round v (KS.getD i 0) (WW.getD i 0)).l) := .inr ⟨b1, [], rfl, rfl, rfl, rfl, by decide⟩
      rw [← hu] at hob
      have M := Mem.ownFrV (m := []) M hob
      rw [hu, ← rs] at M
      subst hSd
      exact ⟨n - 1, by omega, i + 1, _, _, _, by rw [addI_one (by omega)], by omega, M.imp fun w' hw => ⟨hw.1.1, hw.2.now⟩⟩
    · simp at h2
      obtain rfl : i = 64 := by omega
      clear h2 hi
      generalize rounds WW 64 h = v at M
      have hp8 : h.l.length = pl := M.now.1.1.1.symm
      have hl8 : v.l.length = l := M.now.2.1.symm
      have h8 : l = 8 := hl8.symm
      refine ⟨fun n vs W => ∃ (k : Nat) (opt : List (Nat × Obj)) (a' : Option Addr) (l' c' : Nat), vs = [.slice a' l' c', .int .i64 (k : Int)] ∧ k + n = 8 ∧ OwnM opt 53 a' l' c' (u32s ((h.plus v).l.take k)) ∧ Mem w [] (opt ++ []) (fun w' => VsAt w' pa pl (u32s h.l) ∧ VsAt w' a l (u32s v.l)) W, ⟨8, 0, [], none, 0, 0, rfl, rfl, OwnM.nil, M.imp fun w' hw => ⟨hw.1.1, hw.2⟩⟩, ?_⟩
      clear M
      rintro n vs w7 ⟨k, opt, a', l', c', rfl, hk, ho, M⟩
      refine ⟨_, _, _, _, rfl, fun _ => SplitK.of (fun h3 => ?_) (fun h3 => ?_)⟩
      · simp at h3
        have hk8 : k < 8 := by omega
        obtain ⟨p, hp, _⟩ := M.now.2.ptr (by simp [u32s, St.l])
        obtain ⟨q, hq, _⟩ := M.now.1.ptr (by simp [u32s, St.l])
        intro K hK
        rintro w8 rfl
        have M := M.drew
        refine ⟨fun w' => VsAt w' pa pl (u32s h.l) ∧ VsAt w' a l (u32s v.l), M.now, ?_⟩
        refine ldR k rfl hq (fun w' hw => vsat_at hw.1 (by simp [u32s, St.l]) hq) hp8 (by omega) ?_
        refine ldR k rfl hp (fun w' hw => vsat_at hw.2 (by simp [u32s, St.l]) hp) hl8 (by omega) ?_
        rw [addI_u32]
        refine M.newK fun b1 w9 M => ⟨M.now, _, M.old1, ne1, ?_⟩
        refine Mem.appK M.tail ho rfl rfl (by simp; omega) (by simp; omega) ?_
        intro a'' l'' c'' opt' w' ho' M' hl
        refine ⟨M'.now, hK _ _ _ _ fun _ => ⟨n - 1, by omega, k + 1, opt', a'', l'', c'', by rw [addI_one (by omega)], by omega, ?_, M'⟩⟩
        have hx := plus_at h v k hk8
        rw [u32s_snoc] at ho'
        rw [List.take_succ_eq_append_getElem (show k < (h.plus v).l.length from hk8)]
        rw [List.getD_eq_getElem?_getD, List.getElem?_eq_getElem (show k < (h.plus v).l.length from hk8), Option.getD_some] at hx
        rw [hx, Nat.add_comm]
        exact ho'
      · simp at h3
        obtain rfl : k = 8 := by omega
        rw [List.take_of_length_le (show (h.plus v).l.length ≤ 8 by exact Nat.le_refl 8)] at ho
        exact ⟨_, _, _, rfl, OwnM.freshV ho M, M.keep⟩

theorem x_Sum (w : World) (s : List UInt8) (hs : s.length ≤ 1000000) : Calls Tryd.prog 16 #[.string (bs s)] w (Ret w (.string (bs (sumL s)))) := by
  refine calls_ret (F16_calls _ _ _ ?_)
  refine CallK.ret (x_Pad w (s.length : Int) (by omega)) fun w1 k1 => ⟨_, rfl, ?_⟩
  have e1 : padI (s.length : Int) = padL s.length := by rw [padI, if_neg (by omega), Int.toNat_natCast]
  have hz := padZ_lt s.length
  have hpl := padL_length s.length
  have hpf := padL_fills s.length
  rw [e1, catS_bs]
  refine ⟨by simp only [sizeS_bs, addN_eq]; omega, ?_⟩
  have hT : (s ++ padL s.length).length % 64 = 0 := by rw [List.length_append]; exact hpf
  have hTl : (s ++ padL s.length).length ≤ 1001000 := by rw [List.length_append]; omega
  have eS : sumL s = outL (stepsN ((s ++ padL s.length).length / 64) H0 (s ++ padL s.length)) := rfl
  rw [eS]
  generalize s ++ padL s.length = T at hT hTl
  have M := (Mem.start w).call k1
  refine M.newK fun b w2 M => ?_
  have hob : OwnM [(b, .cells (u32s H0.l ++ []).toArray 53 (0, 0))] 53 (some ⟨b, 0, none⟩) 8 8 (u32s H0.l) := .inr ⟨b, [], rfl, rfl, rfl, rfl, by decide⟩
  have M := (Mem.ownFrV (m := []) M hob).imp (G := fun w' => VsAt w' (some ⟨b, 0, none⟩) 8 (u32s H0.l)) (fun w' hw => hw.2.now)
  refine ⟨fun n vs W => ∃ (i : Nat) (a : Option Addr) (l c : Nat), vs = [.slice a l c, .int .i64 ((64 * i : Nat) : Int)] ∧ i + n = T.length / 64 ∧ Mem w [] [] (fun w' => VsAt w' a l (u32s (stepsN i H0 T).l)) W, ⟨T.length / 64, 0, _, _, _, rfl, by omega, M⟩, ?_⟩
  clear M hob
  rintro n vs w3 ⟨i, a, l, c, rfl, hi, M⟩
  refine ⟨_, _, _, _, rfl, fun _ => SplitK.of (fun hlt => ?_) (fun hlt => ?_)⟩
  · simp at hlt
    have h64 : 64 * i + 64 ≤ T.length := by omega
    have e5 : addI .i64 ((64 * i : Nat) : Int) 64 = ((64 * i + 64 : Nat) : Int) := addI_nat _ 64 (by omega)
    rw [e5]
    refine ⟨by omega, by simp; omega, by omega, by simp; omega, ?_⟩
    rw [cutS_bs]
    have e6 : (T.take (intN ((64 * i + 64 : Nat) : Int))).drop (intN ((64 * i : Nat) : Int)) = (T.drop (64 * i)).take 64 := by
      simp only [intN_eq, Int.toNat_natCast]
      rw [List.drop_take, show 64 * i + 64 - 64 * i = 64 from by omega]
    rw [e6]
    refine CallK.retV (x_block w3 a l c _ (stepsN_ok i T H0_ok) M.now _ (by simp; omega)) fun a1 l1 c1 w4 hf hk => ⟨_, _, _, rfl, ?_⟩
    rw [← stepsN_succ i H0 T (by omega)] at hf
    have M := (M.callF hk hf).imp (G := fun w' => VsAt w' a1 l1 (u32s (stepsN (i + 1) H0 T).l)) (fun w' hw => hw.2)
    exact ⟨n - 1, by omega, i + 1, _, _, _, rfl, by omega, M⟩
  · simp at hlt
    obtain rfl : i = T.length / 64 := by omega
    clear hi hlt
    have hok : (stepsN (T.length / 64) H0 T).ok := stepsN_ok _ T H0_ok
    generalize stepsN (T.length / 64) H0 T = hh at M hok
    have hl : hh.l.length = l := M.now.1.symm
    have h8 : l = 8 := hl.symm
    obtain ⟨p, hp, _⟩ := M.now.ptr (by simp [u32s, St.l])
    refine ⟨fun n vs w4 => ∃ k : Nat, vs = [.string (bs ((hh.l.take k).map fun x => bigL x 4).flatten), .int .i64 k] ∧ k + n = 8 ∧ Mem w [] [] (fun w' => VsAt w' a l (u32s hh.l)) w4, ⟨8, 0, rfl, rfl, M⟩, ?_⟩
    clear M
    rintro n vs w4 ⟨k, rfl, hk, M⟩
    refine ⟨_, _, rfl, fun _ => SplitK.of (fun hlt => ?_) (fun hlt => ?_)⟩
    · simp at hlt
      have hk8 : k < 8 := by omega
      have hx : hh.l.getD k 0 < 4294967296 := by
        match k, hk8 with
        | 0, _ => exact hok.a
        | 1, _ => exact hok.b
        | 2, _ => exact hok.c
        | 3, _ => exact hok.d
        | 4, _ => exact hok.e
        | 5, _ => exact hok.f
        | 6, _ => exact hok.g
        | 7, _ => exact hok.h
      refine ldRW k rfl hp (vsat_at M.now (by simp [u32s, St.l]) hp) hl (by omega) ?_
      rw [wrapU64 _ (by omega)]
      refine CallK.ret (x_Big w4 _ 4 (by omega)) fun w5 h5 => ⟨_, rfl, ?_⟩
      rw [catS_bs, many4]
      refine ⟨?_, n - 1, by omega, k + 1, ?_, by omega, M.call h5⟩
      · have hl := outL_takelen hh k
        rw [sizeS_bs, sizeS_bs, bigL_length, addN_eq]; omega
      · rw [outL_take, if_pos hk8, addI_one (by omega)]
    · simp at hlt
      obtain rfl : k = 8 := by omega
      exact ⟨rfl, M.keep⟩

end Go.Proofs.YtlegohnjbkgclaaDoor
