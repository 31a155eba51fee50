/-
  A part of the proof: HX.
-/
import Derived.Test.YthpodgkmghgenaaDoorSxZF
import Derived.Test.YthpodgkmghgenaaDoorSxHex
namespace Go.Proofs.YthpodgkmghgenaaDoor
open Go Go.Sx Go.Oct Go.Sha
set_option linter.unusedVariables false

theorem dig_bs : ByteArray.mk (List.toArray [48, 49, 50, 51, 52, 53, 54, 55, 56, 57, 97, 98, 99, 100, 101, 102]) = bs DIG := rfl

theorem hexL_take (s : List UInt8) (k : Nat) (hk : k < s.length) : hexL (s.take (k + 1)) = hexL (s.take k) ++ [hexD (s[k].toNat / 16)] ++ [hexD (s[k].toNat % 16)] := by
  rw [List.take_succ_eq_append_getElem hk]
  unfold hexL
  rw [List.map_append, List.flatten_append, List.append_assoc]
  rfl

theorem s_Hex (w : World) (s : List UInt8) (hs : s.length ≤ 1000000) : Calls Tryd.prog 23 #[.string (bs s)] w (Ret w (.string (bs (hexL s)))) := by
  refine calls_ret (F23_calls _ _ _ ?_)
  refine ⟨fun n vs w1 => ∃ (k : Nat) (opt : List (Nat × Obj)) (a : Option Addr) (l c : Nat), vs = [.slice a l c, .int .i64 k] ∧ k + n = s.length ∧ OwnM opt 5 a l c (byteVs (hexL (s.take k))) ∧ Mem w [] (opt ++ []) (fun _ => True) w1,
    ⟨s.length, 0, [], none, 0, 0, rfl, by omega, OwnM.nil, Mem.start w⟩, ?_⟩
  rintro n vs w1 ⟨k, opt, a, l, c, rfl, hk, ho, M⟩
  refine ⟨a, l, c, _, rfl, fun _ => SplitK.of (fun hlt => ?_) (fun hlt => ?_)⟩
  · simp at hlt
    intro K hK
    rintro w2 rfl
    have M := M.drew
    have hb : s[k].toNat < 256 := s[k].toNat_lt
    have e1 : shrI .u8 (byteI s[k]) 4 = ((s[k].toNat / 16 : Nat) : Int) := shrI_u8 _ 4 hb
    have e2 : andI .u8 (byteI s[k]) 15 = ((s[k].toNat % 16 : Nat) : Int) := by
      have := andI_u .u8 rfl s[k].toNat 15 hb (by decide)
      rw [show (15 : Nat) = 2 ^ 4 - 1 from rfl, Nat.and_two_pow_sub_one_eq_mod] at this
      exact this
    refine ⟨by omega, byteAt (by simpa using hlt) ⟨by decide, ?_⟩⟩
    simp only [intN_eq, Int.toNat_natCast]
    rw [e1, dig_bs]
    refine ⟨by omega, byteAt (by simp [DIG]; omega) ⟨by omega, byteAt (by simpa using hlt) ?_⟩⟩
    simp only [Int.toNat_natCast]
    rw [e2]
    refine ⟨by omega, byteAt (by simp [DIG]; omega) ?_⟩
    simp only [Int.toNat_natCast]
    rw [hexD_at (by omega), hexD_at (by omega)]
    refine M.newK fun b3 w3 M => ?_
    refine ⟨byteVs [hexD (s[k].toNat / 16), hexD (s[k].toNat % 16)], ⟨rfl, M.cells 0 rfl⟩, (fun h => by cases h), ?_⟩
    refine Mem.appK (M.tail) ho rfl rfl (by simp [byteVs, hexL_length]; omega) (by simp [byteVs, hexL_length]; omega) ?_
    intro a' l' c' opt' w' ho' M' hl
    refine hK _ _ _ _ fun _ => ⟨n - 1, by omega, k + 1, opt', a', l', c', by rw [addI_one (by omega)], by omega, ?_, M'⟩
    rw [hexL_take s k hlt]
    simpa [byteVs] using ho'
  · simp at hlt
    have : k = s.length := by omega
    subst this
    rw [List.take_length] at ho
    exact ⟨_, ho.bytesAt M, rfl, M.keep⟩

theorem s_Index (w : World) (b : UInt8) : Calls Tryd.prog 35 #[.string (bs DIG), .int .u8 ((b.toNat : Nat) : Int)] w (Ret w (.int .i64 (vI b))) := by
  refine (Tryd.strings_IndexByte (bs DIG) _ w).mono fun e w' ⟨he, hb⟩ => ⟨?_, by rw [hb]; exact Keep.refl _ _⟩
  rw [he, vI]
  simp

theorem unhex_step {s : List UInt8} {k : Nat} {acc : List UInt8} (hk : 2 * k + 1 < s.length) (h : unhexR s = (unhexR (s.drop (2 * k))).map (acc ++ ·)) :
    ((vI s[2 * k] < 0 ∨ vI s[2 * k + 1] < 0) → unhexR s = none) ∧
    (¬ (vI s[2 * k] < 0 ∨ vI s[2 * k + 1] < 0) → unhexR s = (unhexR (s.drop (2 * (k + 1)))).map ((acc ++ [UInt8.ofNat (16 * (vI s[2 * k]).toNat + (vI s[2 * k + 1]).toNat)]) ++ ·)) := by
  rw [drop2 s (2 * k) hk, unhexR] at h
  constructor
  · intro hc; rw [if_pos hc] at h; exact h
  · intro hc
    rw [if_neg hc] at h
    rw [h, Option.map_map]
    congr 1
    funext x
    simp

theorem vI_range (b : UInt8) (h : ¬ vI b < 0) : ∃ k : Nat, k < 16 ∧ vI b = k := by
  rcases vI_cases b with ⟨h1, _⟩ | ⟨j, hj, h1, h2⟩
  · omega
  · exact ⟨j, hj, h1⟩

theorem unhexR_acc {s : List UInt8} {k : Nat} {acc : List UInt8} (hk : 2 * k = s.length) (h : unhexR s = (unhexR (s.drop (2 * k))).map (acc ++ ·)) : unhexR s = some acc := by
  rw [hk, List.drop_length] at h
  rw [h]; simp [unhexR]

theorem s_Unhex (w : World) (s : List UInt8) (hs : s.length ≤ 1000000) : Calls Tryd.prog 22 #[.string (bs s)] w (Ret w (.tuple #[.string (bs (unhexL s)), .bool (unhexB s)])) := by
  refine calls_ret (F22_calls _ _ _ ?_)
  have e0 : remI (natI (sizeS (bs s))) 2 = ((s.length % 2 : Nat) : Int) := by rw [sizeS_bs, natI_eq]; exact remI_nat _ 2
  have eq : quoI .i64 (natI (sizeS (bs s))) 2 = ((s.length / 2 : Nat) : Int) := by rw [sizeS_bs, natI_eq]; exact quoI_nat _ 2 (by omega)
  refine ⟨by decide, ?_⟩
  rw [e0, eq]
  refine SplitK.of (fun h => ?_) (fun h => ?_)
  · simp only [notB_t, eqI_f] at h
    have h1 := unhexR_odd s (by omega)
    exact ⟨by rw [unhexL, unhexB, h1]; rfl, Keep.refl _ _⟩
  · simp only [notB_f, eqI_t] at h
    have hev : s.length % 2 = 0 := by omega
    refine ⟨by decide, by omega, by omega, by omega, by omega, ?_⟩
    intro b0 w1 hb hw
    subst hb hw
    have M := (Mem.start w).alloc (.cells (zerosL [Value.int .u8 0] (((s.length / 2 : Nat) : Int)).toNat).toArray 5 (0, 0))
    generalize hw1 : World.alloc w _ = w1 at M ⊢
    have hz : zerosL [Value.int .u8 0] (s.length / 2) = [] ++ List.replicate (s.length / 2) (byteV 0) := by simp [zerosL, byteV]
    rw [Int.toNat_natCast, hz] at M
    refine ⟨fun n vs w1 => ∃ (k : Nat) (acc : List UInt8) (opt : List (Nat × Obj)) (a : Option Addr) (l c : Nat), vs = [.slice a l c, .int .i64 ((2 * k : Nat) : Int)] ∧ k + n = s.length / 2 ∧ acc.length = k ∧ OwnM opt 5 a l c (byteVs acc) ∧ unhexR s = (unhexR (s.drop (2 * k))).map (acc ++ ·) ∧ Mem w [] (opt ++ []) (fun _ => True) w1,
      ⟨s.length / 2, 0, [], _, _, _, _, rfl, by omega, rfl, .inr ⟨w.heap.size, List.replicate (s.length / 2) (byteV 0), rfl, rfl, rfl, by simp [byteVs]; omega, by simp; omega⟩, by simp, M⟩, ?_⟩
    rintro n vs w1 ⟨k, acc, opt, a, l, c, rfl, hk, ha, ho, hu, M⟩
    refine ⟨_, _, _, _, rfl, fun _ => SplitK.of (fun hlt => ?_) (fun hlt => ?_)⟩
    · simp at hlt
      have h2 : 2 * k + 1 < s.length := by omega
      have e1 : addI .i64 ((2 * k : Nat) : Int) 1 = ((2 * k + 1 : Nat) : Int) := addI_nat _ 1 (by omega)
      rintro w2 rfl
      have M := M.drew
      rw [e1, dig_bs]
      refine ⟨by omega, byteAt (by simp only [intN_eq, Int.toNat_natCast]; omega) ⟨by omega, byteAt (by simp only [intN_eq, Int.toNat_natCast]; omega) ?_⟩⟩
      refine CallK.ret (s_Index _ _) fun w2 k2 => ⟨_, rfl, ?_⟩
      refine CallK.ret (s_Index w2 _) fun w3 k3 => ⟨_, rfl, ?_⟩
      simp only [intN_eq, Int.toNat_natCast]
      have M := (M.call k2).call k3
      obtain ⟨hs1, hs2⟩ := unhex_step h2 hu
      intro K hKK
      have go : ∀ t, (t = true ↔ (vI s[2 * k] < 0 ∨ vI s[2 * k + 1] < 0)) → K [.bool t] w3 := by
        intro t ht
        refine hKK _ _ fun _ => SplitK.of (fun h => ?_) (fun h => ?_)
        · have h1 := hs1 (ht.1 h)
          exact ⟨by rw [unhexL, unhexB, h1]; rfl, M.keep⟩
        · have hn : ¬ (vI s[2 * k] < 0 ∨ vI s[2 * k + 1] < 0) := fun hc => by rw [ht.2 hc] at h; cases h
          have hu' := hs2 hn
          obtain ⟨a', ha16, hva⟩ := vI_range _ (fun hc => hn (.inl hc))
          obtain ⟨b, hb16, hvb⟩ := vI_range _ (fun hc => hn (.inr hc))
          rw [hva, hvb] at hu' ⊢
          have e16 := byte16 ⟨a', ha16⟩ ⟨b, hb16⟩
          simp only at e16
          rw [e16]
          refine ⟨by decide, ?_⟩
          refine M.newK fun b3 w4 M => ?_
          have e2 : ((16 * a' + b : Nat) : Int) = (((16 * a' + b) % 256 : Nat) : Int) := by rw [Nat.mod_eq_of_lt (by omega)]
          rw [e2, byteV_ofNat] at M
          refine ⟨_, M.old1, ne1, ?_⟩
          refine Mem.appK (M.tail) ho rfl rfl (by simp [byteVs]; omega) (by simp [byteVs]; omega) ?_
          intro a'' l' c' opt' w' ho' M' hl
          refine ⟨n - 1, by omega, k + 1, acc ++ [UInt8.ofNat (16 * a' + b)], opt', a'', l', c', ?_, by omega, by simp [ha], by simpa [byteVs] using ho', ?_, M'⟩
          · have e3 : addI .i64 ((2 * k : Nat) : Int) 2 = ((2 * (k + 1) : Nat) : Int) := addI_nat _ 2 (by omega)
            rw [e3]
          · simpa using hu'
      refine SplitK.of (fun h => ?_) (fun h => ?_)
      · simp at h
        exact go _ (by simp; exact .inl h)
      · simp at h
        refine go _ ?_
        simp
        omega
    · simp at hlt
      have := unhexR_acc (by omega) hu
      exact ⟨_, ho.bytesAt M, by rw [unhexL, unhexB, this]; rfl, M.keep⟩

end Go.Proofs.YthpodgkmghgenaaDoor
