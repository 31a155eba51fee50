/-
  A part of the proof: SE.
-/
import Derived.Test.YtlegohnjbkgclaaDoorSxSD
namespace Go.Proofs.YtlegohnjbkgclaaDoor
open Go Go.Sx Go.Oct Go.Sha
set_option linter.unusedVariables false

theorem s_Index (w : World) (b : UInt8) : Calls Tryd.prog 44 #[.string (bs DIG), .int .u8 ((b.toNat : Nat) : Int)] w (Ret w (.int .i64 (vI b))) := by
  refine (Tryd.strings_IndexByte (bs DIG) _ w).mono fun e w' ⟨he, hb⟩ => ⟨?_, by rw [hb]; exact Keep.refl _ _⟩
  rw [he, vI]
  simp

theorem x_value (w : World) (b : UInt8) : Calls Tryd.prog 45 #[.int .u8 ((b.toNat : Nat) : Int)] w (Ret w (.int .i64 (vI b))) := by
  refine calls_ret (F45_calls _ _ _ ?_)
  refine ⟨fun n vs w1 => ∃ k : Nat, vs = [.int .i64 k] ∧ k + n = 16 ∧ (∀ j, j < k → hexD j ≠ b) ∧ w1 = w, ⟨16, 0, rfl, rfl, by intro j hj; omega, rfl⟩, ?_⟩
  rintro n vs w1 ⟨k, rfl, hk, hn, rfl⟩
  refine ⟨_, rfl, fun _ => SplitK.of (fun hlt => ?_) (fun hlt => ?_)⟩
  · simp at hlt
    have hk16 : k < 16 := by omega
    rw [dig_bs]
    refine ⟨by omega, byteAt (by simpa [DIG] using hk16) ?_⟩
    simp only [intN_eq, Int.toNat_natCast]
    rw [hexD_at hk16]
    refine SplitK.of (fun he => ?_) (fun he => ?_)
    · simp only [byteI_eq, eqI_t] at he
      have he : hexD k = b := UInt8.toNat_inj.1 (by omega)
      have := vI_hexD ⟨k, hk16⟩
      rw [he] at this
      exact ⟨by rw [this], Keep.refl _ _⟩
    · simp only [byteI_eq, eqI_f] at he
      have he : hexD k ≠ b := fun h => he (by rw [h])
      refine ⟨n - 1, by omega, k + 1, by rw [addI_one (by omega)], by omega, ?_, by trivial⟩
      intro j hj
      by_cases h : j = k
      · subst h; exact he
      · exact hn j (by omega)
  · simp at hlt
    have hk16 : k = 16 := by omega
    subst hk16
    rcases vI_cases b with ⟨h1, _⟩ | ⟨j, hj, h1, h2⟩
    · exact ⟨by rw [h1], Keep.refl _ _⟩
    · exact absurd h2 (hn j hj)

theorem unhex_step {s : List UInt8} {k : Nat} {acc : List UInt8} (hk : 2 * k + 1 < s.length) (h : unhexR s = (unhexR (s.drop (2 * k))).map (acc ++ ·)) :
    ((vI s[2 * k] < 0 ∨ vI s[2 * k + 1] < 0) → unhexR s = none) ∧
    (¬ (vI s[2 * k] < 0 ∨ vI s[2 * k + 1] < 0) → unhexR s = (unhexR (s.drop (2 * (k + 1)))).map ((acc ++ [UInt8.ofNat (16 * (vI s[2 * k]).toNat + (vI s[2 * k + 1]).toNat)]) ++ ·)) := by
  rw [drop2 s (2 * k) hk, unhexR] at h
  constructor
  · intro hc; rw [if_pos hc] at h; exact h
  · intro hc
    rw [if_neg hc] at h
    rw [h, Option.map_map]
    congr 1
    funext x
    simp

theorem vI_range (b : UInt8) (h : ¬ vI b < 0) : ∃ k : Nat, k < 16 ∧ vI b = k := by
  rcases vI_cases b with ⟨h1, _⟩ | ⟨j, hj, h1, h2⟩
  · omega
  · exact ⟨j, hj, h1⟩

theorem unhexR_acc {s : List UInt8} {k : Nat} {acc : List UInt8} (hk : 2 * k = s.length) (h : unhexR s = (unhexR (s.drop (2 * k))).map (acc ++ ·)) : unhexR s = some acc := by
  rw [hk, List.drop_length] at h
  rw [h]; simp [unhexR]

theorem x_Unhex (w : World) (s : List UInt8) (hs : s.length ≤ 1000000) : Calls Tryd.prog 20 #[.string (bs s)] w (Ret w (.tuple #[.string (bs (unhexL s)), .bool (unhexB s)])) := by
  refine calls_ret (F20_calls _ _ _ ?_)
  have e0 : remI (natI (sizeS (bs s))) 2 = ((s.length % 2 : Nat) : Int) := by rw [sizeS_bs, natI_eq]; exact remI_nat _ 2
  refine ⟨by decide, ?_⟩
  rw [e0]
  refine SplitK.of (fun h => ?_) (fun h => ?_)
  · simp only [notB_t, eqI_f] at h
    have h1 := unhexR_odd s (by omega)
    exact ⟨by rw [unhexL, unhexB, h1]; rfl, Keep.refl _ _⟩
  · simp only [notB_f, eqI_t] at h
    have hev : s.length % 2 = 0 := by omega
    refine ⟨fun n vs w1 => ∃ (k : Nat) (acc : List UInt8), vs = [.string (bs acc), .int .i64 ((2 * k : Nat) : Int)] ∧ k + n = s.length / 2 ∧ acc.length = k ∧ unhexR s = (unhexR (s.drop (2 * k))).map (acc ++ ·) ∧ Keep [] w w1, ⟨s.length / 2, 0, [], rfl, by omega, rfl, by simp, Keep.refl _ _⟩, ?_⟩
    rintro n vs w1 ⟨k, acc, rfl, hk, ha, hu, hK⟩
    refine ⟨_, _, rfl, fun _ => SplitK.of (fun hlt => ?_) (fun hlt => ?_)⟩
    · simp at hlt
      have h2 : 2 * k + 1 < s.length := by omega
      have e1 : addI .i64 ((2 * k : Nat) : Int) 1 = ((2 * k + 1 : Nat) : Int) := addI_nat _ 1 (by omega)
      refine ⟨by omega, byteAt (by simp only [intN_eq, Int.toNat_natCast]; omega) ?_⟩
      refine CallK.ret (x_value w1 _) fun w2 k2 => ⟨_, rfl, ?_⟩
      rw [e1]
      refine ⟨by omega, byteAt (by simp only [intN_eq, Int.toNat_natCast]; omega) ?_⟩
      refine CallK.ret (x_value w2 _) fun w3 k3 => ⟨_, rfl, ?_⟩
      simp only [intN_eq, Int.toNat_natCast]
      have hK := (hK.trans0 k2).trans0 k3
      obtain ⟨hs1, hs2⟩ := unhex_step h2 hu
      intro K hKK
      have go : ∀ t, (t = true ↔ (vI s[2 * k] < 0 ∨ vI s[2 * k + 1] < 0)) → K [.bool t] w3 := by
        intro t ht
        refine hKK _ _ fun _ => SplitK.of (fun h => ?_) (fun h => ?_)
        · have h1 := hs1 (ht.1 h)
          exact ⟨by rw [unhexL, unhexB, h1]; rfl, hK⟩
        · have hn : ¬ (vI s[2 * k] < 0 ∨ vI s[2 * k + 1] < 0) := fun hc => by rw [ht.2 hc] at h; cases h
          have hu' := hs2 hn
          obtain ⟨a, ha16, hva⟩ := vI_range _ (fun hc => hn (.inl hc))
          obtain ⟨b, hb16, hvb⟩ := vI_range _ (fun hc => hn (.inr hc))
          rw [hva, hvb] at hu' ⊢
          rw [byte16' a b ha16 hb16]
          refine (Mem.start w3).newK fun b3 w4 M => ?_
          have e2 : ((16 * a + b : Nat) : Int) = (((16 * a + b) % 256 : Nat) : Int) := by rw [Nat.mod_eq_of_lt (by omega)]
          rw [e2, byteV_ofNat] at M
          refine ⟨[UInt8.ofNat (16 * a + b)], M.bytes 0 (T := 5) (fr := (0, 0)) rfl rfl, by simp; omega, n - 1, by omega, k + 1, acc ++ [UInt8.ofNat (16 * a + b)], ?_, by omega, by simp [ha], ?_, hK.trans0 M.keep⟩
          · have e3 : addI .i64 ((2 * k : Nat) : Int) 2 = ((2 * (k + 1) : Nat) : Int) := addI_nat _ 2 (by omega)
            rw [e3, catS_bs]
          · simpa using hu'
      refine SplitK.of (fun h => ?_) (fun h => ?_)
      · simp at h
        exact go _ (by simp; exact .inl h)
      · simp at h
        refine go _ ?_
        simp
        omega
    · simp at hlt
      have := unhexR_acc (by omega) hu
      exact ⟨by rw [unhexL, unhexB, this]; rfl, hK⟩

theorem s_Unhex (w : World) (s : List UInt8) (hs : s.length ≤ 1000000) : Calls Tryd.prog 19 #[.string (bs s)] w (Ret w (.tuple #[.string (bs (unhexL s)), .bool (unhexB s)])) := by
  refine calls_ret (F19_calls _ _ _ ?_)
  have e0 : remI (natI (sizeS (bs s))) 2 = ((s.length % 2 : Nat) : Int) := by rw [sizeS_bs, natI_eq]; exact remI_nat _ 2
  have eq : quoI .i64 (natI (sizeS (bs s))) 2 = ((s.length / 2 : Nat) : Int) := by rw [sizeS_bs, natI_eq]; exact quoI_nat _ 2 (by omega)
  refine ⟨by decide, ?_⟩
  rw [e0, eq]
  refine SplitK.of (fun h => ?_) (fun h => ?_)
  · simp only [notB_t, eqI_f] at h
    have h1 := unhexR_odd s (by omega)
    exact ⟨by rw [unhexL, unhexB, h1]; rfl, Keep.refl _ _⟩
  · simp only [notB_f, eqI_t] at h
    have hev : s.length % 2 = 0 := by omega
    refine ⟨by decide, by omega, by omega, by omega, by omega, ?_⟩
    intro b0 w1 hb hw
    subst hb hw
    have M := (Mem.start w).alloc (.cells (zerosL [Value.int .u8 0] (((s.length / 2 : Nat) : Int)).toNat).toArray 5 (0, 0))
    generalize hw1 : World.alloc w _ = w1 at M ⊢
    have hz : zerosL [Value.int .u8 0] (s.length / 2) = [] ++ List.replicate (s.length / 2) (byteV 0) := by simp [zerosL, byteV]
    rw [Int.toNat_natCast, hz] at M
    refine ⟨fun n vs w1 => ∃ (k : Nat) (acc : List UInt8) (opt : List (Nat × Obj)) (a : Option Addr) (l c : Nat), vs = [.slice a l c, .int .i64 ((2 * k : Nat) : Int)] ∧ k + n = s.length / 2 ∧ acc.length = k ∧ OwnM opt 5 a l c (byteVs acc) ∧ unhexR s = (unhexR (s.drop (2 * k))).map (acc ++ ·) ∧ Mem w [] (opt ++ []) (fun _ => True) w1,
      ⟨s.length / 2, 0, [], _, _, _, _, rfl, by omega, rfl, .inr ⟨w.heap.size, List.replicate (s.length / 2) (byteV 0), rfl, rfl, rfl, by simp [byteVs]; omega, by simp; omega⟩, by simp, M⟩, ?_⟩
    rintro n vs w1 ⟨k, acc, opt, a, l, c, rfl, hk, ha, ho, hu, M⟩
    refine ⟨_, _, _, _, rfl, fun _ => SplitK.of (fun hlt => ?_) (fun hlt => ?_)⟩
    · simp at hlt
      have h2 : 2 * k + 1 < s.length := by omega
      have e1 : addI .i64 ((2 * k : Nat) : Int) 1 = ((2 * k + 1 : Nat) : Int) := addI_nat _ 1 (by omega)
      rintro w2 rfl
      have M := M.drew
      rw [e1, dig_bs]
      refine ⟨by omega, byteAt (by simp only [intN_eq, Int.toNat_natCast]; omega) ⟨by omega, byteAt (by simp only [intN_eq, Int.toNat_natCast]; omega) ?_⟩⟩
      refine CallK.ret (s_Index _ _) fun w2 k2 => ⟨_, rfl, ?_⟩
      refine CallK.ret (s_Index w2 _) fun w3 k3 => ⟨_, rfl, ?_⟩
      simp only [intN_eq, Int.toNat_natCast]
      have M := (M.call k2).call k3
      obtain ⟨hs1, hs2⟩ := unhex_step h2 hu
      intro K hKK
      have go : ∀ t, (t = true ↔ (vI s[2 * k] < 0 ∨ vI s[2 * k + 1] < 0)) → K [.bool t] w3 := by
        intro t ht
        refine hKK _ _ fun _ => SplitK.of (fun h => ?_) (fun h => ?_)
        · have h1 := hs1 (ht.1 h)
          exact ⟨by rw [unhexL, unhexB, h1]; rfl, M.keep⟩
        · have hn : ¬ (vI s[2 * k] < 0 ∨ vI s[2 * k + 1] < 0) := fun hc => by rw [ht.2 hc] at h; cases h
          have hu' := hs2 hn
          obtain ⟨a', ha16, hva⟩ := vI_range _ (fun hc => hn (.inl hc))
          obtain ⟨b, hb16, hvb⟩ := vI_range _ (fun hc => hn (.inr hc))
          rw [hva, hvb] at hu' ⊢
          have e16 := byte16 ⟨a', ha16⟩ ⟨b, hb16⟩
          simp only at e16
          rw [e16]
          refine ⟨by decide, ?_⟩
          refine M.newK fun b3 w4 M => ?_
          have e2 : ((16 * a' + b : Nat) : Int) = (((16 * a' + b) % 256 : Nat) : Int) := by rw [Nat.mod_eq_of_lt (by omega)]
          rw [e2, byteV_ofNat] at M
          refine ⟨_, M.old1, ne1, ?_⟩
          refine Mem.appK (M.tail) ho rfl rfl (by simp [byteVs]; omega) (by simp [byteVs]; omega) ?_
          intro a'' l' c' opt' w' ho' M' hl
          refine ⟨n - 1, by omega, k + 1, acc ++ [UInt8.ofNat (16 * a' + b)], opt', a'', l', c', ?_, by omega, by simp [ha], by simpa [byteVs] using ho', ?_, M'⟩
          · have e3 : addI .i64 ((2 * k : Nat) : Int) 2 = ((2 * (k + 1) : Nat) : Int) := addI_nat _ 2 (by omega)
            rw [e3]
          · simpa using hu'
      refine SplitK.of (fun h => ?_) (fun h => ?_)
      · simp at h
        exact go _ (by simp; exact .inl h)
      · simp at h
        refine go _ ?_
        simp
        omega
    · simp at hlt
      have := unhexR_acc (by omega) hu
      exact ⟨_, ho.bytesAt M, by rw [unhexL, unhexB, this]; rfl, M.keep⟩

end Go.Proofs.YtlegohnjbkgclaaDoor
