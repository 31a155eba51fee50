/-
  A part of the proof: YE.
-/
import Derived.Test.YthpodgkmghgenaaDoorSxYD
import Derived.Test.YthpodgkmghgenaaDoorSxRange
namespace Go.Proofs.YthpodgkmghgenaaDoor
open Go Go.Sx Go.Oct Go.Poly
set_option linter.unusedVariables false

/-- A key's byte, as it counts. -/
def clampB (i : Nat) (b : UInt8) : UInt8 := if i % 4 = 3 then b &&& 15 else if i % 4 = 0 ∧ 0 < i then b &&& 252 else b
def clampL (r : List UInt8) : List UInt8 := if r.length = 16 then r.mapIdx clampB else []
theorem and15 : ∀ n : Fin 256, (UInt8.ofNat n.1 &&& 15).toNat = n.1 % 16 := by decide +kernel
theorem and252 : ∀ n : Fin 256, (UInt8.ofNat n.1 &&& 252).toNat = n.1 / 4 * 4 := by decide +kernel
theorem and15' (b : UInt8) : (b &&& 15).toNat = b.toNat % 16 := by
  have := and15 ⟨b.toNat, b.toNat_lt⟩
  simpa using this
theorem and252' (b : UInt8) : (b &&& 252).toNat = b.toNat / 4 * 4 := by
  have := and252 ⟨b.toNat, b.toNat_lt⟩
  simpa using this
theorem andI_u8 (b c : UInt8) : andI .u8 ((b.toNat : Nat) : Int) ((c.toNat : Nat) : Int) = (((b &&& c).toNat : Nat) : Int) := by
  rw [andI_u .u8 rfl _ _ (by have := b.toNat_lt; exact this) (by have := c.toNat_lt; exact this), UInt8.toNat_and]
theorem byteV_andI15 (b : UInt8) : Value.int .u8 (andI .u8 ((b.toNat : Nat) : Int) 15) = byteV (b &&& 15) := by
  have := andI_u8 b 15
  rw [show (((15 : UInt8).toNat : Nat) : Int) = 15 from rfl] at this
  rw [this]; rfl
theorem byteV_andI252 (b : UInt8) : Value.int .u8 (andI .u8 ((b.toNat : Nat) : Int) 252) = byteV (b &&& 252) := by
  have := andI_u8 b 252
  rw [show (((252 : UInt8).toNat : Nat) : Int) = 252 from rfl] at this
  rw [this]; rfl
theorem mix_get (c r : List UInt8) (k : Nat) (hl : c.length = r.length) (hk : k < r.length) : (c.take k ++ r.drop k)[k]? = some r[k] := by
  rw [List.getElem?_append_right (by rw [List.length_take]; omega), List.length_take, Nat.min_eq_left (by omega), Nat.sub_self, List.getElem?_drop, Nat.add_zero, List.getElem?_eq_getElem hk]
theorem mix_set (c r : List UInt8) (k : Nat) (x : UInt8) (hl : c.length = r.length) (hk : k < r.length) (hx : c[k]? = some x) : (c.take k ++ r.drop k).set k x = c.take (k + 1) ++ r.drop (k + 1) := by
  have hc : c[k]'(by omega) = x := by rw [List.getElem?_eq_getElem (by omega)] at hx; exact Option.some.inj hx
  rw [List.set_append_right _ _ (by rw [List.length_take]; omega), List.length_take, Nat.min_eq_left (by omega), Nat.sub_self, List.drop_eq_getElem_cons hk, List.set_cons_zero, List.take_succ_eq_append_getElem (by omega), hc, List.append_assoc]
  rfl
theorem mix_same (c r : List UInt8) (k : Nat) (hl : c.length = r.length) (hk : k < r.length) (hx : c[k]? = some r[k]) : c.take k ++ r.drop k = c.take (k + 1) ++ r.drop (k + 1) := by
  have hc : c[k]'(by omega) = r[k] := by rw [List.getElem?_eq_getElem (by omega)] at hx; exact Option.some.inj hx
  rw [List.drop_eq_getElem_cons hk, List.take_succ_eq_append_getElem (show k < c.length by omega), hc, List.append_assoc]
  rfl

theorem p_Clamp (w : World) (r : List UInt8) (hr : r.length ≤ 1000000) : Calls Tryd.prog 20 #[.string (bs r)] w (Ret w (.string (bs (clampL r)))) := by
  refine calls_ret (F20_calls _ _ _ ?_)
  refine SplitK.of (fun h => ?_) (fun h => ?_)
  · simp only [sizeS_bs, natI_eq, notB_t, eqI_f] at h
    exact ⟨by rw [clampL, if_neg (by omega)]; rfl, Keep.refl _ _⟩
  · simp only [sizeS_bs, natI_eq, notB_f, eqI_t] at h
    have h16 : r.length = 16 := by omega
    rw [clampL, if_pos h16]
    generalize hc : r.mapIdx clampB = c
    have hl : c.length = r.length := by rw [← hc]; simp
    have hck : ∀ k (hk : k < r.length), c[k]? = some (clampB k r[k]) := fun k hk => by rw [← hc]; simp [hk]
    refine (Mem.start w).bytesOfK fun bk rest w1 M => ?_
    refine ⟨fun n vs w2 => ∃ k : Nat, vs = [.int .i64 k] ∧ k + n = 16 ∧ Mem w [] [(bk, .cells (byteVs (c.take k ++ r.drop k) ++ rest).toArray 5 (r.length + rest.length, r.length + rest.length + 1))] (fun _ => True) w2, ⟨16, 0, rfl, by omega, by simpa using M⟩, ?_⟩
    clear M
    rintro n vs w2 ⟨k, rfl, hk, M⟩
    refine ⟨_, rfl, fun _ => SplitK.of (fun hlt => ?_) (fun hlt => ?_)⟩
    · simp at hlt
      have hk16 : k < 16 := by omega
      have hkr : k < r.length := by omega
      intro K hK
      have hml : (c.take k ++ r.drop k).length = r.length := by rw [List.length_append, List.length_take, List.length_drop]; omega
      have hg : (byteVs (c.take k ++ r.drop k) ++ rest)[0 + k]? = some (byteV r[k]) := by
        rw [Nat.zero_add, List.getElem?_append_left (by rw [byteVs, List.length_map]; omega), byteVs, List.getElem?_map, mix_get c r k hl hkr]; rfl
      have er : remI (k : Int) 4 = ((k % 4 : Nat) : Int) := remI_nat k 4
      have fin : ∀ w3, Mem w [] [(bk, .cells (byteVs (c.take (k + 1) ++ r.drop (k + 1)) ++ rest).toArray 5 (r.length + rest.length, r.length + rest.length + 1))] (fun _ => True) w3 → K [] w3 := fun w3 M =>
        hK _ fun _ => ⟨n - 1, by omega, k + 1, by rw [addI_one (by omega)], by omega, M⟩
      have wr : ∀ (x : UInt8), clampB k r[k] = x → ∀ {kk : World → Prop}, (∀ w3, K [] w3 → kk w3) → StK w2 (addA ⟨bk, 0, none⟩ (mulN (intN (k : Int)) 1)) [byteV x] kk := by
        intro x hx kk hkk
        rw [addA_int, addr_add]
        refine M.stKf 0 (c := byteVs (c.take k ++ r.drop k) ++ rest) rfl (by rw [List.length_append, byteVs, List.length_map]; simp; omega) (by intro j h1 h2; simp at h2; simp; omega) rfl fun w3 M => hkk w3 (fin w3 ?_)
        have e : spliceL (byteVs (c.take k ++ r.drop k) ++ rest) (0 + k) [byteV x] = byteVs (c.take (k + 1) ++ r.drop (k + 1)) ++ rest := by
          show (byteVs (c.take k ++ r.drop k) ++ rest).set (0 + k) (byteV x) = _
          rw [Nat.zero_add, List.set_append_left _ _ (by rw [byteVs, List.length_map]; omega), byteVs, ← List.map_set, mix_set c r k x hl hkr (by rw [hck k hkr, hx])]
          rfl
        rw [e] at M
        exact M
      have cellk := M.cell 0 (c := byteVs (c.take k ++ r.drop k) ++ rest) (off := 0 + k) rfl hg
      refine ⟨by decide, ?_⟩
      rw [er]
      refine SplitK.of (fun h3 => ?_) (fun h3 => ?_)
      · simp only [eqI_t] at h3
        have h3 : k % 4 = 3 := by omega
        refine ⟨by omega, by simp; omega, _, by rw [addA_int, addr_add]; exact cellk, by omega, by simp; omega, ?_⟩
        rw [byteV_andI15]
        exact wr _ (by rw [clampB, if_pos h3]) (fun _ h => h)
      · simp only [eqI_f] at h3
        have h3 : ¬ k % 4 = 3 := by omega
        intro K1 hK1
        have go : ∀ t : Bool, (t = true ↔ (k % 4 = 0 ∧ 0 < k)) → K1 [.bool t] w2 := by
          intro t ht
          refine hK1 _ _ fun _ => SplitK.of (fun h => ?_) (fun h => ?_)
          · refine ⟨by omega, by simp; omega, _, by rw [addA_int, addr_add]; exact cellk, by omega, by simp; omega, ?_⟩
            rw [byteV_andI252]
            exact wr _ (by rw [clampB, if_neg h3, if_pos (ht.1 h)]) (fun _ h => h)
          · have hn : ¬ (k % 4 = 0 ∧ 0 < k) := fun hc => by rw [ht.2 hc] at h; cases h
            refine fin w2 ?_
            rw [← mix_same c r k hl hkr (by rw [hck k hkr, clampB, if_neg h3, if_neg hn])]
            exact M
        refine ⟨by decide, SplitK.of (fun h0 => ?_) (fun h0 => ?_)⟩
        · simp only [eqI_t] at h0
          refine go _ ?_
          rw [show ltI 0 (k : Int) = decide (0 < k) from ltI_nat 0 k, decide_eq_true_eq]
          omega
        · simp only [eqI_f] at h0
          exact go false (by simp; omega)
    · simp at hlt
      obtain rfl : k = 16 := by omega
      have e1 : c.take 16 ++ r.drop 16 = c := by rw [List.take_of_length_le (by omega), List.drop_eq_nil_of_le (by omega), List.append_nil]
      rw [e1] at M
      refine ⟨c, ⟨by rw [sizeS_bs, hl], M.cellsFrom 0 rfl fun j v hv => ?_⟩, rfl, M.keep⟩
      rw [Nat.zero_add, List.getElem?_append_left (by simpa [byteVs] using (List.getElem?_eq_some_iff.1 hv).1)]
      exact hv

end Go.Proofs.YthpodgkmghgenaaDoor
