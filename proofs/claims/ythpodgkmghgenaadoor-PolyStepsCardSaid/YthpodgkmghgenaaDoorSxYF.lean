/-
  A part of the proof: YF.
-/
import Derived.Test.YthpodgkmghgenaaDoorSxYE
namespace Go.Proofs.YthpodgkmghgenaaDoor
open Go Go.Sx Go.Oct Go.Poly
set_option linter.unusedVariables false

theorem x_Clamp (w : World) (r : List UInt8) (hr : r.length ≤ 1000000) : Calls Tryd.prog 16 #[.string (bs r)] w (Ret w (.string (bs (clampL r)))) := by
  refine calls_ret (F16_calls _ _ _ ?_)
  refine SplitK.of (fun h => ?_) (fun h => ?_)
  · simp only [sizeS_bs, natI_eq, notB_t, eqI_f] at h
    exact ⟨by rw [clampL, if_neg (by omega)]; rfl, Keep.refl _ _⟩
  · simp only [sizeS_bs, natI_eq, notB_f, eqI_t] at h
    have h16 : r.length = 16 := by omega
    rw [clampL, if_pos h16]
    generalize hc : r.mapIdx clampB = c
    have hl : c.length = r.length := by rw [← hc]; simp
    have hck : ∀ k (hk : k < r.length), c[k]? = some (clampB k r[k]) := fun k hk => by rw [← hc]; simp [hk]
    refine ⟨fun n vs w2 => ∃ k : Nat, vs = [.string (bs (c.take k)), .int .i64 k] ∧ k + n = 16 ∧ Keep [] w w2, ⟨16, 0, rfl, by omega, Keep.refl _ _⟩, ?_⟩
    rintro n vs w2 ⟨k, rfl, hk, k2⟩
    refine ⟨_, _, rfl, fun _ => SplitK.of (fun hlt => ?_) (fun hlt => ?_)⟩
    · simp at hlt
      have hk16 : k < 16 := by omega
      have hkr : k < r.length := by omega
      refine ⟨by omega, byteAt (by simp only [intN_eq, Int.toNat_natCast]; omega) ?_⟩
      simp only [intN_eq, Int.toNat_natCast, byteI_eq]
      have er : remI (k : Int) 4 = ((k % 4 : Nat) : Int) := remI_nat k 4
      rw [er]
      have hb := r[k].toNat_lt
      -- at the end of the round
      have fin : ∀ (x : UInt8) (w3 : World), Keep [] w w3 → clampB k r[k] = x → NewK w3 (List.toArray [.int .u8 ((x.toNat : Nat) : Int)]) 5 (fun b1 w4 => ∃ (l : List UInt8), (BytesAt w4 (some ⟨b1, 0, none⟩) 1 l) ∧ ((addN (sizeS (bs (c.take k))) (sizeS (bs l)) ≤ 9223372036854775807) ∧ (∃ m, (m < n) ∧ (∃ k_1 : Nat, ([.string (catS (bs (c.take k)) (bs l)), .int .i64 (addI .i64 (k : Int) 1)] : List Value) = [.string (bs (c.take k_1)), .int .i64 (k_1 : Int)] ∧ k_1 + m = 16 ∧ Keep [] w w4)))) := by
        intro x w3 k3 hx
        refine (Mem.start w3).newK fun b1 w4 M => ⟨[x], M.bytes 0 (T := 5) (fr := (0, 0)) rfl rfl, by simp; omega, n - 1, by omega, k + 1, ?_, by omega, k3.trans0 M.keep⟩
        have hcx : c[k]'(by omega) = x := by
          have := hck k hkr
          rw [List.getElem?_eq_getElem (by omega), hx] at this
          exact Option.some.inj this
        rw [catS_bs, addI_one (by omega), List.take_succ_eq_append_getElem (by omega), hcx]
      intro K hK
      refine ⟨by decide, SplitK.of (fun h3 => ?_) (fun h3 => ?_)⟩
      · simp only [eqI_t] at h3
        have h3 : k % 4 = 3 := by omega
        have e1 : remI ((r[k].toNat : Nat) : Int) 16 = (((r[k] &&& 15).toNat : Nat) : Int) := by rw [and15']; exact remI_nat _ 16
        refine ⟨by decide, ?_⟩
        rw [e1]
        refine hK _ _ fun _ K1 hK1 K2 hK2 => ?_
        have f2 : K2 [.bool false] w2 := hK2 _ _ fun _ => SplitK.f rfl (hK1 _ _ fun _ => fin _ _ k2 (by rw [clampB, if_pos h3]))
        refine SplitK.of (fun h => ⟨by decide, ?_⟩) (fun h => f2)
        have : eqI ((k % 4 : Nat) : Int) 0 = false := by rw [eqI_f]; omega
        rw [this]
        exact f2
      · simp only [eqI_f] at h3
        have h3 : ¬ k % 4 = 3 := by omega
        refine hK _ _ fun _ K1 hK1 K2 hK2 => ?_
        have go : ∀ t : Bool, (t = true ↔ (k % 4 = 0 ∧ 0 < k)) → K2 [.bool t] w2 := by
          intro t ht
          refine hK2 _ _ fun _ => SplitK.of (fun h => ⟨by decide, ?_⟩) (fun h => ?_)
          · have e1 : mulI .u8 (quoI .u8 ((r[k].toNat : Nat) : Int) 4) 4 = (((r[k] &&& 252).toNat : Nat) : Int) := by
              have q : quoI .u8 ((r[k].toNat : Nat) : Int) 4 = ((r[k].toNat / 4 : Nat) : Int) := quoI_u8 _ 4 hb
              rw [q, and252', mulI]
              have : ((r[k].toNat / 4 : Nat) : Int) * 4 = ((r[k].toNat / 4 * 4 : Nat) : Int) := by omega
              rw [this]
              have := wrapI_u8 (r[k].toNat / 4 * 4)
              rw [wrapI, Nat.mod_eq_of_lt (by omega)] at this
              exact this
            rw [e1]
            exact hK1 _ _ fun _ => fin _ _ k2 (by rw [clampB, if_neg h3, if_pos (ht.1 h)])
          · have hn : ¬ (k % 4 = 0 ∧ 0 < k) := fun hc => by rw [ht.2 hc] at h; cases h
            exact hK1 _ _ fun _ => fin _ _ k2 (by rw [clampB, if_neg h3, if_neg hn])
        refine SplitK.of (fun h => ⟨by decide, go _ ?_⟩) (fun h => go false ?_)
        · simp at h
          rw [eqI_t]
          omega
        · simp at h
          simp
          omega
    · simp at hlt
      obtain rfl : k = 16 := by omega
      exact ⟨by rw [List.take_of_length_le (by omega)], k2⟩

end Go.Proofs.YthpodgkmghgenaaDoor
