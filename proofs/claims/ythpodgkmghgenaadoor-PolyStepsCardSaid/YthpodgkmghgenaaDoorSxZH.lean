/-
  A part of the proof: ZH.
-/
import Derived.Test.YthpodgkmghgenaaDoorSxZG
namespace Go.Proofs.YthpodgkmghgenaaDoor
open Go Go.Sx Go.Oct Go.Poly Go.Sha
set_option linter.unusedVariables false

theorem eqS_of {s t : List UInt8} (h : s = t) : eqS (bs s) (bs t) = true := by subst h; exact eqS_refl _
theorem txt_congr {n m : Nat} (h : n % PP = m % PP) : txt n = txt m := by rw [txt, h, ← txt]
theorem num_txt (n : Nat) : num (txt n) = n % PP := num_mod n

theorem orders_05 (w : World) (a b c : List UInt8) (hw : LaidP w) : Calls Tryd.prog 5 #[.string (bs a), .string (bs b), .string (bs c)] w (Ret w (.bool true)) := by
  refine calls_ret (F5_calls _ _ _ _ _ ?_)
  refine CallK.ret (works_05 w hw) fun w1 k1 => ⟨_, rfl, SplitK.f rfl fun K hK => ?_⟩
  have out : K [.bool true] w1 := hK _ _ fun _ => SplitK.t rfl ⟨rfl, k1⟩
  refine SplitK.of (fun h => out) fun ha => SplitK.of (fun h => out) fun hb => hK _ _ fun _ => SplitK.of (fun h => ⟨rfl, k1⟩) fun hc => ?_
  simp at ha hb hc
  clear out hK K
  have M := hw.mem.call k1
  have ta : a.length ≤ 1000000 := by omega
  have tb : b.length ≤ 1000000 := by omega
  have tc : c.length ≤ 1000000 := by omega
  have tt : ∀ n, (txt n).length ≤ 1000000 := fun n => by rw [txt_length]; decide
  intro K1 hK1
  refine CallK.ret (p_Plus w1 M.now a b ta tb) fun w2 k => ⟨_, rfl, ?_⟩
  have M := M.call k
  refine CallK.ret (p_Plus w2 M.now b a tb ta) fun w3 k => ⟨_, rfl, SplitK.f (by rw [Nat.add_comm, eqS_refl]; rfl) ?_⟩
  have M := M.call k
  refine CallK.ret (p_Times w3 M.now a b ta tb) fun w4 k => ⟨_, rfl, ?_⟩
  have M := M.call k
  refine CallK.ret (p_Times w4 M.now b a tb ta) fun w5 k => ⟨_, rfl, ?_⟩
  have M := M.call k
  rw [Nat.mul_comm, eqS_refl]
  refine hK1 _ _ fun _ => SplitK.f rfl fun K2 hK2 => ?_
  refine CallK.ret (p_Plus w5 M.now a b ta tb) fun w6 k => ⟨_, rfl, ?_⟩
  have M := M.call k
  refine CallK.ret (p_Plus w6 M.now _ c (tt _) tc) fun w7 k => ⟨_, rfl, ?_⟩
  have M := M.call k
  refine CallK.ret (p_Plus w7 M.now b c tb tc) fun w8 k => ⟨_, rfl, ?_⟩
  have M := M.call k
  refine CallK.ret (p_Plus w8 M.now a _ ta (tt _)) fun w9 k => ⟨_, rfl, SplitK.f ?_ ?_⟩
  · rw [num_txt, num_txt, txt_congr (n := (num a + num b) % PP + num c) (m := num a + (num b + num c) % PP) (by rw [Nat.mod_add_mod, Nat.add_mod_mod, Nat.add_assoc]), eqS_refl]; rfl
  have M := M.call k
  refine CallK.ret (p_Times w9 M.now a b ta tb) fun w10 k => ⟨_, rfl, ?_⟩
  have M := M.call k
  refine CallK.ret (p_Times w10 M.now _ c (tt _) tc) fun w11 k => ⟨_, rfl, ?_⟩
  have M := M.call k
  refine CallK.ret (p_Times w11 M.now b c tb tc) fun w12 k => ⟨_, rfl, ?_⟩
  have M := M.call k
  refine CallK.ret (p_Times w12 M.now a _ ta (tt _)) fun w13 k => ⟨_, rfl, ?_⟩
  have M := M.call k
  rw [num_txt, num_txt, txt_congr (n := num a * num b % PP * num c) (m := num a * (num b * num c % PP)) (by rw [Nat.mod_mul_mod, Nat.mul_mod_mod, Nat.mul_assoc]), eqS_refl]
  refine hK2 _ _ fun _ => SplitK.f rfl (SplitK.t rfl ?_)
  refine CallK.ret (p_Plus w13 M.now b c tb tc) fun w14 k => ⟨_, rfl, ?_⟩
  have M := M.call k
  refine CallK.ret (p_Times w14 M.now a _ ta (tt _)) fun w15 k => ⟨_, rfl, ?_⟩
  have M := M.call k
  refine CallK.ret (p_Times w15 M.now a b ta tb) fun w16 k => ⟨_, rfl, ?_⟩
  have M := M.call k
  refine CallK.ret (p_Times w16 M.now a c ta tc) fun w17 k => ⟨_, rfl, ?_⟩
  have M := M.call k
  refine CallK.ret (p_Plus w17 M.now _ _ (tt _) (tt _)) fun w18 k => ⟨_, rfl, SplitK.t ?_ ?_⟩
  · rw [num_txt, num_txt, num_txt]
    exact eqS_of (txt_congr (by rw [Nat.mul_mod_mod, ← Nat.add_mod, Nat.mul_add]))
  have M := M.call k
  refine CallK.ret (p_Plus w18 M.now a b ta tb) fun w19 k => ⟨_, rfl, SplitK.t (by rw [sizeS_bs, txt_length]; rfl) ?_⟩
  have M := M.call k
  refine CallK.ret (p_Times w19 M.now a b ta tb) fun w20 k => ⟨_, rfl, by rw [sizeS_bs, txt_length]; rfl, (M.call k).keep⟩

/-! ### What counts of a key -/
theorem and_twice (b : UInt8) : (b &&& 15) &&& 15 = b &&& 15 := by rw [UInt8.and_assoc, UInt8.and_self]
theorem and_twice' (b : UInt8) : (b &&& 252) &&& 252 = b &&& 252 := by rw [UInt8.and_assoc, UInt8.and_self]
theorem clampB_twice (i : Nat) (b : UInt8) : clampB i (clampB i b) = clampB i b := by
  unfold clampB
  split
  · rw [and_twice]
  · split
    · rw [and_twice']
    · rfl
theorem clampL_length {r : List UInt8} (h : r.length = 16) : (clampL r).length = 16 := by rw [clampL, if_pos h]; simpa using h
theorem clampL_twice (r : List UInt8) : clampL (clampL r) = clampL r := by
  by_cases h : r.length = 16
  · rw [clampL, if_pos (clampL_length h)]
    have e : clampL r = r.mapIdx clampB := by rw [clampL, if_pos h]
    rw [e, List.mapIdx_mapIdx]
    congr 1
    funext i b
    exact clampB_twice i b
  · have e : clampL r = [] := by rw [clampL, if_neg h]
    rw [e]; rfl
theorem tag_clamp {key : List UInt8} (h : key.length = 32) (s : List UInt8) : tagL (clampL (key.take 16) ++ key.drop 16) s = tagL key s ∧ tagE (clampL (key.take 16) ++ key.drop 16) = 0 ∧ tagE key = 0 := by
  have hl : (clampL (key.take 16)).length = 16 := clampL_length (by rw [List.length_take]; omega)
  have h2 : (clampL (key.take 16) ++ key.drop 16).length = 32 := by rw [List.length_append, hl, List.length_drop]; omega
  refine ⟨?_, by rw [tagE, if_pos h2], by rw [tagE, if_pos h]⟩
  rw [tagL, tagL, if_pos h, if_pos h2, List.take_append_of_le_length (by omega), List.take_of_length_le (by omega), clampL_twice]
  congr 3
  rw [List.drop_append_of_le_length (by omega), List.drop_of_length_le (by omega), List.nil_append]

theorem clamps_05 (w : World) (key s : List UInt8) (hw : LaidP w) : Calls Tryd.prog 7 #[.string (bs key), .string (bs s)] w (Ret w (.bool true)) := by
  refine calls_ret (F7_calls _ _ _ _ ?_)
  refine CallK.ret (works_05 w hw) fun w1 k1 => ⟨_, rfl, SplitK.f rfl fun K hK => ?_⟩
  refine SplitK.of (fun h => hK _ _ fun _ => SplitK.t rfl ⟨rfl, k1⟩) fun ha => hK _ _ fun _ => SplitK.of (fun h => ⟨rfl, k1⟩) fun hb => ?_
  simp only [sizeS_bs, natI_eq, notB_f, eqI_t] at ha
  simp at hb
  have h32 : key.length = 32 := by omega
  have M := hw.mem.call k1
  have e16 : intN 16 = 16 := rfl
  obtain ⟨t1, t2, t3⟩ := tag_clamp h32 s
  have hc := clampL_len (key.take 16)
  refine ⟨by decide, by simp; omega, ?_⟩
  rw [e16, cutS_bs, List.drop_zero, cutS_bs, sizeS_bs, List.take_length]
  refine CallK.ret (p_Clamp w1 (key.take 16) (by simp; omega)) fun w2 k => ⟨_, rfl, ?_⟩
  have M := M.call k
  refine CallK.ret (p_Tag w2 M.now key s (by omega) (by omega)) fun w3 k => ⟨_, _, rfl, by decide, by simp; omega, ?_⟩
  have M := M.call k
  rw [catS_bs]
  refine ⟨by simp; omega, ?_⟩
  refine CallK.ret (p_Tag w3 M.now _ s (by omega) (by simp; omega)) fun w4 k => ⟨_, _, rfl, SplitK.t rfl ?_⟩
  have M := M.call k
  rw [t1, t2, t3]
  refine CallK.ret (p_Clamp w4 _ (by omega)) fun w5 k => ⟨_, rfl, SplitK.t (eqS_of (clampL_twice _)) (SplitK.t (eqS_refl _) (SplitK.t rfl ⟨rfl, (M.call k).keep⟩))⟩

end Go.Proofs.YthpodgkmghgenaaDoor
