/-
  A part of the proof: YI.
-/
import Derived.Test.YthpodgkmghgenaaDoorSxYH
namespace Go.Proofs.YthpodgkmghgenaaDoor
open Go Go.Sx Go.Oct Go.Poly
set_option linter.unusedVariables false

/-- The number behind so many parts. -/
def accN (r : Nat) (s : List UInt8) : Nat → Nat
  | 0 => 0
  | i + 1 => (accN r s i + num (partAt s i)) * r % PP
def tagL (key s : List UInt8) : List UInt8 := if key.length = 32 then lowL (accN (num (clampL (key.take 16))) s (partCnt s) + num (key.drop 16)) 16 else []
def tagE (key : List UInt8) : Int := if key.length = 32 then 0 else 1
theorem val_z {a : N3} (h : a.val < PP) : a.z ≤ 3 := by simp only [N3.val, PP] at h; omega
theorem PP_pos : 0 < PP := by decide

theorem p_Tag (w : World) (hw : LaidP w) (key s : List UInt8) (hs : s.length ≤ 1000000) (hk9 : key.length ≤ 1000000) : Calls Tryd.prog 14 #[.string (bs key), .string (bs s)] w (Ret w (.tuple #[.string (bs (tagL key s)), .int .i64 (tagE key)])) := by
  refine calls_ret (F14_calls _ _ _ _ ?_)
  refine SplitK.of (fun h => ?_) (fun h => ?_)
  · simp only [sizeS_bs, natI_eq, notB_t, eqI_f] at h
    exact ⟨by rw [tagL, tagE, if_neg (by omega), if_neg (by omega)]; rfl, Keep.refl _ _⟩
  simp only [sizeS_bs, natI_eq, notB_f, eqI_t] at h
  have h32 : key.length = 32 := by omega
  rw [tagL, tagE, if_pos h32, if_pos h32]
  refine hw.mem.newK fun b w1 M => ⟨by decide, by simp; omega, ?_⟩
  have e16 : intN 16 = 16 := rfl
  rw [e16, cutS_bs, List.drop_zero]
  refine CallK.ret (p_Clamp w1 (key.take 16) (by simp; omega)) fun w2 k => ⟨_, rfl, ?_⟩
  have M := M.call k
  have hcl : (clampL (key.take 16)).length ≤ 16 := by unfold clampL; split <;> (simp; try omega)
  refine CallK.ret (p_of w2 (clampL (key.take 16)) (by omega)) fun w3 k => ⟨_, _, _, rfl, ?_⟩
  have M := M.call k
  generalize hr : clampL (key.take 16) = r0 at hcl
  refine M.newK fun b1 w4 M => ?_
  refine M.stK 0 (off := 0) (c := [.int .u64 0, .int .u64 0, .int .u64 0]) rfl (by simp) rfl fun w5 M => ?_
  have M : Mem w [] [(b1, .cells (c3 (ofS r0)).toArray 43 (0, 0)), (b, .cells (c3 ⟨0, 0, 0⟩).toArray 43 (0, 0))] LaidP w5 := M
  refine Calls.mono (F33_calls (bs s) w5 (fun v w' => ∃ B0, v = .func (.func 45) #[] #[.pointer (some ⟨B0, 0, none⟩)] ∧ Mem w [] [(B0, boxS s), (b1, .cells (c3 (ofS r0)).toArray 43 (0, 0)), (b, .cells (c3 ⟨0, 0, 0⟩).toArray 43 (0, 0))] LaidP w') ?_) ?_
  · exact M.newK fun B0 w4 M => ⟨B0, rfl, M⟩
  rintro e w6 ⟨v, rfl, B0, rfl, M⟩
  refine ⟨_, rfl, ?_⟩
  intro D l rec w7 hD hl hw7 hround
  have M := M.enterE hD hl hw7
  refine FnK.fn rfl ?_
  refine Calls.mono (F45_calls (.func (.yield l) #[] #[]) (some ⟨B0, 0, none⟩) w7 (fun v w' => ∃ a : N3, a.ok ∧ a.z ≤ 3 ∧ a.val = accN (num r0) s (partCnt s) ∧
      Mem w [] [(l, rec .ready none), (D, .deferred (some [])), (B0, boxS []), (b1, .cells (c3 (ofS r0)).toArray 43 (0, 0)), (b, .cells (c3 a).toArray 43 (0, 0))] LaidP w') ?_) ?_
  · refine ⟨fun m vs W => vs = [] ∧ ∃ (i : Nat) (a : N3), m + i = partCnt s ∧ a.ok ∧ a.z ≤ 3 ∧ a.val = accN (num r0) s i ∧
      Mem w [] [(l, rec .ready none), (D, .deferred (some [])), (B0, boxS (s.drop (16 * i))), (b1, .cells (c3 (ofS r0)).toArray 43 (0, 0)), (b, .cells (c3 a).toArray 43 (0, 0))] LaidP W, ⟨partCnt s, rfl, 0, ⟨0, 0, 0⟩, by omega, ⟨by decide, by decide, by decide⟩, by decide, rfl, M⟩, ?_⟩
    clear M
    rintro m vs W ⟨rfl, i, a, hmi, oka, hza, hva, M⟩
    have hcnt : partCnt s = (s.length + 15) / 16 := rfl
    refine ⟨rfl, fun _ => ⟨_, M.cell 2 (c := [.string (bs (s.drop (16 * i)))]) (off := 0) rfl rfl, ?_⟩⟩
    refine SplitK.of (fun hlt => ?_) (fun hlt => ?_)
    · simp at hlt
      have hlt : 16 * i < s.length := by omega
      have em : minI (natI (sizeS (bs (s.drop (16 * i))))) 16 = ((min (s.length - 16 * i) 16 : Nat) : Int) := by rw [sizeS_bs, List.length_drop]; exact minI_nat _ 16
      have en : intN ((min (s.length - 16 * i) 16 : Nat) : Int) = min (s.length - 16 * i) 16 := rfl
      refine ⟨_, M.cell 2 (c := [.string (bs (s.drop (16 * i)))]) (off := 0) rfl rfl, _, M.cell 2 (c := [.string (bs (s.drop (16 * i)))]) (off := 0) rfl rfl, ?_⟩
      rw [em, en, cutS_bs, lit_bs [1], catS_bs, List.drop_zero]
      have ep : (s.drop (16 * i)).take (min (s.length - 16 * i) 16) ++ [1] = partAt s i := by
        rw [partAt]
        congr 1
        rw [List.take_eq_take_iff, List.length_drop]; omega
      rw [ep]
      refine ⟨by omega, by simp; omega, by simp; omega, ?_⟩
      refine FnK.yield (hround _ _ _ (M.hget 0 rfl) ⟨M.hget 0 rfl, ?_⟩)
      rintro w9 rfl
      have M := M.put 0 (rec .busy none) rfl
      rintro w10 rfl
      have M := M.drew
      have M : Mem w [] [(l, rec .busy none), (D, .deferred (some [])), (B0, boxS (s.drop (16 * i))), (b1, .cells (c3 (ofS r0)).toArray 43 (0, 0)), (b, .cells (c3 a).toArray 43 (0, 0))] LaidP _ := M
      refine ⟨fun W' => CellsAt W' ⟨b, 0, none⟩ (c3 a) ∧ CellsAt W' ⟨b1, 0, none⟩ (c3 (ofS r0)), ⟨M.cells 4 (c := c3 a) rfl, M.cells 3 (c := c3 (ofS r0)) rfl⟩, _, _, _, fun _ h => h.1, _, _, _, fun _ h => h.2, ?_⟩
      have hpl : (partAt s i).length ≤ 17 := by rw [partAt, List.length_append, List.length_take]; simp; omega
      refine CallK.ret (p_of _ (partAt s i) (by omega)) fun w11 k => ⟨_, _, _, rfl, ?_⟩
      have M := M.call k
      refine ⟨⟨M.cells 4 (c := c3 a) rfl, M.cells 3 (c := c3 (ofS r0)) rfl⟩, ?_⟩
      have zp := ofS_z (partAt s i)
      have hz := N3.plus_z oka (ofS_ok (partAt s i))
      refine CallK.ret (p_plus w11 a (ofS (partAt s i)) oka (ofS_ok _)) fun w12 k => ⟨_, _, _, rfl, ?_⟩
      have M := M.call k
      refine ⟨⟨M.cells 4 (c := c3 a) rfl, M.cells 3 (c := c3 (ofS r0)) rfl⟩, ?_⟩
      have zr := ofS_z r0
      refine (p_times w12 M.now _ (ofS r0) (N3.plus_ok a (ofS (partAt s i))) (ofS_ok r0) (by omega) (by omega)).mono ?_
      rintro e w13 ⟨c, rfl, okc, hc, k⟩
      have M := M.call k
      refine ⟨_, _, _, rfl, ⟨M.cells 4 (c := c3 a) rfl, M.cells 3 (c := c3 (ofS r0)) rfl⟩, ?_⟩
      refine M.stK 4 (off := 0) (c := c3 a) rfl (by simp [c3]) rfl fun w14 M => ⟨M.hget 0 rfl, ?_⟩
      rintro w15 rfl
      have M := M.put 0 (rec .ready none) rfl
      have M : Mem w [] [(l, rec .ready none), (D, .deferred (some [])), (B0, boxS (s.drop (16 * i))), (b1, .cells (c3 (ofS r0)).toArray 43 (0, 0)), (b, .cells (c3 c).toArray 43 (0, 0))] LaidP _ := M
      have hcv : c.val = accN (num r0) s (i + 1) := by
        rw [hc, N3.plus_val oka (ofS_ok _) (by omega), ofS_val, ofS_val, hva]; rfl
      have hcz : c.z ≤ 3 := val_z (by rw [hc]; exact Nat.mod_lt _ PP_pos)
      refine ⟨true, rfl, _, M.cell 2 (c := [.string (bs (s.drop (16 * i)))]) (off := 0) rfl rfl, by omega, by simp; omega, ?_⟩
      have ed : cutS (bs (s.drop (16 * i))) (min (s.length - 16 * i) 16) (sizeS (bs (s.drop (16 * i)))) = bs (s.drop (16 * (i + 1))) := by
        rw [cutS_bs, sizeS_bs, List.take_length, List.drop_drop]
        congr 1
        by_cases h : 16 ≤ s.length - 16 * i
        · rw [Nat.min_eq_right h]; rfl
        · rw [List.drop_eq_nil_of_le (by omega), List.drop_eq_nil_of_le (by omega)]
      rw [ed]
      refine M.stK 2 (off := 0) (c := [.string (bs (s.drop (16 * i)))]) rfl (by simp) rfl fun w16 M => ?_
      exact ⟨m - 1, by omega, rfl, i + 1, c, by omega, okc, hcz, hcv, M⟩
    · simp at hlt
      have hi : i = partCnt s := by omega
      subst hi
      have e0 : s.drop (16 * partCnt s) = [] := List.drop_eq_nil_of_le (by omega)
      rw [e0] at M
      exact ⟨a, oka, hza, hva, M⟩
  · rintro e w8 ⟨v, rfl, a, oka, hza, hva, M⟩
    refine ⟨_, rfl, none, M.hget 0 rfl, ?_⟩
    rintro w9 rfl
    have M := M.put 0 (rec .exhausted none) rfl
    rintro w10 rfl
    have M := M.drew
    have M : Mem w [] [(l, rec .exhausted none), (D, .deferred (some [])), (B0, boxS []), (b1, .cells (c3 (ofS r0)).toArray 43 (0, 0)), (b, .cells (c3 a).toArray 43 (0, 0))] LaidP _ := M
    refine ⟨fun W' => CellsAt W' ⟨b, 0, none⟩ (c3 a), M.cells 4 (c := c3 a) rfl, _, _, _, fun _ h => h, by decide, by simp; omega, ?_⟩
    rw [cutS_bs, sizeS_bs, List.take_length]
    refine CallK.ret (p_of _ (key.drop 16) (by simp; omega)) fun w11 k => ⟨_, _, _, rfl, ?_⟩
    have M := M.call k
    refine ⟨M.cells 4 (c := c3 a) rfl, ?_⟩
    have zp := ofS_z (key.drop 16)
    refine CallK.ret (p_plus w11 a (ofS (key.drop 16)) oka (ofS_ok _)) fun w12 k => ⟨_, _, _, rfl, ?_⟩
    have M := M.call k
    refine CallK.ret (p_text w12 _ (N3.plus_ok a (ofS (key.drop 16)))) fun w13 k => ⟨_, rfl, ?_⟩
    have M := M.call k
    refine ⟨M.cells 4 (c := c3 a) rfl, by decide, by simp [text3], M.hget 1 rfl, ?_⟩
    rintro w14 rfl
    have M := M.put 1 (.deferred none) rfl
    refine ⟨?_, M.keep⟩
    rw [cutS_bs, List.drop_zero, text3_val (N3.plus_ok _ _), N3.plus_val oka (ofS_ok _) (by omega), ofS_val, hva]
    have e17 : ∀ n, (lowL n 17).take 16 = lowL n 16 := fun n => by
      rw [show (17 : Nat) = 16 + 1 from rfl, lowL_add, List.take_append_of_le_length (by simp), List.take_of_length_le (by simp)]
    rw [e17]

end Go.Proofs.YthpodgkmghgenaaDoor
