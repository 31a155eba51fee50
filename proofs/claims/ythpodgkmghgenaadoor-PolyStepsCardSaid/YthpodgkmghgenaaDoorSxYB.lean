/-
  A part of the proof: YB.
-/
import Derived.Test.YthpodgkmghgenaaDoorSxYA
namespace Go.Proofs.YthpodgkmghgenaaDoor
open Go Go.Sx Go.Oct Go.Poly
set_option linter.unusedVariables false

theorem lowL_add (n j : Nat) : ∀ k, lowL n (j + k) = lowL n j ++ lowL (n / 256 ^ j) k
  | 0 => by simp [lowL]
  | k + 1 => by
    rw [← Nat.add_assoc, lowL_succ, lowL_add n j k, lowL_succ, List.append_assoc, Nat.div_div_eq_div_mul, ← Nat.pow_add]
/-- A number's bytes. -/
def text3 (a : N3) : List UInt8 := lowL a.x 8 ++ lowL a.y 8 ++ lowL a.z 1
theorem lowL_mod (n k : Nat) : lowL (n % 256 ^ k) k = lowL n k := by
  have h1 : (lowL n k).length = k := by simp
  have h2 := lowL_valL (lowL n k)
  rw [valL_lowL, h1] at h2
  exact h2
theorem text3_val {a : N3} (ha : a.ok) : text3 a = lowL a.val 17 := by
  have h1 := ha.x; have h2 := ha.y
  have e1 : a.val % 256 ^ 8 = a.x := by
    rw [show (256 : Nat) ^ 8 = 18446744073709551616 from rfl]; simp only [N3.val]; omega
  have e2 : a.val / 256 ^ 8 % 256 ^ 8 = a.y := by
    rw [show (256 : Nat) ^ 8 = 18446744073709551616 from rfl]; simp only [N3.val]; omega
  have e3 : a.val / 256 ^ 16 = a.z := by
    rw [show (256 : Nat) ^ 16 = 340282366920938463463374607431768211456 from rfl]; simp only [N3.val]; omega
  rw [show (17 : Nat) = 16 + 1 from rfl, lowL_add, e3, show (16 : Nat) = 8 + 8 from rfl, lowL_add, text3]
  congr 2
  · rw [← lowL_mod a.val 8, e1]
  · rw [← lowL_mod (a.val / 256 ^ 8) 8, e2]

theorem p_text (w : World) (a : N3) (ha : a.ok) : Calls Tryd.prog 31 #[v3 a] w (Ret w (.string (bs (text3 a)))) := by
  refine calls_ret (F31_calls _ _ _ _ _ ?_)
  refine (Mem.start w).newK fun b w1 M => ?_
  rintro w2 rfl
  have M := M.drew
  have hS : ∀ w', Keep [] w1.drew w' → CellsAt w' ⟨b, 0, none⟩ (c3 a) := fun w' hk => (M.call hk).cells 0 (c := c3 a) rfl
  refine ⟨fun W' => Keep [] w1.drew W', Keep.refl _ _, by decide, by decide, _, fun w' hk => (M.call hk).cell 0 (c := c3 a) (off := 0) rfl rfl, by decide, by decide, _, fun w' hk => (M.call hk).cell 0 (c := c3 a) (off := 1) rfl rfl, by decide, by decide, _, fun w' hk => (M.call hk).cell 0 (c := c3 a) (off := 2) rfl rfl, ?_⟩
  refine CallK.ret (o_Low _ a.x 8 ha.x) fun w3 k3 => ⟨_, rfl, k3, ?_⟩
  refine CallK.ret (o_Low w3 a.y 8 ha.y) fun w4 k4 => ⟨_, rfl, k3.trans0 k4, ?_⟩
  have m8 : many 8 = 8 := rfl
  have m1 : many 1 = 1 := rfl
  rw [catS_bs, m8]
  refine ⟨by simp, ?_⟩
  refine CallK.ret (o_Low w4 a.z 1 ha.z) fun w5 k5 => ⟨_, rfl, (k3.trans0 k4).trans0 k5, ?_⟩
  rw [catS_bs, m1]
  exact ⟨by simp, rfl, (M.keep.trans0 k3).trans0 k4 |>.trans0 k5⟩

/-- The number of a filled text. -/
def ofT (t : List UInt8) : N3 := ⟨readL (t.take 8), readL ((t.take 16).drop 8), (t.getD 16 0).toNat⟩
theorem readL_lt (s : List UInt8) : readL s < 18446744073709551616 := Nat.mod_lt _ (by decide)
theorem ofT_ok (t : List UInt8) : (ofT t).ok := ⟨readL_lt _, readL_lt _, by have := (t.getD 16 0).toNat_lt; show (t.getD 16 0).toNat < _; omega⟩
theorem ofT_z (t : List UInt8) : (ofT t).z < 256 := (t.getD 16 0).toNat_lt
/-- The number that a text is. -/
def num (s : List UInt8) : Nat := valL (s.take 17)
def ofS (s : List UInt8) : N3 := ofT (fillL (s.take 17) 17)
theorem ofS_ok (s : List UInt8) : (ofS s).ok := ofT_ok _
theorem ofS_z (s : List UInt8) : (ofS s).z < 256 := ofT_z _

theorem p_of (w : World) (s : List UInt8) (hs : s.length ≤ 1000000) : Calls Tryd.prog 28 #[.string (bs s)] w (Ret w (v3 (ofS s))) := by
  refine calls_ret (F28_calls _ _ _ ?_)
  refine (Mem.start w).newK fun b w1 M => ?_
  have e1 : minI (natI (sizeS (bs s))) 17 = ((min s.length 17 : Nat) : Int) := by rw [sizeS_bs]; exact minI_nat _ 17
  rw [e1]
  refine ⟨by omega, by simp; omega, ?_⟩
  rw [cutS_bs]
  have e2 : ((s.take (intN ((min s.length 17 : Nat) : Int))).drop 0) = s.take 17 := by
    simp only [intN_eq, Int.toNat_natCast, List.drop_zero]
    rw [Nat.min_comm, ← List.take_eq_take_min]
  rw [e2]
  refine CallK.ret (o_Fill w1 (s.take 17) 17 (by rw [List.length_take]; omega) (by decide)) fun w2 k2 => ⟨_, rfl, ?_⟩
  have M := M.call k2
  have ed : ofS s = ofT (fillL (s.take 17) 17) := rfl
  rw [ed]
  have hl : fillL (s.take 17) 17 = [] ∨ (fillL (s.take 17) 17).length = 17 := by
    have hle : (s.take 17).length ≤ 17 := by rw [List.length_take]; omega
    rw [fillL, if_neg (by decide)]
    generalize s.take 17 = u at hle
    by_cases hu : u.length = 0
    · left
      have : u = [] := List.eq_nil_of_length_eq_zero hu
      subst this; rfl
    · right
      rw [List.length_append, zerosB, List.length_replicate]
      show u.length + (17 - u.length % 17) % 17 = 17
      omega
  generalize fillL (s.take 17) 17 = t at hl
  refine SplitK.of (fun h => ?_) (fun h => ?_)
  · rw [lit_bs [], eqS_bs] at h
    have ht : t = [] := of_decide_eq_true h
    subst ht
    refine M.stK 0 (off := 0) (c := [.int .u64 0, .int .u64 0, .int .u64 0]) rfl (by simp) rfl fun w3 M => ?_
    exact ⟨_, _, _, M.cells 0 (c := c3 (ofT [])) rfl, rfl, M.keep⟩
  · rw [lit_bs [], eqS_bs] at h
    have ht := of_decide_eq_false h
    have hl := hl.resolve_left ht
    rintro w3 rfl
    have M := M.drew
    refine ⟨by decide, by simp; omega, by decide, by simp; omega, by decide, by decide, by decide, byteAt (by show 16 < t.length; omega) ?_⟩
    intro K hK
    have fin : ∀ w4, Keep [] w w4 → Mem w [] [(b, .cells (List.toArray [.int .u64 0, .int .u64 0, .int .u64 0]) 43 (0, 0))] (fun _ => True) w4 → K [v3 (ofT t)] w4 := by
      intro w4 _ M
      refine hK _ _ _ _ fun _ => ?_
      refine M.stK 0 (off := 0) (c := [.int .u64 0, .int .u64 0, .int .u64 0]) rfl (by simp) rfl fun w5 M => ?_
      exact ⟨_, _, _, M.cells 0 (c := c3 (ofT t)) rfl, rfl, M.keep⟩
    have eb : wrapI .u64 (byteI t[16]) = (((t.getD 16 0).toNat : Nat) : Int) := by
      rw [byteI_eq, wrapI_u64, Nat.mod_eq_of_lt (by have := t[16].toNat_lt; omega), List.getD_eq_getElem?_getD, List.getElem?_eq_getElem (by omega), Option.getD_some]
    have e16 : intN 16 = 16 := rfl
    have e8 : intN 8 = 8 := rfl
    simp only [e16, e8]
    rw [eb, cutS_bs, cutS_bs, List.drop_zero]
    have hr : ∀ w4, Mem w [] [(b, .cells (List.toArray [.int .u64 0, .int .u64 0, .int .u64 0]) 43 (0, 0))] (fun _ => True) w4 → Calls Tryd.prog 40 #[.string (bs ((t.take 16).drop 8))] w4 (fun e2 w5 => ∃ (n1 : Int), e2 = .returned (.int .u64 n1) ∧ K [.agg (List.toArray [.int .u64 ((readL (t.take 8) : Nat) : Int), .int .u64 n1, .int .u64 (((t.getD 16 0).toNat : Nat) : Int)])] w5) := by
      intro w4 M
      refine (o_ReadLow w4 _ (by simp; omega)).mono ?_
      rintro e w5 ⟨rfl, k5⟩
      have M := M.call k5
      exact ⟨_, rfl, fin w5 M.keep M⟩
    refine ⟨?_, ?_⟩
    · refine CallK.ret (o_ReadLow _ _ (by simp; omega)) fun w4 k4 => ⟨_, rfl, hr w4 (M.call k4), hr w4 (M.call k4)⟩
    · exact CallK.ret (o_ReadLow _ _ (by simp; omega)) fun w4 k4 => ⟨_, rfl, hr w4 (M.call k4)⟩

theorem valL_zeros : ∀ n, valL (zerosB n) = 0
  | 0 => rfl
  | n + 1 => by
    have := valL_zeros n
    simp only [zerosB, List.replicate_succ, valL] at *
    rw [this]; rfl
theorem valL_fill (s : List UInt8) (n : Int) : valL (fillL s n) = valL s := by
  unfold fillL
  split
  · rfl
  · rw [valL_append, valL_zeros, Nat.mul_zero, Nat.add_zero]

theorem ofT_val {t : List UInt8} (h : t = [] ∨ t.length = 17) : (ofT t).val = valL t := by
  rcases h with rfl | h
  · rfl
  · have h1 : t = t.take 8 ++ ((t.take 16).drop 8 ++ [t.getD 16 0]) := by
      have e1 : t.take 16 = t.take 8 ++ (t.take 16).drop 8 := by
        conv => lhs; rw [← List.take_append_drop 8 (t.take 16)]
        rw [List.take_take, Nat.min_eq_left (by decide)]
      have e2 : t = t.take 16 ++ [t.getD 16 0] := by
        conv => lhs; rw [← List.take_append_drop 16 t]
        rw [List.drop_eq_getElem_cons (by omega : 16 < t.length), List.drop_eq_nil_of_le (by omega : t.length ≤ 16 + 1), List.getD_eq_getElem?_getD, List.getElem?_eq_getElem (by omega), Option.getD_some]
      conv => lhs; rw [e2, e1]
      rw [List.append_assoc]
    have l1 : (t.take 8).length = 8 := by rw [List.length_take]; omega
    have l2 : ((t.take 16).drop 8).length = 8 := by rw [List.length_drop, List.length_take]; omega
    have v1 := valL_lt (t.take 8)
    have v2 := valL_lt ((t.take 16).drop 8)
    rw [l1] at v1
    rw [l2] at v2
    conv => rhs; rw [h1]
    rw [valL_append, valL_append, l1, l2]
    simp only [ofT, N3.val, readL]
    rw [show (256 : Nat) ^ 8 = 18446744073709551616 from rfl] at *
    rw [Nat.mod_eq_of_lt v1, Nat.mod_eq_of_lt v2]
    have : valL [t.getD 16 0] = (t.getD 16 0).toNat := by simp [valL]
    rw [this]
    omega
theorem fill17 (s : List UInt8) : fillL (s.take 17) 17 = [] ∨ (fillL (s.take 17) 17).length = 17 := by
  have hle : (s.take 17).length ≤ 17 := by rw [List.length_take]; omega
  rw [fillL, if_neg (by decide)]
  generalize s.take 17 = u at hle
  by_cases hu : u.length = 0
  · left
    have : u = [] := List.eq_nil_of_length_eq_zero hu
    subst this; rfl
  · right
    rw [List.length_append, zerosB, List.length_replicate]
    show u.length + (17 - u.length % 17) % 17 = 17
    omega
theorem ofS_val (s : List UInt8) : (ofS s).val = num s := by
  rw [ofS, ofT_val (fill17 s), valL_fill, num]
/-- The text of a number by p. -/
def txt (n : Nat) : List UInt8 := lowL (n % PP) 17
theorem txt_length (n : Nat) : (txt n).length = 17 := by simp [txt]

theorem p_Plus (w : World) (hw : LaidP w) (a b : List UInt8) (ha : a.length ≤ 1000000) (hb : b.length ≤ 1000000) : Calls Tryd.prog 12 #[.string (bs a), .string (bs b)] w (Ret w (.string (bs (txt (num a + num b))))) := by
  refine calls_ret (F12_calls _ _ _ _ ?_)
  refine CallK.ret (p_of w a ha) fun w1 k => ⟨_, _, _, rfl, ?_⟩
  have M := hw.mem.call k
  refine CallK.ret (p_of w1 b hb) fun w2 k => ⟨_, _, _, rfl, ?_⟩
  have M := M.call k
  refine CallK.ret (p_plus w2 (ofS a) (ofS b) (ofS_ok a) (ofS_ok b)) fun w3 k => ⟨_, _, _, rfl, ?_⟩
  have M := M.call k
  have hz := N3.plus_z (ofS_ok a) (ofS_ok b)
  have za := ofS_z a
  have zb := ofS_z b
  refine CallK.ret (p_left w3 M.now _ (N3.plus_ok (ofS a) (ofS b))) fun w4 k => ⟨_, _, _, rfl, ?_⟩
  have M := M.call k
  refine CallK.ret (p_text w4 _ (N3.left_ok ((ofS a).plus (ofS b)))) fun w5 k => ⟨_, rfl, ?_, (M.call k).keep⟩
  rw [text3_val (N3.left_ok _), N3.left_val (N3.plus_ok _ _) (by omega), N3.plus_val (ofS_ok a) (ofS_ok b) (by omega), ofS_val, ofS_val]
  rfl

end Go.Proofs.YthpodgkmghgenaaDoor
