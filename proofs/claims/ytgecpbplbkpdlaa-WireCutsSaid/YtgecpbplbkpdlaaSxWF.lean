/-
  A part of the proof: WF.
-/
import Derived.Test.YtgecpbplbkpdlaaSxWE
namespace Go.Proofs.Ytgecpbplbkpdlaa
open Go Go.Sx Go.Oct Go.Wire
set_option linter.unusedVariables false

theorem byte0 (z : UInt8) (v : Nat) (hv : v < 256) : eqI (byteI z) (v : Int) = decide (z = UInt8.ofNat v) := by
  rw [Bool.eq_iff_iff, eqI_t, decide_eq_true_eq, byteI_eq]
  constructor
  · intro h
    have h : z.toNat = v := by omega
    rw [← h]; simp
  · intro h; rw [h]; simp; omega
theorem byteE0 (z : UInt8) : eqI (byteI z) 0 = decide (z = 0) := byte0 z 0 (by decide)
theorem byteE4 (z : UInt8) : eqI (byteI z) 4 = decide (z = 4) := byte0 z 4 (by decide)
theorem byteE255 (z : UInt8) : eqI (byteI z) 255 = decide (z = 255) := byte0 z 255 (by decide)

theorem x_byteOf (w : World) (n : Nat) (hn : n < 256) : Calls Try.prog 57 #[.int .i64 n] w (Ret w (.string (bs [UInt8.ofNat n]))) := by
  refine calls_ret (F57_calls _ _ _ ?_)
  refine (Mem.start w).newK fun b w1 M => ?_
  rw [wrapI_u8, byteV_ofNat] at M
  exact ⟨[UInt8.ofNat n], M.bytes 0 (T := 5) (fr := (0, 0)) rfl rfl, rfl, M.keep⟩
theorem w_number (w : World) (n : Nat) (hn : n < 256) : Calls Try.prog 27 #[.int .i64 n] w (Ret w (.string (bs [UInt8.ofNat n]))) := by
  refine calls_ret (F27_calls _ _ _ ?_)
  refine (Mem.start w).newK fun b w1 M => ?_
  rw [wrapI_u8, byteV_ofNat] at M
  exact ⟨[UInt8.ofNat n], M.bytes 0 (T := 5) (fr := (0, 0)) rfl rfl, rfl, M.keep⟩

theorem x_encText (w : World) (s : List UInt8) (hs : s.length ≤ 100000000) : Calls Try.prog 58 #[.string (bs s)] w (Ret w (.string (bs (encB s)))) := by
  refine calls_ret (F58_calls _ _ _ ?_)
  refine ⟨fun n vs W => ∃ (k : Nat) (x : List UInt8), vs = [.string (bs x), .int .i64 k] ∧ k + n = s.length ∧ x ++ encB (s.drop k) = encB s ∧ Keep [] w W, ⟨s.length, 0, [], rfl, by omega, rfl, Keep.refl _ _⟩, ?_⟩
  rintro n vs W ⟨k, x, rfl, hk, he, kk⟩
  have hlen := congrArg List.length he
  rw [List.length_append] at hlen
  have hl1 := encB_len s
  have hl2 := encB_len (s.drop k)
  refine ⟨_, _, rfl, fun _ => SplitK.of (fun hlt => ?_) (fun hlt => ?_)⟩
  · simp at hlt
    have hks : k < s.length := by omega
    have hes := encB_take s k hks x
    rw [he] at hes
    intro K hK
    have fin : ∀ x2 w', x2 = x ++ (if s[k] = 0 then [0, 255] else [s[k]]) → Keep [] w w' → K [.string (bs x2)] w' := by
      intro x2 w' hx2 k2
      exact hK _ _ fun _ => ⟨n - 1, by omega, k + 1, x2, by rw [addI_one (by omega)], by omega, by rw [hx2, ← hes], k2⟩
    rw [addI_one (by omega)]
    have ec : cutS (bs s) (intN (k : Int)) (intN ((k + 1 : Nat) : Int)) = bs [s[k]] := by
      simp only [intN_eq, Int.toNat_natCast]
      rw [cutS_bs, List.take_succ_eq_append_getElem hks, List.drop_append_of_le_length (by rw [List.length_take]; omega), List.drop_of_length_le (by rw [List.length_take]; omega), List.nil_append]
    rw [ec, catS_bs]
    refine ⟨by omega, by simp; omega, by omega, by simp; omega, by simp; omega, by omega, byteAt (by simp only [intN_eq, Int.toNat_natCast]; exact hks) ?_⟩
    simp only [intN_eq, Int.toNat_natCast]
    rw [byteE0]
    refine SplitK.of (fun hz => ?_) (fun hz => ?_)
    · have hz := of_decide_eq_true hz
      refine CallK.ret (x_byteOf W 255 (by decide)) fun w2 k2 => ⟨_, rfl, ?_⟩
      rw [catS_bs]
      refine ⟨by simp; omega, fin _ _ ?_ (kk.trans0 k2)⟩
      rw [if_pos hz, hz]; simp
    · have hz := of_decide_eq_false hz
      exact fin _ _ (by rw [if_neg hz]) kk
  · simp at hlt
    obtain rfl : k = s.length := by omega
    rw [List.drop_length] at he
    refine CallK.ret (x_byteOf W 0 (by decide)) fun w2 k2 => ⟨_, rfl, ?_⟩
    rw [catS_bs]
    refine ⟨by simp; omega, ?_⟩
    refine CallK.ret (x_byteOf w2 0 (by decide)) fun w3 k3 => ⟨_, rfl, ?_⟩
    rw [catS_bs]
    refine ⟨by simp; omega, ?_, kk.trans0 k2 |>.trans0 k3⟩
    rw [← he]; simp [encB]

/-- What the reference has seen. -/
def seenV (v : Value) (s : List UInt8) (n : Nat) (w' : World) (p? : Option (List UInt8 × List UInt8)) : Prop :=
  match p? with
  | some p => ∃ g, v = .agg #[.slice (some ⟨g, 0, none⟩) 1 1, .int .i64 ((s.length - p.2.length : Nat) : Int), .bool false] ∧ Fresh n w' (fun w => CellsAt w ⟨g, 0, none⟩ [.int .i64 3, .int .i64 0, .string (bs p.1), .int .i64 0])
  | none => v = .agg #[.slice none 0 0, .int .i64 0, .bool true]

theorem x_text12 (w : World) (s : List UInt8) (at0 : Nat) (hat : at0 ≤ s.length) (hs : s.length ≤ 100000000) : Calls Try.prog 63 #[.string (bs s), .int .i64 at0] w (fun e w' => ∃ v, e = .returned v ∧ Keep [] w w' ∧ seenV v s w.heap.size w' (decB (s.drop at0))) := by
  refine F63_calls _ _ _ (fun v w' => Keep [] w w' ∧ seenV v s w.heap.size w' (decB (s.drop at0))) ?_
  refine (Mem.start w).newK fun b w1 M => ?_
  refine ⟨fun n vs W => ∃ (k : Nat) (x : List UInt8), vs = [.int .i64 k, .string (bs x)] ∧ k + n = s.length ∧ x.length ≤ k ∧ decB (s.drop at0) = (decB (s.drop k)).map (fun p => (x ++ p.1, p.2)) ∧ Mem w [] [(b, .cells (List.toArray [.slice none 0 0, .int .i64 0, .bool false]) 107 (0, 0))] (fun _ => True) W,
    ⟨s.length - at0, at0, [], rfl, by omega, by simp, by cases decB (s.drop at0) <;> simp, M⟩, ?_⟩
  clear M
  rintro n vs W ⟨k, x, rfl, hk, hxk, hd, M⟩
  have bad : decB (s.drop at0) = none → StK W ⟨b, 0, none⟩ [.slice none 0 0, .int .i64 0, .bool true] (fun w3 => ∃ (a : Option Addr) (l c : Nat) (n2 : Int) (b1 : Bool), CellsAt w3 ⟨b, 0, none⟩ [.slice a l c, .int .i64 n2, .bool b1] ∧ (Keep [] w w3 ∧ seenV (.agg #[.slice a l c, .int .i64 n2, .bool b1]) s w.heap.size w3 (decB (s.drop at0)))) := by
    intro hn
    refine M.stK 0 (c := [.slice none 0 0, .int .i64 0, .bool false]) rfl (by simp) rfl fun w3 M => ?_
    refine ⟨_, _, _, _, _, M.cells 0 (c := [.slice none 0 0, .int .i64 0, .bool true]) rfl, M.keep, ?_⟩
    rw [hn]; rfl
  refine ⟨_, _, rfl, fun _ => ?_⟩
  rw [addI_one (by omega)]
  refine SplitK.of (fun hlt => ?_) (fun hlt => ?_)
  · simp only [sizeS_bs, natI_eq, ltI_t] at hlt
    have hk1 : k + 1 < s.length := by omega
    have ed : s.drop k = s[k] :: s[k + 1] :: s.drop (k + 2) := by rw [List.drop_eq_getElem_cons (by omega), List.drop_eq_getElem_cons hk1]
    rw [ed] at hd
    intro K hK
    have fin : K [.bool (decide (s[k] = 0 ∧ s[k + 1] = 0))] W := by
      refine hK _ _ fun _ => SplitK.of (fun hz => ?_) (fun hz => ?_)
      · have hz := of_decide_eq_true hz
        rw [decB_two, if_pos hz.1, if_pos hz.2] at hd
        refine M.newK fun b2 w4 M => ?_
        refine M.stK 1 (c := [.slice none 0 0, .int .i64 0, .bool false]) rfl (by simp) rfl fun w5 M => ?_
        refine ⟨_, _, _, _, _, M.cells 1 (c := [.slice (some ⟨b2, 0, none⟩) 1 1, .int .i64 (addI .i64 (k : Int) 2), .bool false]) rfl, M.keep, ?_⟩
        rw [hd]
        refine ⟨b2, ?_, ?_⟩
        · have e2 : addI .i64 (k : Int) 2 = ((k + 2 : Nat) : Int) := addI_nat k 2 (by omega)
          rw [e2]
          have : s.length - (s.drop (k + 2)).length = k + 2 := by rw [List.length_drop]; omega
          show _ = Value.agg #[_, .int .i64 ((s.length - (s.drop (k + 2)).length : Nat) : Int), _]
          rw [this]
        · intro ids w' hi hk'
          have hc := M.cells 0 (c := [.int .i64 3, .int .i64 0, .string (bs x), .int .i64 0]) rfl
          have e3 : ((x ++ ([] : List UInt8), s.drop (k + 2)) : List UInt8 × List UInt8).1 = x := by simp
          show CellsAt w' _ [_, _, .string (bs (x ++ [])), _]
          rw [List.append_nil]
          refine hc.keep hk' fun hm => ?_
          have h1 := hi _ hm
          rcases M.fresh (b2, _) (List.mem_cons_self ..) with h | h
          · simp only at h h1; omega
          · cases h
      · have hz := of_decide_eq_false hz
        intro K1 hK1
        have fin1 : K1 [.bool (decide (s[k] = 0 ∧ s[k + 1] ≠ 255))] W := by
          refine hK1 _ _ fun _ => SplitK.of (fun hy => ?_) (fun hy => ?_)
          · have hy := of_decide_eq_true hy
            refine bad ?_
            rw [hd, decB_two, if_pos hy.1, if_neg (fun h => hz ⟨hy.1, h⟩), if_neg hy.2]; rfl
          · have hy := of_decide_eq_false hy
            have h255 : s[k] = 0 → s[k + 1] = 255 := fun h => Classical.byContradiction fun h' => hy ⟨h, h'⟩
            have ec : cutS (bs s) (intN (k : Int)) (intN ((k + 1 : Nat) : Int)) = bs [s[k]] := by
              simp only [intN_eq, Int.toNat_natCast]
              rw [cutS_bs, List.take_succ_eq_append_getElem (by omega), List.drop_append_of_le_length (by rw [List.length_take]; omega), List.drop_of_length_le (by rw [List.length_take]; omega), List.nil_append]
            rw [ec, catS_bs]
            refine ⟨by omega, by simp; omega, by omega, by simp; omega, by simp; omega, ?_⟩
            intro K2 hK2
            have go : ∀ j : Nat, (s[k] = 0 → j = k + 1) → (s[k] ≠ 0 → j = k) → K2 [.int .i64 j] W := by
              intro j h0 h1
              have hj : j ≤ k + 1 := by by_cases h : s[k] = 0; rw [h0 h]; omega; rw [h1 h]; omega
              have hjk : k ≤ j := by by_cases h : s[k] = 0; rw [h0 h]; omega; rw [h1 h]; omega
              refine hK2 _ _ fun _ => ⟨n - (j + 1 - k), by omega, j + 1, x ++ [s[k]], by rw [addI_one (by omega)], by omega, by simp; omega, ?_, M⟩
              by_cases h : s[k] = 0
              · rw [hd, decB_two, if_pos h, if_neg (fun h2 => hz ⟨h, h2⟩), if_pos (h255 h), h0 h, h]
                cases decB (s.drop (k + 2)) <;> simp
              · rw [hd, decB_two, if_neg h, h1 h, ← List.drop_eq_getElem_cons hk1]
                cases decB (s.drop (k + 1)) <;> simp
            refine ⟨by omega, byteAt (by simp only [intN_eq, Int.toNat_natCast]; omega) ?_⟩
            simp only [intN_eq, Int.toNat_natCast]
            rw [byteE0]
            refine SplitK.of (fun h0 => ?_) (fun h0 => ?_)
            · have h0 := of_decide_eq_true h0
              exact go (k + 1) (fun _ => rfl) (fun h => absurd h0 h)
            · have h0 := of_decide_eq_false h0
              exact go k (fun h => absurd h h0) (fun _ => rfl)
        refine ⟨by omega, byteAt (by simp only [intN_eq, Int.toNat_natCast]; omega) ?_⟩
        simp only [intN_eq, Int.toNat_natCast]
        rw [byteE0]
        refine SplitK.of (fun h0 => ?_) (fun h0 => ?_)
        · have h0 := of_decide_eq_true h0
          refine ⟨by omega, byteAt (by omega) ?_⟩
          rw [byteE255]
          have : notB (decide (s[k + 1] = 255)) = decide (s[k] = 0 ∧ s[k + 1] ≠ 255) := by simp [notB, h0]
          rw [this]; exact fin1
        · have h0 := of_decide_eq_false h0
          rwa [show decide (s[k] = 0 ∧ s[k + 1] ≠ 255) = false from decide_eq_false fun h => h0 h.1] at fin1
    refine ⟨by omega, byteAt (by simp only [intN_eq, Int.toNat_natCast]; omega) ?_⟩
    simp only [intN_eq, Int.toNat_natCast]
    rw [byteE0]
    refine SplitK.of (fun h0 => ?_) (fun h0 => ?_)
    · have h0 := of_decide_eq_true h0
      refine ⟨by omega, byteAt (by omega) ?_⟩
      rw [byteE0]
      rwa [show decide (s[k] = 0 ∧ s[k + 1] = 0) = decide (s[k + 1] = 0) from decide_eq_decide.2 ⟨fun h => h.2, fun h => ⟨h0, h⟩⟩] at fin
    · have h0 := of_decide_eq_false h0
      rwa [show decide (s[k] = 0 ∧ s[k + 1] = 0) = false from decide_eq_false fun h => h0 h.1] at fin
  · simp only [sizeS_bs, natI_eq, ltI_f] at hlt
    refine bad ?_
    rw [hd]
    match h : s.drop k with
    | [] => rw [decB_nil]; rfl
    | [a] => rw [decB_one]; rfl
    | a :: b :: r =>
      have := congrArg List.length h
      simp at this; omega

end Go.Proofs.Ytgecpbplbkpdlaa
