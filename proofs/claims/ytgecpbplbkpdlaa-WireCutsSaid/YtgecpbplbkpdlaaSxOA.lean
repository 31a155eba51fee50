/-
  A part of the proof: OA.
-/
import Derived.Test.YtgecpbplbkpdlaaSxTO
import Derived.Test.YtgecpbplbkpdlaaSxOct
namespace Go.Proofs.Ytgecpbplbkpdlaa
open Go Go.Sx Go.Oct
set_option linter.unusedVariables false

theorem o_text (w : World) {a : Option Addr} {l c : Nat} {xs : List UInt8} (h : BytesAt w a l xs) : Calls Try.prog 56 #[.slice a l c] w (Ret w (.string (bs xs))) :=
  calls_ret (F56_calls _ _ _ _ _ ⟨xs, h, rfl, Keep.refl _ _⟩)

theorem many_cast (k : Int) : minI (maxI k 0) 8 = ((many k : Nat) : Int) := by
  unfold many minI maxI; split <;> split <;> omega

theorem spliceL_get {vs : List Value} {x y : Value} {i j : Nat} (hij : i ≤ j) (hj : j < vs.length) : (spliceL (spliceL vs i [x]) j [y]) = (vs.set i x).set j y := rfl

theorem rev_step {xs ys : List UInt8} {i j n : Nat} (hl : xs.length = n) (hy : ys.length = n) (hij : i + j + 1 = n) (hi : i < j)
    (h : ∀ t, t < n → ys[t]? = if t < i ∨ j < t then xs[n - 1 - t]? else xs[t]?) :
    ∀ t, t < n → ((ys.set i (ys.getD j 0)).set j (ys.getD i 0))[t]? = if t < i + 1 ∨ j - 1 < t then xs[n - 1 - t]? else xs[t]? := by
  intro t ht
  have hj := h j (by omega)
  have hi' := h i (by omega)
  rw [if_neg (by omega)] at hj hi'
  have ej : ys.getD j 0 = xs.getD j 0 := by simp only [List.getD_eq_getElem?_getD, hj]
  have ei : ys.getD i 0 = xs.getD i 0 := by simp only [List.getD_eq_getElem?_getD, hi']
  rw [ej, ei]
  by_cases h1 : j = t
  · subst h1
    rw [List.getElem?_set_self (by simp; omega), if_pos (by omega), show n - 1 - j = i from by omega]
    simp [List.getD_eq_getElem?_getD, List.getElem?_eq_getElem (show i < xs.length by omega)]
  · rw [List.getElem?_set_ne h1]
    by_cases h2 : i = t
    · subst h2
      rw [List.getElem?_set_self (by omega), if_pos (by omega), show n - 1 - i = j from by omega]
      simp [List.getD_eq_getElem?_getD, List.getElem?_eq_getElem (show j < xs.length by omega)]
    · rw [List.getElem?_set_ne h2, h t ht]
      by_cases h3 : t < i ∨ j < t
      · rw [if_pos h3, if_pos (by omega)]
      · rw [if_neg h3, if_neg (by omega)]

/-- A row of bytes is turned round in place. -/
theorem o_Big (w : World) (n : Nat) (k : Int) (hn : n < 18446744073709551616) : Calls Try.prog 29 #[.int .u64 n, .int .i64 k] w (Ret w (.string (bs (bigL n (many k))))) := by
  refine calls_ret (F29_calls _ _ _ _ ?_)
  unfold F29
  rw [many_cast]
  have h8 := many_le k
  generalize many k = K at *
  refine ⟨fun n' vs w1 => ∃ (k : Nat) (opt : List (Nat × Obj)) (a : Option Addr) (l c : Nat), vs = [.slice a l c, .int .i64 k] ∧ k + n' = K ∧ OwnM opt 5 a l c (byteVs (lowL n k)) ∧ Mem w [] (opt ++ []) (fun _ => True) w1,
    ⟨K, 0, [], none, 0, 0, rfl, by omega, OwnM.nil, Mem.start w⟩, ?_⟩
  rintro n' vs w1 ⟨k, opt, a, l, c, rfl, hk, ho, M⟩
  refine ⟨a, l, c, k, rfl, fun _ => SplitK.of (fun hlt => ?_) (fun hlt => ?_)⟩
  · simp at hlt
    have e8 : mulI .i64 8 (k : Int) = ((8 * k : Nat) : Int) := mulI_nat 8 k (by omega)
    rw [e8, shrI_u64 _ _ hn, wrapI_u8]
    refine ⟨by omega, M.newK fun b w2 M2 => ⟨_, M2.old1, ne1, ?_⟩⟩
    refine Mem.appK (M2.tail) ho rfl rfl (by simp [byteVs]; omega) (by simp [byteVs]; omega) ?_
    intro a' l' c' opt' w' ho' M' hl
    refine ⟨n' - 1, by omega, k + 1, opt', a', l', c', by rw [addI_one (by omega)], by omega, ?_, M'⟩
    rw [lowL_succ]
    have : (n / 2 ^ (8 * k) % 256 : Nat) = (UInt8.ofNat (n / 256 ^ k)).toNat := by
      rw [UInt8.toNat_ofNat', Nat.pow_mul]
    rw [this] at ho'
    simpa [byteVs, byteV] using ho'
  · simp at hlt
    have : k = K := by omega
    subst this
    have hl : l = k := by have := ho.len; simpa [byteVs] using this
    subst hl
    refine ⟨fun n' vs w1 => ∃ (i : Nat) (j : Int) (opt : List (Nat × Obj)) (ys : List UInt8), vs = [.int .i64 i, .int .i64 j] ∧ n' = l - i ∧ i ≤ l ∧ i + j + 1 = l ∧ ys.length = l ∧ OwnM opt 5 a l c (byteVs ys) ∧
      (∀ t, t < l → ys[t]? = if t < i ∨ j < t then (lowL n l)[l - 1 - t]? else (lowL n l)[t]?) ∧ Mem w [] (opt ++ []) (fun _ => True) w1,
      ⟨l, 0, (l : Int) - 1, opt, lowL n l, by simp; rw [subI_i64 (by omega) (by omega)], by omega, by omega, by omega, by simp, ho, ?_, M⟩, ?_⟩
    · intro t ht
      rw [if_neg (by omega)]
    rintro n' vs w2 ⟨i, j, opt, ys, rfl, rfl, hil, hij, hyl, ho, hys, M⟩
    refine ⟨i, j, rfl, fun _ => SplitK.of (fun hlt => ?_) (fun hlt => ?_)⟩
    · simp at hlt
      obtain ⟨j, rfl⟩ := Int.eq_ofNat_of_zero_le (show 0 ≤ j by omega)
      rintro w3 rfl
      rcases ho with ⟨_, _, h0, _, _⟩ | ⟨b, rest, rfl, rfl, _, rfl, hcb⟩
      · omega
      have M3 := M.drew
      have gj : (byteVs ys ++ rest)[j]? = some (byteV (ys.getD j 0)) := by
        rw [List.getElem?_append_left (by simp [byteVs]; omega)]
        simp [byteVs, List.getElem?_eq_getElem (show j < ys.length by omega)]
      have gi : (byteVs ys ++ rest)[i]? = some (byteV (ys.getD i 0)) := by
        rw [List.getElem?_append_left (by simp [byteVs]; omega)]
        simp [byteVs, List.getElem?_eq_getElem (show i < ys.length by omega)]
      have e1 : addA ⟨b, 0, none⟩ (mulN (intN (i : Int)) 1) = ⟨b, i, none⟩ := by simp
      have e2 : addA ⟨b, 0, none⟩ (mulN (intN (j : Int)) 1) = ⟨b, j, none⟩ := by simp
      refine ⟨fun w' => Keep [] w2.drew w', Keep.refl _ _, by omega, by simp; omega, (ys.getD j 0).toNat, fun w4 h4 => by rw [e2]; exact (M3.call h4).cell 0 (off := j) rfl gj, by omega, by simp; omega, (ys.getD i 0).toNat, fun w4 h4 => by rw [e1]; exact (M3.call h4).cell 0 (off := i) rfl gi, by omega, by simp; omega, ?_⟩
      show StK _ (addA ⟨b, 0, none⟩ (mulN (intN (i : Int)) 1)) _ _
      rw [e1]
      refine M3.stK 0 rfl (by simp [byteVs]; omega) rfl fun w4 M4 => ⟨by omega, by simp; omega, ?_⟩
      show StK _ (addA ⟨b, 0, none⟩ (mulN (intN (j : Int)) 1)) _ _
      rw [e2]
      refine M4.stK 0 rfl (by simp [spliceL_length, byteVs]; omega) rfl fun w5 M5 => ?_
      refine ⟨l - (i + 1), by omega, i + 1, (j : Int) - 1, [(b, .cells ((byteVs ((ys.set i (ys.getD j 0)).set j (ys.getD i 0))) ++ rest).toArray 5 (0, 0))], _, by rw [addI_one (by omega), subI_i64 (by omega) (by omega)], rfl, by omega, by omega, by simp; omega, .inr ⟨b, rest, rfl, rfl, by simp [byteVs]; omega, by simp [byteVs], hcb⟩, ?_, ?_⟩
      · have := rev_step (xs := lowL n l) (ys := ys) (i := i) (j := j) (n := l) (by simp) hyl (by omega) (by omega) (by intro t ht; rw [hys t ht]; simp)
        intro t ht
        rw [this t ht]
        congr 1
        apply propext
        omega
      · have : spliceL (spliceL (byteVs ys ++ rest) i [Value.int .u8 (ys.getD j 0).toNat]) j [Value.int .u8 (ys.getD i 0).toNat] = byteVs ((ys.set i (ys.getD j 0)).set j (ys.getD i 0)) ++ rest := by
          show ((byteVs ys ++ rest).set i (byteV (ys.getD j 0))).set j (byteV (ys.getD i 0)) = _
          rw [List.set_append_left _ _ (by simp [byteVs]; omega), List.set_append_left _ _ (by simp [byteVs]; omega)]
          simp [byteVs, List.map_set]
        simp only [List.set_cons_zero, this] at M5
        exact M5
    · simp at hlt
      have hrev : ys = bigL n l := by
        apply List.ext_getElem?
        intro t
        by_cases ht : t < l
        · rw [hys t ht]
          by_cases hc : (t : Nat) < i ∨ j < (t : Int)
          · rw [if_pos hc, bigL, List.getElem?_reverse (by simpa using ht)]; simp
          · rw [if_neg hc, bigL, List.getElem?_reverse (by simpa using ht)]
            simp only [lowL_length]
            rw [show l - 1 - t = t from by omega]
        · rw [List.getElem?_eq_none (by omega), List.getElem?_eq_none (by simp; omega)]
      rw [hrev] at ho
      refine CallK.ret (o_text w2 (ho.bytesAt M)) fun w3 hw3 => ⟨_, rfl, rfl, M.keep.trans0 hw3⟩

end Go.Proofs.Ytgecpbplbkpdlaa
