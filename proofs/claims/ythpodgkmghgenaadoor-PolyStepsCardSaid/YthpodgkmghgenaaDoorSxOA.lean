/-
  A part of the proof: OA.
-/
import Derived.Test.YthpodgkmghgenaaDoorSxTO
import Derived.Test.YthpodgkmghgenaaDoorSxOct
namespace Go.Proofs.YthpodgkmghgenaaDoor
open Go Go.Sx Go.Oct
set_option linter.unusedVariables false

theorem o_text (w : World) {a : Option Addr} {l c : Nat} {xs : List UInt8} (h : BytesAt w a l xs) : Calls Tryd.prog 53 #[.slice a l c] w (Ret w (.string (bs xs))) :=
  calls_ret (F53_calls _ _ _ _ _ ⟨xs, h, rfl, Keep.refl _ _⟩)

theorem many_cast (k : Int) : minI (maxI k 0) 8 = ((many k : Nat) : Int) := by
  unfold many minI maxI; split <;> split <;> omega

theorem o_Low (w : World) (n : Nat) (k : Int) (hn : n < 18446744073709551616) : Calls Tryd.prog 43 #[.int .u64 n, .int .i64 k] w (Ret w (.string (bs (lowL n (many k))))) := by
  refine calls_ret (F43_calls _ _ _ _ ?_)
  unfold F43
  rw [many_cast]
  have h8 := many_le k
  generalize many k = K at *
  refine ⟨fun n' vs w1 => ∃ (k : Nat) (opt : List (Nat × Obj)) (a : Option Addr) (l c : Nat), vs = [.slice a l c, .int .i64 k] ∧ k + n' = K ∧ OwnM opt 5 a l c (byteVs (lowL n k)) ∧ Mem w [] (opt ++ []) (fun _ => True) w1,
    ⟨K, 0, [], none, 0, 0, rfl, by omega, OwnM.nil, Mem.start w⟩, ?_⟩
  rintro n' vs w1 ⟨k, opt, a, l, c, rfl, hk, ho, M⟩
  refine ⟨a, l, c, k, rfl, fun _ => SplitK.of (fun hlt => ?_) (fun hlt => ?_)⟩
  · simp at hlt
    have e8 : mulI .i64 8 (k : Int) = ((8 * k : Nat) : Int) := mulI_nat 8 k (by omega)
    rw [e8, shrI_u64 _ _ hn, wrapI_u8]
    refine ⟨by omega, M.newK fun b w2 M2 => ⟨_, M2.old1, ne1, ?_⟩⟩
    refine Mem.appK (M2.tail) ho rfl rfl (by simp [byteVs]; omega) (by simp [byteVs]; omega) ?_
    intro a' l' c' opt' w' ho' M' hl
    refine ⟨n' - 1, by omega, k + 1, opt', a', l', c', by rw [addI_one (by omega)], by omega, ?_, M'⟩
    rw [lowL_succ]
    have : (n / 2 ^ (8 * k) % 256 : Nat) = (UInt8.ofNat (n / 256 ^ k)).toNat := by
      rw [UInt8.toNat_ofNat', Nat.pow_mul]
    rw [this] at ho'
    simpa [byteVs, byteV] using ho'
  · simp at hlt
    have : k = K := by omega
    subst this
    refine CallK.ret (o_text w1 (ho.bytesAt M)) fun w2 hw2 => ⟨_, rfl, rfl, M.keep.trans0 hw2⟩

theorem spliceL_get {vs : List Value} {x y : Value} {i j : Nat} (hij : i ≤ j) (hj : j < vs.length) : (spliceL (spliceL vs i [x]) j [y]) = (vs.set i x).set j y := rfl

theorem rev_step {xs ys : List UInt8} {i j n : Nat} (hl : xs.length = n) (hy : ys.length = n) (hij : i + j + 1 = n) (hi : i < j)
    (h : ∀ t, t < n → ys[t]? = if t < i ∨ j < t then xs[n - 1 - t]? else xs[t]?) :
    ∀ t, t < n → ((ys.set i (ys.getD j 0)).set j (ys.getD i 0))[t]? = if t < i + 1 ∨ j - 1 < t then xs[n - 1 - t]? else xs[t]? := by
  intro t ht
  have hj := h j (by omega)
  have hi' := h i (by omega)
  rw [if_neg (by omega)] at hj hi'
  have ej : ys.getD j 0 = xs.getD j 0 := by simp only [List.getD_eq_getElem?_getD, hj]
  have ei : ys.getD i 0 = xs.getD i 0 := by simp only [List.getD_eq_getElem?_getD, hi']
  rw [ej, ei]
  by_cases h1 : j = t
  · subst h1
    rw [List.getElem?_set_self (by simp; omega), if_pos (by omega), show n - 1 - j = i from by omega]
    simp [List.getD_eq_getElem?_getD, List.getElem?_eq_getElem (show i < xs.length by omega)]
  · rw [List.getElem?_set_ne h1]
    by_cases h2 : i = t
    · subst h2
      rw [List.getElem?_set_self (by omega), if_pos (by omega), show n - 1 - i = j from by omega]
      simp [List.getD_eq_getElem?_getD, List.getElem?_eq_getElem (show j < xs.length by omega)]
    · rw [List.getElem?_set_ne h2, h t ht]
      by_cases h3 : t < i ∨ j < t
      · rw [if_pos h3, if_pos (by omega)]
      · rw [if_neg h3, if_neg (by omega)]

end Go.Proofs.YthpodgkmghgenaaDoor
