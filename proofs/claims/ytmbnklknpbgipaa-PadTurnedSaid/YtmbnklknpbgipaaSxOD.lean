/-
  A part of the proof: OD.
-/
import Derived.Test.YtmbnklknpbgipaaSxOC
import Derived.Test.YtmbnklknpbgipaaSxRows
namespace Go.Proofs.Ytmbnklknpbgipaa
open Go Go.Sx Go.Oct
set_option linter.unusedVariables false

theorem o_Words (w : World) (s : List UInt8) (hs : s.length ≤ 1000000) : Calls Try.prog 31 #[.string (bs s)] w (RetV w (u32s (wordsL s))) := by
  refine calls_retV (F31_calls _ _ _ ?_)
  refine ⟨fun n vs w1 => ∃ (k : Nat) (opt : List (Nat × Obj)) (a : Option Addr) (l c : Nat), vs = [.string (bs (s.drop (4 * k))), .slice a l c] ∧ k + n = s.length / 4 ∧ OwnM opt 31 a l c (u32s ((List.range k).map (wordAt s))) ∧ Mem w [] (opt ++ []) (fun _ => True) w1,
    ⟨s.length / 4, 0, [], none, 0, 0, rfl, by omega, OwnM.nil, Mem.start w⟩, ?_⟩
  rintro n vs w1 ⟨k, opt, a, l, c, rfl, hk, ho, M⟩
  refine ⟨_, a, l, c, rfl, fun _ => SplitK.of (fun hlt => ?_) (fun hlt => ?_)⟩
  · simp at hlt
    refine ⟨by omega, by simp; omega, ?_⟩
    rw [cutS_bs]
    refine CallK.ret (o_ReadLow w1 _ (by simp; omega)) fun w2 h2 => ⟨_, rfl, ?_⟩
    have M := M.call h2
    have e1 : readL (((s.drop (4 * k)).take (intN 4)).drop 0) = wordAt s k := by
      have := wordAt_lt s k
      unfold readL wordAt at *
      simp only [List.drop_zero]
      rw [show intN 4 = 4 from rfl, Nat.mod_eq_of_lt (by omega)]
    rw [e1, wrapI_u32, Nat.mod_eq_of_lt (wordAt_lt s k)]
    refine M.newK fun b w3 M3 => ⟨_, M3.old1, ne1, ?_⟩
    refine Mem.appK (M3.tail) ho rfl rfl (by simp; omega) (by simp; omega) ?_
    intro a' l' c' opt' w' ho' M' hl
    refine ⟨by omega, by simp; omega, n - 1, by omega, k + 1, opt', a', l', c', ?_, by omega, ?_, M'⟩
    · rw [cutS_bs]
      congr 3
      rw [List.take_of_length_le (by simp), show intN 4 = 4 from rfl, List.drop_drop, show 4 * (k + 1) = 4 * k + 4 from by omega]
    · simpa [u32s, List.range_succ, u32V] using ho'
  · simp at hlt
    have : k = s.length / 4 := by omega
    subst this
    exact ⟨a, l, c, rfl, OwnM.freshV ho M, M.keep⟩

theorem x_Words (w : World) (s : List UInt8) (hs : s.length ≤ 1000000) : Calls Try.prog 32 #[.string (bs s)] w (RetV w (u32s (wordsL s))) := by
  refine calls_retV (F32_calls _ _ _ ?_)
  refine ⟨fun n vs w1 => ∃ (k : Nat) (opt : List (Nat × Obj)) (a : Option Addr) (l c : Nat), vs = [.slice a l c, .int .i64 (4 * k : Nat)] ∧ k + n = s.length / 4 ∧ OwnM opt 31 a l c (u32s ((List.range k).map (wordAt s))) ∧ Mem w [] (opt ++ []) (fun _ => True) w1,
    ⟨s.length / 4, 0, [], none, 0, 0, rfl, by omega, OwnM.nil, Mem.start w⟩, ?_⟩
  rintro n vs w1 ⟨k, opt, a, l, c, rfl, hk, ho, M⟩
  have e4 : subI .i64 (natI (sizeS (bs s))) 4 = (s.length : Int) - 4 := by rw [sizeS_bs, natI_eq, subI_i64 (by omega) (by omega)]
  refine ⟨a, l, c, _, rfl, fun _ => SplitK.of (fun hlt => ?_) (fun hlt => ?_)⟩
  · rw [e4] at hlt
    simp only [leI_t] at hlt
    have ea : addI .i64 ((4 * k : Nat) : Int) 4 = ((4 * k + 4 : Nat) : Int) := addI_nat _ 4 (by omega)
    rw [ea]
    refine ⟨by omega, by simp; omega, by omega, by simp; omega, ?_⟩
    rw [cutS_bs]
    refine CallK.ret (x_ReadLow w1 _ (by simp; omega)) fun w2 h2 => ⟨_, rfl, ?_⟩
    have M := M.call h2
    have e1 : readL ((s.take (intN ((4 * k + 4 : Nat) : Int))).drop (intN ((4 * k : Nat) : Int))) = wordAt s k := by
      have := wordAt_lt s k
      simp only [intN_eq, Int.toNat_natCast]
      rw [List.drop_take, show 4 * k + 4 - 4 * k = 4 from by omega]
      unfold readL wordAt at *
      rw [Nat.mod_eq_of_lt (by omega)]
    rw [e1, wrapI_u32, Nat.mod_eq_of_lt (wordAt_lt s k)]
    refine M.newK fun b w3 M3 => ⟨_, M3.old1, ne1, ?_⟩
    refine Mem.appK (M3.tail) ho rfl rfl (by simp; omega) (by simp; omega) ?_
    intro a' l' c' opt' w' ho' M' hl
    refine ⟨n - 1, by omega, k + 1, opt', a', l', c', rfl, by omega, ?_, M'⟩
    simpa [u32s, List.range_succ, u32V] using ho'
  · rw [e4] at hlt
    simp only [leI_f] at hlt
    have : k = s.length / 4 := by omega
    subst this
    exact ⟨a, l, c, rfl, OwnM.freshV ho M, M.keep⟩

theorem x_Text (w : World) {a : Option Addr} {l c : Nat} {xs : List Nat} (h : VsAt w a l (u32s xs)) (hx : ∀ x ∈ xs, x < 4294967296) (hl : xs.length ≤ 1000000) : Calls Try.prog 34 #[.slice a l c] w (Ret w (.string (bs (textL xs)))) := by
  refine calls_ret (F34_calls _ _ _ _ _ ?_)
  have hll := h.1
  simp at hll
  refine ⟨fun n vs w1 => ∃ k : Nat, vs = [.string (bs (textL (xs.take k))), .int .i64 k] ∧ k + n = xs.length ∧ Keep [] w w1, ⟨xs.length, 0, by simp [textL], by omega, Keep.refl _ _⟩, ?_⟩
  rintro n vs w1 ⟨k, rfl, hk, hK⟩
  refine ⟨_, _, rfl, fun _ => SplitK.of (fun hlt => ?_) (fun hlt => ?_)⟩
  · simp at hlt
    have hkx : k < xs.length := by omega
    obtain ⟨p, hp, hpc⟩ := h.get (k := k) (by simpa using hkx)
    rw [u32s_get] at hpc
    refine ⟨by omega, by simp; omega, SomeK.of p hp ⟨_, by rw [addA_int]; exact hK.cell hpc (by simp), ?_⟩⟩
    have hxk := hx _ (List.getElem_mem hkx)
    rw [wrapI_u64, Nat.mod_eq_of_lt (by omega)]
    refine CallK.ret (x_Low w1 _ 4 (by omega)) fun w2 h2 => ⟨_, rfl, ?_⟩
    have ht := textL_length (xs.take k)
    rw [List.length_take] at ht
    refine ⟨by simp [ht, many]; omega, n - 1, by omega, k + 1, ?_, by omega, hK.trans0 h2⟩
    rw [addI_one (by omega), catS_bs, List.take_succ_eq_append_getElem hkx, textL_snoc]
    rfl
  · simp at hlt
    have : k = xs.length := by omega
    subst this
    rw [List.take_length]
    exact ⟨rfl, hK⟩

theorem x_Same (w : World) {a a' : Option Addr} {l l' c c' : Nat} {xs ys : List Nat} (h1 : VsAt w a l (u32s xs)) (h2 : VsAt w a' l' (u32s ys)) (hb : xs.length ≤ 1000000) :
    Calls Try.prog 35 #[.slice a l c, .slice a' l' c'] w (Ret w (.bool (decide (xs = ys)))) := by
  refine calls_ret (F35_calls _ _ _ _ _ _ _ _ ?_)
  have e1 := h1.1; have e2 := h2.1
  simp at e1 e2
  refine SplitK.of (fun h => ?_) (fun h => ?_)
  · simp at h
    refine ⟨?_, Keep.refl _ _⟩
    have : xs ≠ ys := fun e => h (by rw [e1, e2, e])
    simp [this]
  · simp at h
    have hlen : xs.length = ys.length := by omega
    refine ⟨fun n vs w1 => ∃ k : Nat, vs = [.int .i64 (k : Int)] ∧ k + n = xs.length ∧ xs.take k = ys.take k ∧ Keep [] w w1, ⟨xs.length, 0, rfl, by omega, by simp, Keep.refl _ _⟩, ?_⟩
    rintro n vs w1 ⟨k, rfl, hk, heq, hK⟩
    refine ⟨k, rfl, fun _ => SplitK.of (fun h => ?_) (fun h => ?_)⟩
    · simp at h
      have hkx : k < xs.length := by omega
      have hky : k < ys.length := by omega
      obtain ⟨p, hp, hpc⟩ := h1.get (k := k) (by simpa using hkx)
      obtain ⟨q, hq, hqc⟩ := h2.get (k := k) (by simpa using hky)
      rw [u32s_get] at hpc hqc
      intro w2 hw2
      subst hw2
      refine ⟨fun w' => Keep [] w w', hK.drew, by omega, by simp; omega, SomeK.of p hp ⟨_, fun w3 hw3 => by rw [addA_int]; exact hw3.cell hpc (by simp), by omega, by simp; omega, SomeK.of q hq ⟨_, fun w3 hw3 => by rw [addA_int]; exact hw3.cell hqc (by simp), ?_⟩⟩⟩
      refine SplitK.of (fun h => ?_) (fun h => ?_)
      · simp at h
        refine ⟨?_, hK.drew⟩
        have : xs ≠ ys := fun e => by subst e; exact h rfl
        simp [this]
      · simp at h
        refine ⟨n - 1, by omega, k + 1, ?_, by omega, ?_, hK.drew⟩
        · rw [addI_one (by omega)]
        · rw [List.take_succ_eq_append_getElem hkx, List.take_succ_eq_append_getElem hky, heq]
          congr 2
          omega
    · simp at h
      have : k = xs.length := by omega
      subst this
      refine ⟨?_, hK⟩
      have : xs = ys := by rw [List.take_of_length_le (by omega), List.take_of_length_le (by omega)] at heq; exact heq
      simp [this]

end Go.Proofs.Ytmbnklknpbgipaa
