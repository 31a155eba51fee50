/-
  A part of the proof: ZC.
-/
import Derived.Test.YthpodgkmghgenaaDoorSxZB
namespace Go.Proofs.YthpodgkmghgenaaDoor
open Go Go.Sx Go.Oct Go.Poly
set_option linter.unusedVariables false

theorem digs_at {V n0 : Nat} (h : V < 256 ^ n0) (i : Nat) : (digs V n0).getD i 0 = V / 256 ^ i % 256 := by
  rw [digs_getD]
  by_cases hi : i < n0
  · rw [if_pos hi]
  · rw [if_neg hi, Nat.div_eq_of_lt (Nat.lt_of_lt_of_le h (Nat.pow_le_pow_right (by decide) (by omega)))]

theorem x_five (w : World) {a : Option Addr} {l c : Nat} (V n0 n : Nat) (hV : V < 256 ^ n0) (hn : n ≤ 900) (h : VsAt w a l (i64s (digs V n0))) : Calls Tryd.prog 36 #[.slice a l c, .int .i64 n] w (RetV w (i64s (digs (F5 V) n))) := by
  refine calls_retV (F36_calls _ _ _ _ _ _ ?_)
  refine ⟨fun m vs W => ∃ (i : Nat) (opt : List (Nat × Obj)) (a : Option Addr) (l c : Nat), vs = [.slice a l c, .int .i64 i] ∧ i + m = n ∧ OwnM opt 3 a l c (i64s (rawF V i)) ∧ Mem w [] (opt ++ []) (fun _ => True) W,
    ⟨n, 0, [], none, 0, 0, rfl, by omega, OwnM.nil, Mem.start w⟩, ?_⟩
  rintro m vs W ⟨i, opt, a1, l1, c1, rfl, hi, ho, M⟩
  refine ⟨_, _, _, _, rfl, fun _ => SplitK.of (fun hlt => ?_) (fun hlt => ?_)⟩
  · simp at hlt
    have hin : i < n := by omega
    have e16 : addI .i64 (i : Int) 16 = ((i + 16 : Nat) : Int) := addI_nat _ 16 (by omega)
    have e17 : addI .i64 (i : Int) 17 = ((i + 17 : Nat) : Int) := addI_nat _ 17 (by omega)
    rw [e16, e17]
    refine CallK.ret (x_at W (h.keep0 M.keep) (i + 16)) fun w2 k => ⟨_, rfl, by decide, ?_⟩
    have M := M.call k
    refine CallK.ret (x_at w2 (h.keep0 M.keep) (i + 17)) fun w3 k => ⟨_, rfl, by decide, ?_⟩
    have M := M.call k
    rw [digs_at hV, digs_at hV]
    have hd0 := Nat.mod_lt (V / 256 ^ (i + 16)) (show 0 < 256 by decide)
    have hd1 := Nat.mod_lt (V / 256 ^ (i + 17)) (show 0 < 256 by decide)
    have hh := high_digit V i
    have eh : addI .i64 (quoI .i64 ((V / 256 ^ (i + 16) % 256 : Nat) : Int) 4) (mulI .i64 (remI ((V / 256 ^ (i + 17) % 256 : Nat) : Int) 4) 64) = (((V / T130) / 256 ^ i % 256 : Nat) : Int) := by
      generalize V / 256 ^ (i + 16) % 256 = x at *
      generalize V / 256 ^ (i + 17) % 256 = y at *
      have q : quoI .i64 (x : Int) 4 = ((x / 4 : Nat) : Int) := quoI_nat x 4 (by omega)
      have r : remI (y : Int) 4 = ((y % 4 : Nat) : Int) := remI_nat y 4
      have mm : mulI .i64 ((y % 4 : Nat) : Int) 64 = ((y % 4 * 64 : Nat) : Int) := mulI_nat (y % 4) 64 (by omega)
      rw [q, r, mm, addI_nat _ _ (by omega), hh]
    have hdb := Nat.mod_lt ((V / T130) / 256 ^ i) (show 0 < 256 by decide)
    have hlb := Nat.mod_lt ((V % T130) / 256 ^ i) (show 0 < 256 by decide)
    intro K hK
    -- the low digit is known
    have fin : ∀ (x : Nat) (W2 : World), Mem w [] (opt ++ []) (fun _ => True) W2 → (V % T130) / 256 ^ i % 256 = x →
        NewK W2 (List.toArray [.int .i64 (addI .i64 (x : Int) (mulI .i64 5 (addI .i64 (quoI .i64 ((V / 256 ^ (i + 16) % 256 : Nat) : Int) 4) (mulI .i64 (remI ((V / 256 ^ (i + 17) % 256 : Nat) : Int) 4) 64))))]) 3 (fun b w6 => ∃ ys, OldAt w6 (some ⟨b, 0, none⟩) (mulN 1 1) ys ∧ ((some (Addr.mk b 0 none) = none → 1 = 0) ∧ AppK w6 3 1 8 [.int .i64 0] a1 l1 c1 ys 1 fun a2 l2 c2 w7 => ∃ m_1, m_1 < m ∧ ∃ (i_1 : Nat) (opt : List (Nat × Obj)) (a : Option Addr) (l c : Nat), ([.slice a2 l2 c2, .int .i64 (addI .i64 (i : Int) 1)] : List Value) = [.slice a l c, .int .i64 i_1] ∧ i_1 + m_1 = n ∧ OwnM opt 3 a l c (i64s (rawF V i_1)) ∧ Mem w [] (opt ++ []) (fun _ => True) w7)) := by
      intro x W2 M hx
      rw [eh]
      have m5 : mulI .i64 5 (((V / T130) / 256 ^ i % 256 : Nat) : Int) = ((5 * ((V / T130) / 256 ^ i % 256) : Nat) : Int) := mulI_nat 5 _ (by omega)
      rw [m5, addI_nat _ _ (by omega), ← hx]
      refine M.newK fun b w6 M => ⟨_, M.old1, ne1, ?_⟩
      refine Mem.appK M.tail ho rfl rfl (by rw [i64s_length, rawF_length]; omega) (by rw [i64s_length, rawF_length]; omega) ?_
      intro a' l' c' opt' w' ho' M' hl
      rw [i64s_snoc, ← rawF_succ] at ho'
      exact ⟨m - 1, by omega, i + 1, opt', a', l', c', by rw [addI_one (by omega)], by omega, ho', M'⟩
    have hlo := low_digit V i
    refine SplitK.of (fun h16 => ?_) (fun h16 => ?_)
    · simp at h16
      have h16 : i < 16 := by omega
      refine CallK.ret (x_at w3 (h.keep0 M.keep) i) fun w4 k => ⟨_, rfl, hK _ _ fun _ K1 hK1 => ?_⟩
      have M := M.call k
      refine SplitK.f (by rw [eqI_f]; omega) (hK1 _ _ fun _ => ?_)
      exact fin _ _ M (by rw [hlo, if_pos h16, digs_at hV])
    · simp at h16
      have h16 : ¬ i < 16 := by omega
      refine hK _ _ fun _ K1 hK1 => ?_
      refine SplitK.of (fun he => ?_) (fun he => ?_)
      · rw [eqI_t] at he
        have he : i = 16 := by omega
        refine CallK.ret (x_at w3 (h.keep0 M.keep) i) fun w4 k => ⟨_, rfl, by decide, ?_⟩
        have M := M.call k
        have r : remI (((digs V n0).getD i 0 : Nat) : Int) 4 = (((digs V n0).getD i 0 % 4 : Nat) : Int) := remI_nat _ 4
        rw [r]
        refine hK1 _ _ fun _ => fin _ _ M ?_
        rw [hlo, if_neg h16, if_pos he, digs_at hV, he]
      · rw [eqI_f] at he
        refine hK1 _ _ fun _ => fin 0 _ M ?_
        rw [hlo, if_neg h16, if_neg (by omega)]
  · simp at hlt
    have : i = n := by omega
    subst this
    have hv := ho.vsAt M
    refine CallK.retV (x_carried W hv (rawF_le V i) i (by omega)) fun a2 l2 c2 w2 hf k => ⟨_, _, _, rfl, ?_⟩
    rw [five_digs] at hf
    exact ⟨_, _, _, rfl, hf.mono M.keep.size, M.keep.trans0 k⟩

end Go.Proofs.YthpodgkmghgenaaDoor
