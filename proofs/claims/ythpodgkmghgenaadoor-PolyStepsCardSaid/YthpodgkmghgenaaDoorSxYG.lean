/-
  A part of the proof: YG.
-/
import Derived.Test.YthpodgkmghgenaaDoorSxYF
namespace Go.Proofs.YthpodgkmghgenaaDoor
open Go Go.Sx Go.Oct Go.Poly
set_option linter.unusedVariables false

/-- A text's part. -/
def partAt (s : List UInt8) (i : Nat) : List UInt8 := (s.drop (16 * i)).take 16 ++ [1]
def partCnt (s : List UInt8) : Nat := (s.length + 15) / 16
def partsV (s : List UInt8) (k : Nat) : List Value := (List.range k).map fun i => Value.string (bs (partAt s i))
theorem partsV_succ (s : List UInt8) (k : Nat) : partsV s k ++ [.string (bs (partAt s k))] = partsV s (k + 1) := by simp [partsV, List.range_succ]
theorem partsV_length (s : List UInt8) (k : Nat) : (partsV s k).length = k := by simp [partsV]

theorem x_Parts (w : World) (s : List UInt8) (hs : s.length ≤ 1000000) : Calls Tryd.prog 19 #[.string (bs s)] w (RetV w (partsV s (partCnt s))) := by
  refine calls_retV (F19_calls _ _ _ ?_)
  refine (Mem.start w).newK fun b w1 M => ⟨[1], M.bytes 0 (T := 5) (fr := (0, 0)) rfl rfl, ?_⟩
  have M := M.tail
  refine ⟨fun n vs w2 => ∃ (k : Nat) (opt : List (Nat × Obj)) (a : Option Addr) (l c : Nat), vs = [.string (bs (s.drop (16 * k))), .slice a l c] ∧ 16 * k + n = s.length ∧ (k = 0 ∨ 16 * k < s.length) ∧ OwnM opt 9 a l c (partsV s k) ∧ Mem w [] (opt ++ []) (fun _ => True) w2,
    ⟨s.length, 0, [], none, 0, 0, rfl, by omega, .inl rfl, OwnM.nil, M⟩, ?_⟩
  clear M
  rintro n vs w2 ⟨k, opt, a, l, c, rfl, hk, hk0, ho, M⟩
  refine ⟨_, a, l, c, rfl, fun _ => SplitK.of (fun hlt => ?_) (fun hlt => ?_)⟩
  · simp at hlt
    have hlt : 16 * k + 16 < s.length := by omega
    have e16 : intN 16 = 16 := rfl
    refine ⟨by decide, by simp; omega, ?_⟩
    rw [e16, cutS_bs, catS_bs, List.drop_zero]
    refine ⟨by simp; omega, ?_⟩
    refine M.newK fun b1 w3 M => ⟨_, M.old1, ne1, ?_⟩
    refine Mem.appK M.tail ho rfl rfl (by rw [partsV_length]; omega) (by rw [partsV_length]; omega) ?_
    intro a' l' c' opt' w' ho' M' hl
    refine ⟨by decide, by simp; omega, n - 16, by omega, k + 1, opt', a', l', c', ?_, by omega, .inr (by omega), ?_, M'⟩
    · rw [cutS_bs, sizeS_bs, List.take_length, List.drop_drop, show 16 * k + 16 = 16 * (k + 1) by omega]
    · rw [← partsV_succ]; exact ho'
  · simp at hlt
    have hlt : s.length ≤ 16 * k + 16 := by omega
    intro K hK
    refine SplitK.of (fun h => ?_) (fun h => ?_)
    · rw [lit_bs [], eqS_bs] at h
      have hne : s.drop (16 * k) ≠ [] := by simpa using h
      have hl0 : 16 * k < s.length := by
        rcases Nat.lt_or_ge (16 * k) s.length with h | h
        · exact h
        · exact absurd (List.drop_eq_nil_of_le h) hne
      rw [catS_bs]
      refine ⟨by simp; omega, ?_⟩
      refine M.newK fun b1 w3 M => ⟨_, M.old1, ne1, ?_⟩
      refine Mem.appK M.tail ho rfl rfl (by rw [partsV_length]; omega) (by rw [partsV_length]; omega) ?_
      intro a' l' c' opt' w' ho' M' hl
      have e1 : s.drop (16 * k) ++ [1] = partAt s k := by rw [partAt, List.take_of_length_le (by rw [List.length_drop]; omega)]
      have e2 : partCnt s = k + 1 := by unfold partCnt; omega
      rw [e1, partsV_succ, ← e2] at ho'
      exact hK _ _ _ _ fun _ => ⟨_, _, _, rfl, OwnM.freshV ho' M', M'.keep⟩
    · rw [lit_bs [], eqS_bs] at h
      have he : s.drop (16 * k) = [] := by simpa using h
      have hz := congrArg List.length he
      simp at hz
      have e2 : partCnt s = k := by unfold partCnt; omega
      rw [← e2] at ho
      exact hK _ _ _ _ fun _ => ⟨_, _, _, rfl, OwnM.freshV ho M, M.keep⟩

end Go.Proofs.YthpodgkmghgenaaDoor
