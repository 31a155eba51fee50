/-
  A part of the proof: YH.
-/
import Derived.Test.YthpodgkmghgenaaDoorSxYG
namespace Go.Proofs.YthpodgkmghgenaaDoor
open Go Go.Sx Go.Oct Go.Poly
set_option linter.unusedVariables false

def boxS (s : List UInt8) : Obj := .cells (List.toArray [.string (bs s)]) 9 (0, 0)
def rowO (a : Option Addr) (l c : Nat) : Obj := .cells (List.toArray [.slice a l c]) 30 (0, 0)

theorem p_Parts (w : World) (s : List UInt8) (hs : s.length ≤ 1000000) : Calls Tryd.prog 18 #[.string (bs s)] w (RetV w (partsV s (partCnt s))) := by
  refine calls_retV (F18_calls _ _ _ ?_)
  refine (Mem.start w).newK fun b w1 M => ?_
  refine Calls.mono (F33_calls (bs s) w1 (fun v w' => ∃ B0, v = .func (.func 45) #[] #[.pointer (some ⟨B0, 0, none⟩)] ∧ Mem w [] ((B0, boxS s) :: (b, rowO none 0 0) :: []) (fun _ => True) w') ?_) ?_
  · exact M.newK fun B0 w4 M => ⟨B0, rfl, M⟩
  rintro e w2 ⟨v, rfl, B0, rfl, M⟩
  refine ⟨_, rfl, ?_⟩
  intro D l rec w3 hD hl hw3 hround
  have M := M.enterE hD hl hw3
  have M : Mem w [] ([(l, rec .ready none), (D, .deferred (some [])), (B0, boxS s), (b, rowO none 0 0)] ++ []) (fun _ => True) w3 := M
  refine FnK.fn rfl ?_
  refine Calls.mono (F45_calls (.func (.yield l) #[] #[]) (some ⟨B0, 0, none⟩) w3 (fun v w' => ∃ (a : Option Addr) (l' c : Nat) (opt : List (Nat × Obj)), OwnM opt 9 a l' c (partsV s (partCnt s)) ∧
      Mem w [] ([(l, rec .ready none), (D, .deferred (some [])), (B0, boxS []), (b, rowO a l' c)] ++ opt) (fun _ => True) w') ?_) ?_
  · refine ⟨fun m vs W => vs = [] ∧ ∃ (i : Nat) (a : Option Addr) (l' c : Nat) (opt : List (Nat × Obj)), m + i = partCnt s ∧ OwnM opt 9 a l' c (partsV s i) ∧
      Mem w [] ([(l, rec .ready none), (D, .deferred (some [])), (B0, boxS (s.drop (16 * i))), (b, rowO a l' c)] ++ opt) (fun _ => True) W, ⟨partCnt s, rfl, 0, none, 0, 0, [], by omega, OwnM.nil, M⟩, ?_⟩
    clear M
    rintro m vs W ⟨rfl, i, a, l', c, opt, hmi, ho, M⟩
    have hcnt : partCnt s = (s.length + 15) / 16 := rfl
    refine ⟨rfl, fun _ => ⟨_, M.cell 2 (c := [.string (bs (s.drop (16 * i)))]) (off := 0) rfl rfl, ?_⟩⟩
    refine SplitK.of (fun hlt => ?_) (fun hlt => ?_)
    · simp at hlt
      have hlt : 16 * i < s.length := by omega
      have em : minI (natI (sizeS (bs (s.drop (16 * i))))) 16 = ((min (s.length - 16 * i) 16 : Nat) : Int) := by rw [sizeS_bs, List.length_drop]; exact minI_nat _ 16
      have en : intN ((min (s.length - 16 * i) 16 : Nat) : Int) = min (s.length - 16 * i) 16 := rfl
      refine ⟨_, M.cell 2 (c := [.string (bs (s.drop (16 * i)))]) (off := 0) rfl rfl, _, M.cell 2 (c := [.string (bs (s.drop (16 * i)))]) (off := 0) rfl rfl, ?_⟩
      rw [em, en, cutS_bs, lit_bs [1], catS_bs, List.drop_zero]
      have ep : (s.drop (16 * i)).take (min (s.length - 16 * i) 16) ++ [1] = partAt s i := by
        rw [partAt]
        congr 1
        rw [List.take_eq_take_iff, List.length_drop]; omega
      rw [ep]
      refine ⟨by omega, by simp; omega, by simp; omega, ?_⟩
      refine FnK.yield (hround _ _ _ (M.hget 0 rfl) ⟨M.hget 0 rfl, ?_⟩)
      rintro w5 rfl
      have M := M.put 0 (rec .busy none) rfl
      have M : Mem w [] ([(l, rec .busy none), (D, .deferred (some [])), (B0, boxS (s.drop (16 * i))), (b, rowO a l' c)] ++ opt) (fun _ => True) _ := M
      refine ⟨a, l', c, M.cell 3 (c := [.slice a l' c]) (off := 0) rfl rfl, ?_⟩
      refine M.newK fun b1 w6 M => ⟨_, M.old1, ne1, ?_⟩
      have M := M.tail.perm (List.perm_append_comm)
      refine Mem.appK M ho rfl rfl (by rw [partsV_length]; omega) (by rw [partsV_length]; omega) ?_
      intro a2 l2 c2 opt2 w7 ho2 M hl2
      rw [partsV_succ] at ho2
      have M : Mem w [] ([(l, rec .busy none), (D, .deferred (some [])), (B0, boxS (s.drop (16 * i))), (b, rowO a l' c)] ++ opt2) (fun _ => True) w7 := M.perm (List.perm_append_comm (l₁ := opt2))
      refine M.stK 3 (off := 0) (c := [.slice a l' c]) rfl (by simp) rfl fun w8 M => ⟨M.hget 0 rfl, ?_⟩
      rintro w9 rfl
      have M := M.put 0 (rec .ready none) rfl
      have M : Mem w [] ([(l, rec .ready none), (D, .deferred (some [])), (B0, boxS (s.drop (16 * i))), (b, rowO a2 l2 c2)] ++ opt2) (fun _ => True) _ := M
      refine ⟨true, rfl, _, M.cell 2 (c := [.string (bs (s.drop (16 * i)))]) (off := 0) rfl rfl, by omega, by simp; omega, ?_⟩
      have ed : cutS (bs (s.drop (16 * i))) (min (s.length - 16 * i) 16) (sizeS (bs (s.drop (16 * i)))) = bs (s.drop (16 * (i + 1))) := by
        rw [cutS_bs, sizeS_bs, List.take_length, List.drop_drop]
        congr 1
        by_cases h : 16 ≤ s.length - 16 * i
        · rw [Nat.min_eq_right h]; rfl
        · rw [List.drop_eq_nil_of_le (by omega), List.drop_eq_nil_of_le (by omega)]
      rw [ed]
      refine M.stK 2 (off := 0) (c := [.string (bs (s.drop (16 * i)))]) rfl (by simp) rfl fun w10 M => ?_
      exact ⟨m - 1, by omega, rfl, i + 1, a2, l2, c2, opt2, by omega, ho2, M⟩
    · simp at hlt
      have hi : i = partCnt s := by omega
      subst hi
      have e0 : s.drop (16 * partCnt s) = [] := List.drop_eq_nil_of_le (by omega)
      rw [e0] at M
      exact ⟨a, l', c, opt, ho, M⟩
  · rintro e w4 ⟨v, rfl, a, l', c, opt, ho, M⟩
    refine ⟨_, rfl, none, M.hget 0 rfl, ?_⟩
    rintro w5 rfl
    have M := M.put 0 (rec .exhausted none) rfl
    have M : Mem w [] ([(l, rec .exhausted none), (D, .deferred (some [])), (B0, boxS []), (b, rowO a l' c)] ++ opt) (fun _ => True) _ := M
    refine ⟨a, l', c, M.cell 3 (c := [.slice a l' c]) (off := 0) rfl rfl, M.hget 1 rfl, ?_⟩
    rintro w6 rfl
    have M := M.put 1 (.deferred none) rfl
    have M : Mem w [] ([(l, rec .exhausted none), (D, .deferred none), (B0, boxS []), (b, rowO a l' c)] ++ opt) (fun _ => True) _ := M
    have M := M.perm (List.perm_append_comm)
    exact ⟨_, _, _, rfl, OwnM.freshV ho M, M.keep⟩

end Go.Proofs.YthpodgkmghgenaaDoor
