/-
  A part of the proof: ZB.
-/
import Derived.Test.YthpodgkmghgenaaDoorSxZA
namespace Go.Proofs.YthpodgkmghgenaaDoor
open Go Go.Sx Go.Oct Go.Poly
set_option linter.unusedVariables false

theorem x_digits (w : World) (s : List UInt8) (hs : s.length ≤ 1000000) : Calls Tryd.prog 24 #[.string (bs s)] w (RetV w (i64s (digs (num s) 17))) := by
  refine calls_retV (F24_calls _ _ _ ?_)
  refine ⟨fun m vs W => ∃ (i : Nat) (opt : List (Nat × Obj)) (a : Option Addr) (l c : Nat), vs = [.slice a l c, .int .i64 i] ∧ i + m = 17 ∧ OwnM opt 3 a l c (i64s (digs (num s) i)) ∧ Mem w [] (opt ++ []) (fun _ => True) W,
    ⟨17, 0, [], none, 0, 0, rfl, by omega, OwnM.nil, Mem.start w⟩, ?_⟩
  rintro m vs W ⟨i, opt, a, l, c, rfl, hi, ho, M⟩
  refine ⟨_, _, _, _, rfl, fun _ => SplitK.of (fun hlt => ?_) (fun hlt => ?_)⟩
  · simp at hlt
    have hi17 : i < 17 := by omega
    intro K hK
    have hd : num s / 256 ^ i % 256 = ((s.take 17).getD i 0).toNat := valL_digit _ _
    have fin : ∀ x : Nat, num s / 256 ^ i % 256 = x → NewK W (List.toArray [.int .i64 (x : Int)]) 3 (fun b w2 => ∃ ys, OldAt w2 (some ⟨b, 0, none⟩) (mulN 1 1) ys ∧ ((some (Addr.mk b 0 none) = none → 1 = 0) ∧ AppK w2 3 1 8 [.int .i64 0] a l c ys 1 fun a1 l1 c1 w3 => K [.slice a1 l1 c1] w3)) := by
      intro x hx
      refine M.newK fun b w3 M => ⟨_, M.old1, ne1, ?_⟩
      refine Mem.appK M.tail ho rfl rfl (by rw [i64s_length, digs_length]; omega) (by rw [i64s_length, digs_length]; omega) ?_
      intro a' l' c' opt' w' ho' M' hl
      rw [i64s_snoc, ← hx, ← digs_succ] at ho'
      exact hK _ _ _ _ fun _ => ⟨m - 1, by omega, i + 1, opt', a', l', c', by rw [addI_one (by omega)], by omega, ho', M'⟩
    refine SplitK.of (fun hb => ?_) (fun hb => ?_)
    · simp at hb
      have hb : i < s.length := by omega
      refine ⟨by omega, byteAt (by simp only [intN_eq, Int.toNat_natCast]; omega) ?_⟩
      simp only [intN_eq, Int.toNat_natCast, byteI_eq]
      rw [wrapI_i64 _ (by have := s[i].toNat_lt; omega)]
      refine fin _ ?_
      rw [hd, List.getD_eq_getElem?_getD, List.getElem?_take, if_pos hi17, List.getElem?_eq_getElem hb, Option.getD_some]
    · simp at hb
      have hb : s.length ≤ i := by omega
      refine fin 0 ?_
      rw [hd, List.getD_eq_getElem?_getD, List.getElem?_take, if_pos hi17, List.getElem?_eq_none hb]; rfl
  · simp at hlt
    have : i = 17 := by omega
    subst this
    exact ⟨_, _, _, rfl, OwnM.freshV ho M, M.keep⟩

end Go.Proofs.YthpodgkmghgenaaDoor
