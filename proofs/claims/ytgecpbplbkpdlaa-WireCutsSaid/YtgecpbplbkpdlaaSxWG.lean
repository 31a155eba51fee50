/-
  A part of the proof: WG.
-/
import Derived.Test.YtgecpbplbkpdlaaSxWF
namespace Go.Proofs.Ytgecpbplbkpdlaa
open Go Go.Sx Go.Oct Go.Wire
set_option linter.unusedVariables false

theorem x_Join12 (w : World) {a : Option Addr} {l c : Nat} {xs : List (List UInt8)} (h : VsAt w a l (strs xs)) (hx : (joinL xs).length ≤ 10000000) : Calls Try.prog 34 #[.slice a l c] w (Ret w (.string (bs (joinL xs)))) := by
  refine calls_ret (F34_calls _ _ _ _ _ ?_)
  have hl : l = xs.length := by have := h.1; rwa [strs_length] at this
  have hcnt : xs.length ≤ (joinL xs).length := by
    have := splitL_cnt (splitL_joinL xs); omega
  refine ⟨fun n vs W => ∃ k : Nat, vs = [.string (bs (joinL (xs.take k))), .int .i64 k] ∧ k + n = xs.length ∧ Keep [] w W, ⟨xs.length, 0, rfl, by omega, Keep.refl _ _⟩, ?_⟩
  rintro n vs W ⟨k, rfl, hk, kk⟩
  refine ⟨_, _, rfl, fun _ => SplitK.of (fun hlt => ?_) (fun hlt => ?_)⟩
  · simp at hlt
    have hkx : k < xs.length := by omega
    rintro w2 rfl
    have ej : joinL xs = joinL (xs.take k) ++ joinL (xs.drop k) := by rw [← joinL_append, List.take_append_drop]
    have ej2 : joinL (xs.drop k) = 4 :: (encB xs[k] ++ joinL (xs.drop (k + 1))) := by rw [List.drop_eq_getElem_cons hkx, joinL]
    have el := congrArg List.length ej
    rw [ej2] at el
    simp only [List.length_append, List.length_cons] at el
    have hv : VsAt W.drew a l (strs xs) := h.keep0 kk.drew
    obtain ⟨p, hp, hc⟩ := VsAt.ptr hv (by rw [strs_length]; omega)
    refine ⟨fun W' => CellsAt W' p (strs xs), hc, by omega, by simp; omega, SomeK.of p hp ⟨_, fun w' h => by rw [addA_int]; exact h k _ (strs_at hkx), ?_⟩⟩
    have hel := encB_len xs[k]
    refine CallK.ret (x_byteOf _ 4 (by decide)) fun w3 k3 => ⟨_, rfl, hc.keep k3 (by simp), ?_⟩
    rw [catS_bs]
    refine ⟨by simp; omega, ?_⟩
    refine CallK.ret (x_encText w3 xs[k] (by omega)) fun w4 k4 => ⟨_, rfl, ?_⟩
    rw [catS_bs]
    refine ⟨by simp; omega, n - 1, by omega, k + 1, ?_, by omega, kk.drew.trans0 k3 |>.trans0 k4⟩
    rw [addI_one (by omega), List.take_succ_eq_append_getElem hkx, joinL_append]
    simp [joinL]
  · simp at hlt
    obtain rfl : k = xs.length := by omega
    rw [List.take_length]
    exact ⟨rfl, kk⟩

theorem drop_back {t u v : List UInt8} (h : t = u ++ v) : t.drop (t.length - v.length) = v := by
  subst h
  rw [List.length_append, Nat.add_sub_cancel, List.drop_left]

theorem x_Split12 (w : World) (s : List UInt8) (hs : s.length ≤ 1000000) :
    Calls Try.prog 38 #[.string (bs s)] w (fun e w' => Keep [] w w' ∧ match splitL s with
      | some xs => ∃ a l c, e = .returned (.tuple #[.slice a l c, .int .i64 0]) ∧ Fresh w.heap.size w' (fun w => VsAt w a l (strs xs))
      | none => e = .returned (.tuple #[.slice none 0 0, .int .i64 5])) := by
  refine Calls.mono (F38_calls (bs s) w (fun v w' => Keep [] w w' ∧ match splitL s with
      | some xs => ∃ a l c, v = .tuple #[.slice a l c, .int .i64 0] ∧ Fresh w.heap.size w' (fun w => VsAt w a l (strs xs))
      | none => v = .tuple #[.slice none 0 0, .int .i64 5]) ?_) ?_
  · refine ⟨fun n vs W => ∃ (k : Nat) (xs : List (List UInt8)) (opt : List (Nat × Obj)) (a : Option Addr) (l c : Nat), vs = [.slice a l c, .int .i64 k] ∧ k + n = s.length ∧ xs.length ≤ k ∧ splitL s = (splitL (s.drop k)).map (xs ++ ·) ∧ OwnM opt 9 a l c (strs xs) ∧ Mem w [] (opt ++ []) (fun _ => True) W,
      ⟨s.length, 0, [], [], none, 0, 0, rfl, by omega, by simp, by cases h : splitL s <;> simp [h], OwnM.nil, Mem.start w⟩, ?_⟩
    rintro n vs W ⟨k, xs, opt, a, l, c, rfl, hk, hxk, hsp, ho, M⟩
    refine ⟨_, _, _, _, rfl, fun _ => SplitK.of (fun hlt => ?_) (fun hlt => ?_)⟩
    · simp only [sizeS_bs, natI_eq, ltI_t] at hlt
      have hks : k < s.length := by omega
      have ed : s.drop k = s[k] :: s.drop (k + 1) := List.drop_eq_getElem_cons hks
      rw [ed, splitL_cons] at hsp
      rw [addI_one (by omega)]
      refine (x_text12 W s (k + 1) (by omega) (by omega)).mono ?_
      rintro e w2 ⟨v, rfl, k2, hseen⟩
      cases hd : decB (s.drop (k + 1)) with
      | none =>
        rw [hd] at hseen hsp
        have hnone : splitL s = none := by rw [hsp]; split <;> rfl
        have M := M.call k2
        rw [show v = _ from hseen]
        refine ⟨_, _, _, _, _, rfl, ?_⟩
        refine M.newK fun b w3 M => M.stK 0 (c := [.slice none 0 0, .int .i64 0, .bool false]) rfl (by simp) rfl fun w4 M => ?_
        intro K hK
        have out : ∀ w5, Keep [] w w5 → K [.bool true] w5 := fun w5 k5 => hK _ _ fun _ => SplitK.t rfl ⟨k5, by rw [hnone]⟩
        refine ⟨by omega, byteAt (by simp only [intN_eq, Int.toNat_natCast]; exact hks) (SplitK.of (fun _ => out _ M.keep) fun _ => ⟨_, M.cellA 0 (c := [.slice none 0 0, .int .i64 0, .bool true]) rfl rfl, out _ M.keep⟩)⟩
      | some p =>
        rw [hd] at hseen hsp
        obtain ⟨g, hv, hf⟩ := hseen
        rw [hv]
        have hlen := decB_len (x := p.1) (r := p.2) hd
        rw [List.length_drop] at hlen
        refine ⟨_, _, _, _, _, rfl, ?_⟩
        have M := M.callF k2 hf
        refine M.newK fun b w3 M => M.stK 0 (c := [.slice none 0 0, .int .i64 0, .bool false]) rfl (by simp) rfl fun w4 M => ?_
        have M : Mem w [] ((b, .cells (List.toArray [.slice (some ⟨g, 0, none⟩) 1 1, .int .i64 ((s.length - p.2.length : Nat) : Int), .bool false]) 107 (0, 0)) :: (opt ++ [])) (fun W => True ∧ CellsAt W ⟨g, 0, none⟩ [.int .i64 3, .int .i64 0, .string (bs p.1), .int .i64 0]) w4 := M
        intro K hK
        refine ⟨by omega, byteAt (by simp only [intN_eq, Int.toNat_natCast]; exact hks) ?_⟩
        simp only [intN_eq, Int.toNat_natCast]
        rw [byteE4]
        refine SplitK.of (fun h4 => ?_) (fun h4 => ?_)
        · simp only [notB_t, decide_eq_false_iff_not] at h4
          rw [if_neg h4] at hsp
          exact hK _ _ fun _ => SplitK.t rfl ⟨M.keep, by rw [hsp]; rfl⟩
        · simp only [notB_f, decide_eq_true_eq] at h4
          rw [if_pos h4] at hsp
          refine ⟨_, M.cellA 0 (c := [.slice (some ⟨g, 0, none⟩) 1 1, .int .i64 ((s.length - p.2.length : Nat) : Int), .bool false]) rfl rfl, hK _ _ fun _ => SplitK.f rfl ?_⟩
          refine ⟨_, _, _, M.cellA 0 (c := [.slice (some ⟨g, 0, none⟩) 1 1, .int .i64 ((s.length - p.2.length : Nat) : Int), .bool false]) rfl rfl, by decide, by decide, SomeK.of _ rfl ⟨bs p.1, ?_, ?_⟩⟩
          · have := M.now.2 2 _ rfl
            rw [addr_add] at this
            rw [addA_mk, addA_mk]
            exact this
          · refine M.newK fun b3 w6 M => ⟨_, M.old1, ne1, ?_⟩
            have M2 : Mem w [] (opt ++ [(b, .cells (List.toArray [.slice (some ⟨g, 0, none⟩) 1 1, .int .i64 ((s.length - p.2.length : Nat) : Int), .bool false]) 107 (0, 0))]) (fun W => True ∧ CellsAt W ⟨g, 0, none⟩ [.int .i64 3, .int .i64 0, .string (bs p.1), .int .i64 0]) w6 := M.tail.perm (by
              rw [List.append_nil]; exact List.perm_append_comm (l₁ := [_]))
            refine Mem.appK M2 ho rfl rfl (by rw [strs_length]; omega) (by rw [strs_length]; omega) ?_
            intro a' l' c' opt' w7 ho' M' hl'
            have M3 : Mem w [] ([(b, .cells (List.toArray [.slice (some ⟨g, 0, none⟩) 1 1, .int .i64 ((s.length - p.2.length : Nat) : Int), .bool false]) 107 (0, 0))] ++ opt') _ w7 := M'.perm List.perm_append_comm
            refine ⟨_, M3.cellA 0 (c := [.slice (some ⟨g, 0, none⟩) 1 1, .int .i64 ((s.length - p.2.length : Nat) : Int), .bool false]) rfl rfl, n - (s.length - p.2.length - k), by omega, s.length - p.2.length, xs ++ [p.1], opt', a', l', c', rfl, by omega, by simp; omega, ?_, ?_, ?_⟩
            · have e : s.drop (s.length - p.2.length) = p.2 := by
                have h1 := encB_decB _ _ _ hd
                have h2 : s = s.take (k + 1) ++ (encB p.1 ++ p.2) := by rw [← h1, List.take_append_drop]
                have h3 : s = (s.take (k + 1) ++ encB p.1) ++ p.2 := by rw [List.append_assoc]; exact h2
                exact drop_back h3
              rw [e, hsp]
              show Option.map _ (Option.map _ (splitL p.2)) = _
              cases splitL p.2 <;> simp
            · rw [← strs_snoc]; exact ho'
            · rw [List.append_nil]
              exact (M'.sub (List.sublist_append_left _ _)).imp (fun _ _ => trivial)
    · simp only [sizeS_bs, natI_eq, ltI_f] at hlt
      rw [List.drop_of_length_le (by omega), splitL_nil] at hsp
      refine ⟨M.keep, ?_⟩
      rw [hsp, Option.map_some, List.append_nil]
      exact ⟨a, l, c, rfl, ho.freshV M⟩
  · rintro e w' ⟨v, rfl, hk, hres⟩
    refine ⟨hk, ?_⟩
    cases hsp : splitL s with
    | none => rw [hsp] at hres; rw [hres]
    | some xs =>
      rw [hsp] at hres
      obtain ⟨a, l, c, hv, hf⟩ := hres
      exact ⟨a, l, c, by rw [hv], hf⟩

end Go.Proofs.Ytgecpbplbkpdlaa
