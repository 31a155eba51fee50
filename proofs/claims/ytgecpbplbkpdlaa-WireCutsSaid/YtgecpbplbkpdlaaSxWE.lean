/-
  A part of the proof: WE.
-/
import Derived.Test.YtgecpbplbkpdlaaSxWD
import Derived.Test.YtgecpbplbkpdlaaSxCC
namespace Go.Proofs.Ytgecpbplbkpdlaa
open Go Go.Sx Go.Oct Go.Wire
set_option linter.unusedVariables false

/-- A writer's block: fresh, or written to. -/
def wrt (b : Nat) (used : Bool) (a : Option Addr) (l c : Nat) : Obj :=
  .cells (List.toArray [if used then .pointer (some ⟨b, 0, none⟩) else .pointer none, .slice a l c, .slice none 0 0]) 121 (0, 0)
/-- What a writer holds, in a block of the caller's. -/
def WrAt (b : Nat) (x : List UInt8) (opt : List (Nat × Obj)) (o : Obj) : Prop := (x = [] → opt = []) ∧ ∃ used a l c, o = wrt b used a l c ∧ OwnM opt 5 a l c (byteVs x)

theorem w_copyCheck (w : World) (b : Nat) (used : Bool) (a : Option Addr) (l c : Nat) (hb : w.heap[b]? = some (wrt b used a l c)) :
    Calls Try.prog 77 #[.pointer (some ⟨b, 0, none⟩)] w (fun e w' => e = .returned (.tuple #[]) ∧ Keep [b] w w' ∧ w'.heap[b]? = some (wrt b true a l c)) := by
  cases used
  · have hb' : w.heap[b]? = some (.cells (List.toArray [.pointer none, .slice a l c, .slice none 0 0]) 121 (0, 0)) := hb
    refine (w_copyCheck_fresh b w (cell_of_block hb' rfl) (by simp [World.shape?, hb']) (frozen_of_block hb' (by simp))).mono ?_
    rintro e w' ⟨rfl, rfl⟩
    refine ⟨rfl, keep_set w b _, ?_⟩
    exact (setCell_heap (off := 0) (v := .pointer (some ⟨b, 0, none⟩)) hb')
  · have hb' : w.heap[b]? = some (.cells (List.toArray [.pointer (some ⟨b, 0, none⟩), .slice a l c, .slice none 0 0]) 121 (0, 0)) := hb
    refine (w_copyCheck_used b w (cell_of_block hb' rfl)).mono ?_
    rintro e w' ⟨rfl, rfl⟩
    exact ⟨rfl, Keep.refl _ _, hb⟩

/-- A byte more. -/
theorem w_WriteByte {w0 w : World} {lo : List Nat} {F : World → Prop} {m opt : List (Nat × Obj)} {b : Nat} {x : List UInt8} {o : Obj} (y : UInt8) {R : Ending → World → Prop}
    (M : Mem w0 lo ([(b, o)] ++ (opt ++ m)) F w) (ho : WrAt b x opt o) (hx : x.length ≤ 100000000)
    (h : ∀ o' opt' w', WrAt b (x ++ [y]) opt' o' → Mem w0 lo ([(b, o')] ++ (opt' ++ m)) F w' → R (.returned .nilIface) w') :
    CallK Try.prog 68 #[.pointer (some ⟨b, 0, none⟩), .int .u8 (byteI y)] w R := by
  obtain ⟨_, used, a, l, c, rfl, ho⟩ := ho
  refine Calls.mono (F68_calls (some ⟨b, 0, none⟩) (byteI y) w (fun v w' => v = .nilIface ∧ ∃ o' opt', WrAt b (x ++ [y]) opt' o' ∧ Mem w0 lo ([(b, o')] ++ (opt' ++ m)) F w') ?_) ?_
  · refine (w_copyCheck w b used a l c (M.hget 0 rfl)).mono ?_
    rintro e w1 ⟨rfl, hk, hob⟩
    have M := M.write 0 rfl hk hob
    have M : Mem w0 lo ([(b, wrt b true a l c)] ++ (opt ++ m)) F w1 := M
    refine ⟨rfl, SomeK.of _ rfl ⟨a, l, c, M.cellA 0 (c := [.pointer (some ⟨b, 0, none⟩), .slice a l c, .slice none 0 0]) rfl rfl, ?_⟩⟩
    refine M.newK fun b2 w2 M => ⟨_, M.old1, ne1, ?_⟩
    have M2 : Mem w0 lo (opt ++ ([(b, wrt b true a l c)] ++ m)) F w2 := M.tail.perm (by
      rw [← List.append_assoc, ← List.append_assoc]; exact List.perm_append_comm.append_right _)
    refine Mem.appK M2 ho rfl rfl (by simp [byteVs]; omega) (by simp [byteVs]; omega) ?_
    intro a' l' c' opt' w3 ho' M' hl'
    have M' : Mem w0 lo ([(b, wrt b true a l c)] ++ (opt' ++ m)) F w3 := M'.perm (by
      rw [← List.append_assoc, ← List.append_assoc]; exact List.perm_append_comm.append_right _)
    refine SomeK.of _ rfl (M'.stA 0 (c := [.pointer (some ⟨b, 0, none⟩), .slice a l c, .slice none 0 0]) rfl (by simp) rfl fun w4 M => ?_)
    refine ⟨rfl, _, opt', ⟨fun h => by simp at h, true, a', l', c', rfl, ?_⟩, M⟩
    have e : byteVs x ++ [byteV y] = byteVs (x ++ [y]) := by simp [byteVs]
    rw [← e]; exact ho'
  · rintro e w' ⟨v, rfl, rfl, o', opt', ho', M'⟩
    exact h o' opt' w' ho' M'

/-- A text more. -/
theorem w_WriteString {w0 w : World} {lo : List Nat} {F : World → Prop} {m opt : List (Nat × Obj)} {b : Nat} {x : List UInt8} {o : Obj} (y : List UInt8) {R : Ending → World → Prop}
    (M : Mem w0 lo ([(b, o)] ++ (opt ++ m)) F w) (ho : WrAt b x opt o) (hy : y ≠ []) (hx : x.length + y.length ≤ 100000000)
    (h : ∀ o' opt' w', WrAt b (x ++ y) opt' o' → Mem w0 lo ([(b, o')] ++ (opt' ++ m)) F w' → R (.returned (.tuple #[.int .i64 (natI (sizeS (bs y))), .nilIface])) w') :
    CallK Try.prog 78 #[.pointer (some ⟨b, 0, none⟩), .string (bs y)] w R := by
  obtain ⟨_, used, a, l, c, rfl, ho⟩ := ho
  refine Calls.mono (F78_calls (some ⟨b, 0, none⟩) (bs y) w (fun v w' => v = .tuple #[.int .i64 (natI (sizeS (bs y))), .nilIface] ∧ ∃ o' opt', WrAt b (x ++ y) opt' o' ∧ Mem w0 lo ([(b, o')] ++ (opt' ++ m)) F w') ?_) ?_
  · refine (w_copyCheck w b used a l c (M.hget 0 rfl)).mono ?_
    rintro e w1 ⟨rfl, hk, hob⟩
    have M := M.write 0 rfl hk hob
    have M : Mem w0 lo ([(b, wrt b true a l c)] ++ (opt ++ m)) F w1 := M
    refine ⟨rfl, SomeK.of _ rfl ⟨a, l, c, M.cellA 0 (c := [.pointer (some ⟨b, 0, none⟩), .slice a l c, .slice none 0 0]) rfl rfl, ?_⟩⟩
    have M2 : Mem w0 lo (opt ++ ([(b, wrt b true a l c)] ++ m)) F w1 := M.perm (by
      rw [← List.append_assoc, ← List.append_assoc]; exact List.perm_append_comm.append_right _)
    have eb : bytesL (bs y) = byteVs y := by simp [bytesL, byteVs, bs]
    rw [eb, sizeS_bs]
    refine Mem.appK M2 ho (by simp [byteVs]) (byteVs_isCell y) (by simp [byteVs]; omega) (by simp [byteVs]; omega) ?_
    intro a' l' c' opt' w3 ho' M' hl'
    have M' : Mem w0 lo ([(b, wrt b true a l c)] ++ (opt' ++ m)) F w3 := M'.perm (by
      rw [← List.append_assoc, ← List.append_assoc]; exact List.perm_append_comm.append_right _)
    refine SomeK.of _ rfl (M'.stA 0 (c := [.pointer (some ⟨b, 0, none⟩), .slice a l c, .slice none 0 0]) rfl (by simp) rfl fun w4 M => ?_)
    refine ⟨rfl, _, opt', ⟨fun h => absurd (List.append_eq_nil_iff.1 h).2 hy, true, a', l', c', rfl, ?_⟩, M⟩
    have e : byteVs x ++ byteVs y = byteVs (x ++ y) := by simp [byteVs]
    rw [← e]; exact ho'
  · rintro e w' ⟨v, rfl, rfl, o', opt', ho', M'⟩
    exact h o' opt' w' ho' M'

theorem encB_take (s : List UInt8) (k : Nat) (hk : k < s.length) : ∀ (x : List UInt8), x ++ (encB (s.drop k)) = x ++ (if s[k] = 0 then [0, 255] else [s[k]]) ++ encB (s.drop (k + 1)) := by
  intro x
  rw [List.drop_eq_getElem_cons hk, encB, List.append_assoc]

/-- A text, escaped, more. -/
theorem w_wtext {w0 w : World} {lo : List Nat} {F : World → Prop} {m opt : List (Nat × Obj)} {b : Nat} {x : List UInt8} {o : Obj} (y : List UInt8) {R : Ending → World → Prop}
    (M : Mem w0 lo ([(b, o)] ++ (opt ++ m)) F w) (ho : WrAt b x opt o) (hx : x.length + (encB y).length ≤ 100000000)
    (h : ∀ o' opt' w', WrAt b (x ++ encB y) opt' o' → Mem w0 lo ([(b, o')] ++ (opt' ++ m)) F w' → R (.returned (.tuple #[])) w') :
    CallK Try.prog 69 #[.pointer (some ⟨b, 0, none⟩), .string (bs y)] w R := by
  refine Calls.mono (F69_calls (some ⟨b, 0, none⟩) (bs y) w (fun v w' => v = .tuple #[] ∧ ∃ o' opt', WrAt b (x ++ encB y) opt' o' ∧ Mem w0 lo ([(b, o')] ++ (opt' ++ m)) F w') ?_) ?_
  · refine ⟨fun n vs W => ∃ (k : Nat) (x1 : List UInt8) (o : Obj) (opt : List (Nat × Obj)), vs = [.int .i64 k] ∧ k + n = y.length ∧ x1 ++ encB (y.drop k) = x ++ encB y ∧ WrAt b x1 opt o ∧ Mem w0 lo ([(b, o)] ++ (opt ++ m)) F W, ⟨y.length, 0, x, o, opt, rfl, by omega, rfl, ho, M⟩, ?_⟩
    clear M ho
    rintro n vs W ⟨k, x1, o, opt, rfl, hk, he, ho, M⟩
    have hlen := congrArg List.length he
    rw [List.length_append, List.length_append] at hlen
    have hl1 := encB_len y
    have hl2 := encB_len (y.drop k)
    refine ⟨_, rfl, fun _ => SplitK.of (fun hlt => ?_) (fun hlt => ?_)⟩
    · simp at hlt
      have hky : k < y.length := by omega
      have hes := encB_take y k hky x1
      rw [he] at hes
      intro K hK
      rintro w2 rfl
      have M := M.drew
      have fin : ∀ x2 o' opt' w', x2 = x1 ++ (if y[k] = 0 then [0, 255] else [y[k]]) → WrAt b x2 opt' o' → Mem w0 lo ([(b, o')] ++ (opt' ++ m)) F w' → K [] w' := by
        intro x2 o' opt' w' hx2 ho' M'
        refine hK _ fun _ => ⟨n - 1, by omega, k + 1, x2, o', opt', by rw [addI_one (by omega)], by omega, ?_, ho', M'⟩
        rw [hx2, ← hes]
      refine SomeK.of _ rfl ⟨by omega, byteAt (by simp only [intN_eq, Int.toNat_natCast]; omega) ?_⟩
      simp only [intN_eq, Int.toNat_natCast]
      rw [addA_mk]
      have hb0 : ∀ z : UInt8, eqI (byteI z) 0 = decide (z = 0) := by
        intro z
        rw [Bool.eq_iff_iff, eqI_t, decide_eq_true_eq, byteI_eq]
        constructor
        · intro h
          have h : z.toNat = 0 := by omega
          exact UInt8.toNat_inj.1 (by rw [h]; rfl)
        · intro h; rw [h]; rfl
      refine w_WriteByte y[k] M ho (by omega) fun o' opt' w3 ho' M' => ⟨_, rfl, by omega, byteAt hky ?_⟩
      rw [hb0]
      refine SplitK.of (fun hz => ?_) (fun hz => ?_)
      · have hz := of_decide_eq_true hz
        refine SomeK.of _ rfl ?_
        rw [addA_mk]
        refine w_WriteByte 255 M' ho' (by rw [List.length_append]; simp; omega) fun o2 opt2 w4 ho2 M2 => ⟨_, rfl, fin _ _ _ _ ?_ ho2 M2⟩
        rw [if_pos hz, hz]; simp
      · have hz := of_decide_eq_false hz
        exact fin _ _ _ _ (by rw [if_neg hz]) ho' M'
    · simp at hlt
      obtain rfl : k = y.length := by omega
      rw [List.drop_length] at he
      refine SomeK.of _ rfl ?_
      rw [addA_mk, lit_bs [0, 0]]
      refine w_WriteString [0, 0] M ho (by simp) (by simp [encB] at hlen ⊢; omega) fun o' opt' w3 ho' M' => ⟨_, _, rfl, rfl, o', opt', ?_, M'⟩
      rw [← he]; exact ho'
  · rintro e w' ⟨v, rfl, rfl, o', opt', ho', M'⟩
    exact h o' opt' w' ho' M'

theorem strs_at {xs : List (List UInt8)} {j : Nat} (h : j < xs.length) : (strs xs)[j]? = some (.string (bs xs[j])) := by simp [strs, h]

theorem w_Join (w : World) {a : Option Addr} {l c : Nat} {xs : List (List UInt8)} (h : VsAt w a l (strs xs)) (hx : (joinL xs).length ≤ 10000000) : Calls Try.prog 55 #[.slice a l c] w (Ret w (.string (bs (joinL xs)))) := by
  refine calls_ret (F55_calls _ _ _ _ _ ?_)
  have hl : l = xs.length := by have := h.1; rwa [strs_length] at this
  have M : Mem w [] [] (fun W => VsAt W a l (strs xs)) w := Mem.startF w fun w' k => h.keep0 k
  refine M.newK fun b w1 M => ?_
  have hcnt : xs.length ≤ (joinL xs).length := by
    have := splitL_cnt (splitL_joinL xs); omega
  refine ⟨fun n vs W => ∃ (k : Nat) (o : Obj) (opt : List (Nat × Obj)), vs = [.int .i64 k] ∧ k + n = xs.length ∧ WrAt b (joinL (xs.take k)) opt o ∧ Mem w [] ([(b, o)] ++ (opt ++ [])) (fun W => VsAt W a l (strs xs)) W, ⟨xs.length, 0, _, [], rfl, by omega, ⟨fun _ => rfl, false, none, 0, 0, rfl, OwnM.nil⟩, M⟩, ?_⟩
  clear M
  rintro n vs W ⟨k, o, opt, rfl, hk, ho, M⟩
  refine ⟨_, rfl, fun _ => SplitK.of (fun hlt => ?_) (fun hlt => ?_)⟩
  · simp at hlt
    have hkx : k < xs.length := by omega
    obtain ⟨p, hp, hc⟩ := VsAt.ptr M.now (by rw [strs_length]; omega)
    refine ⟨by omega, by simp; omega, SomeK.of p hp ⟨_, by rw [addA_int]; exact hc k _ (strs_at hkx), ?_⟩⟩
    have ej : joinL xs = joinL (xs.take k) ++ joinL (xs.drop k) := by rw [← joinL_append, List.take_append_drop]
    have ej2 : joinL (xs.drop k) = 4 :: (encB xs[k] ++ joinL (xs.drop (k + 1))) := by rw [List.drop_eq_getElem_cons hkx, joinL]
    have el := congrArg List.length ej
    rw [ej2] at el
    simp only [List.length_append, List.length_cons] at el
    rw [addA_mk]
    show CallK Try.prog 68 #[.pointer (some ⟨b, 0, none⟩), .int .u8 (byteI 4)] _ _
    refine w_WriteByte 4 M ho (by omega) fun o2 opt2 w3 ho2 M2 => ⟨_, rfl, ?_⟩
    refine w_wtext xs[k] M2 ho2 (by simp; omega) fun o3 opt3 w4 ho3 M3 => ⟨rfl, n - 1, by omega, k + 1, o3, opt3, by rw [addI_one (by omega)], by omega, ?_, M3⟩
    have et : joinL (xs.take (k + 1)) = joinL (xs.take k) ++ [4] ++ encB xs[k] := by
      rw [List.take_succ_eq_append_getElem hkx, joinL_append]
      simp [joinL]
    rw [et]; exact ho3
  · simp at hlt
    obtain rfl : k = xs.length := by omega
    rw [List.take_length] at ho
    obtain ⟨hem, used, a', l', c', rfl, ho⟩ := ho
    rw [addA_mk]
    rcases ho with ⟨rfl, rfl, rfl, rfl, hx0⟩ | ⟨g, rest, rfl, rfl, rfl, rfl, hcb⟩
    · have hx0 : joinL xs = [] := by simpa [byteVs] using hx0
      refine (w_String_nil b W (M.cell 0 (c := [_, .slice none 0 0, .slice none 0 0]) rfl rfl)).mono ?_
      rintro e w3 ⟨rfl, hk3⟩
      exact ⟨_, rfl, by rw [hx0], M.keep.trans0 hk3⟩
    · have M1 := M.hget 1 rfl
      have hlv : (byteVs (joinL xs)).length = (joinL xs).length := by simp [byteVs]
      by_cases hx0 : joinL xs = []
      · -- nothing was written: then there is no row of its own
        exact absurd (hem hx0) (by simp)
      · refine (w_String_row b g _ (joinL xs) rest W hx0 (by omega) (by
          have := M.cell 0 (c := [_, .slice (some ⟨g, 0, none⟩) (byteVs (joinL xs)).length ((byteVs (joinL xs)).length + rest.length), .slice none 0 0]) (off := 1) rfl rfl
          rw [hlv] at this; rw [this]) (by
          have : (joinL xs).length ≠ 0 := by simpa using hx0
          omega) M1).mono ?_
        rintro e w3 ⟨rfl, hk3⟩
        refine ⟨_, rfl, rfl, M.keep.trans hk3 fun i hi => ?_⟩
        have hi : i = g := by simpa using hi
        rw [hi]
        rcases M.fresh (g, _) (List.mem_append_right _ (List.mem_append_left _ (List.mem_singleton.2 rfl))) with h | h
        · exact .inr h
        · cases h

end Go.Proofs.Ytgecpbplbkpdlaa
