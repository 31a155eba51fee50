/-
  A part of the proof: WS.
-/
import Derived.Test.YtgecpbplbkpdlaaSxWR
namespace Go.Proofs.Ytgecpbplbkpdlaa
open Go Go.Sx Go.Oct Go.Wire
set_option linter.unusedVariables false

def RetGotR (w : World) (o : Option RepV) (e : Ending) (w' : World) : Prop := Keep [] w w' ∧ ∃ a l c, e = .returned (.tuple #[.agg (repC (o.getD noRep) a l c).toArray, .int .i64 (if o.isSome then 0 else 5)]) ∧ Fresh w.heap.size w' (fun w => VsAt w a l (strs (o.getD noRep).boxes))
theorem getRep_split {f : List UInt8 → Int} {s : List UInt8} (h : splitL s = none) : getRep f s = none := by rw [getRep, h]
theorem getRep_no {f : List UInt8 → Int} {s : List UInt8} {t : List (List UInt8)} (h : splitL s = some t) (h2 : putRep (repOf f t) ≠ some s) : getRep f s = none := by
  rw [getRep, h]; simp only; rw [if_neg h2]
theorem getRep_yes {f : List UInt8 → Int} {s : List UInt8} {t : List (List UInt8)} (h : splitL s = some t) (h2 : putRep (repOf f t) = some s) : getRep f s = some (repOf f t) := by
  rw [getRep, h]; simp only; rw [if_pos h2]
def noneR : List Value := [.int .i64 0, .slice none 0 0, .string (bs []), .int .i64 0]
theorem repOf_short (f : List UInt8 → Int) (t : List (List UInt8)) (h : t.length < 4) : repOf f t = noRep := by
  match t, h with
  | [], _ => rfl
  | [_], _ => rfl
  | [_, _], _ => rfl
  | [_, _, _], _ => rfl
  | _ :: _ :: _ :: _ :: _, h => simp at h; omega
theorem repOf_S (f : List UInt8 → Int) (t : List (List UInt8)) (h : (joinL t).length ≤ 90000) : RepS (repOf f t) := by
  match t, h with
  | x0 :: x1 :: x2 :: x3 :: r, h =>
    have := (encB_len x2).1
    simp only [joinL, List.length_cons, List.length_append] at h
    refine ⟨?_, ?_⟩
    · show (joinL r).length ≤ _; omega
    · show x2.length ≤ _; omega
  | [], _ => exact ⟨by simp [repOf, noRep, joinL], by simp [repOf, noRep]⟩
  | [_], _ => exact ⟨by simp [repOf, noRep, joinL], by simp [repOf, noRep]⟩
  | [_, _], _ => exact ⟨by simp [repOf, noRep, joinL], by simp [repOf, noRep]⟩
  | [_, _, _], _ => exact ⟨by simp [repOf, noRep, joinL], by simp [repOf, noRep]⟩

theorem w_answer (w : World) {a : Option Addr} {l c : Nat} {t : List (List UInt8)} (h : VsAt w a l (strs t)) (hlc : l ≤ c) (hs : (joinL t).length ≤ 50000) :
    Calls Try.prog 47 #[.slice a l c] w (fun e w' => Keep [] w w' ∧ ∃ a' l' c', e = .returned (.agg (repC (repOf wF t) a' l' c').toArray) ∧ ∀ W, VsAt W a l (strs t) → VsAt W a' l' (strs (repOf wF t).boxes)) := by
  refine Calls.mono (F47_calls a l c w (fun v w' => Keep [] w w' ∧ ∃ a' l' c', v = .agg (repC (repOf wF t) a' l' c').toArray ∧ ∀ W, VsAt W a l (strs t) → VsAt W a' l' (strs (repOf wF t).boxes)) ?_) (fun e w' ⟨v, he, hk, a', l', c', hv, h⟩ => ⟨hk, a', l', c', by rw [he, hv], h⟩)
  have hl := strs_len h
  subst hl
  have htl := splitL_len (splitL_joinL t)
  have M : Mem w [] [] (fun W => VsAt W a t.length (strs t)) w := Mem.startF w fun w' k => h.keep0 k
  refine M.newK fun b w1 M => ?_
  have M : Mem w [] [(b, .cells noneR.toArray 46 (0, 0))] (fun W => VsAt W a t.length (strs t)) w1 := M
  refine SplitK.of (fun h0 => ?_) (fun h0 => ?_)
  · rw [ltI_t, natI_eq] at h0
    refine M.stK 0 (c := noneR) rfl (by simp [noneR]) rfl fun w2 M => ⟨_, _, _, _, _, _, M.cells 0 (c := noneR) rfl, M.keep, none, 0, 0, ?_, ?_⟩
    · rw [repOf_short _ _ (by omega)]; rfl
    · rw [repOf_short _ _ (by omega)]; exact fun _ _ => VsAt.nil
  · rw [ltI_f, natI_eq] at h0
    match t, h, h0, hs, hlc, htl, M with
    | x0 :: x1 :: x2 :: x3 :: r, h, h0, hs, hlc, htl, M =>
    rintro w2 rfl
    have M := M.drew
    have hi : ∀ j : Nat, j < 4 → (0 : Int) ≤ (j : Int) ∧ (j : Int) < natI (x0 :: x1 :: x2 :: x3 :: r).length := fun j hj => ⟨by omega, by rw [natI_eq]; simp only [List.length_cons]; omega⟩
    obtain ⟨p, hp, _⟩ := str_at M.now (k := 0) (by simp)
    have hat : ∀ {W' : World}, VsAt W' a (x0 :: x1 :: x2 :: x3 :: r).length (strs (x0 :: x1 :: x2 :: x3 :: r)) → ∀ (j : Nat) (hj : j < (x0 :: x1 :: x2 :: x3 :: r).length), W'.cell? (addA p (mulN (intN (j : Int)) 1)) = some (.string (bs (x0 :: x1 :: x2 :: x3 :: r)[j])) := by
      intro W' hv' j hj
      obtain ⟨q, hq, hc'⟩ := str_at hv' hj
      rw [hp] at hq; cases hq
      exact hc'
    have hx1 : x1.length ≤ 1000000 := by have := htl x1 (by simp); omega
    have hx3 : x3.length ≤ 1000000 := by have := htl x3 (by simp); omega
    refine ⟨fun W => VsAt W a (x0 :: x1 :: x2 :: x3 :: r).length (strs (x0 :: x1 :: x2 :: x3 :: r)), M.now, (hi 1 (by decide)).1, (hi 1 (by decide)).2, SomeK.of p hp ⟨bs x1, fun w' hw => hat hw 1 (by simp), (hi 2 (by decide)).1, (hi 2 (by decide)).2, SomeK.of p hp ⟨bs x2, fun w' hw => hat hw 2 (by simp), (hi 3 (by decide)).1, (hi 3 (by decide)).2, SomeK.of p hp ⟨bs x3, fun w' hw => hat hw 3 (by simp), by decide, by rw [natI_eq]; simp only [List.length_cons]; omega, ?_⟩⟩⟩⟩
    refine CallK.ret (w_first _ x1 hx1) fun w3 k3 => ⟨_, rfl, ?_⟩
    have M := M.call k3
    refine ⟨M.now, CallK.ret (w_small w3 x3 hx3) fun w4 k4 => ⟨_, rfl, ?_⟩⟩
    have M := M.call k4
    refine ⟨M.now, M.stK 0 (c := noneR) rfl (by simp [noneR]) rfl fun w5 M => ⟨_, _, _, _, _, _, M.cells 0 (c := repC (repOf wF (x0 :: x1 :: x2 :: x3 :: r)) (cutA a c 4 1) (subN (x0 :: x1 :: x2 :: x3 :: r).length 4) (subN c 4)) rfl, M.keep, _, _, _, rfl, fun W hv => ?_⟩⟩
    have el : subN (x0 :: x1 :: x2 :: x3 :: r).length 4 = r.length := by rw [subN_eq]; simp only [List.length_cons]; omega
    show VsAt W (cutA a c 4 1) (subN (x0 :: x1 :: x2 :: x3 :: r).length 4) (strs r)
    rw [el]
    refine ⟨(strs_length r).symm, ?_⟩
    by_cases hr : r.length = 0
    · left; rw [List.eq_nil_of_length_eq_zero hr]; rfl
    · right
      refine ⟨p.add 4, ?_, VsAt.dropAt hv hp 4 (by simp only [List.length_cons]; omega)⟩
      rw [hp, cutA, if_neg (by simp only [List.length_cons] at hlc; omega)]
      rfl
    | [], h, h0, hs, hlc, htl, M => simp at h0
    | [_], h, h0, hs, hlc, htl, M => simp at h0
    | [_, _], h, h0, hs, hlc, htl, M => simp at h0
    | [_, _, _], h, h0, hs, hlc, htl, M => simp at h0

theorem w_gotRep (w : World) (s : List UInt8) (hs : s.length ≤ 50000) :
    Calls Try.prog 46 #[.string (bs s), .func (.func 47) #[] #[], .func (.func 18) #[] #[]] w (RetGotR w (getRep wF s)) := by
  refine Calls.mono (F46_calls (bs s) _ _ w (fun v w' => RetGotR w (getRep wF s) (.returned v) w') ?_) (fun e w' ⟨v, he, h⟩ => by rw [he]; exact h)
  refine (Mem.start w).newK fun b w1 M => M.newK fun b1 w2 M => ?_
  have M : Mem w [] [(b1, .cells noneR.toArray 46 (0, 0)), (b, .cells noneR.toArray 46 (0, 0))] (fun _ => True) w2 := M
  refine (w_Split w2 s (by omega)).mono ?_
  rintro e w3 ⟨k1, hres⟩
  have no : ∀ {F : World → Prop} {W : World}, getRep wF s = none → Mem w [] [(b1, .cells noneR.toArray 46 (0, 0)), (b, .cells noneR.toArray 46 (0, 0))] F W →
      ∃ n1 a1 l1 c1 s1 n2, CellsAt W ⟨b1, 0, none⟩ [.int .i64 n1, .slice a1 l1 c1, .string s1, .int .i64 n2] ∧ StK W ⟨b, 0, none⟩ [.int .i64 n1, .slice a1 l1 c1, .string s1, .int .i64 n2] (fun w4 => ∃ n2 a3 l3 c3 s2 n3, CellsAt w4 ⟨b, 0, none⟩ [.int .i64 n2, .slice a3 l3 c3, .string s2, .int .i64 n3] ∧ RetGotR w (getRep wF s) (.returned (.tuple #[.agg #[.int .i64 n2, .slice a3 l3 c3, .string s2, .int .i64 n3], .int .i64 5])) w4) := by
    intro F W hn M
    refine ⟨_, _, _, _, _, _, M.cells 0 (c := noneR) rfl, M.stK 1 (c := noneR) rfl (by simp [noneR]) rfl fun w5 M => ⟨_, _, _, _, _, _, M.cells 1 (c := noneR) rfl, M.keep, none, 0, 0, ?_, ?_⟩⟩
    · rw [hn]; rfl
    · rw [hn]; exact Fresh.always fun _ => VsAt.nil
  cases hsp : splitL s with
  | none =>
    rw [hsp] at hres
    exact ⟨_, _, _, _, hres, SplitK.t rfl (no (getRep_split hsp) (M.call k1))⟩
  | some t =>
    rw [hsp] at hres
    obtain ⟨a, l, c, he, hlc, hf⟩ := hres
    have hj := joinL_splitL hsp
    refine ⟨_, _, _, _, he, SplitK.f rfl (FnK.fn rfl ?_)⟩
    have M := M.callFr k1 hf
    refine (w_answer w3 M.now.2.now hlc (by rw [hj]; exact hs)).mono ?_
    rintro e1 w4 ⟨k4, a1, l1, c1, he1, hv1⟩
    have M := (M.call k4).imp (G := fun W => Fresh w.heap.size W (fun w => VsAt w a1 l1 (strs (repOf wF t).boxes))) fun w' hw => hw.2.imp fun W h => hv1 W h
    have hS := repOf_S wF t (by rw [hj]; omega)
    refine ⟨_, _, _, _, _, _, he1, M.newK fun b2 w5 M => M.stK 0 (c := noneR) rfl (by simp [noneR]) rfl fun w6 M => ?_⟩
    have M : Mem w [] [(b2, .cells (repC (repOf wF t) a1 l1 c1).toArray 46 (0, 0)), (b1, .cells noneR.toArray 46 (0, 0)), (b, .cells noneR.toArray 46 (0, 0))] _ w6 := M
    refine ⟨_, _, _, _, _, _, M.cells 0 (c := repC (repOf wF t) a1 l1 c1) rfl, FnK.fn rfl (CallK.ret (w_PutReply w6 (repOf wF t) M.now.now hS) fun w7 k7 => ?_)⟩
    have M := M.call k7
    cases hp : putRep (repOf wF t) with
    | none =>
      refine ⟨bs [], 1, by rfl, fun K hK => SplitK.t rfl (hK _ _ fun _ => SplitK.t rfl (no (getRep_no hsp (by rw [hp]; simp)) M.tail))⟩
    | some d =>
      refine ⟨bs d, 0, by rfl, fun K hK => SplitK.f rfl (hK _ _ fun _ => ?_)⟩
      rw [eqS_bs]
      refine SplitK.of (fun h => ?_) (fun h => ?_)
      · simp only [notB_t, decide_eq_false_iff_not] at h
        exact no (getRep_no hsp (by rw [hp]; simpa using h)) M.tail
      · simp only [notB_f, decide_eq_true_eq] at h
        have hg : getRep wF s = some (repOf wF t) := getRep_yes hsp (by rw [hp, h])
        refine ⟨_, _, _, _, _, _, M.cells 0 (c := repC (repOf wF t) a1 l1 c1) rfl, M.stK 2 (c := noneR) rfl (by simp [noneR]) rfl fun w8 M => ⟨_, _, _, _, _, _, M.cells 2 (c := repC (repOf wF t) a1 l1 c1) rfl, M.keep, a1, l1, c1, ?_, ?_⟩⟩
        · rw [hg]; rfl
        · rw [hg]; exact M.now

theorem w_GetReply (w : World) (s : List UInt8) (hs : s.length ≤ 50000) : Calls Try.prog 21 #[.string (bs s)] w (RetGotR w (getRep wF s)) := by
  refine Calls.mono (F21_calls (bs s) w (fun v w' => RetGotR w (getRep wF s) (.returned v) w') ?_) (fun e w' ⟨v, he, h⟩ => by rw [he]; exact h)
  refine (Mem.start w).newK fun b w1 M => ?_
  refine (w_gotRep w1 s hs).mono ?_
  rintro e w2 ⟨k2, a, l, c, he, hf⟩
  have M := M.callFr k2 hf
  refine ⟨_, _, _, _, _, _, _, he, M.stK 0 (c := noneR) rfl (by simp [noneR]) rfl fun w3 M => ⟨_, _, _, _, _, _, M.cells 0 (c := repC ((getRep wF s).getD noRep) a l c) rfl, M.keep, a, l, c, rfl, M.now.2⟩⟩

theorem getRep_bad {f : List UInt8 → Int} {s : List UInt8} {t : List (List UInt8)} (h : splitL s = some t) (h2 : t.length < 4 ∨ first ((t.drop 1).headD []) = -1) : getRep f s = none := by
  refine getRep_no h ?_
  by_cases hl : t.length < 4
  · rw [repOf_short _ _ hl]
    have : putRep noRep = none := putRep_a (.inr (.inr (.inr (.inl (by decide)))))
    rw [this]; simp
  · have h2 := h2.resolve_left hl
    match t, hl, h2 with
    | x0 :: x1 :: x2 :: x3 :: r, hl, h2 =>
      have : putRep (repOf f (x0 :: x1 :: x2 :: x3 :: r)) = none := putRep_a (.inl (by
        show first x1 < 0
        have : first x1 = -1 := h2
        omega))
      rw [this]; simp
    | [], hl, _ => simp at hl
    | [_], hl, _ => simp at hl
    | [_, _], hl, _ => simp at hl
    | [_, _, _], hl, _ => simp at hl

set_option maxHeartbeats 4000000 in
theorem x_GetReply (w : World) (s : List UInt8) (hs : s.length ≤ 50000) : Calls Try.prog 22 #[.string (bs s)] w (RetGotR w (getRep xG s)) := by
  refine Calls.mono (F22_calls (bs s) w (fun v w' => RetGotR w (getRep xG s) (.returned v) w') ?_) (fun e w' ⟨v, he, h⟩ => by rw [he]; exact h)
  refine (Mem.start w).newK fun b w1 M => ?_
  have M : Mem w [] [(b, .cells noneR.toArray 50 (0, 0))] (fun _ => True) w1 := M
  refine (x_Split12 w1 s (by omega)).mono ?_
  rintro e w2 ⟨k1, hres⟩
  have no : ∀ {F : World → Prop} {W : World}, getRep xG s = none → Mem w [] [(b, .cells noneR.toArray 50 (0, 0))] F W →
      StK W ⟨b, 0, none⟩ [.int .i64 0, .slice none 0 0, .string (bs []), .int .i64 0] (fun w4 => ∃ n2 a3 l3 c3 s2 n3, CellsAt w4 ⟨b, 0, none⟩ [.int .i64 n2, .slice a3 l3 c3, .string s2, .int .i64 n3] ∧ RetGotR w (getRep xG s) (.returned (.tuple #[.agg #[.int .i64 n2, .slice a3 l3 c3, .string s2, .int .i64 n3], .int .i64 5])) w4) := by
    intro F W hn M
    refine M.stK 0 (c := noneR) rfl (by simp [noneR]) rfl fun w5 M => ⟨_, _, _, _, _, _, M.cells 0 (c := noneR) rfl, M.keep, none, 0, 0, ?_, ?_⟩
    · rw [hn]; rfl
    · rw [hn]; exact Fresh.always fun _ => VsAt.nil
  cases hsp : splitL s with
  | none =>
    rw [hsp] at hres
    exact ⟨_, _, _, _, hres, fun K hK => SplitK.t rfl (hK _ _ fun _ => SplitK.t rfl (no (getRep_split hsp) (M.call k1)))⟩
  | some t =>
    rw [hsp] at hres
    obtain ⟨a, l, c, he, hf⟩ := hres
    have hj := joinL_splitL hsp
    have hS := repOf_S xG t (by rw [hj]; omega)
    have hcnt := splitL_cnt hsp
    have htl := splitL_len hsp
    have M := M.callF k1 hf
    have hl := strs_len M.now.2
    subst hl
    refine ⟨_, _, _, _, he, fun K hK => SplitK.f rfl (SplitK.of (fun h0 => ?_) (fun h0 => ?_))⟩
    · rw [ltI_t, natI_eq] at h0
      exact hK _ _ fun _ => SplitK.t rfl (no (getRep_bad hsp (.inl (by omega))) M)
    rw [ltI_f, natI_eq] at h0
    obtain ⟨x0, x1, x2, x3, r, rfl⟩ : ∃ x0 x1 x2 x3 r, t = x0 :: x1 :: x2 :: x3 :: r := by
      match t, h0 with
      | x0 :: x1 :: x2 :: x3 :: r, _ => exact ⟨x0, x1, x2, x3, r, rfl⟩
      | [], h0 => simp at h0
      | [_], h0 => simp at h0
      | [_, _], h0 => simp at h0
      | [_, _, _], h0 => simp at h0
    obtain ⟨p, hp, _⟩ := str_at M.now.2 (k := 0) (by simp)
    have hat : ∀ {W' : World}, VsAt W' a (x0 :: x1 :: x2 :: x3 :: r).length (strs (x0 :: x1 :: x2 :: x3 :: r)) → ∀ (j : Nat) (hj : j < (x0 :: x1 :: x2 :: x3 :: r).length), W'.cell? (addA p (mulN (intN (j : Int)) 1)) = some (.string (bs (x0 :: x1 :: x2 :: x3 :: r)[j])) := by
      intro W' hv' j hj
      obtain ⟨q, hq, hc'⟩ := str_at hv' hj
      rw [hp] at hq; cases hq
      exact hc'
    have hi : ∀ j : Nat, j < 4 → (0 : Int) ≤ (j : Int) ∧ (j : Int) < natI (x0 :: x1 :: x2 :: x3 :: r).length := fun j hj => ⟨by omega, by rw [natI_eq]; simp only [List.length_cons]; omega⟩
    refine ⟨(hi 1 (by decide)).1, (hi 1 (by decide)).2, SomeK.of p hp ⟨bs x1, hat M.now.2 1 (by simp), hK _ _ fun _ => SplitK.of (fun h1 => ?_) (fun h1 => ?_)⟩⟩
    · simp only [sizeS_bs, natI_eq, notB_t, eqI_f] at h1
      exact no (getRep_bad hsp (.inr (first_not (s := x1) (by omega)))) M
    simp only [sizeS_bs, natI_eq, notB_f, eqI_t] at h1
    obtain ⟨z, rfl⟩ : ∃ z, x1 = [z] := List.length_eq_one_iff.1 (by omega)
    intro K1 hK1
    rintro w4 rfl
    have M := (M.drew).imp (G := fun W => VsAt W a (x0 :: [z] :: x2 :: x3 :: r).length (strs (x0 :: [z] :: x2 :: x3 :: r))) fun w' hw => hw.2
    refine ⟨fun W => VsAt W a (x0 :: [z] :: x2 :: x3 :: r).length (strs (x0 :: [z] :: x2 :: x3 :: r)), M.now, (hi 1 (by decide)).1, (hi 1 (by decide)).2, SomeK.of p hp ⟨bs [z], fun w' hw => hat hw 1 (by simp), by decide, byteAt (l := [z]) (i := 0) (by simp) ⟨(hi 2 (by decide)).1, (hi 2 (by decide)).2, SomeK.of p hp ⟨bs x2, fun w' hw => hat hw 2 (by simp), (hi 3 (by decide)).1, (hi 3 (by decide)).2, SomeK.of p hp ⟨bs x3, fun w' hw => hat hw 3 (by simp), ?_⟩⟩⟩⟩⟩
    have hx3 : x3.length < 4611686018427387904 := by have := htl x3 (by simp); omega
    have ez : wrapI .i64 (byteI ([z][0]'(by simp))) = ((z.toNat : Nat) : Int) := by
      show wrapI .i64 (byteI z) = _
      exact wrapI_i64 _ (by have := z.toNat_lt; omega)
    rw [ez]
    have hG : ∀ W, Calls Try.prog 40 #[.string (bs x3)] W (Ret W (.int .u64 (readB x3))) := fun W => x_ReadBig W x3 hx3
    have hne0 : Ne (8589934592 : Int) 0 := by decide
    have hT : ∀ {b3 : Nat} {W : World}, Mem w [] [(b3, .cells noneR.toArray 50 (0, 0)), (b, .cells noneR.toArray 50 (0, 0))] (fun W => VsAt W a (x0 :: [z] :: x2 :: x3 :: r).length (strs (x0 :: [z] :: x2 :: x3 :: r))) W →
        StK W ⟨b3, 0, none⟩ [.int .i64 ((z.toNat : Nat) : Int), .slice none 0 0, .string (bs x2), .int .i64 (wrapI .i64 (remI ((readB x3 : Nat) : Int) 8589934592))] (fun w7 => K1 [.pointer (some ⟨b3, 0, none⟩)] w7) := by
      intro b3 W M
      have ef : wrapI .i64 (remI ((readB x3 : Nat) : Int) 8589934592) = xG x3 := by
        have e5 : remI ((readB x3 : Nat) : Int) 8589934592 = ((readB x3 % 8589934592 : Nat) : Int) := remI_nat _ 8589934592
        rw [e5, wrapI_i64 _ (by omega)]; rfl
      rw [ef]
      refine M.stK 0 (c := noneR) rfl (by simp [noneR]) rfl fun w7 M => hK1 _ _ fun _ => ?_
      let r0 : RepV := ⟨((z.toNat : Nat) : Int), r, x2, xG x3⟩
      have hr0 : repOf xG (x0 :: [z] :: x2 :: x3 :: r) = r0 := rfl
      refine ⟨fun n vs W => ∃ (k : Nat) (opt : List (Nat × Obj)) (a2 : Option Addr) (l2 c2 : Nat), vs = [.int .i64 ((4 + k : Nat) : Int)] ∧ k + n = r.length ∧ OwnM opt 9 a2 l2 c2 (strs (r.take k)) ∧
          Mem w [] (opt ++ [(b3, .cells (repC r0 a2 l2 c2).toArray 50 (0, 0)), (b, .cells noneR.toArray 50 (0, 0))]) (fun W => VsAt W a (x0 :: [z] :: x2 :: x3 :: r).length (strs (x0 :: [z] :: x2 :: x3 :: r))) W,
          ⟨r.length, 0, [], none, 0, 0, rfl, by omega, OwnM.nil, M⟩, ?_⟩
      clear M
      rintro n vs W ⟨k, opt, a2, l2, c2, rfl, hk, ho, M⟩
      refine ⟨_, rfl, fun _ => SplitK.of (fun hlt => ?_) (fun hlt => ?_)⟩
      · simp only [natI_eq, ltI_t, List.length_cons] at hlt
        have hkr : k < r.length := by omega
        intro K2 hK2
        rintro w8 rfl
        have M := M.drew
        have hS8 : ∀ {W' : World} {opt : List (Nat × Obj)}, Mem w [] (opt ++ [(b3, .cells (repC r0 a2 l2 c2).toArray 50 (0, 0)), (b, .cells noneR.toArray 50 (0, 0))]) (fun W => VsAt W a (x0 :: [z] :: x2 :: x3 :: r).length (strs (x0 :: [z] :: x2 :: x3 :: r))) W' → CellsAt W' ⟨b3, 0, none⟩ (repC r0 a2 l2 c2) ∧ VsAt W' a (x0 :: [z] :: x2 :: x3 :: r).length (strs (x0 :: [z] :: x2 :: x3 :: r)) := fun M => ⟨(M.perm List.perm_append_comm).cells 0 rfl, M.now⟩
        have hg : (x0 :: [z] :: x2 :: x3 :: r)[4 + k]'(by simp only [List.length_cons]; omega) = r[k] := by
          simp only [show 4 + k = k + 1 + 1 + 1 + 1 by omega, List.getElem_cons_succ]
        have ct : ∀ {W' : World}, VsAt W' a (x0 :: [z] :: x2 :: x3 :: r).length (strs (x0 :: [z] :: x2 :: x3 :: r)) → W'.cell? (addA p (mulN (intN ((4 + k : Nat) : Int)) 1)) = some (.string (bs r[k])) := fun hv => by rw [← hg]; exact hat hv _ _
        refine ⟨fun W' => CellsAt W' ⟨b3, 0, none⟩ (repC r0 a2 l2 c2) ∧ VsAt W' a (x0 :: [z] :: x2 :: x3 :: r).length (strs (x0 :: [z] :: x2 :: x3 :: r)), hS8 M, SomeK.of _ rfl ⟨a2, l2, c2, fun w' hw => ?_, by omega, by rw [natI_eq]; simp only [List.length_cons]; omega, SomeK.of p hp ⟨_, fun w' hw => ct hw.2, ?_⟩⟩⟩
        · have := hw.1 1 _ rfl
          rw [addr_add] at this
          rw [addA_mk]; exact this
        refine M.newK fun b4 w10 M => ⟨hS8 (opt := _ :: opt) M, _, M.old1, ne1, ?_⟩
        simp only [List.length_cons] at hcnt
        refine Mem.appK M.tail ho rfl rfl (by rw [strs_length, List.length_take]; omega) (by rw [strs_length, List.length_take]; omega) ?_
        intro a3 l3 c3 opt3 w11 ho3 M4 hl3
        refine ⟨hS8 M4, SomeK.of _ rfl ?_⟩
        have M5 := M4.perm List.perm_append_comm
        refine M5.stA 0 (c := repC r0 a2 l2 c2) rfl (by simp [repC]) rfl fun w12 M6 => hK2 _ fun _ => ⟨n - 1, by omega, k + 1, opt3, a3, l3, c3, ?_, by omega, ?_, ?_⟩
        · rw [addI_one (by omega)]; rfl
        · rw [List.take_succ_eq_append_getElem hkr, ← strs_add]; exact ho3
        · exact Mem.perm (show Mem w [] ([(b3, .cells (repC r0 a3 l3 c3).toArray 50 (0, 0)), (b, .cells noneR.toArray 50 (0, 0))] ++ opt3) _ w12 from M6) List.perm_append_comm
      · simp only [natI_eq, ltI_f, List.length_cons] at hlt
        obtain rfl : k = r.length := by omega
        rw [List.take_length] at ho
        have M := (Mem.ownFrV M ho).imp (G := fun W => Fresh w.heap.size W (fun w => VsAt w a2 l2 (strs r0.boxes))) fun w' hw => hw.2
        rw [hr0] at hS
        refine SomeK.of _ rfl ⟨_, _, _, _, _, _, M.cells 0 (c := repC r0 a2 l2 c2) rfl, CallK.ret (x_PutReply W r0 M.now.now hS) fun w7 k7 => ?_⟩
        have M := M.call k7
        cases hp : putRep r0 with
        | none =>
          refine ⟨bs [], 1, by rfl, fun K hK => SplitK.t rfl (hK _ _ fun _ => SplitK.t rfl (no (getRep_no hsp (by rw [hr0, hp]; simp)) M.tail))⟩
        | some d =>
          refine ⟨bs d, 0, by rfl, fun K hK => SplitK.f rfl (hK _ _ fun _ => ?_)⟩
          rw [eqS_bs]
          refine SplitK.of (fun h => ?_) (fun h => ?_)
          · simp only [notB_t, decide_eq_false_iff_not] at h
            exact no (getRep_no hsp (by rw [hr0, hp]; simpa using h)) M.tail
          · simp only [notB_f, decide_eq_true_eq] at h
            have hg : getRep xG s = some r0 := getRep_yes hsp (by rw [hr0, hp, h])
            refine SomeK.of _ rfl ⟨_, _, _, _, _, _, M.cells 0 (c := repC r0 a2 l2 c2) rfl, M.stK 1 (c := noneR) rfl (by simp [noneR]) rfl fun w8 M => ⟨_, _, _, _, _, _, M.cells 1 (c := repC r0 a2 l2 c2) rfl, M.keep, a2, l2, c2, ?_, ?_⟩⟩
            · rw [hg]; rfl
            · rw [hg]; exact M.now
    repeat' (first | exact M.now | (with_reducible refine CallK.ret (hG _) fun W_ k_ => ⟨_, rfl, ?_⟩; have M := M.call k_) | (with_reducible refine M.newK fun b_ W_ M => ?_) | exact hT M | exact hne0 | exact hK2_ _ _ _ _ _ _ _ fun _ => hT M | refine And.intro ?_ ?_ | intro K2_ hK2_)

end Go.Proofs.Ytgecpbplbkpdlaa
