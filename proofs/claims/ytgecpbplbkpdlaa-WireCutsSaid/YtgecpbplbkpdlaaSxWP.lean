/-
  A part of the proof: WP.
-/
import Derived.Test.YtgecpbplbkpdlaaSxWO
namespace Go.Proofs.Ytgecpbplbkpdlaa
open Go Go.Sx Go.Oct Go.Wire
set_option linter.unusedVariables false

/-- A request, or none, is handed back. -/
def RetGot (w : World) (o : Option ReqV) (e : Ending) (w' : World) : Prop := Keep [] w w' ∧ ∃ a l c a' l' c', e = .returned (.tuple #[.agg (reqC (o.getD noReq) a l c a' l' c').toArray, .int .i64 (if o.isSome then 0 else 5)]) ∧ Fresh w.heap.size w' (fun w => ReqAt w (o.getD noReq) a l a' l')
theorem getReq_split {f : List UInt8 → Int} {s : List UInt8} (h : splitL s = none) : getReq f s = none := by rw [getReq, h]
theorem getReq_no {f : List UInt8 → Int} {s : List UInt8} {t : List (List UInt8)} (h : splitL s = some t) (h2 : putReq (reqOf f t) ≠ some s) : getReq f s = none := by
  rw [getReq, h]; simp only; rw [if_neg h2]
theorem getReq_yes {f : List UInt8 → Int} {s : List UInt8} {t : List (List UInt8)} (h : splitL s = some t) (h2 : putReq (reqOf f t) = some s) : getReq f s = some (reqOf f t) := by
  rw [getReq, h]; simp only; rw [if_pos h2]
theorem noReqAt (w : World) : ReqAt w noReq none 0 none 0 := ⟨RsAt.nil, RsAt.nil⟩

theorem w_gotReq (w : World) (s : List UInt8) (hs : s.length ≤ 50000) :
    Calls Try.prog 36 #[.string (bs s), .func (.func 37) #[] #[], .func (.func 10) #[] #[]] w (RetGot w (getReq wF s)) := by
  refine Calls.mono (F36_calls (bs s) _ _ w (fun v w' => RetGot w (getReq wF s) (.returned v) w') ?_) (fun e w' ⟨v, he, h⟩ => by rw [he]; exact h)
  refine (Mem.start w).newK fun b w1 M => M.newK fun b1 w2 M => ?_
  have M : Mem w [] [(b1, .cells noneC.toArray 25 (0, 0)), (b, .cells noneC.toArray 25 (0, 0))] (fun _ => True) w2 := M
  refine (w_Split w2 s (by omega)).mono ?_
  rintro e w3 ⟨k1, hres⟩
  have no : ∀ {F : World → Prop} {W : World}, getReq wF s = none → Mem w [] [(b1, .cells noneC.toArray 25 (0, 0)), (b, .cells noneC.toArray 25 (0, 0))] F W →
      ∃ n1 a1 l1 c1 s1 a2 l2 c2, CellsAt W ⟨b1, 0, none⟩ [.int .i64 n1, .slice a1 l1 c1, .string s1, .slice a2 l2 c2] ∧ StK W ⟨b, 0, none⟩ [.int .i64 n1, .slice a1 l1 c1, .string s1, .slice a2 l2 c2] (fun w4 => ∃ n2 a3 l3 c3 s2 a4 l4 c4, CellsAt w4 ⟨b, 0, none⟩ [.int .i64 n2, .slice a3 l3 c3, .string s2, .slice a4 l4 c4] ∧ RetGot w (getReq wF s) (.returned (.tuple #[.agg #[.int .i64 n2, .slice a3 l3 c3, .string s2, .slice a4 l4 c4], .int .i64 5])) w4) := by
    intro F W hn M
    refine ⟨_, _, _, _, _, _, _, _, M.cells 0 (c := noneC) rfl, M.stK 1 (c := noneC) rfl (by simp [noneC]) rfl fun w5 M => ⟨_, _, _, _, _, _, _, _, M.cells 1 (c := noneC) rfl, M.keep, none, 0, 0, none, 0, 0, ?_, ?_⟩⟩
    · rw [hn]; rfl
    · rw [hn]; exact Fresh.always noReqAt
  cases hsp : splitL s with
  | none =>
    rw [hsp] at hres
    exact ⟨_, _, _, _, hres, SplitK.t rfl (no (getReq_split hsp) (M.call k1))⟩
  | some t =>
    rw [hsp] at hres
    obtain ⟨a, l, c, he, hlc, hf⟩ := hres
    have hj := joinL_splitL hsp
    refine ⟨_, _, _, _, he, SplitK.f rfl (FnK.fn rfl ?_)⟩
    have M := M.callF k1 hf
    refine (w_request w3 M.now.2 hlc (by rw [hj]; exact hs)).mono ?_
    rintro e1 w4 ⟨k4, a1, l1, c1, a2, l2, c2, he1, hf1⟩
    have M := M.callFr k4 hf1
    have hS := reqOf_S wF t (by rw [hj]; omega)
    refine ⟨_, _, _, _, _, _, _, _, he1, M.newK fun b2 w5 M => M.stK 0 (c := noneC) rfl (by simp [noneC]) rfl fun w6 M => ?_⟩
    have M : Mem w [] [(b2, .cells (reqC (reqOf wF t) a1 l1 c1 a2 l2 c2).toArray 25 (0, 0)), (b1, .cells noneC.toArray 25 (0, 0)), (b, .cells noneC.toArray 25 (0, 0))] _ w6 := M
    refine ⟨_, _, _, _, _, _, _, _, M.cells 0 (c := reqC (reqOf wF t) a1 l1 c1 a2 l2 c2) rfl, FnK.fn rfl (CallK.ret (w_PutRequest w6 (reqOf wF t) M.now.2.now hS) fun w7 k7 => ?_)⟩
    have M := M.call k7
    cases hp : putReq (reqOf wF t) with
    | none =>
      refine ⟨bs [], 1, by rfl, fun K hK => SplitK.t rfl (hK _ _ fun _ => SplitK.t rfl (no (getReq_no hsp (by rw [hp]; simp)) M.tail))⟩
    | some d =>
      refine ⟨bs d, 0, by rfl, fun K hK => SplitK.f rfl (hK _ _ fun _ => ?_)⟩
      rw [eqS_bs]
      refine SplitK.of (fun h => ?_) (fun h => ?_)
      · simp only [notB_t, decide_eq_false_iff_not] at h
        exact no (getReq_no hsp (by rw [hp]; simpa using h)) M.tail
      · simp only [notB_f, decide_eq_true_eq] at h
        have hg : getReq wF s = some (reqOf wF t) := getReq_yes hsp (by rw [hp, h])
        refine ⟨_, _, _, _, _, _, _, _, M.cells 0 (c := reqC (reqOf wF t) a1 l1 c1 a2 l2 c2) rfl, M.stK 2 (c := noneC) rfl (by simp [noneC]) rfl fun w8 M => ⟨_, _, _, _, _, _, _, _, M.cells 2 (c := reqC (reqOf wF t) a1 l1 c1 a2 l2 c2) rfl, M.keep, a1, l1, c1, a2, l2, c2, ?_, ?_⟩⟩
        · rw [hg]; rfl
        · rw [hg]; exact M.now.2

theorem w_GetRequest (w : World) (s : List UInt8) (hs : s.length ≤ 50000) : Calls Try.prog 13 #[.string (bs s)] w (RetGot w (getReq wF s)) := by
  refine Calls.mono (F13_calls (bs s) w (fun v w' => RetGot w (getReq wF s) (.returned v) w') ?_) (fun e w' ⟨v, he, h⟩ => by rw [he]; exact h)
  refine (Mem.start w).newK fun b w1 M => ?_
  refine (w_gotReq w1 s hs).mono ?_
  rintro e w2 ⟨k2, a, l, c, a', l', c', he, hf⟩
  have M := M.callFr k2 hf
  refine ⟨_, _, _, _, _, _, _, _, _, he, M.stK 0 (c := noneC) rfl (by simp [noneC]) rfl fun w3 M => ⟨_, _, _, _, _, _, _, _, M.cells 0 (c := reqC ((getReq wF s).getD noReq) a l c a' l' c') rfl, M.keep, a, l, c, a', l', c', rfl, M.now.2⟩⟩

theorem getReq_bad {f : List UInt8 → Int} {s : List UInt8} {t : List (List UInt8)} (h : splitL s = some t) (h2 : t = [] ∨ first (t.headD []) = -1) : getReq f s = none := by
  refine getReq_no h ?_
  have hk : (reqOf f t).kind = -1 := by
    cases t with
    | nil => rfl
    | cons x r => exact h2.resolve_left (by simp)
  rw [putReq_not]
  · simp
  · rintro ⟨_, _, _, g⟩
    rw [hk] at g
    omega
theorem first_not {s : List UInt8} (h : s.length ≠ 1) : first s = -1 := by
  match s, h with
  | [], _ => rfl
  | [_], h => exact absurd rfl h
  | _ :: _ :: _, _ => rfl

theorem x_GetRequest (w : World) (s : List UInt8) (hs : s.length ≤ 50000) : Calls Try.prog 14 #[.string (bs s)] w (RetGot w (getReq xF s)) := by
  refine Calls.mono (F14_calls (bs s) w (fun v w' => RetGot w (getReq xF s) (.returned v) w') ?_) (fun e w' ⟨v, he, h⟩ => by rw [he]; exact h)
  refine (Mem.start w).newK fun b w1 M => ?_
  have M : Mem w [] [(b, .cells noneC.toArray 35 (0, 0))] (fun _ => True) w1 := M
  refine (x_Split12 w1 s (by omega)).mono ?_
  rintro e w2 ⟨k1, hres⟩
  have no : ∀ {F : World → Prop} {W : World}, getReq xF s = none → Mem w [] [(b, .cells noneC.toArray 35 (0, 0))] F W →
      StK W ⟨b, 0, none⟩ [.int .i64 0, .slice none 0 0, .string (bs []), .slice none 0 0] (fun w4 => ∃ n2 a3 l3 c3 s2 a4 l4 c4, CellsAt w4 ⟨b, 0, none⟩ [.int .i64 n2, .slice a3 l3 c3, .string s2, .slice a4 l4 c4] ∧ RetGot w (getReq xF s) (.returned (.tuple #[.agg #[.int .i64 n2, .slice a3 l3 c3, .string s2, .slice a4 l4 c4], .int .i64 5])) w4) := by
    intro F W hn M
    refine M.stK 0 (c := noneC) rfl (by simp [noneC]) rfl fun w5 M => ⟨_, _, _, _, _, _, _, _, M.cells 0 (c := noneC) rfl, M.keep, none, 0, 0, none, 0, 0, ?_, ?_⟩
    · rw [hn]; rfl
    · rw [hn]; exact Fresh.always noReqAt
  cases hsp : splitL s with
  | none =>
    rw [hsp] at hres
    exact ⟨_, _, _, _, hres, fun K hK => SplitK.t rfl (hK _ _ fun _ => SplitK.t rfl (no (getReq_split hsp) (M.call k1)))⟩
  | some t =>
    rw [hsp] at hres
    obtain ⟨a, l, c, he, hf⟩ := hres
    have hj := joinL_splitL hsp
    have hS := reqOf_S xF t (by rw [hj]; omega)
    have hcnt := splitL_cnt hsp
    have htl := splitL_len hsp
    have M := M.callF k1 hf
    have hl := strs_len M.now.2
    subst hl
    refine ⟨_, _, _, _, he, fun K hK => SplitK.f rfl (SplitK.of (fun h0 => ?_) (fun h0 => ?_))⟩
    · simp only [natI_eq, eqI_t] at h0
      exact hK _ _ fun _ => SplitK.t rfl (no (getReq_bad hsp (.inl (List.eq_nil_of_length_eq_zero (by omega)))) M)
    simp only [natI_eq, eqI_f] at h0
    obtain ⟨x0, tl, rfl⟩ : ∃ x0 tl, t = x0 :: tl := by
      cases t with
      | nil => simp at h0
      | cons x r => exact ⟨x, r, rfl⟩
    obtain ⟨p, hp, hpc⟩ := str_at M.now.2 (k := 0) (by simp)
    have h0l : (0 : Int) < natI (x0 :: tl).length := by rw [natI_eq, List.length_cons]; omega
    refine ⟨by decide, h0l, SomeK.of p hp ⟨_, hpc, hK _ _ fun _ => SplitK.of (fun h1 => ?_) (fun h1 => ?_)⟩⟩
    · simp only [List.getElem_cons_zero, sizeS_bs, natI_eq, notB_t, eqI_f] at h1
      exact no (getReq_bad hsp (.inr (first_not (s := x0) (by omega)))) M
    simp only [List.getElem_cons_zero, sizeS_bs, natI_eq, notB_f, eqI_t] at h1
    obtain ⟨z, rfl⟩ : ∃ z, x0 = [z] := List.length_eq_one_iff.1 (by omega)
    refine ⟨by decide, h0l, SomeK.of p hp ⟨_, hpc, by decide, byteAt (l := [z]) (i := 0) (by simp) ?_⟩⟩
    have ez : wrapI .i64 (byteI ([z][0]'(by simp))) = ((z.toNat : Nat) : Int) := by
      show wrapI .i64 (byteI z) = _
      exact wrapI_i64 _ (by have := z.toNat_lt; omega)
    rw [ez]
    have hfz : first [z] = ((z.toNat : Nat) : Int) := rfl
    refine M.newK fun b3 w4 M => M.stK 0 (c := noneC) rfl (by simp [noneC]) rfl fun w5 M => ?_
    let r := reqOf xF ([z] :: tl)
    have hr : reqOf xF ([z] :: tl) = r := rfl
    have hat : ∀ {W' : World}, VsAt W' a ([z] :: tl).length (strs ([z] :: tl)) → ∀ (j : Nat) (hj : j < ([z] :: tl).length), W'.cell? (addA p (mulN (intN (j : Int)) 1)) = some (.string (bs ([z] :: tl)[j])) := by
      intro W' hv' j hj
      obtain ⟨q, hq, hc'⟩ := VsAt.ptr hv' (by rw [strs_length]; omega)
      rw [hp] at hq; cases hq
      rw [addA_int]
      exact hc' j _ (strs_at hj)
    let B : Nat → List OpV → List UInt8 → List TokV → Option Addr → Nat → Nat → Option Addr → Nat → Nat → List (Nat × Obj) := fun _ ops lab ts a0 l0 c0 a1 l1 c1 => [(b3, .cells (reqC ⟨((z.toNat : Nat) : Int), ops, lab, ts⟩ a0 l0 c0 a1 l1 c1).toArray 35 (0, 0)), (b, .cells noneC.toArray 35 (0, 0))]
    have M : Mem w [] (B 0 [] [] [] none 0 0 none 0 0) (fun W => True ∧ VsAt W a ([z] :: tl).length (strs ([z] :: tl))) w5 := M
    have ck : ∀ {ops lab ts a0 l0 c0 a1 l1 c1} {F : World → Prop} {m : List (Nat × Obj)} {W : World}, Mem w [] (B 0 ops lab ts a0 l0 c0 a1 l1 c1 ++ m) F W → W.cell? (addA ⟨b3, 0, none⟩ 0) = some (.int .i64 ((z.toNat : Nat) : Int)) := fun {ops lab ts a0 l0 c0 a1 l1 c1} F m W M => M.cellA 0 (c := reqC ⟨((z.toNat : Nat) : Int), ops, lab, ts⟩ a0 l0 c0 a1 l1 c1) rfl rfl
    intro K1 hK1
    -- after the batch
    have next : ∀ {ops : List OpV} {a0 : Option Addr} {l0 c0 : Nat} {W : World}, ops = r.ops → Mem w [] (B 0 ops [] [] a0 l0 c0 none 0 0) (fun W => VsAt W a ([z] :: tl).length (strs ([z] :: tl)) ∧ Fresh w.heap.size W (fun w => RsAt w 3 a0 l0 (opsC ops))) W → K1 [] W := by
      intro ops a0 l0 c0 W ho M
      refine hK1 _ fun _ K2 hK2 => ?_
      have next2 : ∀ {lab : List UInt8} {W : World}, lab = r.label → Mem w [] (B 0 ops lab [] a0 l0 c0 none 0 0) (fun W => VsAt W a ([z] :: tl).length (strs ([z] :: tl)) ∧ Fresh w.heap.size W (fun w => RsAt w 3 a0 l0 (opsC ops))) W → K2 [] W := by
        intro lab W hlab M
        refine hK2 _ fun _ => ⟨fun n vs W => ∃ (k : Nat) (ts : List TokV) (opt : List (Nat × Obj)) (a1 : Option Addr) (l1 c1 : Nat),
            vs = [.int .i64 ((1 + 2 * k : Nat) : Int)] ∧ 2 * k + n = tl.length ∧ ts.length = k ∧ (z.toNat ≠ 2 → k = 0) ∧ pairs xF tl = ts ++ pairs xF (tl.drop (2 * k)) ∧
            OwnR opt 76 2 a1 l1 c1 (toksC ts) ∧
            Mem w [] (opt ++ B 0 ops lab ts a0 l0 c0 a1 l1 c1) (fun W => VsAt W a ([z] :: tl).length (strs ([z] :: tl)) ∧ Fresh w.heap.size W (fun w => RsAt w 3 a0 l0 (opsC ops))) W,
            ⟨tl.length, 0, [], [], none, 0, 0, rfl, by omega, rfl, fun _ => rfl, rfl, OwnR.nil, M⟩, ?_⟩
        clear M
        rintro n vs W ⟨k, ts, opt, a1, l1, c1, rfl, hk, htk, hk0, hpr, hown, M⟩
        refine ⟨_, rfl, fun _ K3 hK3 => ?_⟩
        simp only [List.length_cons] at hcnt
        have e1 : addI .i64 ((1 + 2 * k : Nat) : Int) 1 = ((1 + 2 * k + 1 : Nat) : Int) := addI_one (by omega)
        have e2 : addI .i64 ((1 + 2 * k : Nat) : Int) 2 = ((1 + 2 * k + 2 : Nat) : Int) := addI_nat (1 + 2 * k) 2 (by omega)
        rw [e1, e2] at hK3
        rw [e1]
        have hl1 : l1 = k := by have := hown.len; rw [toksC_len, htk] at this; omega
        -- no more
        have last : (z.toNat = 2 → tl.length ≤ 2 * k + 1) → K3 [.bool false] W := by
          intro hz
          refine hK3 _ _ fun _ => SplitK.f rfl ?_
          have M : Mem w [] (B 0 ops lab ts a0 l0 c0 a1 l1 c1) _ W := ownFrR M hown
          have er : (⟨((z.toNat : Nat) : Int), ops, lab, ts⟩ : ReqV) = r := by
            rw [ho, hlab]
            show ReqV.mk _ _ _ _ = ReqV.mk _ _ _ _
            congr 1
            by_cases hz2 : z.toNat = 2
            · have hps : pairs xF (tl.drop (2 * k)) = [] := pairs_short _ _ (by rw [List.length_drop]; have := hz hz2; omega)
              rw [hps, List.append_nil] at hpr
              rw [hfz, if_pos (by omega), hpr]
            · have hk0 := hk0 hz2
              rw [hfz, if_neg (by omega)]
              exact List.eq_nil_of_length_eq_zero (by omega)
          have M : Mem w [] [(b3, .cells (reqC r a0 l0 c0 a1 l1 c1).toArray 35 (0, 0)), (b, .cells noneC.toArray 35 (0, 0))] (fun W => Fresh w.heap.size W (fun w => ReqAt w r a0 l0 a1 l1)) W := by
            rw [← er]
            exact M.imp fun w' hw => (hw.1.2.and hw.2).imp fun w' h => ⟨h.1, h.2⟩
          refine ⟨_, _, _, _, _, _, _, _, M.cells 0 (c := reqC r a0 l0 c0 a1 l1 c1) rfl, CallK.ret (x_PutRequest W r M.now.now hS) fun w7 k7 => ?_⟩
          have M := M.call k7
          cases hp : putReq r with
          | none =>
            refine ⟨bs [], 1, by rfl, fun K hK => SplitK.t rfl (hK _ _ fun _ => SplitK.t rfl (no (getReq_no hsp (by rw [hr, hp]; simp)) M.tail))⟩
          | some d =>
            refine ⟨bs d, 0, by rfl, fun K hK => SplitK.f rfl (hK _ _ fun _ => ?_)⟩
            rw [eqS_bs]
            refine SplitK.of (fun h => ?_) (fun h => ?_)
            · simp only [notB_t, decide_eq_false_iff_not] at h
              exact no (getReq_no hsp (by rw [hr, hp]; simpa using h)) M.tail
            · simp only [notB_f, decide_eq_true_eq] at h
              have hg : getReq xF s = some r := getReq_yes hsp (by rw [hr, hp, h])
              refine ⟨_, _, _, _, _, _, _, _, M.cells 0 (c := reqC r a0 l0 c0 a1 l1 c1) rfl, M.stK 1 (c := noneC) rfl (by simp [noneC]) rfl fun w8 M => ⟨_, _, _, _, _, _, _, _, M.cells 1 (c := reqC r a0 l0 c0 a1 l1 c1) rfl, M.keep, a0, l0, c0, a1, l1, c1, ?_, ?_⟩⟩
              · rw [hg]; rfl
              · rw [hg]; exact M.now
        refine SplitK.of (fun hlt => ?_) (fun hlt => ?_)
        · rw [ltI_t, natI_eq, List.length_cons] at hlt
          refine ⟨_, ck (M.perm List.perm_append_comm), ?_⟩
          by_cases hz2 : z.toNat = 2
          · have e : eqI ((z.toNat : Nat) : Int) 2 = true := by rw [eqI_t]; omega
            rw [e]
            refine hK3 _ _ fun _ => SplitK.t rfl fun K4 hK4 => ?_
            rintro w8 rfl
            have M := M.drew
            have hS8 : ∀ {W' : World} {opt : List (Nat × Obj)}, Mem w [] (opt ++ B 0 ops lab ts a0 l0 c0 a1 l1 c1) (fun W => VsAt W a ([z] :: tl).length (strs ([z] :: tl)) ∧ Fresh w.heap.size W (fun w => RsAt w 3 a0 l0 (opsC ops))) W' → CellsAt W' ⟨b3, 0, none⟩ (reqC ⟨((z.toNat : Nat) : Int), ops, lab, ts⟩ a0 l0 c0 a1 l1 c1) ∧ VsAt W' a ([z] :: tl).length (strs ([z] :: tl)) := fun M => ⟨(M.perm List.perm_append_comm).cells 0 rfl, M.now.1⟩
            have hi : ∀ j : Nat, j < tl.length + 1 → (0 : Int) ≤ (j : Int) ∧ (j : Int) < natI ([z] :: tl).length := fun j hj => ⟨by omega, by rw [natI_eq, List.length_cons]; omega⟩
            have hg0 : ([z] :: tl)[1 + 2 * k]'(by rw [List.length_cons]; omega) = tl[2 * k]'(by omega) := by
              simp only [show 1 + 2 * k = 2 * k + 1 by omega, List.getElem_cons_succ]
            have hg1 : ([z] :: tl)[1 + 2 * k + 1]'(by rw [List.length_cons]; omega) = tl[2 * k + 1]'(by omega) := by
              simp only [show 1 + 2 * k + 1 = 2 * k + 1 + 1 by omega, List.getElem_cons_succ]
            have ct : ∀ {W' : World}, VsAt W' a ([z] :: tl).length (strs ([z] :: tl)) → W'.cell? (addA p (mulN (intN ((1 + 2 * k : Nat) : Int)) 1)) = some (.string (bs (tl[2 * k]'(by omega)))) := fun hv => by rw [← hg0]; exact hat hv _ _
            have ct1 : ∀ {W' : World}, VsAt W' a ([z] :: tl).length (strs ([z] :: tl)) → W'.cell? (addA p (mulN (intN ((1 + 2 * k + 1 : Nat) : Int)) 1)) = some (.string (bs (tl[2 * k + 1]'(by omega)))) := fun hv => by rw [← hg1]; exact hat hv _ _
            refine ⟨fun W' => CellsAt W' ⟨b3, 0, none⟩ (reqC ⟨((z.toNat : Nat) : Int), ops, lab, ts⟩ a0 l0 c0 a1 l1 c1) ∧ VsAt W' a ([z] :: tl).length (strs ([z] :: tl)), hS8 M, a1, l1, c1, fun w' hw => ?_, (hi _ (by omega)).1, (hi _ (by omega)).2, SomeK.of _ hp ⟨_, fun w' hw => ct hw.2, (hi _ (by omega)).1, (hi _ (by omega)).2, SomeK.of _ hp ⟨_, fun w' hw => ct1 hw.2, ?_⟩⟩⟩
            · have := hw.1 3 _ rfl
              rw [addr_add] at this
              rw [addA_mk]; exact this
            have hy1 : (tl[2 * k + 1]'(by omega)).length ≤ 1000000 := by
              have := htl _ (List.mem_cons_of_mem [z] (List.getElem_mem (l := tl) (n := 2 * k + 1) (by omega))); omega
            refine CallK.ret (x_ReadBig _ (tl[2 * k + 1]'(by omega)) (by omega)) fun w9 k9 => ⟨_, rfl, ?_⟩
            have M := M.call k9
            have ef : wrapI .i64 (remI ((readB (tl[2 * k + 1]'(by omega)) : Nat) : Int) 1000000) = xF (tl[2 * k + 1]'(by omega)) := by
              have e5 : remI ((readB (tl[2 * k + 1]'(by omega)) : Nat) : Int) 1000000 = ((readB (tl[2 * k + 1]'(by omega)) % 1000000 : Nat) : Int) := remI_nat _ 1000000
              rw [e5, wrapI_i64 _ (by omega)]; rfl
            rw [ef]
            refine ⟨hS8 M, by decide, hS8 M, M.newK fun b4 w10 M => ⟨hS8 (opt := _ :: opt) M, tokC ⟨tl[2 * k]'(by omega), xF (tl[2 * k + 1]'(by omega))⟩, ⟨rfl, M.cells 0 (c := tokC ⟨tl[2 * k]'(by omega), xF (tl[2 * k + 1]'(by omega))⟩) rfl⟩, (fun h => by cases h), ?_⟩⟩
            refine Mem.appR M.tail hown (by decide) rfl rfl rfl (by omega) (by omega) ?_
            intro a3 l3 c3 opt3 w11 ho3 M4 hl3
            refine ⟨hS8 M4, ?_⟩
            have M5 := M4.perm List.perm_append_comm
            refine M5.stA 0 (c := reqC ⟨((z.toNat : Nat) : Int), ops, lab, ts⟩ a0 l0 c0 a1 l1 c1) rfl (by simp [reqC]) rfl fun w12 M6 => hK4 _ fun _ => ⟨n - 2, by omega, k + 1, ts ++ [⟨tl[2 * k]'(by omega), xF (tl[2 * k + 1]'(by omega))⟩], opt3, a3, l3, c3, ?_, by omega, by simp [htk], fun h => absurd hz2 h, ?_, ?_, ?_⟩
            · rw [show 1 + 2 * (k + 1) = 1 + 2 * k + 2 by omega]
            · have ed : tl.drop (2 * k) = tl[2 * k]'(by omega) :: tl[2 * k + 1]'(by omega) :: tl.drop (2 * (k + 1)) := by
                rw [List.drop_eq_getElem_cons (by omega), List.drop_eq_getElem_cons (by omega)]
                rfl
              rw [hpr, ed, pairs, List.append_assoc]; rfl
            · rw [← toksC_snoc]; exact ho3
            · exact Mem.perm (show Mem w [] (B 0 ops lab (ts ++ [⟨tl[2 * k]'(by omega), xF (tl[2 * k + 1]'(by omega))⟩]) a0 l0 c0 a3 l3 c3 ++ opt3) _ w12 from M6) List.perm_append_comm
          · have e : eqI ((z.toNat : Nat) : Int) 2 = false := by rw [eqI_f]; omega
            rw [e]
            exact last fun h => absurd h hz2
        · rw [ltI_f, natI_eq, List.length_cons] at hlt
          exact last fun _ => by omega
      intro K3 hK3
      have skip : ¬ (first [z] = 1 ∧ tl.length = 1) → K3 [.bool false] W := by
        intro hn
        refine hK3 _ _ fun _ => SplitK.f rfl (next2 (lab := []) ?_ M)
        show [] = (if _ then _ else _ : List UInt8)
        rw [if_neg hn]
      refine ⟨_, ck (m := []) (by rw [List.append_nil]; exact M), SplitK.of (fun h1 => ?_) (fun h1 => ?_)⟩
      · rw [eqI_t] at h1
        by_cases ht : tl.length = 1
        · have e : eqI (natI ([z] :: tl).length) 2 = true := by rw [eqI_t, natI_eq, List.length_cons]; omega
          rw [e]
          have hg1 : ([z] :: tl)[1]'(by rw [List.length_cons]; omega) = tl.headD [] := by
            obtain ⟨x1, rfl⟩ := List.length_eq_one_iff.1 ht
            rfl
          refine hK3 _ _ fun _ => SplitK.t rfl ⟨by decide, by rw [natI_eq, List.length_cons]; omega, SomeK.of p hp ⟨bs (tl.headD []), by rw [← hg1]; exact hat M.now.1 1 (by rw [List.length_cons]; omega), ?_⟩⟩
          refine M.stA 0 (c := reqC ⟨((z.toNat : Nat) : Int), ops, [], []⟩ a0 l0 c0 none 0 0) rfl (by simp [reqC]) rfl fun w5 M => ?_
          refine next2 (lab := tl.headD []) ?_ M
          show _ = (if _ then _ else _ : List UInt8)
          rw [if_pos ⟨by rw [hfz]; omega, ht⟩]
        · have e : eqI (natI ([z] :: tl).length) 2 = false := by rw [eqI_f, natI_eq, List.length_cons]; omega
          rw [e]
          exact skip fun h => ht h.2
      · rw [eqI_f] at h1
        exact skip fun h => by rw [hfz] at h; omega
    have M : Mem w [] (B 0 [] [] [] none 0 0 none 0 0) (fun W => VsAt W a ([z] :: tl).length (strs ([z] :: tl)) ∧ Fresh w.heap.size W (fun w => RsAt w 3 none 0 (opsC []))) w5 := M.imp fun w' hw => ⟨hw.2, Fresh.always fun w' => RsAt.nil⟩
    intro K2 hK2
    have skip : ¬ (first [z] = 0 ∧ tl.length = 1) → K2 [.bool false] w5 := by
      intro hn
      refine hK2 _ _ fun _ => SplitK.f rfl (next (ops := []) ?_ M)
      show [] = (if _ then _ else _ : List OpV)
      rw [if_neg hn]
    refine ⟨_, ck (m := []) (by rw [List.append_nil]; exact M), SplitK.of (fun h1 => ?_) (fun h1 => ?_)⟩
    · rw [eqI_t] at h1
      by_cases ht : tl.length = 1
      · have e : eqI (natI ([z] :: tl).length) 2 = true := by rw [eqI_t, natI_eq, List.length_cons]; omega
        rw [e]
        obtain ⟨x1, rfl⟩ := List.length_eq_one_iff.1 ht
        have hx1 : x1.length ≤ 300000 := by have := htl x1 (by simp); omega
        refine hK2 _ _ fun _ => SplitK.t rfl ⟨by decide, by rw [natI_eq, List.length_cons]; simp, SomeK.of p hp ⟨bs x1, hat M.now.1 1 (by simp), ?_⟩⟩
        refine (x_Get w5 x1 hx1).mono ?_
        rintro e5 w6 ⟨k5, hres⟩
        have hro : r.ops = (getOps x1).getD [] := by
          show (if _ then _ else _ : List OpV) = _
          rw [if_pos ⟨by rw [hfz]; omega, rfl⟩]; rfl
        cases hg : getOps x1 with
        | none =>
          rw [hg] at hres hro
          refine ⟨_, _, _, _, hres, ?_⟩
          refine (M.call k5).stA 0 (c := reqC ⟨((z.toNat : Nat) : Int), [], [], []⟩ none 0 0 none 0 0) rfl (by simp [reqC]) rfl fun w7 M => ?_
          exact next (ops := []) (by rw [hro]; rfl) M
        | some ops =>
          rw [hg] at hres hro
          obtain ⟨a5, l5, c5, he5, hf5⟩ := hres
          refine ⟨_, _, _, _, he5, ?_⟩
          refine (M.callFr k5 hf5).stA 0 (c := reqC ⟨((z.toNat : Nat) : Int), [], [], []⟩ none 0 0 none 0 0) rfl (by simp [reqC]) rfl fun w7 M => ?_
          exact next (ops := ops) (a0 := a5) (l0 := l5) (c0 := c5) (by rw [hro]; rfl) (M.imp fun w' hw => ⟨hw.1.1, hw.2⟩)
      · have e : eqI (natI ([z] :: tl).length) 2 = false := by rw [eqI_f, natI_eq, List.length_cons]; omega
        rw [e]
        exact skip fun h => ht h.2
    · rw [eqI_f] at h1
      exact skip fun h => by rw [hfz] at h; omega

end Go.Proofs.Ytgecpbplbkpdlaa
