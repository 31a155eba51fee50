/-
  A part of the proof: WJ.
-/
import Derived.Test.YtgecpbplbkpdlaaSxWI
namespace Go.Proofs.Ytgecpbplbkpdlaa
open Go Go.Sx Go.Oct Go.Wire
set_option linter.unusedVariables false

theorem getOps_len {s : List UInt8} {t : List (List UInt8)} (hsp : splitL s = some t) (h : (opsT (grp t)).length ≠ t.length) : getOps s = none := by
  rw [getOps, hsp]
  simp only
  rw [if_neg]
  intro hp
  exact h (by rw [(getOps_texts hsp hp).1])

theorem x_Get (w : World) (s : List UInt8) (hs : s.length ≤ 300000) : Calls Try.prog 39 #[.string (bs s)] w (RetOps w (getOps s)) := by
  refine Calls.mono (F39_calls (bs s) w (fun v w' => RetOps w (getOps s) (.returned v) w') ?_) (fun e w' ⟨v, he, h⟩ => by rw [he]; exact h)
  refine (x_Split12 w s (by omega)).mono ?_
  rintro e w1 ⟨k1, hres⟩
  have nil : ∀ w', getOps s = none → Keep [] w w' → RetOps w (getOps s) (.returned (.tuple #[.slice none 0 0, .int .i64 5])) w' := fun w' hn k => ⟨k, by rw [hn]⟩
  cases hsp : splitL s with
  | none =>
    have hg : getOps s = none := by rw [getOps, hsp]
    rw [hsp] at hres
    exact ⟨_, _, _, _, hres, fun K hK => SplitK.t rfl (hK _ _ fun _ => SplitK.t rfl (nil _ hg k1))⟩
  | some t =>
    rw [hsp] at hres
    obtain ⟨a, l, c, he, hf⟩ := hres
    have hv := hf.now
    have hl : l = t.length := by have := hv.1; rwa [strs_length] at this
    subst hl
    have hjs := joinL_splitL hsp
    have hcnt := splitL_cnt hsp
    have hgl := grp_left t
    have M : Mem w1 [] [] (fun W => VsAt W a t.length (strs t)) w1 := Mem.startF w1 fun w' k => hv.keep0 k
    refine ⟨a, t.length, c, 0, he, fun K hK => SplitK.f rfl ⟨by decide, ?_⟩⟩
    have er : remI (natI t.length) 3 = ((t.length % 3 : Nat) : Int) := remI_nat _ 3
    rw [er]
    refine hK _ _ fun _ => SplitK.of (fun h3 => ?_) (fun h3 => ?_)
    · simp only [notB_t, eqI_f] at h3
      refine nil _ (getOps_len hsp ?_) k1
      rw [opsT_length]; omega
    simp only [notB_f, eqI_t] at h3
    refine ⟨fun n vs W => ∃ (k : Nat) (ops : List OpV) (opt : List (Nat × Obj)) (a1 : Option Addr) (c1 : Nat),
      vs = [.slice a1 k c1, .int .i64 ((3 * k : Nat) : Int)] ∧ 3 * k + n = t.length ∧ ops.length = k ∧ grp t = ops ++ grp (t.drop (3 * k)) ∧
      OwnR opt 100 3 a1 k c1 (opsC ops) ∧ Mem w1 [] (opt ++ []) (fun W => VsAt W a t.length (strs t)) W,
      ⟨t.length, 0, [], [], none, 0, rfl, by omega, rfl, rfl, OwnR.nil, M⟩, ?_⟩
    clear M
    rintro n vs W ⟨k, ops, opt, a1, c1, rfl, hk, hok, hgt, ho, M⟩
    have kk : Keep [] w W := k1.trans0 M.keep
    refine ⟨_, _, _, _, rfl, fun _ => SplitK.of (fun hlt => ?_) (fun hlt => ?_)⟩
    · simp only [natI_eq, ltI_t] at hlt
      obtain ⟨p, hp, hc⟩ := VsAt.ptr M.now (by rw [strs_length]; omega)
      have hat : ∀ {W'}, VsAt W' a t.length (strs t) → ∀ (j : Nat) (hj : j < t.length), W'.cell? (addA p (mulN (intN (j : Int)) 1)) = some (.string (bs t[j])) := by
        intro W' hv' j hj
        obtain ⟨q, hq, hc'⟩ := VsAt.ptr hv' (by rw [strs_length]; omega)
        rw [hp] at hq; cases hq
        rw [addA_int]
        exact hc' j _ (strs_at hj)
      have ed : t.drop (3 * k) = t[3 * k]'(by omega) :: t[3 * k + 1]'(by omega) :: t[3 * k + 2]'(by omega) :: t.drop (3 * k + 3) := by
        rw [List.drop_eq_getElem_cons (by omega), List.drop_eq_getElem_cons (by omega), List.drop_eq_getElem_cons (by omega)]
      intro K1 hK1
      refine ⟨by omega, by rw [natI_eq]; omega, SomeK.of _ hp ⟨_, hat M.now (3 * k) (by omega), ?_⟩⟩
      rw [ed] at hgt
      generalize hx0 : t[3 * k]'(by omega) = x0 at *
      refine SplitK.of (fun h1 => ?_) (fun h1 => ?_)
      · simp only [sizeS_bs, natI_eq, notB_t, eqI_f] at h1
        refine nil _ (getOps_len hsp ?_) kk
        have : grp (x0 :: t[3 * k + 1]'(by omega) :: t[3 * k + 2]'(by omega) :: t.drop (3 * k + 3)) = [] := by
          match x0, h1 with
          | [], _ => rfl
          | [z], h1 => simp at h1
          | _ :: _ :: _, _ => rfl
        rw [this, List.append_nil] at hgt
        rw [hgt, opsT_length, hok]; omega
      · simp only [sizeS_bs, natI_eq, notB_f, eqI_t] at h1
        obtain ⟨z, rfl⟩ : ∃ z, x0 = [z] := by
          match x0, h1 with
          | [z], _ => exact ⟨z, rfl⟩
          | [], h1 => simp at h1
          | _ :: _ :: _, h1 => simp at h1; omega
        rintro w4 rfl
        have M := M.drew
        have e1 : addI .i64 ((3 * k : Nat) : Int) 1 = ((3 * k + 1 : Nat) : Int) := addI_nat _ 1 (by omega)
        have e2 : addI .i64 ((3 * k : Nat) : Int) 2 = ((3 * k + 2 : Nat) : Int) := addI_nat _ 2 (by omega)
        have e3 : addI .i64 ((3 * k : Nat) : Int) 3 = ((3 * (k + 1) : Nat) : Int) := by
          rw [show 3 * (k + 1) = 3 * k + 3 by omega]; exact addI_nat _ 3 (by omega)
        rw [e1, e2]
        refine ⟨fun W' => VsAt W' a t.length (strs t), M.now, by omega, by rw [natI_eq]; omega, SomeK.of _ hp ⟨bs [z], fun w' h => by rw [← hx0]; exact hat h (3 * k) (by omega), by decide, byteAt (by simp) ⟨by omega, by rw [natI_eq]; omega, SomeK.of _ hp ⟨_, fun w' h => hat h (3 * k + 1) (by omega), by omega, by rw [natI_eq]; omega, SomeK.of _ hp ⟨_, fun w' h => hat h (3 * k + 2) (by omega), M.now, ?_⟩⟩⟩⟩⟩
        generalize t[3 * k + 1]'(by omega) = x1 at *
        generalize t[3 * k + 2]'(by omega) = x2 at *
        refine M.newK fun b2 w5 M => ⟨M.now, ?_⟩
        have ez : wrapI .i64 (byteI z) = ((z.toNat : Nat) : Int) := wrapI_i64 _ (by have := z.toNat_lt; omega)
        have M : Mem w1 [] ((b2, .cells (List.toArray [.int .i64 (wrapI .i64 (byteI z)), .string (bs x1), .string (bs x2)]) 100 (0, 0)) :: (opt ++ [])) (fun W => VsAt W a t.length (strs t)) w5 := M
        rw [ez] at M
        refine ⟨opC ⟨z.toNat, x1, x2⟩, ⟨rfl, M.cells 0 (c := opC ⟨z.toNat, x1, x2⟩) rfl⟩, (fun h => by cases h), ?_⟩
        have M3 : Mem w1 [] (opt ++ []) (fun W => VsAt W a t.length (strs t)) w5 := M.tail
        refine Mem.appR M3 ho (by decide) rfl rfl rfl (by omega) (by omega) ?_
        intro a3 l3 c3 opt3 w6 ho3 M3 hl3
        subst hl3
        refine ⟨M3.now, hK1 _ _ _ _ fun _ => ⟨n - 3, by omega, k + 1, ops ++ [⟨z.toNat, x1, x2⟩], opt3, a3, c3, by rw [e3], by omega, by simp [hok], ?_, ?_, M3⟩⟩
        · rw [hgt, grp_cons, List.append_assoc, show 3 * k + 3 = 3 * (k + 1) by omega]; rfl
        · rw [← opsC_snoc]; exact ho3
    · simp only [natI_eq, ltI_f] at hlt
      have hgr : grp (t.drop (3 * k)) = [] := by rw [List.drop_of_length_le (by omega)]; rfl
      rw [hgr, List.append_nil] at hgt
      have hle : (joinL (opsT ops)).length ≤ s.length := by
        rw [← hgt, ← hjs]
        conv => rhs; rw [← hgl, joinL_append]
        rw [List.length_append]; omega
      refine CallK.ret (x_Put W (ho.rsAt M) (by omega)) fun w3 k3 => ?_
      have M3 := M.call k3
      have kk := kk.trans0 k3
      cases hput : putOps ops with
      | none =>
        have hg : getOps s = none := by
          rw [getOps, hsp]
          simp only [hgt, hput]
          rw [if_neg (by simp)]
        exact ⟨bs [], 1, by rw [putOpsV, hput], fun K1 hK1 => SplitK.t rfl (hK1 _ _ fun _ => SplitK.t rfl (nil _ hg kk))⟩
      | some d =>
        refine ⟨bs d, 0, by rw [putOpsV, hput], fun K1 hK1 => SplitK.f rfl ?_⟩
        rw [eqS_bs]
        by_cases hds : d = s
        · have hg : getOps s = some ops := by
            rw [getOps, hsp]
            simp only [hgt, hput]
            rw [if_pos (by rw [hds])]
          rw [decide_eq_true hds]
          refine hK1 _ _ fun _ => SplitK.f rfl ⟨kk, ?_⟩
          rw [hg]
          exact ⟨_, _, _, rfl, (ho.freshR M3).mono k1.size⟩
        · have hg : getOps s = none := by
            rw [getOps, hsp]
            simp only [hgt, hput]
            rw [if_neg (fun h => hds (Option.some.inj h))]
          rw [decide_eq_false hds]
          exact hK1 _ _ fun _ => SplitK.t rfl (nil _ hg kk)

/-- Two rows of ops. -/
theorem opC_inj {o q : OpV} (h : opC o = opC q) : o = q := by
  obtain ⟨a, b, c⟩ := o
  obtain ⟨a', b', c'⟩ := q
  simp [opC] at h
  obtain ⟨rfl, rfl, rfl⟩ := h
  rfl
theorem op_eqB (o q : OpV) : andB (eqI o.kind q.kind) (andB (eqS (bs o.label) (bs q.label)) (eqS (bs o.box) (bs q.box))) = decide (o = q) := by
  rw [eqS_bs, eqS_bs, Bool.eq_iff_iff, decide_eq_true_eq]
  simp only [andB, Bool.and_eq_true, decide_eq_true_eq, eqI_t]
  constructor
  · rintro ⟨h1, h2, h3⟩
    obtain ⟨a, b, c⟩ := o
    obtain ⟨a', b', c'⟩ := q
    simp only at h1 h2 h3
    subst h1 h2 h3; rfl
  · rintro rfl; exact ⟨rfl, rfl, rfl⟩

theorem same_rows {α : Type} [DecidableEq α] {xs ys : List α} {k : Nat} (hl : xs.length = ys.length) (hk : k < xs.length) (ht : xs.take k = ys.take k) :
    (xs[k] = ys[k]'(by omega) → xs.take (k + 1) = ys.take (k + 1)) ∧ (xs[k] ≠ ys[k]'(by omega) → xs ≠ ys) := by
  constructor
  · intro h
    rw [List.take_succ_eq_append_getElem hk, List.take_succ_eq_append_getElem (by omega), ht, h]
  · intro h e
    subst e
    exact h rfl

theorem sameOps_body (w : World) {a a' : Option Addr} {l l' : Nat} (c c' : Nat) {xs ys : List OpV} (h : RsAt w 3 a l (opsC xs)) (h' : RsAt w 3 a' l' (opsC ys)) (hx : xs.length ≤ 1000000) : F41 a l c a' l' c' w (fun v w' => v = .bool (decide (xs = ys)) ∧ Keep [] w w') := by
  have hxl := ops_len h
  have hyl := ops_len h'
  subst hxl hyl
  refine SplitK.of (fun hn => ?_) (fun hn => ?_)
  · simp only [natI_eq, notB_t, eqI_f] at hn
    have : xs ≠ ys := fun e => hn (by rw [e])
    exact ⟨by rw [decide_eq_false this], Keep.refl _ _⟩
  · simp only [natI_eq, notB_f, eqI_t] at hn
    have hll : xs.length = ys.length := by omega
    refine ⟨fun n vs w2 => ∃ k : Nat, vs = [.int .i64 k] ∧ k + n = xs.length ∧ xs.take k = ys.take k ∧ Keep [] w w2, ⟨xs.length, 0, rfl, by omega, rfl, Keep.refl _ _⟩, ?_⟩
    rintro n vs w2 ⟨k, rfl, hk, ht, hK⟩
    refine ⟨_, rfl, fun _ => SplitK.of (fun hlt => ?_) (fun hlt => ?_)⟩
    · simp at hlt
      have hkx : k < xs.length := by omega
      have hky : k < ys.length := by omega
      obtain ⟨he, hne⟩ := @same_rows OpV _ xs ys k hll hkx ht
      rintro w3 rfl
      obtain ⟨q, hq, hqc⟩ := op_at (h.keep0 hK.drew) hkx
      obtain ⟨q', hq', hqc'⟩ := op_at (h'.keep0 hK.drew) hky
      refine ⟨fun W' => CellsAt W' (addA q (mulN (intN (k : Int)) 3)) (opC xs[k]) ∧ CellsAt W' (addA q' (mulN (intN (k : Int)) 3)) (opC ys[k]), ⟨hqc, hqc'⟩, by omega, by rw [natI_eq]; omega, SomeK.of q hq ⟨xs[k].kind, bs xs[k].label, bs xs[k].box, fun w' hw => hw.1, by omega, by rw [natI_eq]; omega, SomeK.of q' hq' ⟨ys[k].kind, bs ys[k].label, bs ys[k].box, fun w' hw => hw.2, ?_⟩⟩⟩
      rw [op_eqB]
      refine SplitK.of (fun hb => ?_) (fun hb => ?_)
      · simp only [notB_t, decide_eq_false_iff_not] at hb
        exact ⟨by rw [decide_eq_false (hne hb)], hK.drew⟩
      · simp only [notB_f, decide_eq_true_eq] at hb
        exact ⟨n - 1, by omega, k + 1, by rw [addI_one (by omega)], by omega, he hb, hK.drew⟩
    · simp at hlt
      obtain rfl : k = xs.length := by omega
      rw [List.take_length, hll, List.take_length] at ht
      exact ⟨by rw [decide_eq_true ht], hK⟩
theorem x_SameOps (w : World) {a a' : Option Addr} {l c l' c' : Nat} {xs ys : List OpV} (h : RsAt w 3 a l (opsC xs)) (h' : RsAt w 3 a' l' (opsC ys)) (hx : xs.length ≤ 1000000) : Calls Try.prog 41 #[.slice a l c, .slice a' l' c'] w (Ret w (.bool (decide (xs = ys)))) :=
  calls_ret (F41_calls _ _ _ _ _ _ _ _ (sameOps_body w c c' h h' hx))
theorem w_eqOps (w : World) {a a' : Option Addr} {l c l' c' : Nat} {xs ys : List OpV} (h : RsAt w 3 a l (opsC xs)) (h' : RsAt w 3 a' l' (opsC ys)) (hx : xs.length ≤ 1000000) : Calls Try.prog 42 #[.slice a l c, .slice a' l' c'] w (Ret w (.bool (decide (xs = ys)))) :=
  calls_ret (F42_calls _ _ _ _ _ _ _ _ (sameOps_body w c c' h h' hx))

end Go.Proofs.Ytgecpbplbkpdlaa
