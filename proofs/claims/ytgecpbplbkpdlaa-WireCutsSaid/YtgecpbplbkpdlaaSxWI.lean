/-
  A part of the proof: WI.
-/
import Derived.Test.YtgecpbplbkpdlaaSxWH
namespace Go.Proofs.Ytgecpbplbkpdlaa
open Go Go.Sx Go.Oct Go.Wire
set_option linter.unusedVariables false

theorem x_Put (w : World) {a : Option Addr} {l c : Nat} {ops : List OpV} (h : RsAt w 3 a l (opsC ops)) (hx : (joinL (opsT ops)).length ≤ 1000000) : Calls Try.prog 31 #[.slice a l c] w (Ret w (putOpsV ops)) := by
  refine calls_ret (F31_calls _ _ _ _ _ ?_)
  have hlen := ops_len h
  subst hlen
  have hb := opsT_bytes ops
  rw [opsT_length] at hb
  intro K hK
  have out : ∀ w', putOps ops = none → Keep [] w w' → (Value.tuple #[.string (bs []), .int .i64 1] = putOpsV ops ∧ Keep [] w w') := fun w' hn k => ⟨by rw [putOpsV, hn], k⟩
  have fin : K [.bool (decide (ops.length < 1 ∨ 400 < ops.length))] w := by
    refine hK _ _ fun _ => SplitK.of (fun hd => ?_) (fun hd => ?_)
    · have hd := of_decide_eq_true hd
      exact out _ (by rw [putOps, if_pos (by omega)]) (Keep.refl _ _)
    · have hd := of_decide_eq_false hd
      have M : Mem w [] [] (fun W => RsAt W 3 a ops.length (opsC ops)) w := Mem.startF w fun w' k => h.keep0 k
      refine ⟨fun n vs W => ∃ (k : Nat) (opt : List (Nat × Obj)) (a' : Option Addr) (l' c' : Nat), vs = [.slice a' l' c', .int .i64 k] ∧ k + n = ops.length ∧ (∀ o ∈ ops.take k, ¬ OddP o) ∧ OwnM opt 9 a' l' c' (strs (opsT (ops.take k))) ∧ Mem w [] (opt ++ []) (fun W => RsAt W 3 a ops.length (opsC ops)) W,
        ⟨ops.length, 0, [], none, 0, 0, rfl, by omega, by simp, OwnM.nil, M⟩, ?_⟩
      clear M
      rintro n vs W ⟨k, opt, a', l', c', rfl, hk, hno, ho, M⟩
      refine ⟨_, _, _, _, rfl, fun _ => SplitK.of (fun hlt => ?_) (fun hlt => ?_)⟩
      · simp at hlt
        have hkl : k < ops.length := by omega
        obtain ⟨p, hp, hc⟩ := op_at M.now hkl
        refine ⟨by omega, by simp; omega, SomeK.of p hp ⟨_, _, _, hc, ?_⟩⟩
        refine M.newK fun b1 w3 M => M.stK 0 (c := [.int .i64 0, .string ⟨#[]⟩, .string ⟨#[]⟩]) rfl (by simp) rfl fun w4 M => ?_
        have M : Mem w [] ((b1, .cells (opC ops[k]).toArray 100 (0, 0)) :: (opt ++ [])) (fun W => RsAt W 3 a ops.length (opsC ops)) w4 := M
        have c0 : w4.cell? (addA ⟨b1, 0, none⟩ 0) = some (.int .i64 ops[k].kind) := M.cellA 0 (c := opC ops[k]) rfl rfl
        have c1 : w4.cell? (addA ⟨b1, 0, none⟩ 1) = some (.string (bs ops[k].label)) := M.cellA 0 (c := opC ops[k]) rfl rfl
        have c2 : w4.cell? (addA ⟨b1, 0, none⟩ 2) = some (.string (bs ops[k].box)) := M.cellA 0 (c := opC ops[k]) rfl rfl
        intro K1 hK1
        have fin1 : K1 [.bool (decide (OddP ops[k]))] w4 := by
          refine hK1 _ _ fun _ => SplitK.of (fun hod => ?_) (fun hod => ?_)
          · have hod := of_decide_eq_true hod
            exact out _ (by rw [putOps, if_pos (.inr (.inr ⟨_, List.getElem_mem hkl, hod⟩))]) M.keep
          · have hod := of_decide_eq_false hod
            have hkk : 0 ≤ ops[k].kind ∧ ops[k].kind ≤ 3 := by unfold OddP at hod; omega
            obtain ⟨kn, hkn⟩ : ∃ kn : Nat, ops[k].kind = (kn : Int) := ⟨ops[k].kind.toNat, by omega⟩
            refine ⟨_, c0, M.newK fun b2 w5 M => ?_⟩
            rw [hkn, wrapI_u8, byteV_ofNat] at M
            refine ⟨[UInt8.ofNat kn], M.bytes 0 (T := 5) (fr := (0, 0)) rfl rfl, _, M.cellA 1 (c := opC ops[k]) rfl rfl, _, M.cellA 1 (c := opC ops[k]) rfl rfl, ?_⟩
            refine M.newK fun b3 w6 M => ?_
            have eT : ([.string (bs [UInt8.ofNat kn]), .string (bs ops[k].label), .string (bs ops[k].box)] : List Value) = strs (opT ops[k]) := by
              simp [strs, opT, hkn]
            refine ⟨strs (opT ops[k]), ?_, (fun h => by cases h), ?_⟩
            · rw [← eT]; exact ⟨rfl, M.cells 0 rfl⟩
            have hT := opsT_take ops k hkl
            have hle : 3 * (ops.take k).length ≤ 3 * ops.length := by rw [List.length_take]; omega
            have M3 : Mem w [] (opt ++ []) (fun W => RsAt W 3 a ops.length (opsC ops)) w6 := M.tail.tail.tail
            refine Mem.appK M3 ho (by simp [opT]) (by simp [strs, opT, isCell]) (by rw [strs_length, opsT_length]; omega) (by rw [strs_length, opsT_length]; omega) ?_
            intro a2 l2 c2 opt2 w7 ho2 M2 hl2
            refine ⟨n - 1, by omega, k + 1, opt2, a2, l2, c2, by rw [addI_one (by omega)], by omega, ?_, ?_, M2⟩
            · intro o hm
              rw [List.take_succ_eq_append_getElem hkl] at hm
              rcases List.mem_append.1 hm with h1 | h1
              · exact hno o h1
              · rw [List.mem_singleton.1 h1]; exact hod
            · rw [hT]
              have e : strs (opsT (ops.take k)) ++ strs (opT ops[k]) = strs (opsT (ops.take k) ++ opT ops[k]) := by simp [strs]
              rw [← e]; exact ho2
        have yes : OddP ops[k] → K1 [.bool true] w4 := fun h => by rwa [decide_eq_true h] at fin1
        refine ⟨_, c0, SplitK.of (fun h1 => yes ?_) (fun h1 => ⟨_, c0, SplitK.of (fun h2 => yes ?_) (fun h2 => ⟨_, c1, SplitK.of (fun h3 => yes ?_) (fun h3 => ⟨_, c1, SplitK.of (fun h4 => yes ?_) (fun h4 => ⟨_, c2, SplitK.of (fun h5 => yes ?_) (fun h5 => ⟨_, c0, by decide, ?_⟩)⟩)⟩)⟩)⟩)⟩
        · rw [ltI_t] at h1; exact .inl h1
        · rw [ltI_t] at h2; exact .inr (.inl h2)
        · simp only [sizeS_bs, natI_eq, ltI_t] at h3; exact .inr (.inr (.inl (by omega)))
        · simp only [sizeS_bs, natI_eq, ltI_t] at h4; exact .inr (.inr (.inr (.inl (by omega))))
        · simp only [sizeS_bs, natI_eq, ltI_t] at h5; exact .inr (.inr (.inr (.inr (.inl (by omega)))))
        · rw [ltI_f] at h1 h2
          simp only [sizeS_bs, natI_eq, ltI_f] at h3 h4 h5
          obtain ⟨kn, hkn⟩ : ∃ kn : Nat, ops[k].kind = (kn : Int) := ⟨ops[k].kind.toNat, by omega⟩
          have er : remI ops[k].kind 2 = ((kn % 2 : Nat) : Int) := by rw [hkn]; exact remI_nat kn 2
          rw [er]
          refine SplitK.of (fun h6 => ⟨_, c2, ?_⟩) (fun h6 => ?_)
          · rw [eqI_t] at h6
            rw [lit_bs [], eqS_bs]
            have e : notB (decide (ops[k].box = [])) = decide (OddP ops[k]) := by
              rw [Bool.eq_iff_iff, notB_t, decide_eq_false_iff_not, decide_eq_true_eq]
              unfold OddP
              constructor
              · intro h; exact .inr (.inr (.inr (.inr (.inr ⟨by omega, h⟩))))
              · rintro (h | h | h | h | h | h)
                · omega
                · omega
                · omega
                · omega
                · omega
                · exact h.2
            rw [e]; exact fin1
          · rw [eqI_f] at h6
            rwa [decide_eq_false (by
              unfold OddP
              rintro (h | h | h | h | h | h)
              · omega
              · omega
              · omega
              · omega
              · omega
              · omega)] at fin1
      · simp at hlt
        obtain rfl : k = ops.length := by omega
        rw [List.take_length] at ho hno
        have hput : putOps ops = some (joinL (opsT ops)) := by
          rw [putOps, if_neg]
          rintro (h | h | ⟨o, ho, hb⟩)
          · omega
          · omega
          · exact hno o ho hb
        refine CallK.ret (x_Join12 W (ho.vsAt M) (by omega)) fun w3 k3 => ⟨_, rfl, ?_, M.keep.trans0 k3⟩
        rw [putOpsV, hput]
  refine SplitK.of (fun h1 => ?_) (fun h1 => ?_)
  · simp only [natI_eq, ltI_t] at h1
    rwa [decide_eq_true (.inl (by omega))] at fin
  · simp only [natI_eq, ltI_f] at h1
    have e : ltI 400 (natI ops.length) = decide (ops.length < 1 ∨ 400 < ops.length) := by
      rw [Bool.eq_iff_iff, natI_eq, ltI_t, decide_eq_true_eq]; omega
    rw [e]; exact fin

theorem VsAt.dropAt {w : World} {a : Option Addr} {l : Nat} {xs : List (List UInt8)} (h : VsAt w a l (strs xs)) {p : Addr} (hp : a = some p) (j : Nat) (hj : j < xs.length) : CellsAt w (p.add j) (strs (xs.drop j)) := by
  obtain ⟨q, hq, hc⟩ := VsAt.ptr h (by rw [strs_length]; omega)
  rw [hp] at hq; cases hq
  refine hc.part fun i v hv => ?_
  simpa [strs] using hv

def endB : List (List UInt8) → Prop
  | [_] :: _ :: _ :: _ => False
  | _ => True
theorem endB_short : ∀ t : List (List UInt8), t.length < 3 → endB t
  | [], _ => trivial
  | [_], _ => by simp [endB]
  | [_, _], _ => by simp [endB]
  | _ :: _ :: _ :: _, h => by simp at h; omega

/-- What getting a batch hands back. -/
def RetOps (w : World) (o? : Option (List OpV)) (e : Ending) (w' : World) : Prop := Keep [] w w' ∧ match o? with
  | some ops => ∃ a l c, e = .returned (.tuple #[.slice a l c, .int .i64 0]) ∧ Fresh w.heap.size w' (fun w => RsAt w 3 a l (opsC ops))
  | none => e = .returned (.tuple #[.slice none 0 0, .int .i64 5])
theorem opsC_snoc (ops : List OpV) (o : OpV) : opsC ops ++ opC o = opsC (ops ++ [o]) := by simp [opsC]

theorem w_Get (w : World) (s : List UInt8) (hs : s.length ≤ 300000) : Calls Try.prog 61 #[.string (bs s)] w (RetOps w (getOps s)) := by
  refine Calls.mono (F61_calls (bs s) w (fun v w' => RetOps w (getOps s) (.returned v) w') ?_) (fun e w' ⟨v, he, h⟩ => by rw [he]; exact h)
  refine (w_Split w s (by omega)).mono ?_
  rintro e w1 ⟨k1, hres⟩
  have nil : ∀ w', getOps s = none → Keep [] w w' → RetOps w (getOps s) (.returned (.tuple #[.slice none 0 0, .int .i64 5])) w' := fun w' hn k => ⟨k, by rw [hn]⟩
  cases hsp : splitL s with
  | none =>
    have hg : getOps s = none := by rw [getOps, hsp]
    rw [hsp] at hres
    refine ⟨_, _, _, _, hres, fun n vs W => vs = [.slice none 0 0, .slice none 0 0] ∧ Keep [] w W, ⟨0, rfl, k1⟩, ?_⟩
    rintro n vs W ⟨rfl, kk⟩
    refine ⟨_, _, _, _, _, _, rfl, fun _ K hK => SplitK.f rfl (hK _ _ fun _ => SplitK.f rfl ?_)⟩
    refine CallK.ret (w_Put W (ops := []) (a := none) (l := 0) (c := 0) RsAt.nil (by decide)) fun w3 k3 => ⟨bs [], 1, rfl, fun K1 hK1 => SplitK.t rfl (hK1 _ _ fun _ => SplitK.t rfl (nil _ hg (kk.trans0 k3)))⟩
  | some t =>
    rw [hsp] at hres
    obtain ⟨a, l, c, he, hlc, hf⟩ := hres
    have hv := hf.now
    have hl : l = t.length := by have := hv.1; rwa [strs_length] at this
    have hjs := joinL_splitL hsp
    have hcnt := splitL_cnt hsp
    have hgl := grp_left t
    have hM : Mem w1 [] [] (fun W => VsAt W a l (strs t)) w1 := Mem.startF w1 fun w' k => hv.keep0 k
    refine ⟨a, l, c, 0, he, fun n vs W => ∃ (k : Nat) (ops : List OpV) (opt : List (Nat × Obj)) (a1 : Option Addr) (l1 c1 : Nat) (a2 : Option Addr) (c2 : Nat),
      vs = [.slice a1 l1 c1, .slice a2 (t.length - 3 * k) c2] ∧ 3 * k + n = t.length ∧ t.length - 3 * k ≤ c2 ∧ ops.length = k ∧ l1 = k ∧ grp t = ops ++ grp (t.drop (3 * k)) ∧ left3 t = left3 (t.drop (3 * k)) ∧
      (t.length = 3 * k ∨ ∃ p, a = some p ∧ a2 = some (p.add (3 * k))) ∧ OwnR opt 64 3 a1 l1 c1 (opsC ops) ∧ Mem w1 [] (opt ++ []) (fun W => VsAt W a l (strs t)) W,
      ⟨t.length, 0, [], [], none, 0, 0, a, c, by rw [hl]; rfl, by omega, by omega, rfl, rfl, rfl, rfl, ?_, OwnR.nil, hM⟩, ?_⟩
    · by_cases h0 : t.length = 0
      · exact .inl (by omega)
      · obtain ⟨p, hp, _⟩ := VsAt.ptr hv (by rw [strs_length]; omega)
        exact .inr ⟨p, hp, hp⟩
    clear hM
    rintro n vs W ⟨k, ops, opt, a1, l1, c1, a2, c2, rfl, hk, hc2, hok, hl1k, hgt, hlt3, hptr, ho, M⟩
    subst hl1k
    refine ⟨_, _, _, _, _, _, rfl, fun _ K hK => SplitK.t rfl ?_⟩
    have hrest : (t.drop (3 * l1)).length = t.length - 3 * l1 := by rw [List.length_drop]
    -- the end of the loop
    have fin : endB (t.drop (3 * l1)) → K [.bool false] W := by
      intro hm
      have hgr : grp (t.drop (3 * l1)) = [] := by
        match h : t.drop (3 * l1), hm with
        | [], _ => rfl
        | [_], _ => simp [grp]
        | [_, _], _ => simp [grp]
        | [] :: _ :: _ :: _, _ => rfl
        | (_ :: _ :: _) :: _ :: _ :: _, _ => rfl
      have hlr : left3 (t.drop (3 * l1)) = t.drop (3 * l1) := by
        have := grp_left (t.drop (3 * l1))
        rw [hgr] at this
        simpa [opsT] using this
      rw [hgr, List.append_nil] at hgt
      have hle : (joinL (opsT ops)).length ≤ s.length := by
        rw [← hgt, ← hjs]
        conv => rhs; rw [← hgl, joinL_append]
        rw [List.length_append]; omega
      refine hK _ _ fun _ => SplitK.f rfl (CallK.ret (w_Put W (ho.rsAt M) (by omega)) fun w3 k3 => ?_)
      have kk : Keep [] w w3 := (k1.trans0 M.keep).trans0 k3
      have M3 := M.call k3
      cases hput : putOps ops with
      | none =>
        have hg : getOps s = none := by
          rw [getOps, hsp]
          simp only [hgt, hput]
          rw [if_neg (by simp)]
        refine ⟨bs [], 1, by rw [putOpsV, hput], fun K1 hK1 => SplitK.f rfl ?_⟩
        have out : K1 [.bool true] w3 := hK1 _ _ fun _ => SplitK.t rfl (nil _ hg kk)
        exact SplitK.of (fun _ => out) fun _ => SplitK.t rfl out
      | some d =>
        have hd := putOps_some hput
        refine ⟨bs d, 0, by rw [putOpsV, hput], fun K1 hK1 => SplitK.f rfl ?_⟩
        by_cases hds : d = s
        · have hg : getOps s = some ops := by
            rw [getOps, hsp]
            simp only [hgt, hput]
            rw [if_pos (by rw [hds])]
          have h2 := getOps_texts hsp (by rw [hgt, hput, hds])
          rw [hlt3, hlr] at h2
          have h0 : t.length - 3 * l1 = 0 := by rw [← hrest, h2.2]; rfl
          rw [h0]
          refine SplitK.f rfl (SplitK.f rfl ?_)
          rw [eqS_bs, decide_eq_true hds]
          refine hK1 _ _ fun _ => SplitK.f rfl ⟨kk, ?_⟩
          rw [hg]
          exact ⟨_, _, _, rfl, (ho.freshR M3).mono k1.size⟩
        · have hg : getOps s = none := by
            rw [getOps, hsp]
            simp only [hgt, hput]
            rw [if_neg (fun h => hds (Option.some.inj h))]
          have out : K1 [.bool true] w3 := hK1 _ _ fun _ => SplitK.t rfl (nil _ hg kk)
          refine SplitK.of (fun _ => out) fun _ => SplitK.f rfl ?_
          rw [eqS_bs, decide_eq_false hds]
          exact out
    refine SplitK.of (fun h3 => ?_) (fun h3 => ?_)
    · rw [leI_t, natI_eq] at h3
      have h3 : 3 ≤ t.length - 3 * l1 := by omega
      obtain ⟨p, hp, hp2⟩ := hptr.resolve_left (by omega)
      have hc := VsAt.dropAt M.now hp (3 * l1) (by omega)
      have hat : ∀ {W'}, VsAt W' a l (strs t) → ∀ (j : Nat) (x : List UInt8), (t.drop (3 * l1))[j]? = some x → W'.cell? (addA (p.add (3 * l1)) (mulN (intN (j : Int)) 1)) = some (.string (bs x)) := by
        intro W' hv' j x hx
        rw [addA_int]
        exact VsAt.dropAt hv' hp (3 * l1) (by omega) j _ (by rw [strs, List.getElem?_map, hx]; rfl)
      match hd : t.drop (3 * l1), hrest with
      | x0 :: x1 :: x2 :: r, hrest =>
        have g0 : (t.drop (3 * l1))[0]? = some x0 := by rw [hd]; rfl
        have g1 : (t.drop (3 * l1))[1]? = some x1 := by rw [hd]; rfl
        have g2 : (t.drop (3 * l1))[2]? = some x2 := by rw [hd]; rfl
        refine ⟨by decide, by rw [natI_eq]; omega, SomeK.of _ hp2 ⟨_, hat M.now 0 x0 g0, ?_⟩⟩
        by_cases h1 : ∃ z, x0 = [z]
        · obtain ⟨z, rfl⟩ := h1
          refine hK _ _ fun _ => SplitK.t rfl fun K1 hK1 => ?_
          rintro w4 rfl
          have M := M.drew
          refine ⟨fun W' => VsAt W' a l (strs t), M.now, by decide, by rw [natI_eq]; omega, SomeK.of _ hp2 ⟨bs [z], fun w' h => hat h 0 _ g0, by decide, byteAt (by simp) ⟨by decide, by rw [natI_eq]; omega, SomeK.of _ hp2 ⟨bs x1, fun w' h => hat h 1 _ g1, by decide, by rw [natI_eq]; omega, SomeK.of _ hp2 ⟨bs x2, fun w' h => hat h 2 _ g2, M.now, ?_⟩⟩⟩⟩⟩
          refine M.newK fun b2 w5 M => ⟨M.now, ?_⟩
          have ez : wrapI .i64 (byteI z) = ((z.toNat : Nat) : Int) := wrapI_i64 _ (by have := z.toNat_lt; omega)
          have M : Mem w1 [] ((b2, .cells (List.toArray [.int .i64 (wrapI .i64 (byteI z)), .string (bs x1), .string (bs x2)]) 64 (0, 0)) :: (opt ++ [])) (fun W => VsAt W a l (strs t)) w5 := M
          rw [ez] at M
          refine ⟨opC ⟨z.toNat, x1, x2⟩, ⟨rfl, M.cells 0 (c := opC ⟨z.toNat, x1, x2⟩) rfl⟩, (fun h => by cases h), ?_⟩
          have M3 : Mem w1 [] (opt ++ []) (fun W => VsAt W a l (strs t)) w5 := M.tail
          refine Mem.appR M3 ho (by decide) rfl rfl rfl (by omega) (by omega) ?_
          intro a3 l3 c3 opt3 w6 ho3 M3 hl3
          subst hl3
          have hd3 : t.drop (3 * (l1 + 1)) = r := by
            rw [show 3 * (l1 + 1) = 3 * l1 + 3 by omega, ← List.drop_drop, hd]; rfl
          refine ⟨M3.now, hK1 _ _ _ _ fun _ => ⟨by decide, by rw [natI_eq]; omega, n - 3, by omega, l1 + 1, ops ++ [⟨z.toNat, x1, x2⟩], opt3, a3, l1 + 1, c3, cutA a2 c2 3 1, subN c2 3, ?_, by omega, by simp only [subN_eq]; omega, by simp [hok], rfl, ?_, ?_, ?_, ?_, M3⟩⟩
          · have e3 : t.length - 3 * (l1 + 1) = subN (t.length - 3 * l1) 3 := by simp only [subN_eq]; omega
            rw [e3]; rfl
          · rw [hgt, hd, grp_cons, hd3, List.append_assoc]; rfl
          · rw [hlt3, hd, hd3]; rfl
          · by_cases h0 : t.length = 3 * (l1 + 1)
            · exact .inl h0
            · refine .inr ⟨p, hp, ?_⟩
              rw [hp2, cutA, if_neg (by omega)]
              show some ((p.add (3 * l1)).add (3 * 1)) = _
              rw [add_add, show 3 * l1 + 3 * 1 = 3 * (l1 + 1) by omega]
          · rw [← opsC_snoc]; exact ho3
        · have e1 : eqI (natI (sizeS (bs x0))) 1 = false := by
            rw [eqI_f, sizeS_bs, natI_eq]
            intro h
            apply h1
            match x0, h with
            | [z], _ => exact ⟨z, rfl⟩
          rw [e1]
          apply fin
          rw [hd]
          match x0, h1 with
          | [], _ => trivial
          | [z], h1 => exact absurd ⟨z, rfl⟩ h1
          | _ :: _ :: _, _ => trivial
      | [], hrest => simp at hrest; omega
      | [_], hrest => simp at hrest; omega
      | [_, _], hrest => simp at hrest; omega
    · rw [leI_f, natI_eq] at h3
      exact fin (endB_short _ (by rw [hrest]; omega))

end Go.Proofs.Ytgecpbplbkpdlaa
