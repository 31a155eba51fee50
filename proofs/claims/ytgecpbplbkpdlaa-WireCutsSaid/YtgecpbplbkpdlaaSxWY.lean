/-
  A part of the proof: WY.
-/
import Derived.Test.YtgecpbplbkpdlaaSxWV
namespace Go.Proofs.Ytgecpbplbkpdlaa
open Go Go.Sx Go.Oct Go.Wire
set_option linter.unusedVariables false

theorem eqS_self (x : List UInt8) : eqS (bs x) (bs x) = true := by rw [eqS_bs]; exact decide_eq_true rfl
theorem eqI_self (n : Int) : eqI n n = true := by rw [eqI_t]
theorem eqB_self (b : Bool) : eqB b b = true := by cases b <;> rfl
theorem S_of {w0 w : World} {lo : List Nat} {m : List (Nat × Obj)} {F : World → Prop} (M : Mem w0 lo m F w) {Q : (World → Prop) → Prop} (h : Q F) : ∃ S, S w ∧ Q S := ⟨F, M.now, h⟩
theorem putV_form (o : Option (List UInt8)) : ∃ x n, putV o = .tuple #[.string (bs x), .int .i64 n] := by
  cases o with
  | none => exact ⟨_, _, rfl⟩
  | some b => exact ⟨_, _, rfl⟩
theorem getReq_S {f : List UInt8 → Int} {s : List UInt8} (h : s.length ≤ 90000) : ReqS ((getReq f s).getD noReq) := by
  have hn : ReqS noReq := ⟨by decide, by decide, by decide⟩
  unfold getReq
  split
  · exact hn
  · rename_i t ht
    split
    · exact reqOf_S f t (by rw [joinL_splitL ht]; exact h)
    · exact hn
theorem getRep_S {f : List UInt8 → Int} {s : List UInt8} (h : s.length ≤ 90000) : RepS ((getRep f s).getD noRep) := by
  have hn : RepS noRep := ⟨by decide, by decide⟩
  unfold getRep
  split
  · exact hn
  · rename_i t ht
    split
    · exact repOf_S f t (by rw [joinL_splitL ht]; exact h)
    · exact hn
theorem getReq_wx (s : List UInt8) : getReq xF s = getReq wF s := getReq_any (fun n hn => xF_big n hn) (fun n hn => wF_big n (by omega)) s
theorem getRep_wx (s : List UInt8) : getRep xG s = getRep wF s := getRep_any xG_big wF_big s

theorem asks_19 (w : World) (r q : ReqV) (s : List UInt8) {a : Option Addr} {l c : Nat} {a' : Option Addr} {l' c' : Nat} {d : Option Addr} {m e : Nat} {d' : Option Addr} {m' e' : Nat} (h : ReqAt w r a l a' l') (h2 : ReqAt w q d m d' m') :
    Calls Try.prog 3 #[.agg (reqC r a l c a' l' c').toArray, .agg (reqC q d m e d' m' e').toArray, .string (bs s)] w (Ret w (.bool true)) := by
  refine calls_ret (F3_calls r.kind a l c (bs r.label) a' l' c' q.kind d m e (bs q.label) d' m' e' (bs s) w _ ?_)
  have M : Mem w [] [] (fun W => ReqAt W r a l a' l' ∧ ReqAt W q d m d' m') w := Mem.startF w fun w' k => ⟨h.keep0 k, h2.keep0 k⟩
  refine M.newK fun b w1 M => ?_
  have M := Mem_fix (c := reqC r a l c a' l' c') M
  refine M.newK fun b1 w2 M => ?_
  have M := Mem_fix (c := reqC q d m e d' m' e') M
  refine CallK.ret (x_works w2) fun w3 k3 => ⟨_, rfl, SplitK.f rfl ?_⟩
  have M := M.call k3
  intro K hK
  have out : ∀ {W : World}, Keep [] w W → K [.bool false] W := fun k => hK _ _ fun _ K1 hK1 => SplitK.t rfl (hK1 _ _ fun _ => SplitK.t rfl ⟨rfl, k⟩)
  refine ⟨_, _, _, _, _, _, _, _, M.now.1.2, (x_few w3 r M.now.1.1.1).mono ?_⟩
  rintro _ w4 ⟨f1, rfl, hf1, k4⟩
  have M := M.call k4
  refine ⟨f1, rfl, SplitK.of (fun g1 => ⟨_, _, _, _, _, _, _, _, M.now.2, (x_few w4 q M.now.1.1.2).mono ?_⟩) (fun _ => out M.keep)⟩
  rintro _ w5 ⟨f2, rfl, hf2, k5⟩
  have M := M.call k5
  refine ⟨f2, rfl, ?_⟩
  cases f2 with
  | false => exact out M.keep
  | true =>
  have hr := hf1 g1
  have hq := hf2 rfl
  refine hK _ _ fun _ K1 hK1 => SplitK.f rfl ?_
  cases hb : ltI 4000 (natI (sizeS (bs s))) with
  | true => exact hK1 _ _ fun _ => SplitK.t rfl ⟨rfl, M.keep⟩
  | false =>
  rw [ltI_f, sizeS_bs, natI_eq] at hb
  refine hK1 _ _ fun _ => SplitK.f rfl ⟨_, _, _, _, _, _, _, _, M.now.1.2, CallK.ret (w_PutRequest w5 r M.now.1.1.1 hr.small) fun w6 k6 => ?_⟩
  have M := M.call k6
  obtain ⟨x, n, hx⟩ := putV_form (putReq r)
  refine ⟨bs x, n, by rw [hx], _, _, _, _, _, _, _, _, M.now.1.2, (x_Of w6 r M.now.1.1.1 (by have := hr.small.opsN; omega) (by have := hr.small.toksN; omega)).mono ?_⟩
  rintro _ w7 ⟨k7, _, _, _, _, _, _, rfl, hf7⟩
  have M := M.callF k7 hf7
  refine ⟨_, _, _, _, _, _, _, _, rfl, CallK.ret (x_PutRequest w7 r M.now.2 hr.small) fun w8 k8 => ⟨bs x, n, by rw [hx], ?_⟩⟩
  have M := M.call k8
  refine (w_GetRequest w8 s (by omega)).mono ?_
  rintro _ w9 ⟨k9, _, _, _, _, _, _, rfl, hf9⟩
  have M := M.callF k9 hf9
  refine ⟨_, _, _, _, _, _, _, _, _, rfl, M.newK fun b5 w10 M => M.stK 0 (c := noneC) rfl (by simp [noneC]) rfl fun w11 M => ?_⟩
  have M := Mem_fix (c := reqC ((getReq wF s).getD noReq) _ _ _ _ _ _) M
  have hgS : ReqS ((getReq wF s).getD noReq) := getReq_S (by omega)
  refine (x_GetRequest w11 s (by omega)).mono ?_
  rw [getReq_wx]
  rintro _ w12 ⟨k12, _, _, _, _, _, _, rfl, hf12⟩
  have M := M.callF k12 hf12
  refine ⟨_, _, _, _, _, _, _, _, _, rfl, M.newK fun b6 w13 M => M.stK 0 (c := noneC) rfl (by simp [noneC]) rfl fun w14 M => ?_⟩
  have M := Mem_fix (c := reqC ((getReq wF s).getD noReq) _ _ _ _ _ _) M
  rintro w15 rfl
  have M := M.drew
  refine S_of M ⟨_, _, _, _, _, _, _, _, fun w' hw => hw.1.1.2, _, _, _, _, _, _, _, _, fun w' hw => hw.2, ?_⟩
  refine (x_Of _ _ M.now.1.1.1.2 (by have := hgS.opsN; omega) (by have := hgS.toksN; omega)).mono ?_
  rintro _ w16 ⟨k16, _, _, _, _, _, _, rfl, hf16⟩
  have M := M.callF k16 hf16
  refine ⟨_, _, _, _, _, _, _, _, rfl, M.now.1, CallK.ret (x_SameRequest w16 _ _ M.now.2 M.now.1.1.2 (by have := hgS.opsN; omega) (by have := hgS.toksN; omega)) fun w17 k17 => ⟨_, rfl, ?_⟩⟩
  have M := M.call k17
  refine ⟨M.now.1, ?_⟩
  rintro w18 rfl
  have M := M.drew
  refine S_of M ⟨_, _, _, _, _, _, _, _, fun w' hw => hw.1.1.1.1.1.1.1.2, _, _, _, _, _, _, _, _, fun w' hw => hw.1.1.1.1.1.1.2, ?_⟩
  refine (x_Of _ r M.now.1.1.1.1.1.1.1.1.1 (by have := hr.small.opsN; omega) (by have := hr.small.toksN; omega)).mono ?_
  rintro _ w19 ⟨k19, _, _, _, _, _, _, rfl, hf19⟩
  have M := M.callF k19 hf19
  refine ⟨_, _, _, _, _, _, _, _, rfl, M.now.1, (x_Of w19 q M.now.1.1.1.1.1.1.1.1.1.2 (by have := hq.small.opsN; omega) (by have := hq.small.toksN; omega)).mono ?_⟩
  rintro _ w20 ⟨k20, _, _, _, _, _, _, rfl, hf20⟩
  have M := M.callF k20 hf20
  refine ⟨_, _, _, _, _, _, _, _, rfl, M.now.1.1, CallK.ret (x_SameRequest w20 r q M.now.1.2 M.now.2 (by have := hr.small.opsN; omega) (by have := hr.small.toksN; omega)) fun w21 k21 => ⟨_, rfl, ?_⟩⟩
  have M := M.call k21
  refine ⟨M.now.1.1, SplitK.t rfl (SplitK.t (eqS_self x) (SplitK.t (eqI_self n) (SplitK.t (decide_eq_true rfl) (SplitK.t (eqI_self _) ⟨_, _, _, _, _, _, _, _, M.now.1.1.1.1.1.1.1.1.1.2, _, _, _, _, _, _, _, _, M.now.1.1.1.1.1.1.1.1.2, ?_⟩))))⟩
  refine CallK.ret (w_SameRequest w21 r q M.now.1.1.1.1.1.1.1.1.1.1.1 M.now.1.1.1.1.1.1.1.1.1.1.2 (by have := hr.small.opsN; omega) (by have := hr.small.toksN; omega)) fun w22 k22 => ⟨_, rfl, by rw [eqB_self], M.keep.trans0 k22⟩

theorem replies_19 (w : World) (r q : RepV) (s : List UInt8) {a : Option Addr} {l c : Nat} {d : Option Addr} {m e : Nat} (h : VsAt w a l (strs r.boxes)) (h2 : VsAt w d m (strs q.boxes)) :
    Calls Try.prog 4 #[.agg (repC r a l c).toArray, .agg (repC q d m e).toArray, .string (bs s)] w (Ret w (.bool true)) := by
  refine calls_ret (F4_calls r.err a l c (bs r.head) r.n q.err d m e (bs q.head) q.n (bs s) w _ ?_)
  have M : Mem w [] [] (fun W => VsAt W a l (strs r.boxes) ∧ VsAt W d m (strs q.boxes)) w := Mem.startF w fun w' k => ⟨h.keep0 k, h2.keep0 k⟩
  refine M.newK fun b w1 M => ?_
  have M := Mem_fix (c := repC r a l c) M
  refine M.newK fun b1 w2 M => ?_
  have M := Mem_fix (c := repC q d m e) M
  refine CallK.ret (x_works w2) fun w3 k3 => ⟨_, rfl, SplitK.f rfl ?_⟩
  have M := M.call k3
  intro K hK
  have out : ∀ {W : World}, Keep [] w W → K [.bool false] W := fun k => hK _ _ fun _ K1 hK1 => SplitK.t rfl (hK1 _ _ fun _ => SplitK.t rfl ⟨rfl, k⟩)
  refine ⟨_, _, _, _, _, _, M.now.1.2, (x_little w3 r M.now.1.1.1).mono ?_⟩
  rintro _ w4 ⟨f1, rfl, hf1, k4⟩
  have M := M.call k4
  refine ⟨f1, rfl, SplitK.of (fun g1 => ⟨_, _, _, _, _, _, M.now.2, (x_little w4 q M.now.1.1.2).mono ?_⟩) (fun _ => out M.keep)⟩
  rintro _ w5 ⟨f2, rfl, hf2, k5⟩
  have M := M.call k5
  refine ⟨f2, rfl, ?_⟩
  cases f2 with
  | false => exact out M.keep
  | true =>
  have hr := hf1 g1
  have hq := hf2 rfl
  refine hK _ _ fun _ K1 hK1 => SplitK.f rfl ?_
  cases hb : ltI 4000 (natI (sizeS (bs s))) with
  | true => exact hK1 _ _ fun _ => SplitK.t rfl ⟨rfl, M.keep⟩
  | false =>
  rw [ltI_f, sizeS_bs, natI_eq] at hb
  refine hK1 _ _ fun _ => SplitK.f rfl ⟨_, _, _, _, _, _, M.now.1.2, CallK.ret (w_PutReply w5 r M.now.1.1.1 hr.small) fun w6 k6 => ?_⟩
  have M := M.call k6
  obtain ⟨x, n, hx⟩ := putV_form (putRep r)
  refine ⟨bs x, n, by rw [hx], _, _, _, _, _, _, M.now.1.2, CallK.ret (x_OfReply w6 r) fun w7 k7 => ?_⟩
  have M := M.call k7
  refine ⟨_, _, _, _, _, _, rfl, CallK.ret (x_PutReply w7 r M.now.1.1.1 hr.small) fun w8 k8 => ⟨bs x, n, by rw [hx], ?_⟩⟩
  have M := M.call k8
  refine (w_GetReply w8 s (by omega)).mono ?_
  rintro _ w9 ⟨k9, _, _, _, rfl, hf9⟩
  have M := M.callF k9 hf9
  refine ⟨_, _, _, _, _, _, _, rfl, M.newK fun b5 w10 M => M.stK 0 (c := noneR) rfl (by simp [noneR]) rfl fun w11 M => ?_⟩
  have M := Mem_fix (c := repC ((getRep wF s).getD noRep) _ _ _) M
  have hgS : RepS ((getRep wF s).getD noRep) := getRep_S (by omega)
  refine (x_GetReply w11 s (by omega)).mono ?_
  rw [getRep_wx]
  rintro _ w12 ⟨k12, _, _, _, rfl, hf12⟩
  have M := M.callF k12 hf12
  refine ⟨_, _, _, _, _, _, _, rfl, M.newK fun b6 w13 M => M.stK 0 (c := noneR) rfl (by simp [noneR]) rfl fun w14 M => ?_⟩
  have M := Mem_fix (c := repC ((getRep wF s).getD noRep) _ _ _) M
  rintro w15 rfl
  have M := M.drew
  refine S_of M ⟨_, _, _, _, _, _, fun w' hw => hw.1.1.2, _, _, _, _, _, _, fun w' hw => hw.2, ?_⟩
  refine CallK.ret (x_OfReply _ _) fun w16 k16 => ?_
  have M := M.call k16
  refine ⟨_, _, _, _, _, _, rfl, M.now, CallK.ret (x_SameReply w16 _ _ M.now.1.1.1.2 M.now.1.2 (by have := hgS.n; omega)) fun w17 k17 => ⟨_, rfl, ?_⟩⟩
  have M := M.call k17
  refine ⟨M.now, ?_⟩
  rintro w18 rfl
  have M := M.drew
  refine S_of M ⟨_, _, _, _, _, _, fun w' hw => hw.1.1.1.1.1.2, _, _, _, _, _, _, fun w' hw => hw.1.1.1.1.2, ?_⟩
  refine CallK.ret (x_OfReply _ r) fun w19 k19 => ?_
  have M := M.call k19
  refine ⟨_, _, _, _, _, _, rfl, M.now, CallK.ret (x_OfReply _ q) fun w20 k20 => ?_⟩
  have M := M.call k20
  refine ⟨_, _, _, _, _, _, rfl, M.now, CallK.ret (x_SameReply w20 r q M.now.1.1.1.1.1.1.1 M.now.1.1.1.1.1.1.2 (by have := hr.small.n; omega)) fun w21 k21 => ⟨_, rfl, ?_⟩⟩
  have M := M.call k21
  refine ⟨M.now, SplitK.t rfl (SplitK.t (eqS_self x) (SplitK.t (eqI_self n) (SplitK.t (decide_eq_true rfl) (SplitK.t (eqI_self _) ⟨_, _, _, _, _, _, M.now.1.1.1.1.1.2, _, _, _, _, _, _, M.now.1.1.1.1.2, ?_⟩))))⟩
  refine CallK.ret (w_SameReply w21 r q M.now.1.1.1.1.1.1.1 M.now.1.1.1.1.1.1.2 (by have := hr.small.n; omega)) fun w22 k22 => ⟨_, rfl, by rw [eqB_self], M.keep.trans0 k22⟩

end Go.Proofs.Ytgecpbplbkpdlaa
