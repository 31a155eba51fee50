/-
  A part of the proof: WZ.
-/
import Derived.Test.YtgecpbplbkpdlaaSxWY
namespace Go.Proofs.Ytgecpbplbkpdlaa
open Go Go.Sx Go.Oct Go.Wire
set_option linter.unusedVariables false

def withK (r : ReqV) (k : Int) : ReqV := ⟨k, r.ops, r.label, r.toks⟩
theorem putReq_fitsP {r : ReqV} {b : List UInt8} (h : putReq r = some b) : FitsP r := Classical.byContradiction fun hn => by rw [putReq_not hn] at h; cases h
theorem putReq_ops {r : ReqV} {b : List UInt8} (h : putReq r = some b) (h0 : r.kind = 0) : r.ops ≠ [] := by
  intro he
  rw [putReq_no0 h0 (by rw [he]; rfl)] at h; cases h
theorem putReq_kind {r : ReqV} {k : Int} {b b' : List UInt8} (h : putReq r = some b) (h2 : putReq (withK r k) = some b') : k = r.kind := by
  have f1 := putReq_fitsP h
  have f2 := putReq_fitsP h2
  have o1 := f1.only
  have o2 := f2.only
  have p1 := putReq_ops h
  have p2 : k = 0 → r.ops ≠ [] := putReq_ops h2
  have l1 : r.kind = 1 → r.label ≠ [] := fun hk he => by have := (f1.label1 hk).1; rw [he] at this; simp at this
  have l2 : k = 1 → r.label ≠ [] := fun hk he => by have := (f2.label1 hk).1; rw [show (withK r k).label = r.label from rfl, he] at this; simp at this
  have t1 : r.kind = 2 → r.toks ≠ [] := fun hk he => by have := (f1.toks2 hk).1; rw [he] at this; simp at this
  have t2 : k = 2 → r.toks ≠ [] := fun hk he => by have := (f2.toks2 hk).1; rw [show (withK r k).toks = r.toks from rfl, he] at this; simp at this
  have q1 : r.kind ≠ 0 → r.ops = [] := o1.ops
  have q2 : k ≠ 0 → r.ops = [] := o2.ops
  have q3 : r.kind ≠ 1 → r.label = [] := o1.label
  have q4 : k ≠ 1 → r.label = [] := o2.label
  have q5 : r.kind ≠ 2 → r.toks = [] := o1.toks
  have q6 : k ≠ 2 → r.toks = [] := o2.toks
  have a1 := o1.lo
  have a2 := o1.hi
  have a3 : 0 ≤ k := o2.lo
  have a4 : k ≤ 3 := o2.hi
  by_cases c0 : r.kind = 0
  · by_cases d0 : k = 0
    · omega
    · exact absurd (q2 d0) (p1 c0)
  · by_cases d0 : k = 0
    · exact absurd (q1 c0) (p2 d0)
    · by_cases c1 : r.kind = 1
      · by_cases d1 : k = 1
        · omega
        · exact absurd (q4 d1) (l1 c1)
      · by_cases d1 : k = 1
        · exact absurd (q3 c1) (l2 d1)
        · by_cases c2 : r.kind = 2
          · by_cases d2 : k = 2
            · omega
            · exact absurd (q6 d2) (t1 c2)
          · by_cases d2 : k = 2
            · exact absurd (q5 c2) (t2 d2)
            · omega

theorem only_19 (w : World) (r : ReqV) (k : Int) {a : Option Addr} {l c : Nat} {a' : Option Addr} {l' c' : Nat} (h : ReqAt w r a l a' l') :
    Calls Try.prog 6 #[.agg (reqC r a l c a' l' c').toArray, .int .i64 k] w (Ret w (.bool true)) := by
  refine calls_ret (F6_calls r.kind a l c (bs r.label) a' l' c' k w _ ?_)
  have M : Mem w [] [] (fun W => ReqAt W r a l a' l') w := Mem.startF w fun w' k => h.keep0 k
  refine M.newK fun b w1 M => ?_
  have M := Mem_fix (c := reqC r a l c a' l' c') M
  refine CallK.ret (x_works w1) fun w2 k2 => ⟨_, rfl, SplitK.f rfl ?_⟩
  have M := M.call k2
  refine ⟨_, _, _, _, _, _, _, _, M.now.2, (x_few w2 r M.now.1).mono ?_⟩
  rintro _ w3 ⟨f1, rfl, hf1, k3⟩
  have M := M.call k3
  refine ⟨f1, rfl, ?_⟩
  cases f1 with
  | false => exact SplitK.t rfl ⟨rfl, M.keep⟩
  | true =>
  have hr := hf1 rfl
  refine SplitK.f rfl ⟨_, _, _, _, _, _, _, _, M.now.2, CallK.ret (w_PutRequest w3 r M.now.1 hr.small) fun w4 k4 => ?_⟩
  have M := M.call k4
  cases hp : putReq r with
  | none => exact ⟨_, _, rfl, SplitK.t rfl (SplitK.t rfl ⟨rfl, M.keep⟩)⟩
  | some d =>
  refine ⟨_, _, rfl, SplitK.f rfl ⟨_, _, _, _, _, _, _, _, M.now.2, M.newK fun b3 w5 M => M.stK 0 (c := noneC) rfl (by simp [noneC]) rfl fun w6 M => ?_⟩⟩
  refine M.stA 0 (c := reqC r a l c a' l' c') rfl (by simp [reqC]) rfl fun w7 M => ?_
  have M := Mem_fix (c := reqC (withK r k) a l c a' l' c') M
  have hs : ReqS (withK r k) := ⟨hr.small.ops, hr.small.label, hr.small.toks⟩
  refine ⟨_, _, _, _, _, _, _, _, M.now.2, CallK.ret (w_PutRequest w7 (withK r k) ⟨M.now.1.1.ops, M.now.1.1.toks⟩ hs) fun w8 k8 => ?_⟩
  have M := M.call k8
  have ck : w8.cell? (addA ⟨b, 0, none⟩ 0) = some (.int .i64 r.kind) := M.now.1.2 0 _ rfl
  cases hp2 : putReq (withK r k) with
  | none =>
    refine ⟨_, _, rfl, SplitK.t rfl ⟨_, ck, ?_, M.keep⟩⟩
    have hne : k ≠ r.kind := fun he => by
      have : withK r k = r := by rw [he]; rfl
      rw [this, hp] at hp2; cases hp2
    have e : eqI k r.kind = false := by rw [eqI_f]; exact hne
    rw [e]; rfl
  | some d2 =>
    refine ⟨_, _, rfl, SplitK.t rfl ⟨_, ck, ?_, M.keep⟩⟩
    have e : eqI k r.kind = true := by rw [eqI_t]; exact putReq_kind hp hp2
    rw [e]; rfl

theorem back_19 (w : World) (r : ReqV) (q : RepV) (s : List UInt8) {a : Option Addr} {l c : Nat} {a' : Option Addr} {l' c' : Nat} {d : Option Addr} {m e : Nat} (h : ReqAt w r a l a' l') (h2 : VsAt w d m (strs q.boxes)) :
    Calls Try.prog 5 #[.agg (reqC r a l c a' l' c').toArray, .agg (repC q d m e).toArray, .string (bs s)] w (Ret w (.bool true)) := by
  refine calls_ret (F5_calls r.kind a l c (bs r.label) a' l' c' q.err d m e (bs q.head) q.n (bs s) w _ ?_)
  have M : Mem w [] [] (fun W => ReqAt W r a l a' l' ∧ VsAt W d m (strs q.boxes)) w := Mem.startF w fun w' k => ⟨h.keep0 k, h2.keep0 k⟩
  refine M.newK fun b w1 M => ?_
  have M := Mem_fix (c := reqC r a l c a' l' c') M
  refine M.newK fun b1 w2 M => ?_
  have M := Mem_fix (c := repC q d m e) M
  refine CallK.ret (x_works w2) fun w3 k3 => ⟨_, rfl, SplitK.f rfl ?_⟩
  have M := M.call k3
  intro K hK
  have out : ∀ {W : World}, Keep [] w W → K [.bool false] W := fun k => hK _ _ fun _ K1 hK1 => SplitK.t rfl (hK1 _ _ fun _ => SplitK.t rfl ⟨rfl, k⟩)
  refine ⟨_, _, _, _, _, _, _, _, M.now.1.2, (x_few w3 r M.now.1.1.1).mono ?_⟩
  rintro _ w4 ⟨f1, rfl, hf1, k4⟩
  have M := M.call k4
  refine ⟨f1, rfl, SplitK.of (fun g1 => ⟨_, _, _, _, _, _, M.now.2, (x_little w4 q M.now.1.1.2).mono ?_⟩) (fun _ => out M.keep)⟩
  rintro _ w5 ⟨f2, rfl, hf2, k5⟩
  have M := M.call k5
  refine ⟨f2, rfl, ?_⟩
  cases f2 with
  | false => exact out M.keep
  | true =>
  have hr := hf1 g1
  have hq := hf2 rfl
  refine hK _ _ fun _ K1 hK1 => SplitK.f rfl ?_
  cases hb : ltI 4000 (natI (sizeS (bs s))) with
  | true => exact hK1 _ _ fun _ => SplitK.t rfl ⟨rfl, M.keep⟩
  | false =>
  rw [ltI_f, sizeS_bs, natI_eq] at hb
  refine hK1 _ _ fun _ => SplitK.f rfl ⟨_, _, _, _, _, _, _, _, M.now.1.2, CallK.ret (w_PutRequest w5 r M.now.1.1.1 hr.small) fun w6 k6 => ?_⟩
  have M := M.call k6
  obtain ⟨x, n, hx⟩ := putV_form (putReq r)
  refine ⟨bs x, n, by rw [hx], _, _, _, _, _, _, M.now.2, CallK.ret (w_PutReply w6 q M.now.1.1.2 hq.small) fun w7 k7 => ?_⟩
  have M := M.call k7
  obtain ⟨y, n2, hy⟩ := putV_form (putRep q)
  refine ⟨bs y, n2, by rw [hy], fun K2 hK2 => ?_⟩
  -- the third part
  have part2 : ∀ {W : World}, Mem w [] [] (fun W => ((ReqAt W r a l a' l' ∧ VsAt W d m (strs q.boxes)) ∧ CellsAt W ⟨b, 0, none⟩ (reqC r a l c a' l' c')) ∧ CellsAt W ⟨b1, 0, none⟩ (repC q d m e)) W → K2 [] W := by
    intro W M
    refine hK2 _ fun _ K3 hK3 => ?_
    have part3 : ∀ {W : World}, Mem w [] [] (fun W => ((ReqAt W r a l a' l' ∧ VsAt W d m (strs q.boxes)) ∧ CellsAt W ⟨b, 0, none⟩ (reqC r a l c a' l' c')) ∧ CellsAt W ⟨b1, 0, none⟩ (repC q d m e)) W → K3 [] W := by
      intro W M
      refine hK3 _ fun _ => (w_GetRequest W s (by omega)).mono ?_
      rintro _ w9 ⟨k9, _, _, _, _, _, _, rfl, hf9⟩
      have M := M.callF k9 hf9
      refine ⟨_, _, _, _, _, _, _, _, _, rfl, M.newK fun b5 w10 M => M.stK 0 (c := noneC) rfl (by simp [noneC]) rfl fun w11 M => ?_⟩
      have M := Mem_fix (c := reqC ((getReq wF s).getD noReq) _ _ _ _ _ _) M
      have hgS : ReqS ((getReq wF s).getD noReq) := getReq_S (by omega)
      have hgR : RepS ((getRep wF s).getD noRep) := getRep_S (by omega)
      refine (w_GetReply w11 s (by omega)).mono ?_
      rintro _ w12 ⟨k12, _, _, _, rfl, hf12⟩
      have M := M.callF k12 hf12
      refine ⟨_, _, _, _, _, _, _, rfl, M.newK fun b6 w13 M => M.stK 0 (c := noneR) rfl (by simp [noneR]) rfl fun w14 M => ?_⟩
      have M := Mem_fix (c := repC ((getRep wF s).getD noRep) _ _ _) M
      refine ⟨_, _, _, _, _, _, _, _, M.now.1.1.2, CallK.ret (w_PutRequest w14 _ M.now.1.1.1.2 hgS) fun w15 k15 => ?_⟩
      have M := M.call k15
      obtain ⟨u, n3, hu⟩ := putV_form (putReq ((getReq wF s).getD noReq))
      refine ⟨bs u, n3, by rw [hu], _, _, _, _, _, _, M.now.2, CallK.ret (w_PutReply w15 _ M.now.1.2 hgR) fun w16 k16 => ?_⟩
      have M := M.call k16
      obtain ⟨v, n4, hv⟩ := putV_form (putRep ((getRep wF s).getD noRep))
      refine ⟨bs v, n4, by rw [hv], SplitK.t rfl ?_⟩
      -- what is put
      have ex : (n = 0) ∨ (n = 1 ∧ x = []) := by
        cases ho : putReq r with
        | none => rw [ho] at hx; simp [putV] at hx; exact .inr ⟨hx.2.symm, hx.1⟩
        | some o => rw [ho] at hx; simp [putV] at hx; exact .inl hx.2.symm
      have ey : (n2 = 0) ∨ (n2 = 1 ∧ y = []) := by
        cases ho : putRep q with
        | none => rw [ho] at hy; simp [putV] at hy; exact .inr ⟨hy.2.symm, hy.1⟩
        | some o => rw [ho] at hy; simp [putV] at hy; exact .inl hy.2.symm
      cases hg : getReq wF s with
      | some g =>
        have hpg := getReq_some hg
        have hno : getRep wF s = none := by
          cases hgr : getRep wF s with
          | none => rfl
          | some g2 => exact absurd (getRep_some hgr) (req_not_rep hpg)
        rw [hg, Option.getD_some, hpg] at hu
        simp only [putV, Value.tuple.injEq, Array.mk.injEq, List.cons.injEq, Value.string.injEq, Value.int.injEq, and_true, true_and] at hu
        obtain ⟨hu1, hu2⟩ := hu
        rw [hno, ← hu1, ← hu2]
        rcases ex with rfl | ⟨rfl, rfl⟩ <;> rcases ey with rfl | ⟨rfl, rfl⟩ <;> repeat' (first | refine SplitK.t (eqS_self _) ?_ | refine SplitK.t rfl ?_ | refine SplitK.f rfl ?_ | exact ⟨rfl, M.keep⟩ | exact ⟨by rw [show eqS (bs []) (ByteArray.mk (List.toArray [])) = true from eqS_self []], M.keep⟩)
      | none =>
        cases hgr : getRep wF s with
        | none => rcases ex with rfl | ⟨rfl, rfl⟩ <;> rcases ey with rfl | ⟨rfl, rfl⟩ <;> repeat' (first | refine SplitK.t (eqS_self _) ?_ | refine SplitK.t rfl ?_ | refine SplitK.f rfl ?_ | exact ⟨rfl, M.keep⟩ | exact ⟨by rw [show eqS (bs []) (ByteArray.mk (List.toArray [])) = true from eqS_self []], M.keep⟩)
        | some g2 =>
          rw [hgr, Option.getD_some, getRep_some hgr] at hv
          simp only [putV, Value.tuple.injEq, Array.mk.injEq, List.cons.injEq, Value.string.injEq, Value.int.injEq, and_true, true_and] at hv
          obtain ⟨hv1, hv2⟩ := hv
          rw [← hv1, ← hv2]
          rcases ex with rfl | ⟨rfl, rfl⟩ <;> rcases ey with rfl | ⟨rfl, rfl⟩ <;> repeat' (first | refine SplitK.t (eqS_self _) ?_ | refine SplitK.t rfl ?_ | refine SplitK.f rfl ?_ | exact ⟨rfl, M.keep⟩ | exact ⟨by rw [show eqS (bs []) (ByteArray.mk (List.toArray [])) = true from eqS_self []], M.keep⟩)
    cases hp : putRep q with
    | none =>
      rw [hp] at hy
      simp [putV] at hy
      rw [← hy.2]
      exact SplitK.f rfl (part3 M)
    | some o =>
      rw [hp] at hy
      simp [putV] at hy
      obtain ⟨rfl, hn⟩ := hy
      rw [← hn]
      have hlen := putRep_few hq hp
      have hg := getRep_put (f := wF) wF_big hp
      have hng : getReq wF o = none := by
        cases hgr : getReq wF o with
        | none => rfl
        | some g2 => exact absurd hp (req_not_rep (getReq_some hgr))
      refine SplitK.t rfl ((w_GetReply W o hlen).mono ?_)
      rw [hg]
      rintro _ w9 ⟨k9, _, _, _, rfl, hf9⟩
      have M := M.callF k9 hf9
      refine ⟨_, _, _, _, _, _, _, rfl, M.newK fun b5 w10 M => M.stK 0 (c := noneR) rfl (by simp [noneR]) rfl fun w11 M => ?_⟩
      have M := Mem_fix (c := repC q _ _ _) M
      refine (w_GetRequest w11 o hlen).mono ?_
      rw [hng]
      rintro _ w12 ⟨k12, _, _, _, _, _, _, rfl, hf12⟩
      have M := M.call k12
      refine ⟨_, _, _, _, _, _, _, _, _, rfl, M.newK fun b6 w13 M => M.stK 0 (c := noneC) rfl (by simp [noneC]) rfl fun w14 M => fun K4 hK4 => SplitK.f rfl ?_⟩
      have M := M.tail
      refine ⟨_, _, _, _, _, _, M.now.2, _, _, _, _, _, _, M.now.1.1.2, CallK.ret (w_SameReply w14 q q M.now.1.2 M.now.1.1.1.1.2 (by have := hq.small.n; omega)) fun w15 k15 => ⟨_, rfl, ?_⟩⟩
      have M := M.call k15
      rw [decide_eq_true (rfl : q = q)]
      exact SplitK.f rfl (hK4 _ _ fun _ => SplitK.f rfl (part3 (M.imp fun w' hw => hw.1.1)))
  cases hp : putReq r with
  | none =>
    rw [hp] at hx
    simp [putV] at hx
    rw [← hx.2]
    exact SplitK.f rfl (part2 M)
  | some o =>
    rw [hp] at hx
    simp [putV] at hx
    obtain ⟨rfl, hn⟩ := hx
    rw [← hn]
    have hlen := putReq_few hr hp
    have hg := getReq_put (f := wF) (fun n hn => wF_big n (by omega)) hp
    have hng : getRep wF o = none := by
      cases hgr : getRep wF o with
      | none => rfl
      | some g2 => exact absurd (getRep_some hgr) (req_not_rep hp)
    refine SplitK.t rfl ((w_GetRequest w7 o hlen).mono ?_)
    rw [hg]
    rintro _ w9 ⟨k9, _, _, _, _, _, _, rfl, hf9⟩
    have M := M.callF k9 hf9
    refine ⟨_, _, _, _, _, _, _, _, _, rfl, M.newK fun b5 w10 M => M.stK 0 (c := noneC) rfl (by simp [noneC]) rfl fun w11 M => ?_⟩
    have M := Mem_fix (c := reqC r _ _ _ _ _ _) M
    refine (w_GetReply w11 o hlen).mono ?_
    rw [hng]
    rintro _ w12 ⟨k12, _, _, _, rfl, hf12⟩
    have M := M.call k12
    refine ⟨_, _, _, _, _, _, _, rfl, M.newK fun b6 w13 M => M.stK 0 (c := noneR) rfl (by simp [noneR]) rfl fun w14 M => fun K4 hK4 => SplitK.f rfl ?_⟩
    have M := M.tail
    refine ⟨_, _, _, _, _, _, _, _, M.now.2, _, _, _, _, _, _, _, _, M.now.1.1.1.2, CallK.ret (w_SameRequest w14 r r M.now.1.2 M.now.1.1.1.1.1 (by have := hr.small.opsN; omega) (by have := hr.small.toksN; omega)) fun w15 k15 => ⟨_, rfl, ?_⟩⟩
    have M := M.call k15
    rw [decide_eq_true (rfl : r = r)]
    exact SplitK.f rfl (hK4 _ _ fun _ => SplitK.f rfl (part2 (M.imp fun w' hw => hw.1.1)))

theorem getRep_cut {q p : RepV} {o : List UInt8} {j : Nat} (hp : putRep q = some o) (hj : j < o.length) (hg : putRep p = some (o.take j)) : p.boxes.length < q.boxes.length := by
  obtain ⟨h1, _⟩ := putRep_texts hp
  obtain ⟨h2, _⟩ := putRep_texts hg
  have h3 : o = o.take j ++ o.drop j := (List.take_append_drop j o).symm
  rw [h2] at h3
  rw [h1] at h3
  obtain ⟨zs, h4, h5⟩ := joinL_prefix h3
  have h6 := congrArg List.length h4
  simp only [List.length_append, List.length_cons] at h6
  have h7 : zs ≠ [] := by
    rintro rfl
    have := congrArg List.length h5
    rw [← h1, List.length_drop] at this
    simp [joinL] at this
    omega
  have := List.length_pos_iff.2 h7
  omega

theorem cut_arith {n len : Nat} (hn : n < 65536) (hl : 0 < len) : remI (wrapI .i64 (n : Int)) (natI len) = ((n % len : Nat) : Int) := by
  rw [wrapI_i64 _ (by omega), natI_eq, remI_nat]

theorem cuts_19 (w : World) (r : ReqV) (q : RepV) (n : Nat) {a : Option Addr} {l c : Nat} {a' : Option Addr} {l' c' : Nat} {d : Option Addr} {m e : Nat} (h : ReqAt w r a l a' l') (h2 : VsAt w d m (strs q.boxes)) (hn : n < 2 ^ 16) :
    Calls Try.prog 7 #[.agg (reqC r a l c a' l' c').toArray, .agg (repC q d m e).toArray, .int .u16 n] w (Ret w (.bool true)) := by
  refine calls_ret (F7_calls r.kind a l c (bs r.label) a' l' c' q.err d m e (bs q.head) q.n n w _ ?_)
  have M : Mem w [] [] (fun W => ReqAt W r a l a' l' ∧ VsAt W d m (strs q.boxes)) w := Mem.startF w fun w' k => ⟨h.keep0 k, h2.keep0 k⟩
  refine M.newK fun b w1 M => ?_
  have M := Mem_fix (c := reqC r a l c a' l' c') M
  refine M.newK fun b1 w2 M => ?_
  have M := Mem_fix (c := repC q d m e) M
  refine CallK.ret (x_works w2) fun w3 k3 => ⟨_, rfl, SplitK.f rfl ?_⟩
  have M := M.call k3
  intro K hK
  have out : ∀ {W : World}, Keep [] w W → K [.bool false] W := fun k => hK _ _ fun _ => SplitK.t rfl ⟨rfl, k⟩
  refine ⟨_, _, _, _, _, _, _, _, M.now.1.2, (x_few w3 r M.now.1.1.1).mono ?_⟩
  rintro _ w4 ⟨f1, rfl, hf1, k4⟩
  have M := M.call k4
  refine ⟨f1, rfl, SplitK.of (fun g1 => ⟨_, _, _, _, _, _, M.now.2, (x_little w4 q M.now.1.1.2).mono ?_⟩) (fun _ => out M.keep)⟩
  rintro _ w5 ⟨f2, rfl, hf2, k5⟩
  have M := M.call k5
  refine ⟨f2, rfl, ?_⟩
  cases f2 with
  | false => exact out M.keep
  | true =>
  have hr := hf1 g1
  have hq := hf2 rfl
  refine hK _ _ fun _ => SplitK.f rfl ⟨_, _, _, _, _, _, _, _, M.now.1.2, CallK.ret (w_PutRequest w5 r M.now.1.1.1 hr.small) fun w6 k6 => ?_⟩
  have M := M.call k6
  obtain ⟨x, n1, hx⟩ := putV_form (putReq r)
  refine ⟨bs x, n1, by rw [hx], fun K1 hK1 => ?_⟩
  have part2 : ∀ {W : World}, Mem w [] [] (fun W => ((ReqAt W r a l a' l' ∧ VsAt W d m (strs q.boxes)) ∧ CellsAt W ⟨b, 0, none⟩ (reqC r a l c a' l' c')) ∧ CellsAt W ⟨b1, 0, none⟩ (repC q d m e)) W → K1 [] W := by
    intro W M
    refine hK1 _ fun _ => ⟨_, _, _, _, _, _, M.now.2, CallK.ret (w_PutReply W q M.now.1.1.2 hq.small) fun w7 k7 => ?_⟩
    have M := M.call k7
    cases hp : putRep q with
    | none => exact ⟨_, _, rfl, fun K2 hK2 => SplitK.f rfl (hK2 _ fun _ => ⟨rfl, M.keep⟩)⟩
    | some o =>
      have hlen := putRep_few hq hp
      have hpos : 0 < o.length := by
        obtain ⟨h1, _⟩ := putRep_texts hp
        rw [h1]; simp [joinL]
      have hj : n % o.length < o.length := Nat.mod_lt _ hpos
      refine ⟨bs o, _, rfl, fun K2 hK2 => SplitK.t rfl ?_⟩
      rw [sizeS_bs, cut_arith hn hpos, cutS_bs, List.drop_zero, intN_eq, Int.toNat_natCast]
      refine ⟨by rw [natI_eq]; omega, by omega, by rw [natI_eq]; omega, (w_GetReply w7 (o.take (n % o.length)) (by rw [List.length_take]; omega)).mono ?_⟩
      rintro _ w9 ⟨k9, ga, gl, gc, rfl, hf9⟩
      have M := M.callF k9 hf9
      refine ⟨_, _, _, _, _, _, _, rfl, M.newK fun b5 w10 M => M.stK 0 (c := noneR) rfl (by simp [noneR]) rfl fun w11 M => fun K3 hK3 => ?_⟩
      have M := Mem_fix (c := repC ((getRep wF (o.take (n % o.length))).getD noRep) ga gl gc) M
      have ok : ∀ {W : World}, Keep [] w W → K3 [.bool false] W := fun k => hK3 _ _ fun _ => SplitK.f rfl (hK2 _ fun _ => ⟨rfl, k⟩)
      cases hg : getRep wF (o.take (n % o.length)) with
      | none => exact SplitK.f rfl (ok M.keep)
      | some p =>
        rw [hg] at M
        have hgp := getRep_some hg
        have hlt := getRep_cut hp hj hgp
        have hne : p ≠ q := fun he => by rw [he] at hlt; omega
        have hpS : RepS p := by have := getRep_S (f := wF) (s := o.take (n % o.length)) (by rw [List.length_take]; omega); rwa [hg] at this
        refine SplitK.t rfl ⟨_, _, _, _, _, _, M.now.2, _, _, _, _, _, _, M.now.1.1.2, CallK.ret (w_SameReply w11 p q M.now.1.2 M.now.1.1.1.1.2 (by have := hpS.n; omega)) fun w12 k12 => ⟨_, rfl, ?_⟩⟩
        have M := M.call k12
        rw [decide_eq_false hne]
        have c1 : w12.cell? (addA ⟨b5, 0, none⟩ 1) = some (.slice ga gl gc) := by
          have := M.now.2 1 _ rfl
          rw [addr_add] at this
          rw [addA_mk]; exact this
        have c2 : w12.cell? (addA ⟨b1, 0, none⟩ 1) = some (.slice d m e) := by
          have := M.now.1.1.2 1 _ rfl
          rw [addr_add] at this
          rw [addA_mk]; exact this
        refine SplitK.f rfl ⟨_, _, _, c1, _, _, _, c2, ?_⟩
        have l1 := strs_len M.now.1.2
        have l2 := strs_len M.now.1.1.1.1.2
        rw [Option.getD_some] at l1
        rw [l2]
        have el : ∀ {z : Nat}, z = p.boxes.length → leI (natI q.boxes.length) (natI z) = false := fun hz => by rw [leI_f, natI_eq, natI_eq, hz]; omega
        rw [el l1]
        exact ok M.keep
  cases hp : putReq r with
  | none =>
    rw [hp] at hx
    simp [putV] at hx
    rw [← hx.2]
    exact SplitK.f rfl (part2 M)
  | some o =>
    rw [hp] at hx
    simp [putV] at hx
    obtain ⟨rfl, hn1⟩ := hx
    rw [← hn1]
    have hlen := putReq_few hr hp
    have hpos : 0 < o.length := by
      obtain ⟨c, _, h1, _⟩ := putReq_texts hp
      rw [h1]; unfold reqT
      split
      · simp [joinL]
      · split
        · simp [joinL]
        · split <;> simp [joinL]
    have hj : n % o.length < o.length := Nat.mod_lt _ hpos
    refine SplitK.t rfl ?_
    rw [sizeS_bs, cut_arith hn hpos, cutS_bs, List.drop_zero, intN_eq, Int.toNat_natCast]
    refine ⟨by rw [natI_eq]; omega, by omega, by rw [natI_eq]; omega, (w_GetRequest w6 (o.take (n % o.length)) (by rw [List.length_take]; omega)).mono ?_⟩
    rintro _ w9 ⟨k9, _, _, _, _, _, _, rfl, hf9⟩
    have M := M.callF k9 hf9
    refine ⟨_, _, _, _, _, _, _, _, _, rfl, M.newK fun b5 w10 M => M.stK 0 (c := noneC) rfl (by simp [noneC]) rfl fun w11 M => fun K3 hK3 => ?_⟩
    have M := Mem_fix (c := reqC ((getReq wF (o.take (n % o.length))).getD noReq) _ _ _ _ _ _) M
    cases hg : getReq wF (o.take (n % o.length)) with
    | none => exact SplitK.f rfl (hK3 _ _ fun _ => SplitK.f rfl (part2 (M.imp fun w' hw => hw.1.1)))
    | some p =>
      rw [hg] at M
      have hgp := getReq_some hg
      have hne : p ≠ r := fun he => by
        rw [he, hp] at hgp
        have := congrArg List.length (Option.some.inj hgp)
        rw [List.length_take] at this
        omega
      have hpS : ReqS p := by have := getReq_S (f := wF) (s := o.take (n % o.length)) (by rw [List.length_take]; omega); rwa [hg] at this
      refine SplitK.t rfl ⟨_, _, _, _, _, _, _, _, M.now.2, _, _, _, _, _, _, _, _, M.now.1.1.1.2, CallK.ret (w_SameRequest w11 p r M.now.1.2 M.now.1.1.1.1.1 (by have := hpS.opsN; omega) (by have := hpS.toksN; omega)) fun w12 k12 => ⟨_, rfl, ?_⟩⟩
      have M := M.call k12
      rw [decide_eq_false hne]
      exact hK3 _ _ fun _ => SplitK.f rfl (part2 (M.imp fun w' hw => hw.1.1))

end Go.Proofs.Ytgecpbplbkpdlaa
