/-
  A part of the proof: WV.
-/
import Derived.Test.YtgecpbplbkpdlaaSxWU
import Derived.Test.YtgecpbplbkpdlaaSxTWL
namespace Go.Proofs.Ytgecpbplbkpdlaa
open Go Go.Sx Go.Oct Go.Wire
set_option linter.unusedVariables false

/-- A block that is no longer written. -/
theorem Mem_fix {w0 w : World} {m : List (Nat × Obj)} {F : World → Prop} {b : Nat} {c : List Value} {T : TypeId} {fr : Nat × Nat} (M : Mem w0 [] ((b, .cells c.toArray T fr) :: m) F w) : Mem w0 [] m (fun W => F W ∧ CellsAt W ⟨b, 0, none⟩ c) w := by
  have hc := M.cells 0 (c := c) rfl
  have hnd := M.nd
  simp only [List.map_cons, List.nodup_cons] at hnd
  exact Mem.addF M.tail fun w' hk => hc.keep hk hnd.1

def r3 : ReqV := ⟨3, [], [], []⟩
def rB : ReqV := ⟨0, [⟨0, [97], [98]⟩], [], []⟩
def rT : ReqV := ⟨2, [], [], [⟨[107], 3⟩]⟩
def pX : RepV := ⟨0, [[120], []], [48, 49, 50, 51, 52, 53, 54, 55, 56, 57, 97, 98, 99, 100, 101, 102, 48, 49, 50, 51, 52, 53, 54, 55, 56, 57, 97, 98, 99, 100, 101, 102], 2⟩
theorem few_r3 : FewR r3 := ⟨⟨by decide, by simp [r3]⟩, by decide, by simp [r3], by decide⟩
theorem few_rB : FewR rB := ⟨⟨by decide, by simp [rB]⟩, by decide, by simp [rB], by decide⟩
theorem few_rT : FewR rT := ⟨⟨by decide, by simp [rT]⟩, by decide, by simp [rT], by decide⟩
theorem few_pX : LittleR pX := ⟨by decide, by simp [pX], by decide⟩
theorem few_noRep : LittleR noRep := ⟨by decide, by simp [noRep], by decide⟩
theorem put_r3 : putReq r3 = some [4, 3, 0, 0] := by
  unfold putReq r3
  rw [if_neg (by decide), if_neg (by decide), if_neg (by decide), if_pos rfl, if_pos ⟨rfl, rfl, rfl⟩]
  rfl
theorem put_rB : ∃ b, putReq rB = some b := by
  have h : ¬ ∃ o ∈ rB.ops, OddP o := by
    rintro ⟨o, ho, hb⟩
    simp only [rB, List.mem_singleton] at ho
    subst ho
    simp [OddP] at hb
  unfold putReq
  rw [if_pos (show rB.kind = 0 from rfl), if_pos (show rB.label = [] ∧ rB.toks = [] from ⟨rfl, rfl⟩)]
  unfold putOps
  rw [if_neg]
  · exact ⟨_, rfl⟩
  · rintro (g | g | g)
    · simp [rB] at g
    · simp [rB] at g
    · exact h g
theorem put_rT : ∃ b, putReq rT = some b := by
  have h : ¬ ∃ o ∈ rT.toks, BadTok o := by
    rintro ⟨o, ho, hb⟩
    simp only [rT, List.mem_singleton] at ho
    subst ho
    simp [BadTok] at hb
  unfold putReq
  rw [if_neg (by decide), if_neg (by decide), if_pos (show rT.kind = 2 from rfl), if_pos (show rT.ops = [] ∧ rT.label = [] ∧ 1 ≤ rT.toks.length ∧ rT.toks.length ≤ 40 ∧ ¬ ∃ t ∈ rT.toks, BadTok t from ⟨rfl, rfl, by decide, by decide, h⟩)]
  exact ⟨_, rfl⟩
theorem put_pX : ∃ b, putRep pX = some b := by
  have h : ¬ BadA pX := by
    rintro (g | g | g | g | g | g)
    · simp [pX] at g
    · simp [pX] at g
    · simp [pX] at g
    · exact g rfl
    · simp [pX] at g
    · simp [pX] at g
  have h2 : ¬ BadB pX := by
    rintro (g | ⟨x, hx, g⟩)
    · simp [pX] at g
    · simp only [pX, List.mem_cons, List.not_mem_nil, or_false] at hx
      rcases hx with rfl | rfl <;> simp at g
  exact ⟨_, putRep_ok h h2⟩
theorem put_noRep : putRep noRep = none := putRep_a (.inr (.inr (.inr (.inl (by decide)))))
theorem get_nil : getReq wF [] = none := getReq_bad (t := []) rfl (.inl rfl)

theorem x_works (w : World) : Calls Try.prog 8 #[] w (Ret w (.bool true)) := by
  refine calls_ret (F8_calls w _ ?_)
  obtain ⟨bB, hbB⟩ := put_rB
  obtain ⟨bT, hbT⟩ := put_rT
  obtain ⟨bX, hbX⟩ := put_pX
  have gB := getReq_put (f := wF) (fun n hn => wF_big n (by omega)) hbB
  have gT := getReq_put (f := wF) (fun n hn => wF_big n (by omega)) hbT
  have gX := getRep_put (f := wF) wF_big hbX
  have M := Mem.start w
  refine CallK.ret (w_PutRequest w r3 (a := none) (l := 0) (c := 0) (a' := none) (l' := 0) (c' := 0) ⟨RsAt.nil, RsAt.nil⟩ few_r3.small) fun w1 k1 => ?_
  have M := M.call k1
  rw [put_r3]
  refine ⟨_, _, rfl, M.newK fun b w2 M => ?_⟩
  have M := Mem_fix (c := opC ⟨0, [97], [98]⟩) M
  have hB : ∀ {W : World}, CellsAt W ⟨b, 0, none⟩ (opC ⟨0, [97], [98]⟩) → ReqAt W rB (some ⟨b, 0, none⟩) 1 none 0 := fun h => ⟨⟨rfl, .inr ⟨_, rfl, h⟩⟩, RsAt.nil⟩
  refine M.newK fun b1 w3 M => M.stK 0 (c := noneC) rfl (by simp [noneC]) rfl fun w4 M => ?_
  have M := Mem_fix (c := reqC rB (some ⟨b, 0, none⟩) 1 1 none 0 0) M
  refine ⟨_, _, _, _, _, _, _, _, M.now.2, CallK.ret (w_PutRequest w4 rB (hB M.now.1.2) few_rB.small) fun w5 k5 => ?_⟩
  have M := M.call k5
  rw [hbB]
  refine ⟨_, _, rfl, (w_GetRequest w5 bB (putReq_few few_rB hbB)).mono ?_⟩
  rintro e w6 ⟨k6, a2, l2, c2, a3, l3, c3, rfl, hf2⟩
  rw [gB] at hf2
  rw [gB]
  have M := M.callF k6 hf2
  refine ⟨_, _, _, _, _, _, _, _, _, rfl, M.newK fun b2 w7 M => M.stK 0 (c := noneC) rfl (by simp [noneC]) rfl fun w8 M => ?_⟩
  have M := Mem_fix (c := reqC rB a2 l2 c2 a3 l3 c3) M
  refine M.newK fun b3 w9 M => ?_
  have M := Mem_fix (c := tokC ⟨[107], 3⟩) M
  have hT : ∀ {W : World}, CellsAt W ⟨b3, 0, none⟩ (tokC ⟨[107], 3⟩) → ReqAt W rT none 0 (some ⟨b3, 0, none⟩) 1 := fun h => ⟨RsAt.nil, ⟨rfl, .inr ⟨_, rfl, h⟩⟩⟩
  refine M.newK fun b4 w10 M => M.stK 0 (c := noneC) rfl (by simp [noneC]) rfl fun w11 M => ?_
  have M := Mem_fix (c := reqC rT none 0 0 (some ⟨b3, 0, none⟩) 1 1) M
  refine ⟨_, _, _, _, _, _, _, _, M.now.2, CallK.ret (w_PutRequest w11 rT (hT M.now.1.2) few_rT.small) fun w12 k12 => ?_⟩
  have M := M.call k12
  rw [hbT]
  refine ⟨_, _, rfl, (w_GetRequest w12 bT (putReq_few few_rT hbT)).mono ?_⟩
  rintro e w13 ⟨k13, a4, l4, c4, a5, l5, c5, rfl, hf4⟩
  rw [gT] at hf4
  rw [gT]
  have M := M.callF k13 hf4
  refine ⟨_, _, _, _, _, _, _, _, _, rfl, M.newK fun b5 w14 M => M.stK 0 (c := noneC) rfl (by simp [noneC]) rfl fun w15 M => ?_⟩
  have M := Mem_fix (c := reqC rT a4 l4 c4 a5 l5 c5) M
  refine (w_GetRequest w15 [] (by decide)).mono ?_
  rintro e w16 ⟨k16, a6, l6, c6, a7, l7, c7, rfl, hf6⟩
  rw [get_nil]
  have M := M.call k16
  refine ⟨_, _, _, _, _, _, _, _, _, rfl, M.newK fun b6 w17 M => M.stK 0 (c := noneC) rfl (by simp [noneC]) rfl fun w18 M => ?_⟩
  have M := M.tail
  refine M.newK fun b7 w19 M => ?_
  have M := Mem_fix (c := strs [[120], []]) M
  have hX : ∀ {W : World}, CellsAt W ⟨b7, 0, none⟩ (strs [[120], []]) → VsAt W (some ⟨b7, 0, none⟩) 2 (strs pX.boxes) := fun h => ⟨rfl, .inr ⟨_, rfl, h⟩⟩
  refine M.newK fun b8 w20 M => M.stK 0 (c := noneR) rfl (by simp [noneR]) rfl fun w21 M => ?_
  have M := Mem_fix (c := repC pX (some ⟨b7, 0, none⟩) 2 2) M
  refine ⟨_, _, _, _, _, _, M.now.2, CallK.ret (w_PutReply w21 pX (hX M.now.1.2) few_pX.small) fun w22 k22 => ?_⟩
  have M := M.call k22
  rw [hbX]
  refine ⟨_, _, rfl, (w_GetReply w22 bX (putRep_few few_pX hbX)).mono ?_⟩
  rintro e w23 ⟨k23, a8, l8, c8, rfl, hf8⟩
  rw [gX] at hf8
  rw [gX]
  have M := M.callF k23 hf8
  refine ⟨_, _, _, _, _, _, _, rfl, M.newK fun b9 w24 M => M.stK 0 (c := noneR) rfl (by simp [noneR]) rfl fun w25 M => ?_⟩
  have M := Mem_fix (c := repC pX a8 l8 c8) M
  refine CallK.ret (w_PutReply w25 noRep (a := none) (l := 0) (c := 0) VsAt.nil few_noRep.small) fun w26 k26 => ?_
  have M := M.call k26
  rw [put_noRep]
  refine ⟨_, _, rfl, M.newK fun b10 w27 M => ?_⟩
  refine ⟨[4, 3, 0, 0], M.bytes 0 (xs := [4, 3, 0, 0]) rfl rfl, ?_⟩
  have M := M.tail
  have ht : eqS (bs [4, 3, 0, 0]) (bs [4, 3, 0, 0]) = true := by rw [eqS_bs]; exact decide_eq_true rfl
  -- the facts
  obtain ⟨⟨⟨⟨⟨⟨⟨⟨⟨⟨⟨⟨-, cb⟩, cb1⟩, fB⟩, cb2⟩, cb3⟩, cb4⟩, fT⟩, cb5⟩, cb7⟩, cb8⟩, fX⟩, cb9⟩ := M.now
  refine SplitK.t ht (SplitK.t rfl (SplitK.t rfl (SplitK.t rfl ⟨_, _, _, _, _, _, _, _, cb1, _, _, _, _, _, _, _, _, cb2, ?_⟩)))
  refine CallK.ret (w_SameRequest w27 rB rB (hB cb) fB (by decide) (by decide)) fun w28 k28 => ⟨_, rfl, SplitK.t (decide_eq_true rfl) (SplitK.t rfl (SplitK.t rfl ?_))⟩
  have M := M.call k28
  obtain ⟨⟨⟨⟨⟨⟨⟨⟨⟨⟨⟨⟨-, cb⟩, cb1⟩, fB⟩, cb2⟩, cb3⟩, cb4⟩, fT⟩, cb5⟩, cb7⟩, cb8⟩, fX⟩, cb9⟩ := M.now
  refine ⟨_, _, _, _, _, _, _, _, cb4, _, _, _, _, _, _, _, _, cb5, ?_⟩
  refine CallK.ret (w_SameRequest w28 rT rT (hT cb3) fT (by decide) (by decide)) fun w29 k29 => ⟨_, rfl, SplitK.t (decide_eq_true rfl) ?_⟩
  have M := M.call k29
  obtain ⟨⟨⟨⟨⟨⟨⟨⟨⟨⟨⟨⟨-, cb⟩, cb1⟩, fB⟩, cb2⟩, cb3⟩, cb4⟩, fT⟩, cb5⟩, cb7⟩, cb8⟩, fX⟩, cb9⟩ := M.now
  refine ⟨_, _, _, _, _, _, _, _, cb1, _, _, _, _, _, _, _, _, cb4, ?_⟩
  have hne : rB ≠ rT := req_ne (.inl (by decide))
  refine CallK.ret (w_SameRequest w29 rB rT (hB cb) (hT cb3) (by decide) (by decide)) fun w30 k30 => ⟨_, rfl, ?_⟩
  rw [decide_eq_false hne]
  refine SplitK.t rfl (SplitK.t rfl (SplitK.t rfl (SplitK.t rfl ?_)))
  have M := M.call k30
  obtain ⟨⟨⟨⟨⟨⟨⟨⟨⟨⟨⟨⟨-, cb⟩, cb1⟩, fB⟩, cb2⟩, cb3⟩, cb4⟩, fT⟩, cb5⟩, cb7⟩, cb8⟩, fX⟩, cb9⟩ := M.now
  refine ⟨_, _, _, _, _, _, cb8, _, _, _, _, _, _, cb9, ?_⟩
  refine CallK.ret (w_SameReply w30 pX pX (hX cb7) fX (by decide)) fun w31 k31 => ⟨_, rfl, SplitK.t (decide_eq_true rfl) ?_⟩
  have M := M.call k31
  obtain ⟨⟨⟨⟨⟨⟨⟨⟨⟨⟨⟨⟨-, cb⟩, cb1⟩, fB⟩, cb2⟩, cb3⟩, cb4⟩, fT⟩, cb5⟩, cb7⟩, cb8⟩, fX⟩, cb9⟩ := M.now
  refine ⟨_, _, _, _, _, _, cb8, ?_⟩
  have hne2 : pX ≠ noRep := rep_ne (.inr (.inr (.inr (by decide))))
  refine CallK.ret (w_SameReply w31 pX noRep (d := none) (m := 0) (e := 0) (hX cb7) VsAt.nil (by decide)) fun w32 k32 => ⟨_, rfl, ?_⟩
  rw [decide_eq_false hne2]
  exact SplitK.t rfl ⟨rfl, (M.call k32).keep⟩

end Go.Proofs.Ytgecpbplbkpdlaa
