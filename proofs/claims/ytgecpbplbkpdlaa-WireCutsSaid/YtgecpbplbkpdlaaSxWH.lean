/-
  A part of the proof: WH.
-/
import Derived.Test.YtgecpbplbkpdlaaSxWG
import Derived.Test.YtgecpbplbkpdlaaSxRecs
import Derived.Test.YtgecpbplbkpdlaaSxWire2
namespace Go.Proofs.Ytgecpbplbkpdlaa
open Go Go.Sx Go.Oct Go.Wire
set_option linter.unusedVariables false

def opC (o : OpV) : List Value := [.int .i64 o.kind, .string (bs o.label), .string (bs o.box)]
def opsC (l : List OpV) : List Value := (l.map opC).flatten
theorem flat_len {α : Type} (f : α → List Value) (n : Nat) (hf : ∀ x, (f x).length = n) : ∀ l : List α, ((l.map f).flatten).length = l.length * n
  | [] => by simp
  | x :: r => by simp [flat_len f n hf r, hf, Nat.add_mul]; omega
theorem flat_at {α : Type} (f : α → List Value) (n : Nat) (hf : ∀ x, (f x).length = n) : ∀ (l : List α) (k : Nat) (hk : k < l.length) (i : Nat) (v : Value), (f l[k])[i]? = some v → ((l.map f).flatten)[k * n + i]? = some v
  | [], k, hk, _, _, _ => by simp at hk
  | x :: r, 0, hk, i, v, h => by
    have h : (f x)[i]? = some v := h
    simp only [List.map_cons, List.flatten_cons, Nat.zero_mul, Nat.zero_add]
    rw [List.getElem?_append_left (List.getElem?_eq_some_iff.1 h).1]
    exact h
  | x :: r, k + 1, hk, i, v, h => by
    simp only [List.map_cons, List.flatten_cons]
    rw [List.getElem?_append_right (by rw [hf, Nat.add_mul]; omega), hf, show (k + 1) * n + i - n = k * n + i by rw [Nat.add_mul]; omega]
    exact flat_at f n hf r k (by simpa using hk) i v h
theorem opsC_len (l : List OpV) : (opsC l).length = l.length * 3 := flat_len opC 3 (fun _ => rfl) l
theorem op_at {w : World} {a : Option Addr} {l : Nat} {ops : List OpV} (h : RsAt w 3 a l (opsC ops)) {k : Nat} (hk : k < ops.length) :
    ∃ p, a = some p ∧ CellsAt w (addA p (mulN (intN (k : Int)) 3)) (opC ops[k]) := by
  obtain ⟨p, hp, hc⟩ := h.ptr (by rw [opsC_len]; omega)
  refine ⟨p, hp, ?_⟩
  show CellsAt w (p.add (k * 3)) _
  exact hc.part fun i v hv => flat_at opC 3 (fun _ => rfl) ops k hk i v hv
theorem ops_len {w : World} {a : Option Addr} {l : Nat} {ops : List OpV} (h : RsAt w 3 a l (opsC ops)) : l = ops.length := by
  have h1 := h.1; rw [opsC_len] at h1; omega

theorem w_fits (w : World) (a b : List UInt8) : Calls Try.prog 67 #[.string (bs a), .string (bs b)] w (Ret w (.bool (decide (1 ≤ a.length ∧ a.length ≤ 64 ∧ b.length ≤ 8192)))) := by
  refine calls_ret (F67_calls _ _ _ _ ?_)
  unfold F67
  rw [lit_bs [], eqS_bs]
  refine SplitK.of (fun h => SplitK.of (fun h2 => ?_) (fun h2 => ?_)) (fun h => ?_)
  · simp only [notB_t, decide_eq_false_iff_not] at h
    simp at h2
    have h1 : 1 ≤ a.length := by cases a; exact absurd rfl h; simp
    refine ⟨?_, Keep.refl _ _⟩
    have e : leI (natI (sizeS (bs b))) 8192 = decide (b.length ≤ 8192) := by
      rw [Bool.eq_iff_iff, leI_t, decide_eq_true_eq, sizeS_bs, natI_eq]; omega
    rw [e]; congr 1
    rw [decide_eq_decide]
    constructor
    · intro h; exact ⟨h1, by omega, h⟩
    · intro h; exact h.2.2
  · simp at h2
    refine ⟨?_, Keep.refl _ _⟩
    rw [decide_eq_false (by omega)]
  · simp only [notB_f, decide_eq_true_eq] at h
    refine ⟨?_, Keep.refl _ _⟩
    subst h; rfl

theorem w_odd (w : World) (o : OpV) : Calls Try.prog 54 #[.agg (opC o).toArray] w (Ret w (.bool (decide (OddP o)))) := by
  refine calls_ret (F54_calls _ _ _ _ _ ?_)
  refine (Mem.start w).newK fun b w1 M => ?_
  have c0 : w1.cell? (addA ⟨b, 0, none⟩ 0) = some (.int .i64 o.kind) := M.cellA 0 (c := opC o) rfl rfl
  have c1 : w1.cell? (addA ⟨b, 0, none⟩ 1) = some (.string (bs o.label)) := M.cellA 0 (c := opC o) rfl rfl
  have c2 : w1.cell? (addA ⟨b, 0, none⟩ 2) = some (.string (bs o.box)) := M.cellA 0 (c := opC o) rfl rfl
  intro K hK
  have fin : K [.bool (decide (o.kind = 1 ∨ o.kind = 3))] w1 := by
    refine hK _ _ fun _ => ⟨_, c0, SplitK.of (fun h => ?_) (fun h => ⟨_, c0, SplitK.of (fun h2 => ?_) (fun h2 => ⟨_, c1, _, c2, ?_⟩)⟩)⟩
    · rw [ltI_t] at h
      exact ⟨by rw [decide_eq_true (.inl h)], M.keep⟩
    · rw [ltI_t] at h2
      exact ⟨by rw [decide_eq_true (.inr (.inl h2))], M.keep⟩
    · rw [ltI_f] at h h2
      refine CallK.ret (w_fits w1 o.label o.box) fun w2 k => ⟨_, rfl, SplitK.of (fun hf => ?_) (fun hf => ?_)⟩
      · simp only [notB_t, decide_eq_false_iff_not] at hf
        refine ⟨?_, M.keep.trans0 k⟩
        rw [decide_eq_true]
        unfold OddP; omega
      · simp only [notB_f, decide_eq_true_eq] at hf
        have M := M.call k
        refine SplitK.of (fun hc => ⟨_, M.cellA 0 (c := opC o) rfl rfl, ?_, M.keep⟩) (fun hc => ⟨?_, M.keep⟩)
        · have hc := of_decide_eq_true hc
          rw [lit_bs [], eqS_bs]
          congr 1
          rw [Bool.eq_iff_iff, notB_t, decide_eq_false_iff_not, decide_eq_true_eq]
          unfold OddP
          constructor
          · intro h; exact .inr (.inr (.inr (.inr (.inr ⟨hc, h⟩))))
          · rintro (h | h | h | h | h | h)
            · omega
            · omega
            · omega
            · omega
            · omega
            · exact h.2
        · have hc := of_decide_eq_false hc
          rw [decide_eq_false]
          unfold OddP
          rintro (h | h | h | h | h | h)
          · omega
          · omega
          · omega
          · omega
          · omega
          · exact hc h.1
  refine ⟨_, c0, SplitK.of (fun h => ?_) (fun h => ⟨_, c0, ?_⟩)⟩
  · rw [eqI_t] at h
    rwa [decide_eq_true (.inl h)] at fin
  · rw [eqI_f] at h
    have e : eqI o.kind 3 = decide (o.kind = 1 ∨ o.kind = 3) := by
      rw [Bool.eq_iff_iff, eqI_t, decide_eq_true_eq]
      constructor
      · exact .inr
      · rintro (h1 | h1)
        · exact absurd h1 h
        · exact h1
    rw [e]; exact fin

theorem w_anyOdd (w : World) {a : Option Addr} {l c : Nat} {ops : List OpV} (h : RsAt w 3 a l (opsC ops)) (hl : ops.length ≤ 1000000) :
    Calls Try.prog 53 #[.slice a l c, .func (.func 54) #[] #[]] w (Ret w (.bool (decide (∃ o ∈ ops, OddP o)))) := by
  refine calls_ret (F53_calls _ _ _ _ _ _ ?_)
  have hlen := ops_len h
  subst hlen
  refine Calls.mono (F66_calls _ _ _ _ w (fun v w' => ∃ n : Int, v = .int .i64 n ∧ (0 ≤ n ↔ ∃ o ∈ ops, OddP o) ∧ Keep [] w w') ?_) ?_
  · refine ⟨fun n vs W => ∃ k : Nat, vs = [.int .i64 k] ∧ k + n = ops.length ∧ (∀ o ∈ ops.take k, ¬ OddP o) ∧ Keep [] w W, ⟨ops.length, 0, rfl, by omega, by simp, Keep.refl _ _⟩, ?_⟩
    rintro n vs W ⟨k, rfl, hk, hno, kk⟩
    refine ⟨_, rfl, fun _ => SplitK.of (fun hlt => ?_) (fun hlt => ?_)⟩
    · simp at hlt
      have hko : k < ops.length := by omega
      obtain ⟨p, hp, hc⟩ := op_at (h.keep0 kk) hko
      refine ⟨by omega, by simp; omega, SomeK.of p hp ⟨_, _, _, hc, FnK.fn rfl ?_⟩⟩
      refine CallK.ret (w_odd W ops[k]) fun w2 k2 => ⟨_, rfl, SplitK.of (fun ho => ?_) (fun ho => ?_)⟩
      · have ho := of_decide_eq_true ho
        exact ⟨_, rfl, ⟨fun _ => ⟨_, List.getElem_mem hko, ho⟩, fun _ => by omega⟩, kk.trans0 k2⟩
      · have ho := of_decide_eq_false ho
        refine ⟨n - 1, by omega, k + 1, by rw [addI_one (by omega)], by omega, ?_, kk.trans0 k2⟩
        intro o hm
        rw [List.take_succ_eq_append_getElem hko] at hm
        rcases List.mem_append.1 hm with h1 | h1
        · exact hno o h1
        · rw [List.mem_singleton.1 h1]; exact ho
    · simp at hlt
      obtain rfl : k = ops.length := by omega
      rw [List.take_length] at hno
      exact ⟨_, rfl, ⟨fun h => absurd h (by decide), fun ⟨o, ho, hb⟩ => absurd hb (hno o ho)⟩, kk⟩
  · rintro e w' ⟨v, rfl, n, rfl, hn, kk⟩
    refine ⟨_, rfl, ?_, kk⟩
    congr 1
    rw [Bool.eq_iff_iff, leI_t, decide_eq_true_eq]; exact hn

theorem opsT_bytes (l : List OpV) : (opsT l).length ≤ (joinL (opsT l)).length := by
  have := splitL_cnt (splitL_joinL (opsT l)); omega

/-- What putting a batch hands back. -/
def putOpsV (l : List OpV) : Value := match putOps l with
  | some b => .tuple #[.string (bs b), .int .i64 0]
  | none => .tuple #[.string (bs []), .int .i64 1]

theorem w_Put (w : World) {a : Option Addr} {l c : Nat} {ops : List OpV} (h : RsAt w 3 a l (opsC ops)) (hx : (joinL (opsT ops)).length ≤ 1000000) : Calls Try.prog 28 #[.slice a l c] w (Ret w (putOpsV ops)) := by
  refine calls_ret (F28_calls _ _ _ _ _ ?_)
  have hlen := ops_len h
  subst hlen
  have hb := opsT_bytes ops
  rw [opsT_length] at hb
  intro K hK
  have fin : ∀ w1, Keep [] w w1 → K [.bool (decide (ops.length < 1 ∨ 400 < ops.length ∨ ∃ o ∈ ops, OddP o))] w1 := by
    intro w1 k1
    refine hK _ _ fun _ => SplitK.of (fun hd => ?_) (fun hd => ?_)
    · have hd := of_decide_eq_true hd
      exact ⟨by rw [putOpsV, putOps, if_pos hd]; rfl, k1⟩
    · have hd := of_decide_eq_false hd
      have hput : putOps ops = some (joinL (opsT ops)) := by rw [putOps, if_neg hd]
      have hko : ∀ o ∈ ops, 0 ≤ o.kind ∧ o.kind ≤ 3 := putOps_kind hput
      have M : Mem w1 [] [] (fun W => RsAt W 3 a ops.length (opsC ops)) w1 := Mem.startF w1 fun w' k => (h.keep0 k1).keep0 k
      refine ⟨fun n vs W => ∃ (k : Nat) (opt : List (Nat × Obj)) (a' : Option Addr) (l' c' : Nat), vs = [.slice a' l' c', .int .i64 k] ∧ k + n = ops.length ∧ OwnM opt 9 a' l' c' (strs (opsT (ops.take k))) ∧ Mem w1 [] (opt ++ []) (fun W => RsAt W 3 a ops.length (opsC ops)) W,
        ⟨ops.length, 0, [], none, 0, 0, rfl, by omega, OwnM.nil, M⟩, ?_⟩
      clear M
      rintro n vs W ⟨k, opt, a', l', c', rfl, hk, ho, M⟩
      refine ⟨_, _, _, _, rfl, fun _ => SplitK.of (fun hlt => ?_) (fun hlt => ?_)⟩
      · simp at hlt
        have hkl : k < ops.length := by omega
        obtain ⟨p, hp, hc⟩ := op_at M.now hkl
        obtain ⟨hk0, hk3⟩ := hko _ (List.getElem_mem hkl)
        refine ⟨by omega, by simp; omega, SomeK.of p hp ⟨_, _, _, hc, ?_⟩⟩
        refine M.newK fun b1 w3 M => M.stK 0 (c := [.int .i64 0, .string ⟨#[]⟩, .string ⟨#[]⟩]) rfl (by simp) rfl fun w4 M => ?_
        have M : Mem w1 [] ((b1, .cells (opC ops[k]).toArray 64 (0, 0)) :: (opt ++ [])) (fun W => RsAt W 3 a ops.length (opsC ops)) w4 := M
        refine ⟨_, M.cellA 0 (c := opC ops[k]) rfl rfl, ?_⟩
        obtain ⟨kn, hkn⟩ : ∃ kn : Nat, ops[k].kind = (kn : Int) := ⟨ops[k].kind.toNat, by omega⟩
        refine M.newK fun b2 w5 M => ?_
        rw [hkn, wrapI_u8, byteV_ofNat] at M
        refine ⟨[UInt8.ofNat kn], M.bytes 0 (T := 5) (fr := (0, 0)) rfl rfl, _, M.cellA 1 (c := opC ops[k]) rfl rfl, _, M.cellA 1 (c := opC ops[k]) rfl rfl, ?_⟩
        refine M.newK fun b3 w6 M => ?_
        have eT : ([.string (bs [UInt8.ofNat kn]), .string (bs ops[k].label), .string (bs ops[k].box)] : List Value) = strs (opT ops[k]) := by
          simp [strs, opT, hkn]
        refine ⟨strs (opT ops[k]), ?_, (fun h => by cases h), ?_⟩
        · rw [← eT]; exact ⟨rfl, M.cells 0 rfl⟩
        have hT := opsT_take ops k hkl
        have hle : 3 * (ops.take k).length ≤ 3 * ops.length := by rw [List.length_take]; omega
        have M3 : Mem w1 [] (opt ++ []) (fun W => RsAt W 3 a ops.length (opsC ops)) w6 := M.tail.tail.tail
        refine Mem.appK M3 ho (by simp [opT]) (by simp [strs, opT, isCell]) (by rw [strs_length, opsT_length]; omega) (by rw [strs_length, opsT_length]; omega) ?_
        intro a2 l2 c2 opt2 w7 ho2 M2 hl2
        refine ⟨n - 1, by omega, k + 1, opt2, a2, l2, c2, by rw [addI_one (by omega)], by omega, ?_, M2⟩
        rw [hT]
        have e : strs (opsT (ops.take k)) ++ strs (opT ops[k]) = strs (opsT (ops.take k) ++ opT ops[k]) := by simp [strs]
        rw [← e]; exact ho2
      · simp at hlt
        obtain rfl : k = ops.length := by omega
        rw [List.take_length] at ho
        refine CallK.ret (w_Join W (ho.vsAt M) (by omega)) fun w3 k3 => ⟨_, rfl, ?_, (k1.trans0 M.keep).trans0 k3⟩
        rw [putOpsV, hput]
  refine SplitK.of (fun h1 => ?_) (fun h1 => SplitK.of (fun h2 => ?_) (fun h2 => ?_))
  · simp at h1
    have := fin w (Keep.refl _ _)
    rwa [decide_eq_true (.inl (by simp [h1]))] at this
  · simp at h2
    have := fin w (Keep.refl _ _)
    rwa [decide_eq_true (.inr (.inl (by omega)))] at this
  · simp at h1 h2
    refine CallK.ret (w_anyOdd w h (by omega)) fun w2 k2 => ⟨_, rfl, ?_⟩
    have := fin w2 k2
    have e : decide (∃ o ∈ ops, OddP o) = decide (ops.length < 1 ∨ 400 < ops.length ∨ ∃ o ∈ ops, OddP o) := by
      rw [decide_eq_decide]
      constructor
      · intro h; exact .inr (.inr h)
      · rintro (h | h | h)
        · exfalso
          have : ops.length = 0 := by omega
          exact h1 (List.eq_nil_of_length_eq_zero this)
        · omega
        · exact h
    rw [e]; exact this

end Go.Proofs.Ytgecpbplbkpdlaa
