/-
  A part of the proof: WL.
-/
import Derived.Test.YtgecpbplbkpdlaaSxWK
namespace Go.Proofs.Ytgecpbplbkpdlaa
open Go Go.Sx Go.Oct Go.Wire
set_option linter.unusedVariables false

/-- A request as cells. -/
def reqC (r : ReqV) (a : Option Addr) (l c : Nat) (a' : Option Addr) (l' c' : Nat) : List Value := [.int .i64 r.kind, .slice a l c, .string (bs r.label), .slice a' l' c']
structure ReqAt (w : World) (r : ReqV) (a : Option Addr) (l : Nat) (a' : Option Addr) (l' : Nat) : Prop where
  ops : RsAt w 3 a l (opsC r.ops)
  toks : RsAt w 2 a' l' (toksC r.toks)
theorem ReqAt.keep0 {w w' : World} {r : ReqV} {a : Option Addr} {l : Nat} {a' : Option Addr} {l' : Nat} (h : ReqAt w r a l a' l') (hk : Keep [] w w') : ReqAt w' r a l a' l' := ⟨h.ops.keep0 hk, h.toks.keep0 hk⟩
/-- So small that it is reckoned with. -/
structure ReqS (r : ReqV) : Prop where
  ops : (joinL (opsT r.ops)).length ≤ 300000
  label : r.label.length ≤ 300000
  toks : (joinL (toksT r.toks)).length ≤ 300000
theorem toksT_length (l : List TokV) : (toksT l).length = 2 * l.length := by
  induction l with
  | nil => rfl
  | cons o r ih =>
    have : toksT (o :: r) = tokT o ++ toksT r := by simp [toksT]
    rw [this, List.length_append, ih]
    simp [tokT]; omega
theorem ReqS.toksN {r : ReqV} (h : ReqS r) : r.toks.length ≤ 300000 := by
  have h1 := splitL_cnt (splitL_joinL (toksT r.toks))
  rw [toksT_length] at h1
  have := h.toks
  omega
theorem ReqS.opsN {r : ReqV} (h : ReqS r) : r.ops.length ≤ 300000 := by
  have h1 := opsT_bytes r.ops
  rw [opsT_length] at h1
  have := h.ops
  omega

/-- What a kind has. -/
def FitsP (r : ReqV) : Prop := (r.kind ≠ 0 → r.ops = []) ∧ (r.kind ≠ 1 → r.label = []) ∧ (r.kind ≠ 2 → r.toks = []) ∧
  (r.kind = 0 ∨ (r.kind = 1 ∧ 1 ≤ r.label.length ∧ r.label.length ≤ 64) ∨ (r.kind = 2 ∧ 1 ≤ r.toks.length ∧ r.toks.length ≤ 40 ∧ ¬ ∃ t ∈ r.toks, BadTok t) ∨ r.kind = 3)
theorem putReq_not {r : ReqV} (h : ¬ FitsP r) : putReq r = none := by
  unfold putReq
  by_cases h0 : r.kind = 0
  · rw [if_pos h0, if_neg]
    rintro ⟨h1, h2⟩
    exact h ⟨fun h => absurd h0 h, fun _ => h1, fun _ => h2, .inl h0⟩
  · rw [if_neg h0]
    by_cases h1 : r.kind = 1
    · rw [if_pos h1, if_neg]
      rintro ⟨g1, g2, g3, g4⟩
      exact h ⟨fun _ => g1, fun h => absurd h1 h, fun _ => g2, .inr (.inl ⟨h1, g3, g4⟩)⟩
    · rw [if_neg h1]
      by_cases h2 : r.kind = 2
      · rw [if_pos h2, if_neg]
        rintro ⟨g1, g2, g3, g4, g5⟩
        exact h ⟨fun _ => g1, fun _ => g2, fun h => absurd h2 h, .inr (.inr (.inl ⟨h2, g3, g4, g5⟩))⟩
      · rw [if_neg h2]
        by_cases h3 : r.kind = 3
        · rw [if_pos h3, if_neg]
          rintro ⟨g1, g2, g3⟩
          exact h ⟨fun _ => g1, fun _ => g2, fun _ => g3, .inr (.inr (.inr h3))⟩
        · rw [if_neg h3]
theorem putReq_fits {r : ReqV} (h : FitsP r) : (r.kind = 0 ∧ putReq r = (putOps r.ops).map fun b => joinL [[0], b]) ∨
    ((r.kind = 1 ∨ r.kind = 2 ∨ r.kind = 3) ∧ putReq r = some (joinL ([[UInt8.ofNat r.kind.toNat]] ++ (if r.kind = 1 then [r.label] else []) ++ toksT r.toks))) := by
  obtain ⟨g1, g2, g3, g4⟩ := h
  unfold putReq
  rcases g4 with h0 | ⟨h1, h2, h3⟩ | ⟨h1, h2, h3, h4⟩ | h0
  · left
    rw [if_pos h0, if_pos ⟨g2 (by omega), g3 (by omega)⟩]
    exact ⟨h0, rfl⟩
  · right
    refine ⟨.inl h1, ?_⟩
    rw [if_neg (by omega), if_pos h1, if_pos ⟨g1 (by omega), g3 (by omega), h2, h3⟩, if_pos h1, g3 (by omega), h1]; rfl
  · right
    refine ⟨.inr (.inl h1), ?_⟩
    rw [if_neg (by omega), if_neg (by omega), if_pos h1, if_pos ⟨g1 (by omega), g2 (by omega), h2, h3, h4⟩, if_neg (by omega), h1]; rfl
  · right
    refine ⟨.inr (.inr h0), ?_⟩
    rw [if_neg (by omega), if_neg (by omega), if_neg (by omega), if_pos h0, if_pos ⟨g1 (by omega), g2 (by omega), g3 (by omega)⟩, if_neg (by omega), g3 (by omega), h0]; rfl

theorem w_reqFits (w : World) (r : ReqV) {a : Option Addr} {l c : Nat} {a' : Option Addr} {l' c' : Nat} (h : ReqAt w r a l a' l') (hs : ReqS r) :
    Calls Try.prog 26 #[.agg (reqC r a l c a' l' c').toArray] w (fun e w' => ∃ b, e = .returned (.bool b) ∧ (b = true ↔ FitsP r) ∧ Keep [] w w') := by
  refine Calls.mono (F26_calls r.kind a l c (bs r.label) a' l' c' w (fun v w' => ∃ b, v = .bool b ∧ (b = true ↔ FitsP r) ∧ Keep [] w w') ?_) (fun e w' ⟨v, he, b, hv, h⟩ => ⟨b, by rw [he, hv], h⟩)
  have hol := ops_len h.ops
  have htl := toks_len h.toks
  have M : Mem w [] [] (fun W => ReqAt W r a l a' l') w := Mem.startF w fun w' k => h.keep0 k
  refine M.newK fun b w1 M => ?_
  refine ⟨_, _, _, M.cellA 0 (c := reqC r a l c a' l' c') rfl rfl, _, M.cellA 0 (c := reqC r a l c a' l' c') rfl rfl, _, _, _, M.cellA 0 (c := reqC r a l c a' l' c') rfl rfl, ?_⟩
  have e0 : ltI 0 (natI l) = decide (r.ops ≠ []) := by
    rw [Bool.eq_iff_iff, ltI_t, decide_eq_true_eq, natI_eq, hol]
    cases r.ops <;> simp <;> omega
  have e1 : notB (eqS (bs r.label) ⟨List.toArray []⟩) = decide (r.label ≠ []) := by
    rw [lit_bs [], eqS_bs]; simp [notB]
  have e2 : ltI 0 (natI l') = decide (r.toks ≠ []) := by
    rw [Bool.eq_iff_iff, ltI_t, decide_eq_true_eq, natI_eq, htl]
    cases r.toks <;> simp <;> omega
  rw [e0, e1, e2]
  refine M.newK fun b1 w2 M => M.stK 0 (c := [.bool false, .bool false, .bool false, .bool false]) rfl (by simp) rfl fun w3 M => ?_
  refine ⟨_, _, _, _, M.cells 0 (c := [.bool (decide (r.ops ≠ [])), .bool (decide (r.label ≠ [])), .bool (decide (r.toks ≠ [])), .bool false]) rfl, ?_⟩
  have M : Mem w [] [(b, .cells (reqC r a l c a' l' c').toArray 25 (0, 0))] (fun W => ReqAt W r a l a' l') w3 := M.tail
  let has : Nat → Bool := fun j => [decide (r.ops ≠ []), decide (r.label ≠ []), decide (r.toks ≠ []), false].getD j false
  refine ⟨fun n vs W => ∃ k : Nat, vs = [.int .i64 k] ∧ k + n = 4 ∧ (∀ j : Nat, j < k → (j : Int) ≠ r.kind → has j = false) ∧ Mem w [] [(b, .cells (reqC r a l c a' l' c').toArray 25 (0, 0))] (fun W => ReqAt W r a l a' l') W, ⟨4, 0, rfl, rfl, fun j hj => by omega, M⟩, ?_⟩
  clear M
  rintro n vs W ⟨k, rfl, hk, hno, M⟩
  have ck : W.cell? (addA ⟨b, 0, none⟩ 0) = some (.int .i64 r.kind) := M.cellA 0 (c := reqC r a l c a' l' c') rfl rfl
  refine ⟨_, rfl, fun _ => SplitK.of (fun hlt => ?_) (fun hlt => ?_)⟩
  · rw [ltI_t] at hlt
    have hk4 : k < 4 := by omega
    refine ⟨by omega, by rw [natI_eq]; omega, has k, ?_, fun K hK => ⟨_, ck, ?_⟩⟩
    · match k, hk4 with
      | 0, _ => rfl
      | 1, _ => rfl
      | 2, _ => rfl
      | 3, _ => rfl
    · have next : ((k : Int) ≠ r.kind → has k = false) → K [.bool false] W := by
        intro hh
        refine hK _ _ fun _ => SplitK.f rfl ⟨n - 1, by omega, k + 1, by rw [addI_one (by omega)], by omega, ?_, M⟩
        intro j hj hne
        by_cases hjk : j = k
        · subst hjk; exact hh hne
        · exact hno j (by omega) hne
      refine SplitK.of (fun hn => ?_) (fun hn => ?_)
      · simp only [notB_t, eqI_f] at hn
        cases hb : has k with
        | false => exact next fun _ => hb
        | true =>
          refine hK _ _ fun _ => SplitK.t rfl ⟨false, rfl, ?_, M.keep⟩
          simp only [Bool.false_eq_true, false_iff]
          rintro ⟨g1, g2, g3, g4⟩
          match k, hk4, hb, hn with
          | 0, _, hb, hn => exact (of_decide_eq_true hb) (g1 fun h => hn (by rw [h]; rfl))
          | 1, _, hb, hn => exact (of_decide_eq_true hb) (g2 fun h => hn (by rw [h]; rfl))
          | 2, _, hb, hn => exact (of_decide_eq_true hb) (g3 fun h => hn (by rw [h]; rfl))
          | 3, _, hb, hn => cases hb
      · simp only [notB_f, eqI_t] at hn
        exact next fun h => absurd hn h
  · rw [ltI_f] at hlt
    obtain rfl : k = 4 := by omega
    have g1 : r.kind ≠ 0 → r.ops = [] := fun h => by
      have := of_decide_eq_false (hno 0 (by decide) (fun e => h e.symm))
      simpa using this
    have g2 : r.kind ≠ 1 → r.label = [] := fun h => by
      have := of_decide_eq_false (hno 1 (by decide) (fun e => h e.symm))
      simpa using this
    have g3 : r.kind ≠ 2 → r.toks = [] := fun h => by
      have := of_decide_eq_false (hno 2 (by decide) (fun e => h e.symm))
      simpa using this
    refine ⟨_, ck, SplitK.of (fun h0 => ?_) (fun h0 => SplitK.of (fun h1 => ?_) (fun h1 => SplitK.of (fun h2 => ?_) (fun h2 => ⟨_, ck, ?_⟩)))⟩
    · rw [eqI_t] at h0
      exact ⟨true, rfl, ⟨fun _ => ⟨g1, g2, g3, .inl h0⟩, fun _ => rfl⟩, M.keep⟩
    · rw [eqI_t] at h1
      refine ⟨_, M.cellA 0 (c := reqC r a l c a' l' c') rfl rfl, CallK.ret (w_short W r.label) fun w5 k5 => ⟨_, rfl, _, rfl, ?_, M.keep.trans0 k5⟩⟩
      rw [decide_eq_true_eq]
      constructor
      · intro hh; exact ⟨g1, g2, g3, .inr (.inl ⟨h1, hh⟩)⟩
      · rintro ⟨_, _, _, g4⟩
        rcases g4 with h | ⟨_, h⟩ | ⟨h, _⟩ | h
        · omega
        · exact h
        · omega
        · omega
    · rw [eqI_t] at h2
      rw [eqI_f] at h0 h1
      have ct : W.cell? (addA ⟨b, 0, none⟩ 3) = some (.slice a' l' c') := M.cellA 0 (c := reqC r a l c a' l' c') rfl rfl
      have no : ¬ (1 ≤ r.toks.length ∧ r.toks.length ≤ 40 ∧ ¬ ∃ t ∈ r.toks, BadTok t) → ((false = true) ↔ FitsP r) := by
        intro hn
        simp only [Bool.false_eq_true, false_iff]
        rintro ⟨_, _, _, g4⟩
        rcases g4 with h | ⟨h, _⟩ | ⟨_, h⟩ | h
        · omega
        · omega
        · exact hn h
        · omega
      refine ⟨_, _, _, ct, SplitK.of (fun h5 => ⟨_, _, _, ct, SplitK.of (fun h6 => ⟨_, _, _, ct, ?_⟩) (fun h6 => ?_)⟩) (fun h5 => ?_)⟩
      · rw [ltI_t, natI_eq, htl] at h5
        rw [leI_t, natI_eq, htl] at h6
        refine CallK.ret (w_anyTok W M.now.toks (by have := hs.toksN; omega)) fun w5 k5 => ⟨_, rfl, _, rfl, ?_, M.keep.trans0 k5⟩
        rw [notB_t, decide_eq_false_iff_not]
        constructor
        · intro hh; exact ⟨g1, g2, g3, .inr (.inr (.inl ⟨h2, by omega, by omega, hh⟩))⟩
        · rintro ⟨_, _, _, g4⟩
          rcases g4 with h | ⟨h, _⟩ | ⟨_, _, _, h⟩ | h
          · omega
          · omega
          · exact h
          · omega
      · rw [leI_f, natI_eq, htl] at h6
        exact ⟨false, rfl, no (by omega), M.keep⟩
      · rw [ltI_f, natI_eq, htl] at h5
        exact ⟨false, rfl, no (by omega), M.keep⟩
    · rw [eqI_f] at h0 h1 h2
      refine ⟨_, rfl, ?_, M.keep⟩
      rw [eqI_t]
      constructor
      · intro h3; exact ⟨g1, g2, g3, .inr (.inr (.inr h3))⟩
      · rintro ⟨_, _, _, g4⟩
        rcases g4 with h | ⟨h, _⟩ | ⟨h, _⟩ | h
        · omega
        · omega
        · omega
        · exact h

end Go.Proofs.Ytgecpbplbkpdlaa
