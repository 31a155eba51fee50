/-
  A part of the proof: SC.
-/
import Derived.Test.YtlegohnjbkgclaaDoorSxSB
import Derived.Test.YtlegohnjbkgclaaDoorSxOS
namespace Go.Proofs.YtlegohnjbkgclaaDoor
open Go Go.Sx Go.Oct Go.Sha
set_option linter.unusedVariables false

/-- A state's cells. -/
def stV (h : St) (rest : List UInt8) (n : Nat) : List Value := u32s h.l ++ [.string (bs rest), .int .i64 n]
/-- The state of a text. -/
def stT (t : List UInt8) : List Value := stV (stepsL H0 t) (restL t) t.length
def stO (t : List UInt8) : Obj := .cells (stT t).toArray 64 (0, 0)
@[reducible] def sptr (b : Nat) : Value := .pointer (some ⟨b, 0, none⟩)

theorem stepsN_succ (i : Nat) (h : St) (r : List UInt8) (hi : 64 * i ≤ r.length) : stepsN (i + 1) h r = stepB (stepsN i h r) ((r.drop (64 * i)).take 64) := by
  have h1 := stepsN_append i 1 h (r.take (64 * i)) (r.drop (64 * i)) (by rw [List.length_take, Nat.min_eq_left hi])
  rw [List.take_append_drop, ← stepsN_take] at h1
  rw [h1]
  rfl
theorem stV_splice (h h' : St) (rest : List UInt8) (n : Nat) : spliceL (stV h rest n) 0 (u32s h'.l) = stV h' rest n := rfl
theorem stV_rest (h : St) (rest rest' : List UInt8) (n : Nat) : spliceL (stV h rest n) 8 [.string (bs rest')] = stV h rest' n := rfl
theorem stV_n (h : St) (rest : List UInt8) (n n' : Nat) : spliceL (stV h rest n) 9 [.int .i64 (n' : Int)] = stV h rest n' := rfl
theorem stV_length (h : St) (rest : List UInt8) (n : Nat) : (stV h rest n).length = 10 := rfl

section
variable {w0 w : World} {lo : List Nat} {m : List (Nat × Obj)} {F : World → Prop}

theorem s_New (hF : ∀ w, F w → Laid w) (M : Mem w0 lo m F w) {R : Ending → World → Prop} (h : ∀ b w', Mem w0 lo ((b, stO []) :: m) F w' → R (.returned (sptr b)) w') :
    CallK Tryd.prog 24 #[] w R := by
  refine Calls.mono (F24_calls w (fun v w' => R (.returned v) w') ?_) (fun e w' ⟨v, he, hr⟩ => by rw [he]; exact hr)
  refine ⟨_, _, _, _, _, _, _, _, (hF _ M.now).begin', ?_⟩
  refine M.newK fun b w1 M => ?_
  exact h b w1 M

theorem s_Clone (M : Mem w0 lo m F w) (ix : Nat) {b0 : Nat} {t : List UInt8} (hm : m[ix]? = some (b0, stO t)) {R : Ending → World → Prop}
    (h : ∀ b w', Mem w0 lo ((b, stO t) :: m) F w' → R (.returned (sptr b)) w') : CallK Tryd.prog 28 #[sptr b0] w R := by
  refine Calls.mono (F28_calls (some ⟨b0, 0, none⟩) w (fun v w' => R (.returned v) w') ?_) (fun e w' ⟨v, he, hr⟩ => by rw [he]; exact hr)
  refine ⟨_, _, _, _, _, _, _, _, _, _, M.cells ix (c := stT t) hm, ?_⟩
  refine M.newK fun b w1 M => ?_
  refine M.stK 0 (off := 0) (c := stV ⟨0, 0, 0, 0, 0, 0, 0, 0⟩ [] 0) rfl (by simp [stV, u32s, St.l]) rfl fun w2 M => ?_
  exact h b w2 M

theorem s_Len (M : Mem w0 lo m F w) (ix : Nat) {b0 : Nat} {t : List UInt8} (hm : m[ix]? = some (b0, stO t)) : Calls Tryd.prog 27 #[sptr b0] w (Ret w (.int .i64 (t.length : Nat))) := by
  refine calls_ret (F27_calls _ _ _ ?_)
  refine ⟨_, M.cell ix (c := stT t) (off := 0 + 9) hm rfl, rfl, Keep.refl _ _⟩

theorem s_Write (hF : ∀ w, F w → Laid w) {b0 : Nat} {t s : List UInt8} (M : Mem w0 lo ((b0, stO t) :: m) F w) (ht : t.length + s.length ≤ 1000000000000) {R : Ending → World → Prop}
    (h : ∀ w', Mem w0 lo ((b0, stO (t ++ s)) :: m) F w' → R (.returned (.tuple #[])) w') : CallK Tryd.prog 25 #[sptr b0, .string (bs s)] w R := by
  refine Calls.mono (F25_calls (some ⟨b0, 0, none⟩) (bs s) w (fun v w' => R (.returned v) w') ?_) (fun e w' ⟨v, he, hr⟩ => by rw [he]; exact hr)
  refine M.newK fun b w1 M => ?_
  refine ⟨_, M.cell 0 (c := [sptr b0]) (off := 0) rfl rfl, _, M.cell 1 (c := stT t) (off := 0 + 9) rfl rfl, ?_⟩
  have e1 : addI .i64 (t.length : Int) (natI (sizeS (bs s))) = ((t.length + s.length : Nat) : Int) := by
    rw [sizeS_bs, natI_eq, addI_nat _ _ (by omega)]
  rw [e1]
  refine M.stK 1 (off := 0 + 9) (c := stT t) rfl (by simp [stT, stV_length]) rfl fun w2 M => ?_
  have M : Mem w0 lo ((b, .cells [sptr b0].toArray 29 (0, 0)) :: (b0, .cells (stV (stepsL H0 t) (restL t) (t.length + s.length)).toArray 64 (0, 0)) :: m) F w2 := M
  refine ⟨_, M.cell 0 (c := [sptr b0]) (off := 0) rfl rfl, _, M.cell 1 (c := stV (stepsL H0 t) (restL t) (t.length + s.length)) (off := 0 + 8) rfl rfl, ?_⟩
  have hrl := restL_length t
  refine ⟨by simp; omega, ?_⟩
  rw [catS_bs]
  refine M.stK 1 (off := 0 + 8) (c := stV (stepsL H0 t) (restL t) (t.length + s.length)) rfl (by simp [stV_length]) rfl fun w3 M => ?_
  generalize hr : restL t ++ s = r at M
  generalize hh : stepsL H0 t = h0 at M
  have hok : h0.ok := by rw [← hh]; exact stepsL_ok H0_ok t
  generalize hN : t.length + s.length = N at M
  have M : Mem w0 lo ((b, .cells [sptr b0].toArray 29 (0, 0)) :: (b0, .cells (stV h0 r N).toArray 64 (0, 0)) :: m) F w3 := M
  refine ⟨_, M.cell 0 (c := [sptr b0]) (off := 0) rfl rfl, _, M.cell 1 (c := stV h0 r N) (off := 0 + 8) rfl rfl, ?_⟩
  -- the texts' teller
  refine Calls.mono (F48_calls (bs r) w3 (fun v w' => ∃ B0, v = .func (.func 66) #[] #[sptr B0] ∧ Mem w0 lo ((B0, .cells [.string (bs r)].toArray 9 (0, 0)) :: (b, .cells [sptr b0].toArray 29 (0, 0)) :: (b0, .cells (stV h0 r N).toArray 64 (0, 0)) :: m) F w') ?_) ?_
  · exact M.newK fun B0 w4 M => ⟨B0, rfl, M⟩
  rintro e w4 ⟨v, rfl, B0, rfl, M⟩
  refine ⟨_, rfl, ?_⟩
  intro D l rec w5 hD hl hw5 hround
  have M := M.enterE hD hl hw5
  refine FnK.fn rfl ?_
  have hdone : stepsL h0 r = stepsL H0 (t ++ s) ∧ restL r = restL (t ++ s) := by
    obtain ⟨h1, h2⟩ := steps_parts H0 t s
    rw [h1, h2, hr, hh]; exact ⟨rfl, rfl⟩
  refine Calls.mono (F66_calls (.func (.yield l) #[] #[]) (some ⟨B0, 0, none⟩) w5 (fun v w' => Mem w0 lo ((l, rec .ready none) :: (D, .deferred (some [])) :: (B0, .cells [.string (bs (restL r))].toArray 9 (0, 0)) :: (b, .cells [sptr b0].toArray 29 (0, 0)) :: (b0, .cells (stV (stepsL h0 r) (restL r) N).toArray 64 (0, 0)) :: m) F w') ?_) ?_
  · refine ⟨fun k vs W => vs = [] ∧ ∃ i, k + i = r.length / 64 ∧ Mem w0 lo ((l, rec .ready none) :: (D, .deferred (some [])) :: (B0, .cells [.string (bs (r.drop (64 * i)))].toArray 9 (0, 0)) :: (b, .cells [sptr b0].toArray 29 (0, 0)) :: (b0, .cells (stV (stepsN i h0 r) (r.drop (64 * i)) N).toArray 64 (0, 0)) :: m) F W, ⟨r.length / 64, rfl, 0, by omega, M⟩, ?_⟩
    rintro k vs W ⟨rfl, i, hi, M⟩
    refine ⟨rfl, fun _ => ⟨_, M.cell 2 (c := [.string (bs (r.drop (64 * i)))]) (off := 0) rfl rfl, ?_⟩⟩
    have hil : 64 * i ≤ r.length := by omega
    refine SplitK.of (fun hlt => ?_) (fun hlt => ?_)
    · simp at hlt
      have hk : 64 * (i + 1) ≤ r.length := by omega
      refine ⟨_, M.cell 2 (c := [.string (bs (r.drop (64 * i)))]) (off := 0) rfl rfl, by decide, by simp; omega, ?_⟩
      refine ⟨_, M.cell 2 (c := [.string (bs (r.drop (64 * i)))]) (off := 0) rfl rfl, by decide, by simp; omega, ?_⟩
      have e2 : cutS (bs (r.drop (64 * i))) (intN 64) (sizeS (bs (r.drop (64 * i)))) = bs (r.drop (64 * (i + 1))) := by
        rw [cutS_bs, sizeS_bs, List.take_length, List.drop_drop]; rfl
      have e3 : cutS (bs (r.drop (64 * i))) 0 (intN 64) = bs ((r.drop (64 * i)).take 64) := by
        rw [cutS_bs]; rfl
      rw [e2, e3]
      refine M.stK 2 (off := 0) (c := [.string (bs (r.drop (64 * i)))]) rfl (by simp) rfl fun w6 M => ?_
      have M : Mem w0 lo ((l, rec .ready none) :: (D, .deferred (some [])) :: (B0, .cells [.string (bs (r.drop (64 * (i + 1))))].toArray 9 (0, 0)) :: (b, .cells [sptr b0].toArray 29 (0, 0)) :: (b0, .cells (stV (stepsN i h0 r) (r.drop (64 * i)) N).toArray 64 (0, 0)) :: m) F w6 := M
      refine ⟨_, M.cell 2 (c := [.string (bs (r.drop (64 * (i + 1))))]) (off := 0) rfl rfl, ?_⟩
      refine FnK.yield (hround _ _ _ _ (M.hget 0 rfl) ⟨M.hget 0 rfl, ?_⟩)
      rintro w7 rfl
      have M := M.put 0 (rec .busy none) rfl
      rintro w8 rfl
      have M := M.drew
      have M : Mem w0 lo ((l, rec .busy none) :: (D, .deferred (some [])) :: (B0, .cells [.string (bs (r.drop (64 * (i + 1))))].toArray 9 (0, 0)) :: (b, .cells [sptr b0].toArray 29 (0, 0)) :: (b0, .cells (stV (stepsN i h0 r) (r.drop (64 * i)) N).toArray 64 (0, 0)) :: m) F _ := M
      refine ⟨fun W' => Keep [] (w6.putObj l (rec .busy none)).drew W', Keep.refl _ _, ?_⟩
      refine ⟨_, fun w9 hk => (M.call hk).cell 3 (c := [sptr b0]) (off := 0) rfl rfl, _, fun w9 hk => (M.call hk).cell 3 (c := [sptr b0]) (off := 0) rfl rfl, ?_⟩
      refine ⟨_, _, _, _, _, _, _, _, fun w9 hk => (M.call hk).cellsFrom 4 (off := 0 + 0) (c := stV (stepsN i h0 r) (r.drop (64 * i)) N) (vs := u32s (stepsN i h0 r).l) rfl fun j v hj => ?_, ?_⟩
      · rw [Nat.add_zero, Nat.zero_add, stV, List.getElem?_append_left (List.getElem?_eq_some_iff.1 hj).1]; exact hj
      refine CallK.ret (s_step _ (hF _ M.now) (stepsN i h0 r) (stepsN_ok i r hok) _ (by simp; omega)) fun w9 k9 => ?_
      have M := M.call k9
      rw [← stepsN_succ i h0 r hil]
      refine ⟨_, _, _, _, _, _, _, _, rfl, k9, ?_⟩
      refine M.stK 4 (off := 0 + 0) (c := stV (stepsN i h0 r) (r.drop (64 * i)) N) rfl (by simp [stV_length]) rfl fun w10 M => ?_
      have M : Mem w0 lo ((l, rec .busy none) :: (D, .deferred (some [])) :: (B0, .cells [.string (bs (r.drop (64 * (i + 1))))].toArray 9 (0, 0)) :: (b, .cells [sptr b0].toArray 29 (0, 0)) :: (b0, .cells (stV (stepsN (i + 1) h0 r) (r.drop (64 * i)) N).toArray 64 (0, 0)) :: m) F w10 := M
      refine ⟨_, M.cell 3 (c := [sptr b0]) (off := 0) rfl rfl, ?_⟩
      refine M.stK 4 (off := 0 + 8) (c := stV (stepsN (i + 1) h0 r) (r.drop (64 * i)) N) rfl (by simp [stV_length]) rfl fun w11 M => ?_
      have M : Mem w0 lo ((l, rec .busy none) :: (D, .deferred (some [])) :: (B0, .cells [.string (bs (r.drop (64 * (i + 1))))].toArray 9 (0, 0)) :: (b, .cells [sptr b0].toArray 29 (0, 0)) :: (b0, .cells (stV (stepsN (i + 1) h0 r) (r.drop (64 * (i + 1))) N).toArray 64 (0, 0)) :: m) F w11 := M
      refine ⟨M.hget 0 rfl, ?_⟩
      rintro w12 rfl
      have M := M.put 0 (rec .ready none) rfl
      exact ⟨true, rfl, k - 1, by omega, rfl, i + 1, by omega, M⟩
    · simp at hlt
      have : i = r.length / 64 := by omega
      subst this
      have e4 : r.drop (64 * (r.length / 64)) = restL r := by rw [restL, Nat.mul_comm]
      rw [e4] at M
      exact M
  · rintro e w6 ⟨v, rfl, M⟩
    refine ⟨_, rfl, none, M.hget 0 rfl, ?_⟩
    rintro w7 rfl
    have M := M.put 0 (rec .exhausted none) rfl
    refine ⟨M.hget 1 rfl, ?_⟩
    rintro w8 rfl
    have M := M.put 1 (.deferred none) rfl
    refine h _ ?_
    have M := M.tail.tail.tail.tail
    rw [hdone.1, hdone.2, ← hN] at M
    have : stT (t ++ s) = stV (stepsL H0 (t ++ s)) (restL (t ++ s)) (t.length + s.length) := by rw [stT, List.length_append]
    unfold stO
    rw [this]
    exact M
end

end Go.Proofs.YtlegohnjbkgclaaDoor
