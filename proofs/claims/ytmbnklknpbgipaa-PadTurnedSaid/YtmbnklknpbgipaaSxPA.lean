/-
  A part of the proof: PA.
-/
import Derived.Test.YtmbnklknpbgipaaSxOS
import Derived.Test.YtmbnklknpbgipaaSxTP
import Derived.Test.YtmbnklknpbgipaaSxRange
namespace Go.Proofs.Ytmbnklknpbgipaa
open Go Go.Sx Go.Oct
set_option linter.unusedVariables false

/-- The buckets. -/
def sizeAt (i : Nat) : Nat := 32 * 2 ^ i
def sizesL (k : Nat) : List Int := (List.range k).map fun i => ((sizeAt i : Nat) : Int)
/-- The bucket of a length; 0: none. -/
def bucket (n : Int) : Nat := match (List.range 8).find? (fun i => decide (0 ≤ n ∧ n ≤ (sizeAt i : Int) - 2)) with | some i => sizeAt i | none => 0

theorem sizesL_succ (k : Nat) : sizesL (k + 1) = sizesL k ++ [((sizeAt k : Nat) : Int)] := by simp [sizesL, List.range_succ]
theorem sizeAt_le {i : Nat} (h : i < 8) : sizeAt i ≤ 4096 := by
  have : (2 : Nat) ^ i ≤ 2 ^ 7 := Nat.pow_le_pow_right (by decide) (by omega)
  unfold sizeAt; omega
theorem sizeAt_ge (i : Nat) : 32 ≤ sizeAt i := by
  have : 0 < (2 : Nat) ^ i := Nat.pow_pos (by decide)
  unfold sizeAt; omega

theorem p_sizes (w : World) (y : Value) (I : Nat → World → Prop) (X : World → Prop)
    (hst : ∀ i, i < 8 → ∀ W, I i W → FnK Try.prog true y #[.int .i64 (sizeAt i : Nat)] W (fun e W' => (e = .returned (.bool true) ∧ I (i + 1) W') ∨ (e = .returned (.bool false) ∧ X W'))) (h0 : I 0 w) :
    Calls Try.prog 54 #[y] w (fun e w' => e = .returned (.tuple #[]) ∧ (I 8 w' ∨ X w')) := by
  refine (F54_calls y w (fun v w' => v = .tuple #[] ∧ (I 8 w' ∨ X w')) ?_).mono (fun e w' ⟨v, he, hv, h⟩ => ⟨by rw [he, hv], h⟩)
  refine ⟨fun n vs w1 => ∃ i, i ≤ 8 ∧ vs = [.int .i64 (sizeAt i : Nat)] ∧ n = 8 - i ∧ I i w1, ⟨8, 0, by omega, rfl, rfl, h0⟩, ?_⟩
  rintro n vs w1 ⟨i, hi, rfl, rfl, hI⟩
  refine ⟨_, rfl, fun _ => SplitK.of (fun h => ?_) (fun h => ?_)⟩
  · simp only [leI_t] at h
    have hi8 : i < 8 := by
      apply Nat.lt_of_not_le
      intro h8
      have : (2 : Nat) ^ 8 ≤ 2 ^ i := Nat.pow_le_pow_right (by decide) h8
      unfold sizeAt at h
      omega
    refine FnK.mono (hst i hi8 w1 hI) fun e w2 he => ?_
    rcases he with ⟨rfl, hI'⟩ | ⟨rfl, hX⟩
    · refine ⟨true, rfl, SplitK.f rfl ⟨by decide, 8 - (i + 1), by omega, i + 1, by omega, ?_, rfl, hI'⟩⟩
      have hle := sizeAt_le hi8
      have e1 : shlI .i64 ((sizeAt i : Nat) : Int) 1 = ((sizeAt (i + 1) : Nat) : Int) := by
        have e2 : sizeAt (i + 1) = sizeAt i * 2 := by unfold sizeAt; rw [Nat.pow_succ]; omega
        rw [e2]
        simp only [shlI, IntKind.wrap, IntKind.signed, IntKind.bits]
        simp
        omega
      rw [e1]
    · exact ⟨false, rfl, SplitK.t rfl ⟨rfl, .inr hX⟩⟩
  · simp only [leI_f] at h
    have : i = 8 := by
      apply Nat.le_antisymm hi
      apply Nat.le_of_not_lt
      intro hlt
      have := sizeAt_le hlt
      omega
    subst this
    exact ⟨rfl, .inl hI⟩

theorem p_fits (w : World) (n : Int) {R : Ending → World → Prop} (k : ∀ b w1, b = w.heap.size → w1 = w.alloc (.cells #[.int .i64 n] 3 (0, 0)) → R (.returned (.func (.func 62) #[] #[.pointer (some ⟨b, 0, none⟩)])) w1) :
    CallK Try.prog 55 #[.int .i64 n] w R :=
  (F55_calls n w (fun v w' => R (.returned v) w') (fun b w1 hb hw => k b w1 hb hw)).mono (fun e w' ⟨v, he, h⟩ => by rw [he]; exact h)

theorem p_fits1 (w : World) (size n : Int) (p : Addr) (hc : w.cell? p = some (.int .i64 n)) (hs : -1000000 ≤ size ∧ size ≤ 1000000) : Calls Try.prog 62 #[.int .i64 size, .pointer (some p)] w (fun e w' => e = .returned (.bool (decide (0 ≤ n ∧ n ≤ size - 2))) ∧ w' = w) := by
  refine (F62_calls size (some p) w (fun v w' => v = .bool (decide (0 ≤ n ∧ n ≤ size - 2)) ∧ w' = w) ?_).mono (fun e w' ⟨v, he, hv, h⟩ => ⟨by rw [he, hv], h⟩)
  refine ⟨n, hc, SplitK.of (fun h => ⟨n, hc, ?_, rfl⟩) (fun h => ⟨?_, rfl⟩)⟩
  · simp only [leI_t] at h
    congr 1
    rw [Bool.eq_iff_iff, subI_i64 (by omega) (by omega)]
    simp only [leI_t, decide_eq_true_eq]
    omega
  · simp only [leI_f] at h
    congr 1
    symm
    simp
    omega

theorem find_none {n : Int} {k : Nat} (h : ∀ i, i < k → ¬ (0 ≤ n ∧ n ≤ (sizeAt i : Int) - 2)) : (List.range k).find? (fun i => decide (0 ≤ n ∧ n ≤ (sizeAt i : Int) - 2)) = none := by
  rw [List.find?_eq_none]
  intro i hi
  simpa using h i (List.mem_range.1 hi)
theorem bucket_at {n : Int} {i : Nat} (hi : i < 8) (h0 : ∀ j, j < i → ¬ (0 ≤ n ∧ n ≤ (sizeAt j : Int) - 2)) (h : 0 ≤ n ∧ n ≤ (sizeAt i : Int) - 2) : bucket n = sizeAt i := by
  have : (List.range 8).find? (fun i => decide (0 ≤ n ∧ n ≤ (sizeAt i : Int) - 2)) = some i := by
    rw [List.find?_range_eq_some]
    refine ⟨by simpa using h, by simpa using hi, fun j hj => ?_⟩
    have := h0 j hj
    rw [Bool.not_eq_true', decide_eq_false_iff_not]
    exact this
  unfold bucket
  rw [this]
theorem bucket_none {n : Int} (h : ∀ i, i < 8 → ¬ (0 ≤ n ∧ n ≤ (sizeAt i : Int) - 2)) : bucket n = 0 := by
  unfold bucket
  rw [find_none h]

theorem p_Bucket (w : World) (n : Int) : Calls Try.prog 45 #[.int .i64 n] w (Ret w (.int .i64 (bucket n : Nat))) := by
  refine calls_ret (F45_calls _ _ _ ?_)
  refine (Mem.start w).newK fun b w1 M => ?_
  refine p_fits w1 n fun b1 w2 hb1 hw2 => ⟨_, rfl, ?_⟩
  have M := M.alloc (.cells #[.int .i64 n] 3 (0, 0))
  rw [← hb1, ← hw2] at M
  refine M.newK fun b2 w3 M => ?_
  refine M.stK 0 (off := 0) (c := [.nilFunc]) rfl (by simp) rfl fun w4 M => ?_
  simp only [spliceL, List.set_cons_zero] at M
  intro D l rec w5 hD hl hw5 hround
  have M := M.enterE hD hl hw5
  -- what holds between the rounds, and behind one that has left
  let I : Nat → World → Prop := fun i W => (∀ j, j < i → ¬ (0 ≤ n ∧ n ≤ (sizeAt j : Int) - 2)) ∧
    Mem w [] [(l, rec .ready none), (D, .deferred (some [])), (b2, .cells (List.toArray [.func (.func 62) #[] #[.pointer (some ⟨b1, 0, none⟩)]]) 51 (0, 0)), (b1, .cells (List.toArray [.int .i64 n]) 3 (0, 0)), (b, .cells (List.toArray [.int .i64 0]) 3 (0, 0))] (fun _ => True) W
  let X : World → Prop := fun W => Mem w [] [(l, rec .done (some .ret)), (D, .deferred (some [])), (b2, .cells (List.toArray [.func (.func 62) #[] #[.pointer (some ⟨b1, 0, none⟩)]]) 51 (0, 0)), (b1, .cells (List.toArray [.int .i64 n]) 3 (0, 0)), (b, .cells (List.toArray [.int .i64 (bucket n : Nat)]) 3 (0, 0))] (fun _ => True) W
  refine (p_sizes w5 (.func (.yield l) #[] #[]) I X ?_ ⟨fun j hj => by omega, M⟩).mono ?_
  · rintro i hi W ⟨hno, M⟩
    refine FnK.yield (hround _ W _ (M.hget 0 rfl) ⟨M.hget 0 rfl, ?_⟩)
    rintro W1 rfl
    have M := M.put 0 (rec .busy none) rfl
    have hle := sizeAt_le hi
    refine ⟨_, M.cell 2 (c := [_]) rfl rfl, FnK.fn (by kernel_rfl) ((p_fits1 _ _ n ⟨b1, 0, none⟩ (M.cell 3 (c := [_]) rfl rfl) (by omega)).mono ?_)⟩
    rintro e W2 ⟨rfl, rfl⟩
    refine ⟨_, rfl, SplitK.of (fun h => ?_) (fun h => ?_)⟩
    · simp only [decide_eq_true_eq] at h
      refine M.stK 4 (c := [.int .i64 0]) rfl (by simp) rfl fun W3 M => ⟨M.hget 0 rfl, ?_⟩
      rintro W4 rfl
      have M := M.put 0 (rec .done (some .ret)) rfl
      refine .inr ⟨rfl, ?_⟩
      rw [← bucket_at hi hno h] at M
      exact M
    · simp only [decide_eq_false_iff_not] at h
      refine ⟨M.hget 0 rfl, ?_⟩
      rintro W4 rfl
      have M := M.put 0 (rec .ready none) rfl
      refine .inl ⟨rfl, fun j hj => ?_, M⟩
      by_cases hji : j = i
      · subst hji; exact h
      · exact hno j (by omega)
  · rintro e w6 ⟨rfl, hX⟩
    refine ⟨_, rfl, ?_⟩
    rcases hX with ⟨hno, M⟩ | M
    · refine ⟨none, M.hget 0 rfl, ?_⟩
      rintro w7 rfl
      have M := M.put 0 (rec .exhausted none) rfl
      refine M.stK 4 (c := [_]) rfl (by simp) rfl fun w8 M => ⟨M.hget 1 rfl, ?_⟩
      rintro w9 rfl
      have M := M.put 1 (.deferred none) rfl
      refine ⟨0, M.cell 4 (c := [_]) rfl rfl, ?_, M.keep⟩
      rw [bucket_none hno]
      rfl
    · refine ⟨some .ret, M.hget 0 rfl, ?_⟩
      rintro w7 rfl
      have M := M.put 0 (rec .exhausted (some .ret)) rfl
      refine ⟨M.hget 1 rfl, ?_⟩
      rintro w9 rfl
      have M := M.put 1 (.deferred none) rfl
      exact ⟨_, M.cell 4 (c := [_]) rfl rfl, rfl, M.keep⟩

theorem p_Same (w : World) (n m : Int) : Calls Try.prog 46 #[.int .i64 n, .int .i64 m] w (Ret w (.bool (decide (bucket n ≠ 0 ∧ bucket n = bucket m)))) := by
  refine calls_ret (F46_calls _ _ _ _ ?_)
  refine CallK.ret (p_Bucket w n) fun w1 k1 => ⟨_, rfl, SplitK.of (fun h => ?_) (fun h => ?_)⟩
  · simp at h
    refine CallK.ret (p_Bucket w1 n) fun w2 k2 => ⟨_, rfl, CallK.ret (p_Bucket w2 m) fun w3 k3 => ⟨_, rfl, ?_, (k1.trans0 k2).trans0 k3⟩⟩
    congr 1
    rw [Bool.eq_iff_iff]
    simp [h]
    omega
  · simp at h
    refine ⟨?_, k1⟩
    simp [h]

theorem p_Sizes (w : World) : Calls Try.prog 43 #[] w (RetV w ((sizesL 8).map i64V)) := by
  refine calls_retV (F43_calls _ _ ?_)
  refine CallK.retV (vs := (sizesL 8).map i64V) ?_ fun a l c w1 hf hk => ⟨a, l, c, rfl, a, l, c, rfl, hf, hk⟩
  refine calls_retV (F53_calls _ _ _ ?_)
  refine CallK.retV (vs := (sizesL 8).map i64V) ?_ fun a l c w1 hf hk => ⟨a, l, c, rfl, a, l, c, rfl, hf, hk⟩
  refine calls_retV (F61_calls _ _ _ _ _ _ ?_)
  refine (Mem.start w).newK fun b w1 M => ?_
  intro D l rec w5 hD hl hw5 hround
  have M := M.enterE hD hl hw5
  let I : Nat → World → Prop := fun i W => ∃ (opt : List (Nat × Obj)) (a : Option Addr) (l1 c : Nat), OwnM opt 3 a l1 c ((sizesL i).map i64V) ∧
    Mem w [] ((l, rec .ready none) :: (D, .deferred (some [])) :: (b, .cells (List.toArray [.slice a l1 c]) 47 (0, 0)) :: (opt ++ [])) (fun _ => True) W
  refine FnK.fn (by kernel_rfl) ((p_sizes w5 (.func (.yield l) #[] #[]) I (fun _ => False) ?_ ⟨[], none, 0, 0, OwnM.nil, M⟩).mono ?_)
  · rintro i hi W ⟨opt, a, l1, c, ho, M⟩
    refine FnK.yield (hround _ W _ (M.hget 0 rfl) ⟨M.hget 0 rfl, ?_⟩)
    rintro W1 rfl
    have M := M.put 0 (rec .busy none) rfl
    refine ⟨a, l1, c, M.cell 2 (c := [_]) rfl rfl, M.newK fun b1 W2 M2 => ⟨_, M2.old1, ne1, ?_⟩⟩
    have M3 : Mem w [] (opt ++ ((l, rec .busy none) :: (D, .deferred (some [])) :: (b, .cells (List.toArray [.slice a l1 c]) 47 (0, 0)) :: [])) (fun _ => True) W2 :=
      M2.tail.perm (by simpa using (List.perm_append_comm (l₁ := [(l, rec .busy none), (D, .deferred (some [])), (b, .cells (List.toArray [.slice a l1 c]) 47 (0, 0))]) (l₂ := opt)))
    refine Mem.appK M3 ho rfl rfl (by simp [sizesL]; omega) (by simp [sizesL]; omega) ?_
    intro a' l' c' opt' w' ho' M' hl
    have M4 : Mem w [] ((l, rec .busy none) :: (D, .deferred (some [])) :: (b, .cells (List.toArray [.slice a l1 c]) 47 (0, 0)) :: (opt' ++ [])) (fun _ => True) w' :=
      M'.perm (by simpa using (List.perm_append_comm (l₁ := opt') (l₂ := [(l, rec .busy none), (D, .deferred (some [])), (b, .cells (List.toArray [.slice a l1 c]) 47 (0, 0))])))
    refine M4.stK 2 (off := 0) (c := [.slice a l1 c]) rfl (by simp) rfl fun W5 M5 => ⟨M5.hget 0 rfl, ?_⟩
    rintro W6 rfl
    have M6 := M5.put 0 (rec .ready none) rfl
    refine .inl ⟨rfl, opt', a', l', c', ?_, M6⟩
    rw [sizesL_succ]
    simpa [i64V] using ho'
  · rintro e w6 ⟨rfl, hX⟩
    refine ⟨_, rfl, ?_⟩
    rcases hX with ⟨opt, a, l1, c, ho, M⟩ | hX
    · refine ⟨none, M.hget 0 rfl, ?_⟩
      rintro w7 rfl
      have M := M.put 0 (rec .exhausted none) rfl
      refine ⟨_, _, _, M.cell 2 (c := [_]) rfl rfl, M.hget 1 rfl, ?_⟩
      rintro w8 rfl
      have M := M.put 1 (.deferred none) rfl
      have M3 : Mem w [] (opt ++ _) (fun _ => True) _ := M.perm (by simpa using (List.perm_append_comm (l₁ := [(l, rec .exhausted none), (D, .deferred none), (b, .cells (List.toArray [.slice a l1 c]) 47 (0, 0))]) (l₂ := opt)))
      exact ⟨a, l1, c, rfl, OwnM.freshV ho M3, M.keep⟩
    · exact hX.elim

end Go.Proofs.Ytmbnklknpbgipaa
