/-
  SX: arguments that are structs, with rows of structs.
-/
import Derived.Test.YtgecpbplbkpdlaaSxOpen
import Derived.Test.YtgecpbplbkpdlaaSxRecs
import Derived.Lib.SmallJoins
namespace Go.Sx
open Go Go.ChangeShapes Go.WideShapes Go.ChangeAt Go.RowKit Go.Joins
set_option linter.unusedVariables false

section
variable {H : Type} {enc : TypeId × Value → H} {P : Program} {w : World} {t : TypeId} {v : Value} {b0 n base : Nat} {sp : Nat → Bool} {hd : Bool} {y : DataW H × List MemPlace}

theorem trod_str (ht : P.underlying t = some .string) (h : DataW.trod enc P w base sp hd n t [v] = some y) : ∃ l : List UInt8, v = .string (bs l) := by
  cases n with
  | zero => simp [DataW.trod] at h
  | succ n =>
    rw [DataW.trod_step] at h
    unfold DataW.trodStep at h
    rw [ht] at h
    cases v <;> simp at h
    rename_i s
    obtain ⟨l, rfl⟩ := bs_surj s
    exact ⟨l, rfl⟩
theorem trod_i64 (ht : P.underlying t = some (.int .i64)) (h : DataW.trod enc P w base sp hd n t [v] = some y) : ∃ z : Int, v = .int .i64 z := by
  cases n with
  | zero => simp [DataW.trod] at h
  | succ n =>
    rw [DataW.trod_step] at h
    unfold DataW.trodStep at h
    rw [ht] at h
    cases v <;> simp at h
    obtain ⟨⟨rfl, _⟩, _⟩ := h
    exact ⟨_, rfl⟩

theorem flat_len' {α : Type} (C : α → List Value) (sz : Nat) (hC : ∀ x, (C x).length = sz) : ∀ l : List α, (l.map C).flatten.length = l.length * sz
  | [] => by simp
  | x :: r => by
    have ih := flat_len' C sz hC r
    simp only [List.map_cons, List.flatten_cons, List.length_append, List.length_cons, ih, hC]
    rw [Nat.add_mul, Nat.one_mul, Nat.add_comm]
theorem flat_get {α : Type} (C : α → List Value) (sz : Nat) (hC : ∀ x, (C x).length = sz) (hsz : 0 < sz) : ∀ (l : List α) (j : Nat) (v : Value), (l.map C).flatten[j]? = some v → ∃ (x : α), l[j / sz]? = some x ∧ (C x)[j % sz]? = some v
  | [], j, v, h => by simp at h
  | x :: r, j, v, h => by
    simp only [List.map_cons, List.flatten_cons] at h
    by_cases hj : j < sz
    · rw [List.getElem?_append_left (by rw [hC]; exact hj)] at h
      exact ⟨x, by rw [Nat.div_eq_of_lt hj]; rfl, by rw [Nat.mod_eq_of_lt hj]; exact h⟩
    · rw [List.getElem?_append_right (by rw [hC]; omega), hC] at h
      obtain ⟨z, h1, h2⟩ := flat_get C sz hC hsz r (j - sz) v h
      have e1 : j / sz = (j - sz) / sz + 1 := by rw [Nat.div_eq_sub_div hsz (by omega)]
      have e2 : j % sz = (j - sz) % sz := Nat.mod_eq_sub_mod (by omega)
      exact ⟨z, by rw [e1]; exact h1, by rw [e2]; exact h2⟩

/-- A slice of elements of so many cells. -/
theorem opn_recs {α : Type} (C : α → List Value) {e : TypeId} {sz : Nat} (hsz : 0 < sz) (hC : ∀ x, (C x).length = sz) (ht : P.underlying t = some (.slice e)) (hc : P.cellsOf e = sz)
    (hel : ∀ n cs' y, DataW.trod enc P w base (fun _ => true) hd n e cs' = some y → ∃ x, cs' = C x) (h : DataW.trod enc P w base (fun _ => true) hd n t [v] = some y) :
    ∃ a l c, ∃ xs : List α, v = .slice a l c ∧ RsAt w sz a l (xs.map C).flatten := by
  rcases Go.Deep.open_slice ht h with ⟨hcs, _⟩ | ⟨a, len, cap, m, n', D, Pl, hcs, _, hl, _, hm, _, hx⟩
  · simp at hcs
    exact ⟨none, 0, 0, [], hcs, RsAt.nil⟩
  · simp at hcs
    simp only [if_true] at hm
    have hch : ∀ i : Nat, i < len → ∃ x : α, ∀ j v, (C x)[j]? = some v → w.cell? (a.add (i * sz + j)) = some v := by
      intro i hi
      obtain ⟨cs', h1, h2⟩ := hx i (by omega)
      obtain ⟨x, rfl⟩ := hel _ _ _ h2
      rw [hc] at h1
      obtain ⟨_, hlen, hget⟩ := World.cells?_some h1
      refine ⟨x, fun j v hv => ?_⟩
      have hj : j < sz := by rw [← hC x]; exact (List.getElem?_eq_some_iff.1 hv).1
      have := hget j hj
      rw [add_add] at this
      rw [this]; exact hv
    have hall : ∃ xs : List α, xs.length = len ∧ ∀ i (x : α), xs[i]? = some x → ∀ j v, (C x)[j]? = some v → w.cell? (a.add (i * sz + j)) = some v := by
      have aux : ∀ k, k ≤ len → ∃ xs : List α, xs.length = k ∧ ∀ i (x : α), xs[i]? = some x → ∀ j v, (C x)[j]? = some v → w.cell? (a.add (i * sz + j)) = some v := by
        intro k
        induction k with
        | zero => intro _; exact ⟨[], rfl, by simp⟩
        | succ k ih =>
          intro hk
          obtain ⟨xs, hxl, hxs⟩ := ih (by omega)
          obtain ⟨x, hx⟩ := hch k (by omega)
          refine ⟨xs ++ [x], by simp [hxl], fun i z hz => ?_⟩
          by_cases hi : i < xs.length
          · rw [List.getElem?_append_left hi] at hz; exact hxs i z hz
          · rw [List.getElem?_append_right (by omega)] at hz
            have h0 : i - xs.length = 0 := by
              have := (List.getElem?_eq_some_iff.1 hz).1
              simp at this; omega
            rw [h0] at hz
            cases hz
            have hik : i = k := by omega
            rw [hik]; exact hx
      exact aux len (Nat.le_refl _)
    obtain ⟨xs, hxl, hxs⟩ := hall
    refine ⟨some a, len, cap, xs, hcs, by rw [flat_len' C sz hC, hxl], .inr ⟨a, rfl, fun j v hv => ?_⟩⟩
    obtain ⟨x, h1, h2⟩ := flat_get C sz hC hsz xs j v hv
    have := hxs _ _ h1 _ _ h2
    rwa [show j / sz * sz + j % sz = j by rw [Nat.mul_comm]; exact Nat.div_add_mod j sz] at this

/-- A slice of texts. -/
theorem opn_texts {e : TypeId} (ht : P.underlying t = some (.slice e)) (he : P.underlying e = some .string) (hc : P.cellsOf e = 1) (h : DataW.trod enc P w base (fun _ => true) hd n t [v] = some y) :
    ∃ a l c, ∃ xs : List (List UInt8), v = .slice a l c ∧ VsAt w a l (xs.map fun x => Value.string (bs x)) := by
  obtain ⟨a, l, c, xs, hv, hr⟩ := opn_recs (fun x : List UInt8 => [Value.string (bs x)]) (sz := 1) (by decide) (fun _ => rfl) ht hc (fun n cs' y h => by
    have hone : ∃ v, cs' = [v] := by
      cases n with
      | zero => simp [DataW.trod] at h
      | succ n =>
        rw [DataW.trod_step] at h
        unfold DataW.trodStep at h
        rw [he] at h
        match cs', h with
        | [v], _ => exact ⟨v, rfl⟩
        | [], h => simp at h
        | v1 :: v2 :: r, h => simp at h
    obtain ⟨v, rfl⟩ := hone
    obtain ⟨l, rfl⟩ := trod_str he h
    exact ⟨l, rfl⟩) h
  have e1 : ∀ xs : List (List UInt8), (xs.map fun x : List UInt8 => [Value.string (bs x)]).flatten = xs.map fun x => Value.string (bs x) := by
    intro xs
    induction xs with
    | nil => rfl
    | cons x r ih => simp only [List.map_cons, List.flatten_cons, List.singleton_append, ih]
  rw [e1] at hr
  exact ⟨a, l, c, xs, hv, by have := hr.1; omega, hr.2⟩
end
end Go.Sx
