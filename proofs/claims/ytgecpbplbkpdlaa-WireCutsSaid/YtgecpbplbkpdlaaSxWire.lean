/-
  Texts as bytes, one behind the other, in plain words; no program.
-/
import Derived.Test.YtgecpbplbkpdlaaSxOct
namespace Go.Wire
open Go Go.Sx Go.Oct
set_option linter.unusedVariables false

/-- A text as bytes, without its kind. -/
def encB : List UInt8 → List UInt8
  | [] => [0, 0]
  | b :: r => (if b = 0 then [0, 255] else [b]) ++ encB r
def joinL : List (List UInt8) → List UInt8
  | [] => []
  | x :: r => 4 :: (encB x ++ joinL r)
/-- The text that bytes begin with, and what is behind it. -/
def decB : List UInt8 → Option (List UInt8 × List UInt8)
  | [] => none
  | [_] => none
  | a :: b :: r =>
    if a = 0 then (if b = 0 then some ([], r) else if b = 255 then (decB r).map fun p => (0 :: p.1, p.2) else none)
    else (decB (b :: r)).map fun p => (a :: p.1, p.2)
  termination_by s => s.length

theorem decB_nil : decB [] = none := by unfold decB; rfl
theorem decB_one (a : UInt8) : decB [a] = none := by unfold decB; rfl
theorem decB_two (a b : UInt8) (r : List UInt8) : decB (a :: b :: r) =
    if a = 0 then (if b = 0 then some ([], r) else if b = 255 then (decB r).map fun p => (0 :: p.1, p.2) else none)
    else (decB (b :: r)).map fun p => (a :: p.1, p.2) := by conv => lhs; unfold decB
theorem encB_two (x : List UInt8) : ∃ a b r, encB x = a :: b :: r := by
  cases x with
  | nil => exact ⟨0, 0, [], rfl⟩
  | cons b r =>
    by_cases h : b = 0
    · exact ⟨0, 255, encB r, by simp [encB, h]⟩
    · cases r with
      | nil => exact ⟨b, 0, [0], by simp [encB, h]⟩
      | cons c r =>
        by_cases h' : c = 0
        · exact ⟨b, 0, 255 :: encB r, by simp [encB, h, h']⟩
        · exact ⟨b, c, encB r, by simp [encB, h, h']⟩
theorem decB_encB : ∀ (x r : List UInt8), decB (encB x ++ r) = some (x, r)
  | [], r => by simp [encB, decB_two]
  | b :: x, r => by
    have ih := decB_encB x r
    by_cases h : b = 0
    · subst h
      simp [encB, decB_two, ih]
    · obtain ⟨c, d, q, hq⟩ := encB_two x
      rw [hq] at ih
      simp only [encB, hq, List.cons_append, List.nil_append, decB_two b, if_neg h]
      rw [List.cons_append, List.cons_append] at ih
      rw [ih]; rfl
theorem encB_decB : ∀ (s x r : List UInt8), decB s = some (x, r) → s = encB x ++ r
  | [], x, r, h => by rw [decB_nil] at h; cases h
  | [a], x, r, h => by rw [decB_one] at h; cases h
  | a :: b :: s, x, r, h => by
    rw [decB_two] at h
    by_cases ha : a = 0
    · rw [if_pos ha] at h
      by_cases hb : b = 0
      · rw [if_pos hb] at h
        cases h
        subst ha hb; rfl
      · rw [if_neg hb] at h
        by_cases hb2 : b = 255
        · rw [if_pos hb2] at h
          cases hd : decB s with
          | none => rw [hd] at h; cases h
          | some p =>
            obtain ⟨y, q⟩ := p
            rw [hd] at h
            cases h
            have := encB_decB s y q hd
            subst ha hb2
            simp [encB, this]
        · rw [if_neg hb2] at h; cases h
    · rw [if_neg ha] at h
      cases hd : decB (b :: s) with
      | none => rw [hd] at h; cases h
      | some p =>
        obtain ⟨y, q⟩ := p
        rw [hd] at h
        cases h
        have := encB_decB (b :: s) y q hd
        simp [encB, ha, this]
  termination_by s => s.length
theorem encB_len : ∀ x, x.length + 2 ≤ (encB x).length ∧ (encB x).length ≤ 2 * x.length + 2
  | [] => by simp [encB]
  | b :: r => by
    have := encB_len r
    simp only [encB, List.length_append, List.length_cons]
    split <;> simp <;> omega
theorem decB_len {s x r : List UInt8} (h : decB s = some (x, r)) : x.length + 2 + r.length ≤ s.length := by
  rw [encB_decB s x r h, List.length_append]
  have := (encB_len x).1
  omega

/-! ### Rows of texts -/
def splitN : Nat → List UInt8 → Option (List (List UInt8))
  | _, [] => some []
  | 0, _ :: _ => none
  | n + 1, c :: r => if c = 4 then (match decB r with | some p => (splitN n p.2).map (p.1 :: ·) | none => none) else none
/-- The texts that bytes are. -/
def splitL (s : List UInt8) : Option (List (List UInt8)) := splitN s.length s
theorem splitN_fuel : ∀ (n m : Nat) (s : List UInt8), s.length ≤ n → s.length ≤ m → splitN n s = splitN m s
  | _, _, [], _, _ => by simp [splitN]
  | 0, _, _ :: _, h, _ => by simp at h
  | _ + 1, 0, _ :: _, _, h => by simp at h
  | n + 1, m + 1, c :: r, h1, h2 => by
    simp only [splitN]
    split
    · split
      · rename_i p hp
        have := decB_len (x := p.1) (r := p.2) (s := r) hp
        simp only [List.length_cons] at h1 h2
        rw [splitN_fuel n m p.2 (by omega) (by omega)]
      · rfl
    · rfl
theorem splitL_nil : splitL [] = some [] := rfl
theorem splitL_cons (c : UInt8) (r : List UInt8) : splitL (c :: r) = if c = 4 then (match decB r with | some p => (splitL p.2).map (p.1 :: ·) | none => none) else none := by
  simp only [splitL, List.length_cons, splitN]
  split
  · split
    · rename_i p hp
      have := decB_len (x := p.1) (r := p.2) (s := r) hp
      rw [splitN_fuel r.length p.2.length p.2 (by omega) (Nat.le_refl _)]
    · rfl
  · rfl
theorem splitL_join : ∀ (xs : List (List UInt8)) (r : List UInt8), splitL (joinL xs ++ r) = (splitL r).map (xs ++ ·)
  | [], r => by simp [joinL]
  | x :: xs, r => by
    simp only [joinL, List.cons_append, splitL_cons, List.append_assoc, decB_encB, if_true]
    rw [splitL_join xs r]
    cases splitL r <;> simp
theorem splitL_joinL (xs : List (List UInt8)) : splitL (joinL xs) = some xs := by
  have := splitL_join xs []
  simpa [splitL_nil] using this
theorem join_splitL : ∀ (n : Nat) (s : List UInt8) (xs : List (List UInt8)), s.length ≤ n → splitL s = some xs → joinL xs = s
  | _, [], xs, _, h => by rw [splitL_nil] at h; cases h; rfl
  | 0, _ :: _, _, h, _ => by simp at h
  | n + 1, c :: r, xs, hn, h => by
    rw [splitL_cons] at h
    split at h
    · rename_i hc
      split at h
      · rename_i p hp
        cases hs : splitL p.2 with
        | none => rw [hs] at h; cases h
        | some ys =>
          rw [hs] at h
          cases h
          have hl := decB_len (x := p.1) (r := p.2) (s := r) hp
          have ih := join_splitL n p.2 ys (by simp only [List.length_cons] at hn; omega) hs
          rw [joinL, ih, ← encB_decB r p.1 p.2 hp, hc]
      · cases h
    · cases h
theorem joinL_splitL {s : List UInt8} {xs : List (List UInt8)} (h : splitL s = some xs) : joinL xs = s := join_splitL s.length s xs (Nat.le_refl _) h
theorem joinL_inj {xs ys : List (List UInt8)} (h : joinL xs = joinL ys) : xs = ys := by
  have h1 := splitL_joinL xs
  rw [h, splitL_joinL] at h1
  exact (Option.some.inj h1).symm
/-- What is a beginning of bytes is a beginning of the texts. -/
theorem joinL_prefix {xs ys : List (List UInt8)} {r : List UInt8} (h : joinL xs = joinL ys ++ r) : ∃ zs, xs = ys ++ zs ∧ joinL zs = r := by
  have h1 := splitL_joinL xs
  rw [h, splitL_join] at h1
  cases hr : splitL r with
  | none => rw [hr] at h1; cases h1
  | some zs =>
    rw [hr] at h1
    exact ⟨zs, (Option.some.inj h1).symm, joinL_splitL hr⟩
theorem joinL_append (xs ys : List (List UInt8)) : joinL (xs ++ ys) = joinL xs ++ joinL ys := by
  induction xs with
  | nil => rfl
  | cons x r ih => simp [joinL, ih]
theorem splitL_len {s : List UInt8} {xs : List (List UInt8)} (h : splitL s = some xs) : ∀ x ∈ xs, x.length ≤ s.length := by
  rw [← joinL_splitL h]
  clear h
  intro x hx
  induction xs with
  | nil => cases hx
  | cons y r ih =>
    simp only [joinL, List.length_cons, List.length_append]
    rcases List.mem_cons.1 hx with rfl | h
    · have := (encB_len x).1; omega
    · have := ih h; omega
theorem splitL_cnt {s : List UInt8} {xs : List (List UInt8)} (h : splitL s = some xs) : 3 * xs.length ≤ s.length := by
  rw [← joinL_splitL h]
  clear h
  induction xs with
  | nil => simp
  | cons y r ih =>
    have := (encB_len y).1
    simp only [joinL, List.length_cons, List.length_append]
    omega
end Go.Wire
