/-
  Digits of base sixteen, in plain words; no program.
-/
import Derived.Test.YthpodgkmghgenaaDoorSxSha
import Derived.Lib.Bytealg
namespace Go.Sha
open Go Go.Sx Go.Oct
set_option linter.unusedVariables false

def DIG : List UInt8 := [48, 49, 50, 51, 52, 53, 54, 55, 56, 57, 97, 98, 99, 100, 101, 102]
/-- The value of a digit, or -1. -/
def vI (b : UInt8) : Int := Lib.indexByte DIG b
theorem hexD_dig : ∀ n : Fin 16, DIG[n.1]? = some (hexD n.1) := by decide +kernel
theorem vI_hexD : ∀ n : Fin 16, vI (hexD n.1) = n.1 := by decide +kernel
theorem hexD_at {n : Nat} (h : n < 16) : DIG[n]'(by simpa [DIG] using h) = hexD n := by
  have := hexD_dig ⟨n, h⟩
  rw [List.getElem?_eq_getElem (by simpa [DIG] using h)] at this
  exact Option.some.inj this
theorem indexByte_cases (c : UInt8) : ∀ l : List UInt8, Lib.indexByte l c = -1 ∧ c ∉ l ∨ ∃ k : Nat, Lib.indexByte l c = k ∧ l[k]? = some c
  | [] => .inl ⟨rfl, by simp⟩
  | b :: l => by
    unfold Lib.indexByte
    by_cases h : b = c
    · subst h; right; exact ⟨0, by simp, by simp⟩
    · have hb : (b == c) = false := by simpa using h
      rw [hb]
      rcases indexByte_cases c l with ⟨h1, h2⟩ | ⟨k, h1, h2⟩
      · left
        rw [h1]
        exact ⟨by simp, by simp [h2]; exact fun e => h e.symm⟩
      · right
        refine ⟨k + 1, ?_, by simpa using h2⟩
        rw [h1]
        have : ((k : Int) == -1) = false := by
          simp
        rw [this]
        simp
theorem vI_cases (c : UInt8) : vI c = -1 ∧ c ∉ DIG ∨ ∃ k : Nat, k < 16 ∧ vI c = k ∧ hexD k = c := by
  rcases indexByte_cases c DIG with h | ⟨k, h1, h2⟩
  · exact .inl h
  · right
    have hk : k < 16 := (List.getElem?_eq_some_iff.1 h2).1
    refine ⟨k, hk, h1, ?_⟩
    rw [hexD_dig ⟨k, hk⟩] at h2
    exact Option.some.inj h2

/-- The text that digits are. -/
def unhexR : List UInt8 → Option (List UInt8)
  | [] => some []
  | [_] => none
  | a :: b :: r => if vI a < 0 ∨ vI b < 0 then none else (unhexR r).map ((UInt8.ofNat (16 * (vI a).toNat + (vI b).toNat)) :: ·)
def unhexL (s : List UInt8) : List UInt8 := (unhexR s).getD []
def unhexB (s : List UInt8) : Bool := (unhexR s).isSome

theorem unhexR_odd : ∀ (s : List UInt8), s.length % 2 ≠ 0 → unhexR s = none
  | [], h => by simp at h
  | [_], h => rfl
  | a :: b :: r, h => by
    rw [unhexR, unhexR_odd r (by simp at h; omega)]
    split <;> rfl
theorem hexL_cons (b : UInt8) (r : List UInt8) : hexL (b :: r) = hexD (b.toNat / 16) :: hexD (b.toNat % 16) :: hexL r := rfl
theorem hexL_length : ∀ s : List UInt8, (hexL s).length = 2 * s.length
  | [] => rfl
  | b :: r => by rw [hexL_cons]; simp [hexL_length r]; omega
theorem unhex_hex : ∀ s : List UInt8, unhexR (hexL s) = some s
  | [] => rfl
  | b :: r => by
    have hb : b.toNat < 256 := b.toNat_lt
    have h1 := vI_hexD ⟨b.toNat / 16, by omega⟩
    have h2 := vI_hexD ⟨b.toNat % 16, by omega⟩
    simp only at h1 h2
    rw [hexL_cons, unhexR, h1, h2, unhex_hex r, if_neg (by omega)]
    have : UInt8.ofNat (16 * ((b.toNat / 16 : Nat) : Int).toNat + ((b.toNat % 16 : Nat) : Int).toNat) = b := by
      rw [Int.toNat_natCast, Int.toNat_natCast, Nat.div_add_mod, UInt8.ofNat_toNat]
    rw [this]
    rfl
theorem hex_unhex : ∀ (s t : List UInt8), unhexR s = some t → hexL t = s
  | [], t, h => by cases h; rfl
  | [_], t, h => by cases h
  | a :: b :: r, t, h => by
    rw [unhexR] at h
    split at h
    · cases h
    · rename_i hn
      cases hr : unhexR r with
      | none => rw [hr] at h; cases h
      | some u =>
        rw [hr] at h
        cases h
        have ih := hex_unhex r u hr
        rcases vI_cases a with ⟨h1, _⟩ | ⟨k, hk, h1, h2⟩
        · omega
        rcases vI_cases b with ⟨h3, _⟩ | ⟨j, hj, h3, h4⟩
        · omega
        rw [h1, h3, hexL_cons, ih]
        simp only [Int.toNat_natCast]
        have : (UInt8.ofNat (16 * k + j)).toNat = 16 * k + j := by simp; omega
        rw [this, show (16 * k + j) / 16 = k by omega, show (16 * k + j) % 16 = j by omega, h2, h4]
theorem drop2 (s : List UInt8) (k : Nat) (h : k + 1 < s.length) : s.drop k = s[k] :: s[k + 1] :: s.drop (k + 2) := by
  rw [List.drop_eq_getElem_cons (by omega : k < s.length), List.drop_eq_getElem_cons (by omega : k + 1 < s.length)]
/-- What Pad is at any number. -/
def padI (n : Int) : List UInt8 := if n < 0 then [] else padL n.toNat
theorem outL_take (h : St) (k : Nat) : ((h.l.take (k + 1)).map fun x => bigL x 4).flatten = ((h.l.take k).map fun x => bigL x 4).flatten ++ (if k < 8 then bigL (h.l.getD k 0) 4 else []) := by
  by_cases hk : k < 8
  · rw [if_pos hk, List.take_succ_eq_append_getElem (show k < h.l.length from hk), List.map_append, List.flatten_append]
    simp only [List.map_cons, List.map_nil, List.flatten_cons, List.flatten_nil, List.append_nil]
    rw [List.getD_eq_getElem?_getD, List.getElem?_eq_getElem (show k < h.l.length from hk), Option.getD_some]
  · rw [if_neg hk, List.append_nil, List.take_of_length_le (show h.l.length ≤ k + 1 by show 8 ≤ _; omega), List.take_of_length_le (show h.l.length ≤ k by show 8 ≤ _; omega)]
theorem byte16 : ∀ a b : Fin 16, wrapI .u8 (orI .i64 (shlI .i64 ((a.1 : Nat) : Int) 4) ((b.1 : Nat) : Int)) = ((16 * a.1 + b.1 : Nat) : Int) := by decide +kernel
theorem byte16' (a b : Nat) (ha : a < 16) (hb : b < 16) : wrapI .u8 (addI .i64 (mulI .i64 16 (a : Int)) (b : Int)) = ((16 * a + b : Nat) : Int) := by
  have h1 : mulI .i64 ((16 : Nat) : Int) (a : Int) = ((16 * a : Nat) : Int) := mulI_nat 16 a (by omega)
  have h2 : mulI .i64 16 (a : Int) = ((16 * a : Nat) : Int) := h1
  rw [h2, addI_nat _ _ (by omega), wrapI_u8, Nat.mod_eq_of_lt (by omega)]
end Go.Sha
