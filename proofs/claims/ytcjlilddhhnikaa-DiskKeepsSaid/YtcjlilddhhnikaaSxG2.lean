/-
  A part of the proof: G2.
-/
import Derived.Test.YtcjlilddhhnikaaSxG1
namespace Go.Proofs.Ytcjlilddhhnikaa
open Go Go.Sx
set_option linter.unusedVariables false

/-- What is the disk behind an act, in the law's eyes. -/
def Dk.took (d : Dk) (x : Ac) : Dk := if d.actE x.k x.s x.keep x.fuse = 0 ∨ (d.actE x.k x.s x.keep x.fuse = 15 ∧ d.dead = false) then d.act x.k x.s x.keep x.fuse else d

/-- The law's book of records and of what is synced. -/
def book1 (W : List ByteArray) (e : Int) (x : Ac) : List ByteArray := if e = 0 ∧ x.k = 0 then W ++ [x.s] else W
def sync2 (W : List ByteArray) (n : Nat) (e : Int) (x : Ac) : Nat := if e = 0 ∧ x.k = 1 then W.length else n
def book3 (W : List ByteArray) (e : Int) (x : Ac) : List ByteArray := if e = 0 ∧ x.k = 2 then [x.s] else W
def sync3 (n : Nat) (e : Int) (x : Ac) : Nat := if e = 0 ∧ x.k = 2 then 1 else n

/-- The book says what the disk has. -/
theorem took_ok {d : Dk} {m : Nat} {x : Ac} (h : d.ok m) (hm : m < 500) (hs : isLong x.s = false) :
    (d.took x).ok (m + 1) ∧
    (¬ (x.k < 0 ∨ 2 < x.k) → book3 (book1 (d.S ++ d.P) (d.actE x.k x.s x.keep x.fuse) x) (d.actE x.k x.s x.keep x.fuse) x = (d.took x).S ++ (d.took x).P ∧
      sync3 (sync2 (book1 (d.S ++ d.P) (d.actE x.k x.s x.keep x.fuse) x) d.S.length (d.actE x.k x.s x.keep x.fuse) x) (d.actE x.k x.s x.keep x.fuse) x = (d.took x).S.length) ∧
    ((x.k < 0 ∨ 2 < x.k) → (d.took x).P = []) := by
  have hl := h.1
  by_cases hk : x.k = 0 ∨ x.k = 1 ∨ x.k = 2
  · obtain ⟨hA, hB, hC⟩ := act_ok (keep := x.keep) (fuse := x.fuse) h hm hs hk
    have hno : ¬ (x.k < 0 ∨ 2 < x.k) := by omega
    refine ⟨?_, fun _ => ?_, fun h => absurd h hno⟩
    · unfold Dk.took
      by_cases hd : d.dead = false
      · have := ok_act (keep := x.keep) (fuse := x.fuse) h hm hs hd hk
        split
        · exact this
        · exact ⟨by omega, h.2⟩
      · have hE := hA (by simpa using hd)
        rw [hE, if_neg (by simp [hd])]
        exact ⟨by omega, h.2⟩
    · by_cases hd : d.dead = false
      · by_cases hf : d.fuse = 0
        · obtain ⟨hE, hX⟩ := hB hd hf
          unfold Dk.took book3 book1 sync3 sync2
          rw [hE, hX]
          simp [hd]
        · obtain ⟨hE, hX⟩ := hC hd hf
          unfold Dk.took book3 book1 sync3 sync2
          rw [hE, hX]
          rcases hk with h0 | h0 | h0 <;> simp [h0]
      · have hE := hA (by simpa using hd)
        unfold Dk.took book3 book1 sync3 sync2
        rw [hE]
        simp [hd]
  · have hyes : x.k < 0 ∨ 2 < x.k := by omega
    have hE : d.actE x.k x.s x.keep x.fuse = 0 := by unfold Dk.actE; rw [if_neg (by omega), if_neg (by omega), if_neg (by omega)]
    have hX : d.act x.k x.s x.keep x.fuse = d.crash x.keep x.fuse := by unfold Dk.act; rw [if_neg (by omega), if_neg (by omega), if_neg (by omega)]
    have hT : d.took x = ⟨d.S ++ d.P.take (keepN x.keep d.P.length), [], x.fuse, false⟩ := by
      unfold Dk.took
      rw [hE, hX, if_pos (.inl rfl), Dk.crash, if_pos (h.may (by omega))]
    rw [hT]
    refine ⟨⟨by simp; omega, fun s hsm => ?_⟩, fun h => absurd hyes h, fun _ => rfl⟩
    simp at hsm
    rcases hsm with h1 | h1
    · exact h.2 s (by simp [h1])
    · exact h.2 s (by simp [List.mem_of_mem_take h1])

theorem took_fuse (d : Dk) (x : Ac) (h : -9223372036854775808 ≤ d.fuse ∧ d.fuse ≤ 9223372036854775807) (hf : -9223372036854775808 ≤ x.fuse ∧ x.fuse ≤ 9223372036854775807) :
    -9223372036854775808 ≤ (d.took x).fuse ∧ (d.took x).fuse ≤ 9223372036854775807 := by
  unfold Dk.took
  split
  · exact act_fuse _ _ _ _ _ h hf
  · exact h

end Go.Proofs.Ytcjlilddhhnikaa
