/-
  A part of the proof: D1.
-/
import Derived.Test.YtcjlilddhhnikaaSxT20
import Derived.Test.YtcjlilddhhnikaaSxLib
namespace Go.Proofs.Ytcjlilddhhnikaa
open Go Go.Sx
set_option linter.unusedVariables false

theorem texts_any (w : World) {a a' : Option Addr} {l l' c c' : Nat} {xs ys : List ByteArray} (h1 : StrsAt w a l xs) (h2 : StrsAt w a' l' ys) (hb : xs.length ≤ 4611686018427387904) :
    Calls Try.prog 15 #[.slice a l c, .slice a' l' c'] w (Ret w (.bool (decide (xs = ys)))) := by
  refine calls_ret (F15_calls _ _ _ _ _ _ _ _ ?_)
  have e1 := h1.1; have e2 := h2.1
  refine SplitK.of (fun h => ?_) (fun h => ?_)
  · simp at h
    refine ⟨?_, Keep.refl _ _⟩
    have : xs ≠ ys := fun e => h (by rw [e1, e2, e])
    simp [this]
  · simp at h
    have hlen : xs.length = ys.length := by omega
    refine ⟨fun n vs w1 => ∃ k : Nat, vs = [.int .i64 (k : Int)] ∧ k + n = xs.length ∧ xs.take k = ys.take k ∧ Keep [] w w1, ⟨xs.length, 0, rfl, by omega, by simp, Keep.refl _ _⟩, ?_⟩
    rintro n vs w1 ⟨k, rfl, hk, heq, hK⟩
    refine ⟨k, rfl, fun _ => SplitK.of (fun h => ?_) (fun h => ?_)⟩
    · simp at h
      have hkx : k < xs.length := by omega
      have hky : k < ys.length := by omega
      obtain ⟨p, hp, hpc⟩ := h1.get hkx
      obtain ⟨q, hq, hqc⟩ := h2.get hky
      intro w2 hw2
      subst hw2
      refine ⟨fun w' => Keep [] w w', hK.drew, by omega, by simp; omega, SomeK.of p hp ⟨_, fun w3 hw3 => by rw [addA_int]; exact hw3.cell hpc (by simp), by omega, by simp; omega, SomeK.of q hq ⟨_, fun w3 hw3 => by rw [addA_int]; exact hw3.cell hqc (by simp), ?_⟩⟩⟩
      refine SplitK.of (fun h => ?_) (fun h => ?_)
      · simp at h
        refine ⟨?_, hK.drew⟩
        have : xs ≠ ys := fun e => h (by subst e; rfl)
        simp [this]
      · simp at h
        refine ⟨n - 1, by omega, k + 1, ?_, by omega, ?_, hK.drew⟩
        · rw [addI_i64 (by omega) (by omega)]; rfl
        · rw [List.take_succ_eq_append_getElem hkx, List.take_succ_eq_append_getElem hky, heq, h]
    · simp at h
      have : k = xs.length := by omega
      subst this
      refine ⟨?_, hK⟩
      have : xs = ys := by rw [List.take_of_length_le (by omega), List.take_of_length_le (by omega)] at heq; exact heq
      simp [this]

end Go.Proofs.Ytcjlilddhhnikaa
