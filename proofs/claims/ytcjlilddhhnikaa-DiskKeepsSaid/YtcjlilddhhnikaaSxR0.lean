/-
  A part of the proof: R0.
-/
import Derived.Test.YtcjlilddhhnikaaSxRow
import Derived.Test.YtcjlilddhhnikaaSxD9
import Derived.Test.YtcjlilddhhnikaaRows
namespace Go.Proofs.Ytcjlilddhhnikaa
open Go Go.Sx Go.ChangeShapes Go.WideShapes Go.ChangeAt Go.RowKit Go.Joins Go.Deep
set_option linter.unusedVariables false

theorem knob : ownKnob Try.prog.godebug = none := by kernel_rfl
theorem laidOutT : laidOutB Try.prog = true := by kernel_rfl

section
variable {H : Type} {enc : TypeId × Value → H} {w : World}

theorem open_i64 {t : TypeId} {v : Value} {n : Nat} {y : DataW H × List MemPlace} (ht : Try.prog.underlying t = some (.int .i64)) (h : DataW.trod enc Try.prog w 0 (fun _ => true) true n t [v] = some y) :
    ∃ i : Int, v = .int .i64 i ∧ -9223372036854775808 ≤ i ∧ i ≤ 9223372036854775807 := by
  obtain ⟨i, hv, _, hw⟩ := DataW.trod_int ht h
  simp only [List.cons.injEq, and_true] at hv
  exact ⟨i, hv, by simpa [Lit.wf, IntKind.min, IntKind.max, IntKind.signed, IntKind.bits] using hw⟩

theorem open_texts {t e : TypeId} {v : Value} {n : Nat} {y : DataW H × List MemPlace} (ht : Try.prog.underlying t = some (.slice e)) (he : Try.prog.underlying e = some .string) (hc : Try.prog.cellsOf e = 1)
    (h : DataW.trod enc Try.prog w 0 (fun _ => true) true n t [v] = some y) :
    ∃ a l c xs, v = .slice a l c ∧ StrsAt w a l xs ∧ l ≤ c := by
  rcases open_strings ht he hc h with ⟨hcs, _⟩ | ⟨a, len, cap, ss, hcs, _, hl, hm, hz, _, hcell, _⟩
  · simp only [List.cons.injEq, and_true] at hcs
    exact ⟨none, 0, 0, [], hcs, ⟨rfl, .inl rfl⟩, Nat.le_refl _⟩
  · simp only [List.cons.injEq, and_true] at hcs
    simp only [if_true] at hz
    refine ⟨some a, len, cap, ss.take len, hcs, ⟨by simp; omega, .inr ⟨a, rfl, ?_⟩⟩, hl⟩
    · intro i v hv
      simp only [List.getElem?_map, List.getElem?_take] at hv
      split at hv
      · rename_i hi
        have hlt : i < ss.length := by omega
        rw [List.getElem?_eq_getElem hlt] at hv
        simp at hv
        rw [hcell i hlt, ← hv, List.getD_eq_getElem?_getD, List.getElem?_eq_getElem hlt]
        rfl
      · simp at hv

/-- A disk among the arguments. -/
theorem open_disk {base : Nat} {v : Value} {d : DataW H} {p : List MemPlace} (hv : Value.okWide Try.prog w .any base 24 v) (h : DataW.Trod enc Try.prog w 0 (fun _ => true) true 24 v d p) :
    ∃ a l c a1 l1 c1 D, v = .agg #[.slice a l c, .slice a1 l1 c1, .int .i64 D.fuse, .bool D.dead] ∧ DskAt w a l c a1 l1 c1 D ∧ -9223372036854775808 ≤ D.fuse ∧ D.fuse ≤ 9223372036854775807 := by
  obtain ⟨v0, v1, v2, v3, y0, y1, y2, y3, n, rfl, _, _, h0, h1, h2, h3⟩ := open_agg4 Try.underlying24 (by kernel_rfl) (by kernel_rfl) hv h
  obtain ⟨a, l, c, xs, rfl, hs, hl⟩ := open_texts Try.underlying22 Try.underlying9 (by kernel_rfl) h0
  obtain ⟨a1, l1, c1, ys, rfl, hs1, hl1⟩ := open_texts Try.underlying22 Try.underlying9 (by kernel_rfl) h1
  obtain ⟨f, rfl, hf⟩ := open_i64 Try.underlying3 h2
  obtain ⟨b, hb, _⟩ := DataW.trod_bool Try.underlying4 h3
  simp only [List.cons.injEq, and_true] at hb
  subst hb
  exact ⟨a, l, c, a1, l1, c1, ⟨xs, ys, f, b⟩, rfl, ⟨hs, hl, hs1, hl1⟩, hf⟩

/-- An act among the arguments. -/
theorem open_act {base : Nat} {v : Value} {d : DataW H} {p : List MemPlace} (hv : Value.okWide Try.prog w .any base 26 v) (h : DataW.Trod enc Try.prog w 0 (fun _ => true) true 26 v d p) :
    ∃ k s keep fuse, v = .agg #[.int .i64 k, .string s, .int .i64 keep, .int .i64 fuse] ∧ (-9223372036854775808 ≤ fuse ∧ fuse ≤ 9223372036854775807) ∧ (-9223372036854775808 ≤ k ∧ k ≤ 9223372036854775807) ∧ (-9223372036854775808 ≤ keep ∧ keep ≤ 9223372036854775807) := by
  obtain ⟨v0, v1, v2, v3, y0, y1, y2, y3, n, rfl, _, _, h0, h1, h2, h3⟩ := open_agg4 Try.underlying26 (by kernel_rfl) (by kernel_rfl) hv h
  obtain ⟨k, rfl, hk⟩ := open_i64 Try.underlying3 h0
  obtain ⟨s, hs, _⟩ := DataW.trod_string Try.underlying9 h1
  simp only [List.cons.injEq, and_true] at hs
  subst hs
  obtain ⟨keep, rfl, hkp⟩ := open_i64 Try.underlying3 h2
  obtain ⟨fuse, rfl, hf⟩ := open_i64 Try.underlying3 h3
  exact ⟨k, s, keep, fuse, rfl, hf, hk, hkp⟩
end

end Go.Proofs.Ytcjlilddhhnikaa
