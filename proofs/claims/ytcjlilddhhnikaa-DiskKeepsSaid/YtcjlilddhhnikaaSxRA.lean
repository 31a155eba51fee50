/-
  A part of the proof: RA.
-/
import Derived.Test.YtcjlilddhhnikaaSxR0
import Derived.Test.YtcjlilddhhnikaaSxG1
import Derived.Deep.Slices
namespace Go.Proofs.Ytcjlilddhhnikaa
open Go Go.Sx Go.ChangeShapes Go.WideShapes Go.ChangeAt Go.RowKit Go.Joins Go.Deep
set_option linter.unusedVariables false

section
variable {H : Type} {enc : TypeId × Value → H} {w : World}

/-- A slice of acts among the arguments. -/
theorem open_acts {v : Value} {base : Nat} {d : DataW H} {p : List MemPlace} (hv : Value.okWide Try.prog w .any base 45 v) (h : DataW.Trod enc Try.prog w 0 (fun _ => true) true 45 v d p) :
    ∃ a l c acts, v = .slice a l c ∧ ActsAt w a l acts ∧ ∀ x ∈ acts, -9223372036854775808 ≤ x.fuse ∧ x.fuse ≤ 9223372036854775807 := by
  obtain ⟨a0, l0, c0, rfl⟩ := okWide_slice Try.underlying45 hv
  obtain ⟨fuel, hf⟩ := h
  rcases open_slice Try.underlying45 hf with ⟨hcs, _⟩ | ⟨a, len, cap, m, n, D, Pl, hcs, _, hl, _, hmm, _, hi⟩
  · simp [Value.cells] at hcs
    obtain ⟨rfl, rfl, rfl⟩ := hcs
    exact ⟨none, 0, _, [], rfl, ⟨rfl, fun i hi => by simp at hi⟩, by simp⟩
  · simp [Value.cells] at hcs
    obtain ⟨ea, el, ec⟩ := hcs
    subst ea el ec
    simp only [if_true] at hmm
    have hC : Try.prog.cellsOf 26 = 4 := by kernel_rfl
    have each : ∀ i, i < l0 → ∃ x : Ac, CellsAt w (a.add (i * 4)) x.cells ∧ (-9223372036854775808 ≤ x.fuse ∧ x.fuse ≤ 9223372036854775807) := by
      intro i hil
      obtain ⟨cs', hc, ht⟩ := hi i (by omega)
      rw [hC] at hc
      obtain ⟨_, hcl, hat⟩ := World.cells?_some hc
      obtain ⟨y0, y1, y2, y3, n', _, _, h0, h1, h2, h3⟩ := trod_struct4 Try.underlying26 ht
      match cs', hcl with
      | [v0, v1, v2, v3], _ =>
        obtain ⟨k, rfl, hk⟩ := open_i64 Try.underlying3 h0
        obtain ⟨s, hs, _⟩ := DataW.trod_string Try.underlying9 h1
        obtain ⟨keep, rfl, hkp⟩ := open_i64 Try.underlying3 h2
        obtain ⟨fuse, rfl, hfu⟩ := open_i64 Try.underlying3 h3
        have hs : v1 = .string s := by
          have : [v1] = [Value.string s] := hs
          simpa using this
        subst hs
        refine ⟨⟨k, s, keep, fuse⟩, fun j v hj => ?_, hfu⟩
        have hjl := (List.getElem?_eq_some_iff.1 hj).1
        rw [hat j (by simpa [Ac.cells] using hjl)]
        exact hj
    let f : Nat → Ac := fun i => if hil : i < l0 then (each i hil).choose else ⟨0, ByteArray.empty, 0, 0⟩
    have hf : ∀ i (hil : i < l0), CellsAt w (a.add (i * 4)) (f i).cells ∧ (-9223372036854775808 ≤ (f i).fuse ∧ (f i).fuse ≤ 9223372036854775807) := by
      intro i hil
      simp only [f, dif_pos hil]
      exact (each i hil).choose_spec
    refine ⟨some a, l0, c0, (List.range l0).map f, rfl, ⟨by simp, fun i hi => ⟨a, rfl, ?_⟩⟩, ?_⟩
    · simp only [List.length_map, List.length_range] at hi
      simp only [List.getElem_map, List.getElem_range]
      exact (hf i hi).1
    · intro x hx
      simp only [List.mem_map, List.mem_range] at hx
      obtain ⟨i, hi, rfl⟩ := hx
      exact (hf i hi).2
end

end Go.Proofs.Ytcjlilddhhnikaa
