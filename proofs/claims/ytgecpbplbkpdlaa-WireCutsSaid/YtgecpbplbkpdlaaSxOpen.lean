/-
  SX: what the arguments of a row are.
-/
import Derived.Test.YtgecpbplbkpdlaaSxRow
import Derived.Test.YtgecpbplbkpdlaaSxRows
import Derived.ChangeSlices
import Derived.Deep.Slices
namespace Go.Sx
open Go Go.ChangeShapes Go.WideShapes Go.ChangeAt Go.RowKit Go.Joins
set_option linter.unusedVariables false

section
variable {H : Type} {enc : TypeId × Value → H} {P : Program} {w : World} {t : TypeId} {v : Value} {b0 : Nat} {d : DataW H} {ps : List MemPlace}

theorem opn_nat {k : IntKind} (hs : k.signed = false) (ht : P.underlying t = some (.int k)) (hval : Value.okWide P w .any b0 t v) (hd : DataW.Trod enc P w 0 (fun _ => true) true t v d ps) :
    ∃ n : Nat, v = .int k (n : Int) ∧ n < 2 ^ k.bits := by
  obtain ⟨n, rfl, _, _, hn⟩ := open_int ht hval hd
  have h1 : (0 : Int) ≤ n ∧ n < 2 ^ k.bits := by
    cases k <;> simp [Lit.wf, IntKind.min, IntKind.max, IntKind.signed, IntKind.bits] at hn hs ⊢ <;> omega
  obtain ⟨m, rfl⟩ := Int.eq_ofNat_of_zero_le h1.1
  exact ⟨m, rfl, by exact_mod_cast h1.2⟩

theorem opn_i64 (ht : P.underlying t = some (.int .i64)) (hval : Value.okWide P w .any b0 t v) (hd : DataW.Trod enc P w 0 (fun _ => true) true t v d ps) :
    ∃ n : Int, v = .int .i64 n ∧ -9223372036854775808 ≤ n ∧ n ≤ 9223372036854775807 := by
  obtain ⟨n, rfl, _, _, hn⟩ := open_int ht hval hd
  exact ⟨n, rfl, by simpa [Lit.wf, IntKind.min, IntKind.max, IntKind.signed, IntKind.bits] using hn⟩

theorem opn_str (ht : P.underlying t = some .string) (hval : Value.okWide P w .any b0 t v) : ∃ l : List UInt8, v = .string (bs l) := by
  obtain ⟨s, rfl⟩ := okWide_string ht hval
  obtain ⟨l, rfl⟩ := bs_surj s
  exact ⟨l, rfl⟩

theorem opn_ints {e : TypeId} {k : IntKind} (ht : P.underlying t = some (.slice e)) (he : P.underlying e = some (.int k)) (hc : P.cellsOf e = 1) (hd : DataW.Trod enc P w 0 (fun _ => true) true t v d ps) (hval : Value.okWide P w .any b0 t v) :
    ∃ a l c, ∃ zs : List Int, v = .slice a l c ∧ VsAt w a l (zs.map (Value.int k)) ∧ ∀ n ∈ zs, (Lit.int k n).wf = true := by
  obtain ⟨a0, l0, c0, rfl⟩ := okWide_slice ht hval
  obtain ⟨fuel, hf⟩ := hd
  rcases open_ints ht he hc hf with ⟨hcs, _⟩ | ⟨a, len, cap, zs, hcs, _, hl, hm, hz, _, hcell, hwf⟩
  · simp [Value.cells] at hcs
    obtain ⟨rfl, rfl, rfl⟩ := hcs
    exact ⟨none, 0, 0, [], rfl, ⟨rfl, .inl rfl⟩, by simp⟩
  · simp [Value.cells] at hcs
    obtain ⟨rfl, rfl, rfl⟩ := hcs
    simp only [if_true] at hz
    refine ⟨some a, l0, c0, zs.take l0, rfl, ⟨by simp; omega, .inr ⟨a, rfl, ?_⟩⟩, fun n hn => hwf n (List.mem_of_mem_take hn)⟩
    intro i v hv
    simp only [List.getElem?_map, List.getElem?_take] at hv
    split at hv
    · rename_i hi
      have hlt : i < zs.length := by omega
      rw [List.getElem?_eq_getElem hlt] at hv
      simp at hv
      rw [hcell i hlt, ← hv, List.getD_eq_getElem?_getD, List.getElem?_eq_getElem hlt]
      rfl
    · simp at hv

theorem opn_u32s {e : TypeId} (ht : P.underlying t = some (.slice e)) (he : P.underlying e = some (.int .u32)) (hc : P.cellsOf e = 1) (hd : DataW.Trod enc P w 0 (fun _ => true) true t v d ps) (hval : Value.okWide P w .any b0 t v) :
    ∃ a l c, ∃ xs : List Nat, v = .slice a l c ∧ VsAt w a l (u32s xs) ∧ ∀ x ∈ xs, x < 4294967296 := by
  obtain ⟨a, l, c, zs, rfl, hv, hwf⟩ := opn_ints ht he hc hd hval
  have hw : ∀ n ∈ zs, 0 ≤ n ∧ n < 4294967296 := fun n hn => by
    have := hwf n hn
    simp [Lit.wf, IntKind.min, IntKind.max, IntKind.signed, IntKind.bits] at this
    omega
  refine ⟨a, l, c, zs.map Int.toNat, rfl, ?_, ?_⟩
  · have : zs.map (Value.int .u32) = u32s (zs.map Int.toNat) := by
      simp only [u32s, List.map_map]
      apply List.map_congr_left
      intro n hn
      have := hw n hn
      simp only [Function.comp, u32V]
      rw [Int.toNat_of_nonneg this.1]
    rw [← this]; exact hv
  · intro x hx
    obtain ⟨n, hn, rfl⟩ := List.mem_map.1 hx
    have := hw n hn
    omega

theorem opn_strs {e : TypeId} (ht : P.underlying t = some (.slice e)) (he : P.underlying e = some .string) (hc : P.cellsOf e = 1) (hd : DataW.Trod enc P w 0 (fun _ => true) true t v d ps) (hval : Value.okWide P w .any b0 t v) :
    ∃ a l c xs, v = .slice a l c ∧ StrsAt w a l xs := by
  obtain ⟨a0, l0, c0, rfl⟩ := okWide_slice ht hval
  obtain ⟨fuel, hf⟩ := hd
  rcases open_strings ht he hc hf with ⟨hcs, _⟩ | ⟨a, len, cap, ss, hcs, _, hl, hm, hz, _, hcell, _⟩
  · simp [Value.cells] at hcs
    obtain ⟨rfl, rfl, rfl⟩ := hcs
    exact ⟨none, 0, 0, [], rfl, rfl, .inl rfl⟩
  · simp [Value.cells] at hcs
    obtain ⟨rfl, rfl, rfl⟩ := hcs
    simp only [if_true] at hz
    refine ⟨some a, l0, c0, ss.take l0, rfl, by simp; omega, .inr ⟨a, rfl, ?_⟩⟩
    intro i v hv
    simp only [List.getElem?_map, List.getElem?_take] at hv
    split at hv
    · rename_i hi
      have hlt : i < ss.length := by omega
      rw [List.getElem?_eq_getElem hlt] at hv
      simp at hv
      rw [hcell i hlt, ← hv, List.getD_eq_getElem?_getD, List.getElem?_eq_getElem hlt]
      rfl
    · simp at hv
end

end Go.Sx
