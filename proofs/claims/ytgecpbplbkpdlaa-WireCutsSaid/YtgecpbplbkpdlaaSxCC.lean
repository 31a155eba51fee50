/-
  A part of the proof: CC.
-/
import Derived.Test.YtgecpbplbkpdlaaProg
import Derived.Shelf.Strings.Builder1
import Derived.WalkKit
import Derived.Test.YtgecpbplbkpdlaaSxMem
namespace Go.Proofs.Ytgecpbplbkpdlaa
open Go Go.Sx
set_option maxRecDepth 100000

theorem w_copyCheck_used (b : Nat) (w : World) (h0 : w.cell? ⟨b, 0, none⟩ = some (.pointer (some ⟨b, 0, none⟩))) :
    Calls Try.prog 77 #[.pointer (some ⟨b, 0, none⟩)] w fun e w' => e = .returned (.tuple #[]) ∧ w' = w := by
  obtain ⟨j, hj, _⟩ := Option.map_eq_some_iff.1 (show (Try.prog.info? 119).map (·.size) = some 2 by kernel_rfl)
  go_enter Try.func77, Try.ntmps77
  go_wp2
  rw [Lib.run_neq_ptr_same w _ Try.underlying117 hj]
  go_wp2
  go_end0
  exact ⟨rfl, rfl⟩

theorem w_copyCheck_fresh (b : Nat) (w : World) (h0 : w.cell? ⟨b, 0, none⟩ = some (.pointer none)) (hsh : w.shape? b = some (121, 3)) (hfz : w.frozen? ⟨b, 0, none⟩ = false) :
    Calls Try.prog 77 #[.pointer (some ⟨b, 0, none⟩)] w fun e w' => e = .returned (.tuple #[]) ∧ w' = w.setCell ⟨b, 0, none⟩ (.pointer (some ⟨b, 0, none⟩)) := by
  obtain ⟨j, hj, hjs⟩ := Option.map_eq_some_iff.1 (show (Try.prog.info? 119).map (·.size) = some 2 by kernel_rfl)
  go_enter Try.func77, Try.ntmps77
  go_wp2
  rw [Lib.run_to_unsafe w ⟨b, 0, none⟩ Try.underlying117 Try.underlying143 hj (by rw [hjs]; decide) hsh (Nat.zero_lt_succ 2)]
  simp only [Result.andThen]
  rw [Oper.upon_value]
  go_wp2
  rw [run_callFunc_extern Try.func81 (by kernel_rfl) (by kernel_rfl) (by kernel_rfl) (e := Extern.AbiNoEscape.same) (by kernel_rfl)]
  rw [Lib.run_noEscape]
  simp only [Result.andThen]
  rw [Oper.upon_value]
  go_wp2
  rw [Lib.run_from_unsafe w ⟨b, 0, none⟩ Try.underlying143 Try.underlying117 hj hsh (by kernel_rfl)]
  simp only [Result.andThen]
  rw [Oper.upon_value]
  go_wp2
  go_end0
  exact ⟨rfl, rfl⟩

theorem keep_freeze (w : World) (g n : Nat) : Keep [g] w (w.freeze ⟨g, 0, none⟩ n) := by
  unfold World.freeze
  split
  · exact Keep.refl _ _
  · exact ⟨rfl, rfl, rfl, by simp, fun k hk hn => by
      simp only [Array.getElem?_modify]
      rw [if_neg (by simp at hn; omega)]⟩

theorem w_String_row (b g cap : Nat) (l : List UInt8) (rest : List Value) (w : World) (h0 : l ≠ []) (hl : l.length ≤ 1000000000) (h1 : w.cell? ⟨b, 1, none⟩ = some (.slice (some ⟨g, 0, none⟩) l.length cap)) (hc : cap ≠ 0)
    (hg : w.heap[g]? = some (.cells (l.map byteV ++ rest).toArray 5 (0, 0))) :
    Calls Try.prog 70 #[.pointer (some ⟨b, 0, none⟩)] w fun e w' => e = .returned (.string (bs l)) ∧ Keep [g] w w' := by
  have c1 : w.drew.cell? ⟨b, 1, none⟩ = some (.slice (some ⟨g, 0, none⟩) l.length cap) := h1
  have hSD : (Builtin.unsafeSliceData_ #[67] 136 #[.slice (some ⟨g, 0, none⟩) l.length cap]).run Try.prog w.drew = .ok (.pointer (some ⟨g, 0, none⟩)) w.drew :=
    Lib.run_unsafeSliceData_row _ _ _ _ _ _ hc
  have hUS : (Builtin.unsafeString_ #[136, 3] 9 #[.pointer (some ⟨g, 0, none⟩), .int .i64 l.length]).run Try.prog w.drew = .ok (.string ⟨l.toArray⟩) (w.drew.freeze ⟨g, 0, none⟩ l.length) := by
    refine Lib.run_unsafeString_row (w := w.drew) 136 3 9 5 Try.underlying136 (by kernel_rfl) g (l.map byteV ++ rest).toArray.size (by have hg' : w.drew.heap[g]? = some (.cells (l.map byteV ++ rest).toArray 5 (0, 0)) := hg; simp [World.shape?, hg']) l h0 (by simp) (by omega) ?_
    intro j x hx
    have hj := (List.getElem?_eq_some_iff.1 hx).1
    have hg' : w.drew.heap[g]? = some (.cells (l.map byteV ++ rest).toArray 5 (0, 0)) := hg
    rw [addr_add, Nat.zero_add]
    refine cell_of_block hg' ?_
    rw [List.getElem?_toArray, List.getElem?_append_left (by simpa using hj), List.getElem?_map, hx]
    rfl
  go_enter Try.func70, Try.ntmps70
  go_wp2
  go_region
  all_goals (go_wp2; go_ret; exact ⟨rfl, (Keep.drew (Keep.refl [g] w)).trans (keep_freeze _ g _) fun i hi => .inl hi⟩)

theorem w_String_nil (b : Nat) (w : World) (h1 : w.cell? ⟨b, 1, none⟩ = some (.slice none 0 0)) :
    Calls Try.prog 70 #[.pointer (some ⟨b, 0, none⟩)] w fun e w' => e = .returned (.string (bs [])) ∧ Keep [] w w' := by
  have hUS := fun q => Lib.run_unsafeString_none (P := Try.prog) (w := w.drew) 136 3 9 q
  have c1 : w.drew.cell? ⟨b, 1, none⟩ = some (.slice none 0 0) := h1
  have hSD : (Builtin.unsafeSliceData_ #[67] 136 #[.slice none 0 0]).run Try.prog w.drew = .ok (.pointer none) w.drew := rfl
  go_enter Try.func70, Try.ntmps70
  go_wp2
  go_region
  all_goals (go_wp2; go_ret; exact ⟨rfl, Keep.drew (Keep.refl [] w)⟩)
end Go.Proofs.Ytgecpbplbkpdlaa
