/-
  A part of the proof: RD.
-/
import Derived.Test.YtgecpbplbkpdlaaProg
import Derived.WalkKit
import Derived.Defers
import Derived.Recover
import Derived.Laws.Pointers
import Derived.Test.YtgecpbplbkpdlaaSxMem
namespace Go.Proofs.Ytgecpbplbkpdlaa
open Go Go.Sx
set_option maxRecDepth 100000

theorem ta_odd (w : World) : (Instr.typeAssert (.iface 138 (.agg #[])) 20 138 true).run Try.prog w = .ok (.tuple #[.agg #[], .bool true]) w := by
  simp [Instr.typeAssert, go_sem]
theorem ta_nil (w : World) : (Instr.typeAssert .nilIface 20 138 true).run Try.prog w = .ok (.tuple #[.agg #[], .bool false]) w := by
  simp [Instr.typeAssert, go_sem]

/-- The panic that code.need throws. -/
def oddP (r : Bool) : PanicEntry := { v := .iface 138 (.agg #[]), recovered := r }

set_option maxHeartbeats 2000000 in
theorem catch_odd (p q : Addr) (older : List PanicEntry) (w : World) (hc : (w.alloc (.cells #[] 138)).cell? p = some (.string ⟨#[]⟩)) (hz : (w.alloc (.cells #[] 138)).frozen? p = false)
    (hc' : (w.alloc (.cells #[] 138)).cell? q = some (.bool false)) (hz' : (w.alloc (.cells #[] 138)).frozen? q = false) (hpq : p ≠ q) :
    CallsD Try.prog 79 #[.pointer (some p), .pointer (some q)] (.panicking (oddP false :: older)) w fun e u' w' =>
      e = .returned (.tuple #[]) ∧ u' = .panicking (oddP true :: older) ∧ w' = ((w.alloc (.cells #[] 138)).setCell p (.string ⟨#[]⟩)).setCell q (.bool false) := by
  refine callsD_of_wpS Try.func79 rfl fun c₀ cs hu => ?_
  unfold oddP at *
  apply wpS_seq
  apply wpS_region
  simp [wpOpsS, go_sem, recoverD, hu, Try.ntmps79, Exit.thenS, ta_odd]
  apply wpS_seq
  apply wpS_region
  simp [wpOpsS, go_sem, Exit.thenS]
  refine wpS_cond (t := true) (by simp [Act.eval, Array.replicate]) ?_
  simp only [if_true]
  apply wpS_region
  have hc2 : ((w.alloc (.cells #[] 138)).setCell p (.string ⟨#[]⟩)).cell? q = some (.bool false) := by
    rw [World.cell?_setCell_other (h := hpq)]; exact hc'
  have hz2 : ((w.alloc (.cells #[] 138)).setCell p (.string ⟨#[]⟩)).frozen? q = false := by rw [frozen_setCell]; exact hz'
  simp [wpOpsS, go_sem, hc, hz, hc2, hz2, bodyPostS, results, Try.results79]

set_option maxHeartbeats 2000000 in
theorem catch_idle (p q : Addr) (w : World) :
    CallsD Try.prog 79 #[.pointer (some p), .pointer (some q)] .returning w fun e u' w' =>
      e = .returned (.tuple #[]) ∧ u' = .returning ∧ w' = w.alloc (.cells #[] 138) := by
  refine callsD_of_wpS Try.func79 rfl fun c₀ cs hu => ?_
  apply wpS_seq
  apply wpS_region
  simp [wpOpsS, go_sem, recoverD, hu, Try.ntmps79, Exit.thenS, ta_nil]
  apply wpS_seq
  apply wpS_region
  simp [wpOpsS, go_sem, Exit.thenS]
  refine wpS_cond (t := false) (by simp [Act.eval, Array.replicate]) ?_
  simp only [Bool.false_eq_true, if_false]
  refine wpS_of_wp (wp_skip ?_)
  cases c₀
  simp_all [bodyPostS, results, Try.results79]
end Go.Proofs.Ytgecpbplbkpdlaa
