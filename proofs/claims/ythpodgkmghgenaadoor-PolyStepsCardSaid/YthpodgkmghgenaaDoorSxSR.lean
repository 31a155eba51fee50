/-
  A part of the proof: SR.
-/
import Derived.Test.YthpodgkmghgenaaDoorSxZI
import Derived.Test.YthpodgkmghgenaaDoorSxOpen
import Derived.Carry
import Derived.ProofKit
import Derived.LaidMore
import Derived.OpenShut
import Derived.Stop.Joined
import Derived.Test.YthpodgkmghgenaaDoorRows
import Derived.Test.YthpodgkmghgenaaDoorChecked
namespace Go.Proofs.YthpodgkmghgenaaDoor
open Go Go.Sx Go.Poly Go.ChangeShapes Go.WideShapes Go.ChangeAt Go.RowKit
set_option linter.unusedVariables false

def laid2 {H : Type} : List (String × DataW H) := [("cryptex/poly.p", Rows.laid_cryptex_poly_p)]
theorem gP : Tryd.prog.globalNamed "cryptex/poly.p" = some 0 := by kernel_rfl
theorem tP : (Tryd.prog.globals[0]?).map (·.type) = some 43 := by kernel_rfl

theorem door_met (os : Os) (args : Array Value) : laidMetH Tryd.prog laid2 ((World.doorLaid Tryd.prog 400 os).forCall (fun _ _ => 0) ⟨#[], args, []⟩).memory :=
  laidMetH_of_parts3 (fuel := 8) (laidMet_of_run' 8 (by kernel_rfl) (by kernel_rfl)) (by kernel_rfl) (by kernel_rfl)

theorem arr_cells {H : Type} {enc : TypeId × Value → H} {P : Program} {w : World} {fuel n : Nat} {t e : TypeId} {cs : List Value} {vs : List Nat} {ps : List MemPlace}
    {base : Nat} {spare : Nat → Bool} {h : Bool} (ht : P.underlying t = some (.array n e)) (he : P.underlying e = some (.int .u64)) (hc : P.cellsOf e = 1) (hvs : vs.length = n)
    (hd : DataW.trod enc P w base spare h fuel t cs = some (.agg (vs.map fun (k : Nat) => DataW.lit (.int .u64 (k : Int))), ps)) : ∀ (j : Nat) (v : Value), (u64s vs)[j]? = some v → cs[j]? = some v := by
  obtain ⟨xs, m, rfl, hx, hlen, hn, hel⟩ := DataW.trod_array ht hd
  intro j v hv
  have hj : j < n := by have := (List.getElem?_eq_some_iff.1 hv).1; simpa [hvs, u64s] using this
  have h0 := hel j hj
  rw [hc, Nat.mul_one, List.getElem?_eq_getElem (by omega)] at h0
  obtain ⟨k, e1, e2, _⟩ := DataW.trod_int he h0
  simp only [Prod.mk.injEq, DataW.agg.injEq] at hx
  have hxj : (xs.map (·.1))[j]? = (vs.map fun (k : Nat) => DataW.lit (.int .u64 (k : Int)))[j]? := by rw [← hx.1]
  rw [List.getElem?_map, List.getElem?_map, List.getElem?_eq_getElem (by omega), List.getElem?_eq_getElem (by omega), e2] at hxj
  simp at hxj
  have hv' : v = .int .u64 ((vs[j]'(by omega) : Nat) : Int) := by
    rw [u64s, List.getElem?_map, List.getElem?_eq_getElem (by omega)] at hv
    simpa using hv.symm
  rw [hv', ← hxj]
  have h1 : ((cs.drop j).take 1)[0]? = some (.int .u64 k) := by rw [e1]; rfl
  rw [List.getElem?_take, if_pos (by decide), List.getElem?_drop, Nat.add_zero] at h1
  exact h1

theorem of_laid {W : World} (h : laidMetH Tryd.prog laid2 W) : LaidP W := by
  rw [MakeChecks.laidMetH_plain _ _ _ (by kernel_rfl)] at h
  obtain ⟨ps, ⟨g0, t0, cs0, f0, p0, q0, hg0, ht0, hv0, hd0, _, _⟩, _, _⟩ := h
  obtain rfl := Option.some.inj (gP.symm.trans hg0)
  obtain rfl := Option.some.inj (tP.symm.trans ht0)
  have c41 : Tryd.prog.cellsOf 41 = 1 := by kernel_rfl
  have e0 := arr_cells (vs := N3.l p3) Tryd.underlying43 Tryd.underlying41 c41 rfl hd0
  have b0 : CellsAt W ⟨0, 0, none⟩ (u64s (N3.l p3)) := fun j v hv => by
    have := e0 j v hv
    rw [addr_add, Nat.zero_add, World.var?_cell hg0 hv0 j]
    simpa using this
  exact ⟨b0, by have h2 := b0.lt (by decide); simp at h2; omega⟩

end Go.Proofs.YthpodgkmghgenaaDoor
