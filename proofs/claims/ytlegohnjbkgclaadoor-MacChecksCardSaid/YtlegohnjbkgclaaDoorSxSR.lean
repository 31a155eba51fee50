/-
  A part of the proof: SR.
-/
import Derived.Test.YtlegohnjbkgclaaDoorSxSA
import Derived.Test.YtlegohnjbkgclaaDoorSxOpen
import Derived.Carry
import Derived.ProofKit
import Derived.LaidMore
import Derived.OpenShut
import Derived.Stop.Joined
import Derived.Test.YtlegohnjbkgclaaDoorRows
import Derived.Test.YtlegohnjbkgclaaDoorChecked
namespace Go.Proofs.YtlegohnjbkgclaaDoor
open Go Go.Sx Go.Sha Go.ChangeShapes Go.WideShapes Go.ChangeAt Go.RowKit
set_option linter.unusedVariables false

def laid2 {H : Type} : List (String × DataW H) := [("cryptex/sha.ks", Rows.laid_cryptex_sha_ks), ("cryptex/sha.begin", Rows.laid_cryptex_sha_begin)]
theorem gKs : Tryd.prog.globalNamed "cryptex/sha.ks" = some 1 := by kernel_rfl
theorem gBegin : Tryd.prog.globalNamed "cryptex/sha.begin" = some 0 := by kernel_rfl
theorem tKs : (Tryd.prog.globals[1]?).map (·.type) = some 88 := by kernel_rfl
theorem tBegin : (Tryd.prog.globals[0]?).map (·.type) = some 62 := by kernel_rfl

theorem door_met (os : Os) (args : Array Value) : laidMetH Tryd.prog laid2 ((World.doorLaid Tryd.prog 400 os).forCall (fun _ _ => 0) ⟨#[], args, []⟩).memory :=
  laidMetH_of_parts3 (fuel := 8) (laidMet_of_run' 8 (by kernel_rfl) (by kernel_rfl)) (by kernel_rfl) (by kernel_rfl)

theorem arr_cells {H : Type} {enc : TypeId × Value → H} {P : Program} {w : World} {fuel n : Nat} {t e : TypeId} {cs : List Value} {vs : List Nat} {ps : List MemPlace}
    {base : Nat} {spare : Nat → Bool} {h : Bool} (ht : P.underlying t = some (.array n e)) (he : P.underlying e = some (.int .u32)) (hc : P.cellsOf e = 1) (hvs : vs.length = n)
    (hd : DataW.trod enc P w base spare h fuel t cs = some (.agg (vs.map fun (k : Nat) => DataW.lit (.int .u32 (k : Int))), ps)) : ∀ (j : Nat) (v : Value), (u32s vs)[j]? = some v → cs[j]? = some v := by
  obtain ⟨xs, m, rfl, hx, hlen, hn, hel⟩ := DataW.trod_array ht hd
  intro j v hv
  have hj : j < n := by have := (List.getElem?_eq_some_iff.1 hv).1; simpa [hvs] using this
  have h0 := hel j hj
  rw [hc, Nat.mul_one, List.getElem?_eq_getElem (by omega)] at h0
  obtain ⟨k, e1, e2, _⟩ := DataW.trod_int he h0
  simp only [Prod.mk.injEq, DataW.agg.injEq] at hx
  have hxj : (xs.map (·.1))[j]? = (vs.map fun (k : Nat) => DataW.lit (.int .u32 (k : Int)))[j]? := by rw [← hx.1]
  rw [List.getElem?_map, List.getElem?_map, List.getElem?_eq_getElem (by omega), List.getElem?_eq_getElem (by omega), e2] at hxj
  simp at hxj
  have hv' : v = .int .u32 ((vs[j]'(by omega) : Nat) : Int) := by
    rw [u32s, List.getElem?_map, List.getElem?_eq_getElem (by omega)] at hv
    simpa [u32V] using hv.symm
  rw [hv', ← hxj]
  have h1 : ((cs.drop j).take 1)[0]? = some (.int .u32 k) := by rw [e1]; rfl
  rw [List.getElem?_take, if_pos (by decide), List.getElem?_drop, Nat.add_zero] at h1
  exact h1

theorem of_laid {W : World} (h : laidMetH Tryd.prog laid2 W) : Laid W := by
  rw [MakeChecks.laidMetH_plain _ _ _ (by kernel_rfl)] at h
  obtain ⟨ps, ⟨g1, t1, cs1, f1, p1, q1, hg1, ht1, hv1, hd1, ⟨g0, t0, cs0, f0, p0, q0, hg0, ht0, hv0, hd0, _, _⟩, _⟩, _, _⟩ := h
  obtain rfl := Option.some.inj (gKs.symm.trans hg1)
  obtain rfl := Option.some.inj (gBegin.symm.trans hg0)
  obtain rfl := Option.some.inj (tKs.symm.trans ht1)
  obtain rfl := Option.some.inj (tBegin.symm.trans ht0)
  have c53 : Tryd.prog.cellsOf 53 = 1 := by kernel_rfl
  have e1 := arr_cells (vs := KS) Tryd.underlying88 Tryd.underlying53 c53 rfl hd1
  have e0 := arr_cells (vs := H0.l) Tryd.underlying62 Tryd.underlying53 c53 rfl hd0
  have b1 : CellsAt W ⟨1, 0, none⟩ (u32s KS) := fun j v hv => by
    have := e1 j v hv
    rw [addr_add, Nat.zero_add, World.var?_cell hg1 hv1 j]
    simpa using this
  have b0 : CellsAt W ⟨0, 0, none⟩ (u32s H0.l) := fun j v hv => by
    have := e0 j v hv
    rw [addr_add, Nat.zero_add, World.var?_cell hg0 hv0 j]
    simpa using this
  exact ⟨b0, b1, by have h2 := b1.lt (by decide); simp at h2; omega⟩

end Go.Proofs.YtlegohnjbkgclaaDoor
