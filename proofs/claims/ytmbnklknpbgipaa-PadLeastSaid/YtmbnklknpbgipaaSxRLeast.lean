/-
  The law PadLeast: for every input the call returns true, and each argument reads afterwards as it read before; no condition.
-/
import Derived.Test.YtmbnklknpbgipaaSxPL
import Derived.Test.YtmbnklknpbgipaaSxOpen
import Derived.Carry
import Derived.Test.YtmbnklknpbgipaaRows
import Derived.Test.YtmbnklknpbgipaaChecked
namespace Go.Proofs.Ytmbnklknpbgipaa
open Go Go.Sx Go.ChangeShapes Go.WideShapes Go.ChangeAt Go.RowKit Go.Joins Go.Deep
set_option linter.unusedVariables false

theorem knob_padLeast : ownKnob Try.prog.godebug = none := by kernel_rfl
theorem laidOut_padLeast : laidOutB Try.prog = true := by kernel_rfl

theorem padLeast_contract (H : Type) (enc : TypeId × Value → H) (W : World) (base : Nat) (args : Array Value) (ds gs : List (DataW H)) (before : List MemPlace)
    (hval : ∀ (j : Nat) t v, Try.f13.params[j]? = some t → args[j]? = some v → Value.okWide Try.prog W .any base t v)
    (hW : DataW.Whole enc Try.prog Try.f13.params.toList Rows.padLeastSpec.vars false W args.toList ds gs before) :
    Calls Try.prog 13 args W fun e W' => ∃ v, e = .returned v ∧ Rows.padLeastSpec.post enc Try.prog Try.f13 false true false false W args v W' := by
  have hW' := hW
  obtain ⟨p, q, hA0, hV, hpq, hfz, hnd⟩ := hW
  obtain ⟨hgs, hq⟩ := trodVars_none hV
  have hA : DataW.TrodAll enc Try.prog W 0 (fun _ => true) true [3] args.toList ds p := hA0
  obtain ⟨v0, d0, rfl, hds, h0⟩ := trodAll_one hA
  obtain ⟨n0, rfl, b0⟩ := opn_i64 Try.underlying3 (hval 0 3 v0 rfl rfl) h0
  refine (least_13 W n0 b0).mono fun e W' ⟨he, hk⟩ => ⟨_, he, ?_⟩
  exact post_law laidOut_padLeast (by kernel_rfl) rfl rfl Try.underlying4 hW' (by rw [hds, hgs]; exact ⟨rfl, rfl, rfl⟩) hk.below

set_option maxRecDepth 100000 in
theorem padLeast_lifted (os : Os) (started : os.Started) (H : Type) (enc : TypeId × Value → H) :
    ReturnsInHanded {} Try.checked os 13 .any (Rows.padLeastSpec.pre6 enc Try.prog Try.f13 Rows.padLeastRow.domain false) (Rows.padLeastSpec.post enc Try.prog Try.f13 false true false false) := by
  refine returnsInHanded_of_change (C := Try.checked) knob_padLeast started (by kernel_rfl) Try.func13
    (ChangeSpec.witness6 (enc := enc) (C := Try.checked) false ⟨#[], #[.int .i64 0], []⟩ 8 (by kernel_rfl) (by kernel_rfl) (by kernel_rfl) (by kernel_rfl)) ?_
  intro W base args ds gs before hval hW _ _
  exact padLeast_contract H enc W base args ds gs before hval hW

theorem padLeast_holds : Rows.PadLeastSaid :=
  OpenClaim.holds_of_wide 13 Try.f13 rfl rfl rfl rfl rfl rfl rfl ⟨rfl, rfl, rfl, rfl, rfl⟩ rfl rfl rfl rfl rfl (by kernel_rfl) Try.func13 (by kernel_rfl)
    (of_decide_eq_true (by kernel_rfl)) (by unfold Func.isWrapper; first | (rw [if_pos (by decide +kernel)]; kernel_rfl) | (rw [if_neg (by decide +kernel)]; exact ⟨rfl, rfl⟩))
    (fun os started H enc _ => padLeast_lifted os started H enc)

end Go.Proofs.Ytmbnklknpbgipaa
