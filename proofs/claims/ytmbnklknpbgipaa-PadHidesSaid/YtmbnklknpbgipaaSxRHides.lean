/-
  The law PadHides: for every input the call returns true, and each argument reads afterwards as it read before; no condition.
-/
import Derived.Test.YtmbnklknpbgipaaSxPL
import Derived.Test.YtmbnklknpbgipaaSxOpen
import Derived.Carry
import Derived.Test.YtmbnklknpbgipaaRows
import Derived.Test.YtmbnklknpbgipaaChecked
namespace Go.Proofs.Ytmbnklknpbgipaa
open Go Go.Sx Go.ChangeShapes Go.WideShapes Go.ChangeAt Go.RowKit Go.Joins Go.Deep
set_option linter.unusedVariables false

theorem knob_padHides : ownKnob Try.prog.godebug = none := by kernel_rfl
theorem laidOut_padHides : laidOutB Try.prog = true := by kernel_rfl

theorem padHides_contract (H : Type) (enc : TypeId × Value → H) (W : World) (base : Nat) (args : Array Value) (ds gs : List (DataW H)) (before : List MemPlace)
    (hval : ∀ (j : Nat) t v, Try.f12.params[j]? = some t → args[j]? = some v → Value.okWide Try.prog W .any base t v)
    (hW : DataW.Whole enc Try.prog Try.f12.params.toList Rows.padHidesSpec.vars false W args.toList ds gs before) :
    Calls Try.prog 12 args W fun e W' => ∃ v, e = .returned v ∧ Rows.padHidesSpec.post enc Try.prog Try.f12 false true false false W args v W' := by
  have hW' := hW
  obtain ⟨p, q, hA0, hV, hpq, hfz, hnd⟩ := hW
  obtain ⟨hgs, hq⟩ := trodVars_none hV
  have hA : DataW.TrodAll enc Try.prog W 0 (fun _ => true) true [9, 9] args.toList ds p := hA0
  obtain ⟨v0, v1, d0, d1, p0, p1, rfl, hds, _, h0, h1⟩ := trodAll_two hA
  obtain ⟨s0, rfl⟩ := opn_str Try.underlying9 (hval 0 9 v0 rfl rfl)
  obtain ⟨s1, rfl⟩ := opn_str Try.underlying9 (hval 1 9 v1 rfl rfl)
  refine (hides_13 W s0 s1).mono fun e W' ⟨he, hk⟩ => ⟨_, he, ?_⟩
  exact post_law laidOut_padHides (by kernel_rfl) rfl rfl Try.underlying4 hW' (by rw [hds, hgs]; exact ⟨rfl, rfl, rfl⟩) hk.below

set_option maxRecDepth 100000 in
theorem padHides_lifted (os : Os) (started : os.Started) (H : Type) (enc : TypeId × Value → H) :
    ReturnsInHanded {} Try.checked os 12 .any (Rows.padHidesSpec.pre6 enc Try.prog Try.f12 Rows.padHidesRow.domain false) (Rows.padHidesSpec.post enc Try.prog Try.f12 false true false false) := by
  refine returnsInHanded_of_change (C := Try.checked) knob_padHides started (by kernel_rfl) Try.func12
    (ChangeSpec.witness6 (enc := enc) (C := Try.checked) false ⟨#[], #[.string ⟨#[]⟩, .string ⟨#[]⟩], []⟩ 8 (by kernel_rfl) (by kernel_rfl) (by kernel_rfl) (by kernel_rfl)) ?_
  intro W base args ds gs before hval hW _ _
  exact padHides_contract H enc W base args ds gs before hval hW

theorem padHides_holds : Rows.PadHidesSaid :=
  OpenClaim.holds_of_wide 12 Try.f12 rfl rfl rfl rfl rfl rfl rfl ⟨rfl, rfl, rfl, rfl, rfl⟩ rfl rfl rfl rfl rfl (by kernel_rfl) Try.func12 (by kernel_rfl)
    (of_decide_eq_true (by kernel_rfl)) (by unfold Func.isWrapper; first | (rw [if_pos (by decide +kernel)]; kernel_rfl) | (rw [if_neg (by decide +kernel)]; exact ⟨rfl, rfl⟩))
    (fun os started H enc _ => padHides_lifted os started H enc)

end Go.Proofs.Ytmbnklknpbgipaa
