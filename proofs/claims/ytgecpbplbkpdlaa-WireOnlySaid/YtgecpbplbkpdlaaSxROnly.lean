/-
  A request that has what its kind does not is none, nor one that has not what its kind has; guards: requests of at most 20 ops and 45 tokens with short texts are asked about.
-/
import Derived.Test.YtgecpbplbkpdlaaSxWZ
import Derived.Test.YtgecpbplbkpdlaaSxWX
import Derived.Test.YtgecpbplbkpdlaaSxOpen
import Derived.Carry
import Derived.Test.YtgecpbplbkpdlaaRows
import Derived.Test.YtgecpbplbkpdlaaChecked
namespace Go.Proofs.Ytgecpbplbkpdlaa
open Go Go.Sx Go.ChangeShapes Go.WideShapes Go.ChangeAt Go.RowKit Go.Joins Go.Deep
set_option linter.unusedVariables false

theorem knob_wireOnly : ownKnob Try.prog.godebug = none := by kernel_rfl
theorem laidOut_wireOnly : laidOutB Try.prog = true := by kernel_rfl

set_option maxRecDepth 100000 in
theorem wireOnly_contract (H : Type) (enc : TypeId × Value → H) (W : World) (base : Nat) (args : Array Value) (ds gs : List (DataW H)) (before : List MemPlace)
    (hval : ∀ (j : Nat) t v, Try.f6.params[j]? = some t → args[j]? = some v → Value.okWide Try.prog W .any base t v)
    (hW : DataW.Whole enc Try.prog Try.f6.params.toList Rows.wireOnlySpec.vars false W args.toList ds gs before) :
    Calls Try.prog 6 args W fun e W' => ∃ v, e = .returned v ∧ Rows.wireOnlySpec.post enc Try.prog Try.f6 false true false false W args v W' := by
  have hW' := hW
  obtain ⟨p, q, hA0, hV, hpq, hfz, hnd⟩ := hW
  obtain ⟨hgs, hq⟩ := trodVars_none hV
  have hA : DataW.TrodAll enc Try.prog W 0 (fun _ => true) true [25, 3] args.toList ds p := hA0
  obtain ⟨v0, v1, d0, d1, p0, p1, rfl, hds, _, h0, h1⟩ := trodAll_two hA
  obtain ⟨r0, a0, l0, c0, e0, m0, o0, rfl, q0⟩ := opn_req (hval 0 25 v0 rfl rfl) h0
  obtain ⟨n1, rfl, b1⟩ := opn_i64 Try.underlying3 (hval 1 3 v1 rfl rfl) h1
  refine (only_19 W r0 n1 q0).mono fun e W' ⟨he, hk⟩ => ⟨_, he, ?_⟩
  exact post_law laidOut_wireOnly (by kernel_rfl) rfl rfl Try.underlying4 hW' (by rw [hds, hgs]; exact ⟨rfl, rfl, rfl⟩) hk.below

set_option maxRecDepth 100000 in
theorem wireOnly_lifted (os : Os) (started : os.Started) (H : Type) (enc : TypeId × Value → H) :
    ReturnsInHanded {} Try.checked os 6 .any (Rows.wireOnlySpec.pre6 enc Try.prog Try.f6 Rows.wireOnlyRow.domain false) (Rows.wireOnlySpec.post enc Try.prog Try.f6 false true false false) := by
  refine returnsInHanded_of_change (C := Try.checked) knob_wireOnly started (by kernel_rfl) Try.func6
    (ChangeSpec.witness6 (enc := enc) (C := Try.checked) false ⟨#[], #[.agg #[.int .i64 0, .slice none 0 0, .string ⟨#[]⟩, .slice none 0 0], .int .i64 0], []⟩ 8 (by kernel_rfl) (by kernel_rfl) (by kernel_rfl) (by kernel_rfl)) ?_
  intro W base args ds gs before hval hW _ _
  exact wireOnly_contract H enc W base args ds gs before hval hW

theorem wireOnly_holds : Rows.WireOnlySaid :=
  OpenClaim.holds_of_wide 6 Try.f6 rfl rfl rfl rfl rfl rfl rfl ⟨rfl, rfl, rfl, rfl, rfl⟩ rfl rfl rfl rfl rfl (by kernel_rfl) Try.func6 (by kernel_rfl)
    (of_decide_eq_true (by kernel_rfl)) (by unfold Func.isWrapper; first | (rw [if_pos (by decide +kernel)]; kernel_rfl) | (rw [if_neg (by decide +kernel)]; exact ⟨rfl, rfl⟩))
    (fun os started H enc _ => wireOnly_lifted os started H enc)

end Go.Proofs.Ytgecpbplbkpdlaa
