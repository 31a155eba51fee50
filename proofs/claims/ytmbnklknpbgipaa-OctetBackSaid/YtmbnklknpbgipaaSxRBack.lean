/-
  The law OctetBack: for every input the call returns true, and each argument reads afterwards as it read before; no condition.
-/
import Derived.Test.YtmbnklknpbgipaaSxLA
import Derived.Test.YtmbnklknpbgipaaSxOpen
import Derived.Carry
import Derived.Test.YtmbnklknpbgipaaRows
import Derived.Test.YtmbnklknpbgipaaChecked
namespace Go.Proofs.Ytmbnklknpbgipaa
open Go Go.Sx Go.ChangeShapes Go.WideShapes Go.ChangeAt Go.RowKit Go.Joins Go.Deep
set_option linter.unusedVariables false

theorem knob_octetBack : ownKnob Try.prog.godebug = none := by kernel_rfl
theorem laidOut_octetBack : laidOutB Try.prog = true := by kernel_rfl

theorem octetBack_contract (H : Type) (enc : TypeId × Value → H) (W : World) (base : Nat) (args : Array Value) (ds gs : List (DataW H)) (before : List MemPlace)
    (hval : ∀ (j : Nat) t v, Try.f7.params[j]? = some t → args[j]? = some v → Value.okWide Try.prog W .any base t v)
    (hW : DataW.Whole enc Try.prog Try.f7.params.toList Rows.octetBackSpec.vars false W args.toList ds gs before) :
    Calls Try.prog 7 args W fun e W' => ∃ v, e = .returned v ∧ Rows.octetBackSpec.post enc Try.prog Try.f7 false true false false W args v W' := by
  have hW' := hW
  obtain ⟨p, q, hA0, hV, hpq, hfz, hnd⟩ := hW
  obtain ⟨hgs, hq⟩ := trodVars_none hV
  have hA : DataW.TrodAll enc Try.prog W 0 (fun _ => true) true [22, 3] args.toList ds p := hA0
  obtain ⟨v0, v1, d0, d1, p0, p1, rfl, hds, _, h0, h1⟩ := trodAll_two hA
  obtain ⟨n0, rfl, b0⟩ := opn_nat rfl Try.underlying22 (hval 0 22 v0 rfl rfl) h0
  obtain ⟨n1, rfl, b1⟩ := opn_i64 Try.underlying3 (hval 1 3 v1 rfl rfl) h1
  refine (back_01 W n0 n1 b0).mono fun e W' ⟨he, hk⟩ => ⟨_, he, ?_⟩
  exact post_law laidOut_octetBack (by kernel_rfl) rfl rfl Try.underlying4 hW' (by rw [hds, hgs]; exact ⟨rfl, rfl, rfl⟩) hk.below

set_option maxRecDepth 100000 in
theorem octetBack_lifted (os : Os) (started : os.Started) (H : Type) (enc : TypeId × Value → H) :
    ReturnsInHanded {} Try.checked os 7 .any (Rows.octetBackSpec.pre6 enc Try.prog Try.f7 Rows.octetBackRow.domain false) (Rows.octetBackSpec.post enc Try.prog Try.f7 false true false false) := by
  refine returnsInHanded_of_change (C := Try.checked) knob_octetBack started (by kernel_rfl) Try.func7
    (ChangeSpec.witness6 (enc := enc) (C := Try.checked) false ⟨#[], #[.int .u64 0, .int .i64 0], []⟩ 8 (by kernel_rfl) (by kernel_rfl) (by kernel_rfl) (by kernel_rfl)) ?_
  intro W base args ds gs before hval hW _ _
  exact octetBack_contract H enc W base args ds gs before hval hW

theorem octetBack_holds : Rows.OctetBackSaid :=
  OpenClaim.holds_of_wide 7 Try.f7 rfl rfl rfl rfl rfl rfl rfl ⟨rfl, rfl, rfl, rfl, rfl⟩ rfl rfl rfl rfl rfl (by kernel_rfl) Try.func7 (by kernel_rfl)
    (of_decide_eq_true (by kernel_rfl)) (by unfold Func.isWrapper; first | (rw [if_pos (by decide +kernel)]; kernel_rfl) | (rw [if_neg (by decide +kernel)]; exact ⟨rfl, rfl⟩))
    (fun os started H enc _ => octetBack_lifted os started H enc)

end Go.Proofs.Ytmbnklknpbgipaa
