/-
  The law PadTells: for every input the call returns true, and each argument reads afterwards as it read before; no condition.
-/
import Derived.Test.YtmbnklknpbgipaaSxPL
import Derived.Test.YtmbnklknpbgipaaSxOpen
import Derived.Carry
import Derived.Test.YtmbnklknpbgipaaRows
import Derived.Test.YtmbnklknpbgipaaChecked
namespace Go.Proofs.Ytmbnklknpbgipaa
open Go Go.Sx Go.ChangeShapes Go.WideShapes Go.ChangeAt Go.RowKit Go.Joins Go.Deep
set_option linter.unusedVariables false

theorem knob_padTells : ownKnob Try.prog.godebug = none := by kernel_rfl
theorem laidOut_padTells : laidOutB Try.prog = true := by kernel_rfl

theorem padTells_contract (H : Type) (enc : TypeId × Value → H) (W : World) (base : Nat) (args : Array Value) (ds gs : List (DataW H)) (before : List MemPlace)
    (hval : ∀ (j : Nat) t v, Try.f10.params[j]? = some t → args[j]? = some v → Value.okWide Try.prog W .any base t v)
    (hW : DataW.Whole enc Try.prog Try.f10.params.toList Rows.padTellsSpec.vars false W args.toList ds gs before) :
    Calls Try.prog 10 args W fun e W' => ∃ v, e = .returned v ∧ Rows.padTellsSpec.post enc Try.prog Try.f10 false true false false W args v W' := by
  have hW' := hW
  obtain ⟨p, q, hA0, hV, hpq, hfz, hnd⟩ := hW
  obtain ⟨hgs, hq⟩ := trodVars_none hV
  have hA : DataW.TrodAll enc Try.prog W 0 (fun _ => true) true [3, 3, 9, 9] args.toList ds p := hA0
  obtain ⟨v0, v1, v2, v3, d0, d1, d2, d3, p0, p1, p2, p3, rfl, hds, _, h0, h1, h2, h3⟩ := trodAll_four hA
  obtain ⟨n0, rfl, b0⟩ := opn_i64 Try.underlying3 (hval 0 3 v0 rfl rfl) h0
  obtain ⟨n1, rfl, b1⟩ := opn_i64 Try.underlying3 (hval 1 3 v1 rfl rfl) h1
  obtain ⟨s2, rfl⟩ := opn_str Try.underlying9 (hval 2 9 v2 rfl rfl)
  obtain ⟨s3, rfl⟩ := opn_str Try.underlying9 (hval 3 9 v3 rfl rfl)
  refine (tells_13 W n0 n1 s2 s3 b0 b1).mono fun e W' ⟨he, hk⟩ => ⟨_, he, ?_⟩
  exact post_law laidOut_padTells (by kernel_rfl) rfl rfl Try.underlying4 hW' (by rw [hds, hgs]; exact ⟨rfl, rfl, rfl⟩) hk.below

set_option maxRecDepth 100000 in
theorem padTells_lifted (os : Os) (started : os.Started) (H : Type) (enc : TypeId × Value → H) :
    ReturnsInHanded {} Try.checked os 10 .any (Rows.padTellsSpec.pre6 enc Try.prog Try.f10 Rows.padTellsRow.domain false) (Rows.padTellsSpec.post enc Try.prog Try.f10 false true false false) := by
  refine returnsInHanded_of_change (C := Try.checked) knob_padTells started (by kernel_rfl) Try.func10
    (ChangeSpec.witness6 (enc := enc) (C := Try.checked) false ⟨#[], #[.int .i64 0, .int .i64 0, .string ⟨#[]⟩, .string ⟨#[]⟩], []⟩ 8 (by kernel_rfl) (by kernel_rfl) (by kernel_rfl) (by kernel_rfl)) ?_
  intro W base args ds gs before hval hW _ _
  exact padTells_contract H enc W base args ds gs before hval hW

theorem padTells_holds : Rows.PadTellsSaid :=
  OpenClaim.holds_of_wide 10 Try.f10 rfl rfl rfl rfl rfl rfl rfl ⟨rfl, rfl, rfl, rfl, rfl⟩ rfl rfl rfl rfl rfl (by kernel_rfl) Try.func10 (by kernel_rfl)
    (of_decide_eq_true (by kernel_rfl)) (by unfold Func.isWrapper; first | (rw [if_pos (by decide +kernel)]; kernel_rfl) | (rw [if_neg (by decide +kernel)]; exact ⟨rfl, rfl⟩))
    (fun os started H enc _ => padTells_lifted os started H enc)

end Go.Proofs.Ytmbnklknpbgipaa
