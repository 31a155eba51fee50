/-
  The law PadTurned: for every input the call returns true, and each argument reads afterwards as it read before; no condition.
-/
import Derived.Test.YtmbnklknpbgipaaSxPL
import Derived.Test.YtmbnklknpbgipaaSxOpen
import Derived.Carry
import Derived.Test.YtmbnklknpbgipaaRows
import Derived.Test.YtmbnklknpbgipaaChecked
namespace Go.Proofs.Ytmbnklknpbgipaa
open Go Go.Sx Go.ChangeShapes Go.WideShapes Go.ChangeAt Go.RowKit Go.Joins Go.Deep
set_option linter.unusedVariables false

theorem knob_padTurned : ownKnob Try.prog.godebug = none := by kernel_rfl
theorem laidOut_padTurned : laidOutB Try.prog = true := by kernel_rfl

theorem padTurned_contract (H : Type) (enc : TypeId × Value → H) (W : World) (base : Nat) (args : Array Value) (ds gs : List (DataW H)) (before : List MemPlace)
    (hval : ∀ (j : Nat) t v, Try.f14.params[j]? = some t → args[j]? = some v → Value.okWide Try.prog W .any base t v)
    (hW : DataW.Whole enc Try.prog Try.f14.params.toList Rows.padTurnedSpec.vars false W args.toList ds gs before) :
    Calls Try.prog 14 args W fun e W' => ∃ v, e = .returned v ∧ Rows.padTurnedSpec.post enc Try.prog Try.f14 false true false false W args v W' := by
  have hW' := hW
  obtain ⟨p, q, hA0, hV, hpq, hfz, hnd⟩ := hW
  obtain ⟨hgs, hq⟩ := trodVars_none hV
  have hA : DataW.TrodAll enc Try.prog W 0 (fun _ => true) true [9, 52, 5] args.toList ds p := hA0
  obtain ⟨v0, v1, v2, d0, d1, d2, p0, p1, p2, rfl, hds, _, h0, h1, h2⟩ := trodAll_three hA
  obtain ⟨s0, rfl⟩ := opn_str Try.underlying9 (hval 0 9 v0 rfl rfl)
  obtain ⟨n1, rfl, b1⟩ := opn_nat rfl Try.underlying52 (hval 1 52 v1 rfl rfl) h1
  obtain ⟨n2, rfl, b2⟩ := opn_nat rfl Try.underlying5 (hval 2 5 v2 rfl rfl) h2
  refine (turned_13 W s0 n1 n2 b1 b2).mono fun e W' ⟨he, hk⟩ => ⟨_, he, ?_⟩
  exact post_law laidOut_padTurned (by kernel_rfl) rfl rfl Try.underlying4 hW' (by rw [hds, hgs]; exact ⟨rfl, rfl, rfl⟩) hk.below

set_option maxRecDepth 100000 in
theorem padTurned_lifted (os : Os) (started : os.Started) (H : Type) (enc : TypeId × Value → H) :
    ReturnsInHanded {} Try.checked os 14 .any (Rows.padTurnedSpec.pre6 enc Try.prog Try.f14 Rows.padTurnedRow.domain false) (Rows.padTurnedSpec.post enc Try.prog Try.f14 false true false false) := by
  refine returnsInHanded_of_change (C := Try.checked) knob_padTurned started (by kernel_rfl) Try.func14
    (ChangeSpec.witness6 (enc := enc) (C := Try.checked) false ⟨#[], #[.string ⟨#[]⟩, .int .u16 0, .int .u8 0], []⟩ 8 (by kernel_rfl) (by kernel_rfl) (by kernel_rfl) (by kernel_rfl)) ?_
  intro W base args ds gs before hval hW _ _
  exact padTurned_contract H enc W base args ds gs before hval hW

theorem padTurned_holds : Rows.PadTurnedSaid :=
  OpenClaim.holds_of_wide 14 Try.f14 rfl rfl rfl rfl rfl rfl rfl ⟨rfl, rfl, rfl, rfl, rfl⟩ rfl rfl rfl rfl rfl (by kernel_rfl) Try.func14 (by kernel_rfl)
    (of_decide_eq_true (by kernel_rfl)) (by unfold Func.isWrapper; first | (rw [if_pos (by decide +kernel)]; kernel_rfl) | (rw [if_neg (by decide +kernel)]; exact ⟨rfl, rfl⟩))
    (fun os started H enc _ => padTurned_lifted os started H enc)

end Go.Proofs.Ytmbnklknpbgipaa
