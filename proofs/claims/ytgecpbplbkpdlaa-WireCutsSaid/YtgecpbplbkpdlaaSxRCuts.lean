/-
  Bytes that end too early are no request, and no reply, that they were; guards: requests and replies with few and short texts are asked about.
-/
import Derived.Test.YtgecpbplbkpdlaaSxWZ
import Derived.Test.YtgecpbplbkpdlaaSxWX
import Derived.Test.YtgecpbplbkpdlaaSxOpen
import Derived.Carry
import Derived.Test.YtgecpbplbkpdlaaRows
import Derived.Test.YtgecpbplbkpdlaaChecked
namespace Go.Proofs.Ytgecpbplbkpdlaa
open Go Go.Sx Go.ChangeShapes Go.WideShapes Go.ChangeAt Go.RowKit Go.Joins Go.Deep
set_option linter.unusedVariables false

theorem knob_wireCuts : ownKnob Try.prog.godebug = none := by kernel_rfl
theorem laidOut_wireCuts : laidOutB Try.prog = true := by kernel_rfl

set_option maxRecDepth 100000 in
theorem wireCuts_contract (H : Type) (enc : TypeId × Value → H) (W : World) (base : Nat) (args : Array Value) (ds gs : List (DataW H)) (before : List MemPlace)
    (hval : ∀ (j : Nat) t v, Try.f7.params[j]? = some t → args[j]? = some v → Value.okWide Try.prog W .any base t v)
    (hW : DataW.Whole enc Try.prog Try.f7.params.toList Rows.wireCutsSpec.vars false W args.toList ds gs before) :
    Calls Try.prog 7 args W fun e W' => ∃ v, e = .returned v ∧ Rows.wireCutsSpec.post enc Try.prog Try.f7 false true false false W args v W' := by
  have hW' := hW
  obtain ⟨p, q, hA0, hV, hpq, hfz, hnd⟩ := hW
  obtain ⟨hgs, hq⟩ := trodVars_none hV
  have hA : DataW.TrodAll enc Try.prog W 0 (fun _ => true) true [25, 46, 61] args.toList ds p := hA0
  obtain ⟨v0, v1, v2, d0, d1, d2, p0, p1, p2, rfl, hds, _, h0, h1, h2⟩ := trodAll_three hA
  obtain ⟨r0, a0, l0, c0, e0, m0, o0, rfl, q0⟩ := opn_req (hval 0 25 v0 rfl rfl) h0
  obtain ⟨r1, a1, l1, c1, rfl, q1⟩ := opn_rep (hval 1 46 v1 rfl rfl) h1
  obtain ⟨n2, rfl, b2⟩ := opn_nat rfl Try.underlying61 (hval 2 61 v2 rfl rfl) h2
  refine (cuts_19 W r0 r1 n2 q0 q1 b2).mono fun e W' ⟨he, hk⟩ => ⟨_, he, ?_⟩
  exact post_law laidOut_wireCuts (by kernel_rfl) rfl rfl Try.underlying4 hW' (by rw [hds, hgs]; exact ⟨rfl, rfl, rfl⟩) hk.below

set_option maxRecDepth 100000 in
theorem wireCuts_lifted (os : Os) (started : os.Started) (H : Type) (enc : TypeId × Value → H) :
    ReturnsInHanded {} Try.checked os 7 .any (Rows.wireCutsSpec.pre6 enc Try.prog Try.f7 Rows.wireCutsRow.domain false) (Rows.wireCutsSpec.post enc Try.prog Try.f7 false true false false) := by
  refine returnsInHanded_of_change (C := Try.checked) knob_wireCuts started (by kernel_rfl) Try.func7
    (ChangeSpec.witness6 (enc := enc) (C := Try.checked) false ⟨#[], #[.agg #[.int .i64 0, .slice none 0 0, .string ⟨#[]⟩, .slice none 0 0], .agg #[.int .i64 0, .slice none 0 0, .string ⟨#[]⟩, .int .i64 0], .int .u16 0], []⟩ 8 (by kernel_rfl) (by kernel_rfl) (by kernel_rfl) (by kernel_rfl)) ?_
  intro W base args ds gs before hval hW _ _
  exact wireCuts_contract H enc W base args ds gs before hval hW

theorem wireCuts_holds : Rows.WireCutsSaid :=
  OpenClaim.holds_of_wide 7 Try.f7 rfl rfl rfl rfl rfl rfl rfl ⟨rfl, rfl, rfl, rfl, rfl⟩ rfl rfl rfl rfl rfl (by kernel_rfl) Try.func7 (by kernel_rfl)
    (of_decide_eq_true (by kernel_rfl)) (by unfold Func.isWrapper; first | (rw [if_pos (by decide +kernel)]; kernel_rfl) | (rw [if_neg (by decide +kernel)]; exact ⟨rfl, rfl⟩))
    (fun os started H enc _ => wireCuts_lifted os started H enc)

end Go.Proofs.Ytgecpbplbkpdlaa
