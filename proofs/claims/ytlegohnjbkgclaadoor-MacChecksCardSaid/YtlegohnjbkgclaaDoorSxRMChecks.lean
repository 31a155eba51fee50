/-
  A law of sums under a key: Checks.
-/
import Derived.Test.YtlegohnjbkgclaaDoorSxML
import Derived.Test.YtlegohnjbkgclaaDoorSxSR
import Derived.Test.YtlegohnjbkgclaaDoorCards
import Derived.Test.YtlegohnjbkgclaaDoorTie
namespace Go.Proofs.YtlegohnjbkgclaaDoor
open Go Go.Sx Go.ChangeShapes Go.WideShapes Go.ChangeAt Go.RowKit Go.Joins Go.Deep
set_option linter.unusedVariables false

theorem knob_macChecks : ownKnob Tryd.prog.godebug = none := by kernel_rfl
theorem laidOut_macChecks : laidOutB Tryd.prog = true := by kernel_rfl

theorem macChecks_contract (H : Type) (enc : TypeId × Value → H) (W : World) (base : Nat) (args : Array Value) (ds gs : List (DataW H)) (before : List MemPlace)
    (hval : ∀ (j : Nat) t v, Tryd.f14.params[j]? = some t → args[j]? = some v → Value.okWide Tryd.prog W .any base t v)
    (hW : DataW.Whole enc Tryd.prog Tryd.f14.params.toList Rows.macChecksSpec.vars false W args.toList ds gs before) (hL : laidMetH Tryd.prog laid2 W) :
    Calls Tryd.prog 14 args W fun e W' => ∃ v, e = .returned v ∧ Rows.macChecksSpec.post enc Tryd.prog Tryd.f14 false true false false W args v W' := by
  have hW' := hW
  obtain ⟨p, q, hA0, hV, hpq, hfz, hnd⟩ := hW
  obtain ⟨hgs, hq⟩ := trodVars_none hV
  have hA : DataW.TrodAll enc Tryd.prog W 0 (fun _ => true) true [9, 9, 5, 5] args.toList ds p := hA0
  obtain ⟨v0, v1, v2, v3, d0, d1, d2, d3, p0, p1, p2, p3, rfl, hds, _, h0, h1, h2, h3⟩ := trodAll_four hA
  obtain ⟨s0, rfl⟩ := opn_str Tryd.underlying9 (hval 0 9 v0 rfl rfl)
  obtain ⟨s1, rfl⟩ := opn_str Tryd.underlying9 (hval 1 9 v1 rfl rfl)
  obtain ⟨n2, rfl, b2⟩ := opn_nat rfl Tryd.underlying5 (hval 2 5 v2 rfl rfl) h2
  obtain ⟨n3, rfl, b3⟩ := opn_nat rfl Tryd.underlying5 (hval 3 5 v3 rfl rfl) h3
  refine (checks_03 W s0 s1 n2 n3 b2 b3 (of_laid hL)).mono fun e W' ⟨he, hk⟩ => ⟨_, he, ?_⟩
  exact post_law laidOut_macChecks (by kernel_rfl) rfl rfl Tryd.underlying4 hW' (by rw [hds, hgs]; exact ⟨rfl, rfl, rfl⟩) hk.below

set_option maxRecDepth 100000 in
theorem macChecks_lifted (os : Os) (started : os.Started) (H : Type) (enc : TypeId × Value → H) :
    ReturnsInHanded {} Tryd.checked os 14 .any (fun w args => (Rows.macChecksSpec.pre enc Tryd.prog Tryd.f14 [] false w args ∧ laidMetH Tryd.prog laid2 w) ∧ sizedMet enc Tryd.prog Tryd.f14 (OpenSpec.ofChange Rows.macChecksSpec) false w args)
      (Rows.macChecksSpec.post enc Tryd.prog Tryd.f14 false true false false) := by
  refine returnsInHanded_of_change_and (C := Tryd.checked) (X := fun w _ => laidMetH Tryd.prog laid2 w) (fun _ _ _ hh h => h.of_heap hh) knob_macChecks started (by kernel_rfl) Tryd.func14
    (ChangeSpec.witness_shaped (enc := enc) (C := Tryd.checked) (os := os) (X := fun w _ => laidMetH Tryd.prog laid2 w) false (World.doorLaid Tryd.prog 400 os) #[.string ⟨#[]⟩, .string ⟨#[]⟩, .int .u8 0, .int .u8 0] 8 rfl (World.shaped_of_RefB (by kernel_rfl) (by kernel_rfl)) (by kernel_rfl) (by kernel_rfl) (by kernel_rfl) (door_met os _)) ?_
  intro W base args ds gs before hval hW _ _ hL _
  exact macChecks_contract H enc W base args ds gs before hval hW hL

theorem macChecks_holds : Rows.MacChecksSaid :=
  OpenClaim.holds_of_wide 14 Tryd.f14 rfl rfl rfl rfl rfl rfl rfl ⟨rfl, rfl, rfl, rfl, rfl⟩ rfl rfl rfl rfl rfl (by kernel_rfl) Tryd.func14 (by kernel_rfl)
    (of_decide_eq_true (by kernel_rfl)) (by unfold Func.isWrapper; first | (rw [if_pos (by decide +kernel)]; kernel_rfl) | (rw [if_neg (by decide +kernel)]; exact ⟨rfl, rfl⟩))
    (fun os started H enc _ => macChecks_lifted os started H enc)

theorem macChecks_card_holds : Rows.MacChecksCardSaid :=
  Claim7.holds_tied_plain_at .later [] [.data, .data] true (true, "fc01a405b65bdbe8f204f32992df092aa4f7de9b63256ea0b8b1a1ac54589220") false
    macChecks_holds (fun _ h => by cases h) (by kernel_rfl) (fun _ h => by cases h) macChecks_row_tie rfl ⟨rfl, rfl⟩ (by kernel_rfl) rfl
    (fun f fn hf hfn => by
      obtain rfl : f = 14 := Option.some.inj ((show Tryd.prog.funcNamed "cryptex/cryptexlaw03.MacChecks" = some 14 by kernel_rfl).symm.trans hf) |>.symm
      obtain rfl : fn = Tryd.f14 := (Option.some.inj (Tryd.func14.symm.trans hfn)).symm
      exact ⟨by kernel_rfl, fun j t ht => by
        have ht' : ([9, 9, 5, 5] : List TypeId).toArray[j]? = some t := ht
        have hm : t ∈ ([9, 9, 5, 5] : List TypeId) := by simpa using Array.mem_of_getElem? ht'
        have hall : (([9, 9, 5, 5] : List TypeId).all fun u => !Tryd.prog.wantsStandIn u) = true := by kernel_rfl
        exact (show Tryd.prog.wantsStandIn t = false by simpa using List.all_eq_true.1 hall t hm)⟩)
    (by kernel_rfl)

end Go.Proofs.YtlegohnjbkgclaaDoor
