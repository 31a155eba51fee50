/-
  A text of one part more makes the tag of the product of what it was and the part as a sum; guards: keys of 16 bytes, texts of at most 200 bytes are asked about.
-/
import Derived.Test.YthpodgkmghgenaaDoorSxZI
import Derived.Test.YthpodgkmghgenaaDoorSxSR
import Derived.Test.YthpodgkmghgenaaDoorCards
import Derived.Test.YthpodgkmghgenaaDoorTie
namespace Go.Proofs.YthpodgkmghgenaaDoor
open Go Go.Sx Go.ChangeShapes Go.WideShapes Go.ChangeAt Go.RowKit Go.Joins Go.Deep
set_option linter.unusedVariables false

theorem knob_polySteps : ownKnob Tryd.prog.godebug = none := by kernel_rfl
theorem laidOut_polySteps : laidOutB Tryd.prog = true := by kernel_rfl

theorem polySteps_contract (H : Type) (enc : TypeId × Value → H) (W : World) (base : Nat) (args : Array Value) (ds gs : List (DataW H)) (before : List MemPlace)
    (hval : ∀ (j : Nat) t v, Tryd.f8.params[j]? = some t → args[j]? = some v → Value.okWide Tryd.prog W .any base t v)
    (hW : DataW.Whole enc Tryd.prog Tryd.f8.params.toList Rows.polyStepsSpec.vars false W args.toList ds gs before) (hL : laidMetH Tryd.prog laid2 W) :
    Calls Tryd.prog 8 args W fun e W' => ∃ v, e = .returned v ∧ Rows.polyStepsSpec.post enc Tryd.prog Tryd.f8 false true false false W args v W' := by
  have hW' := hW
  obtain ⟨p, q, hA0, hV, hpq, hfz, hnd⟩ := hW
  obtain ⟨hgs, hq⟩ := trodVars_none hV
  have hA : DataW.TrodAll enc Tryd.prog W 0 (fun _ => true) true [9, 9] args.toList ds p := hA0
  obtain ⟨v0, v1, d0, d1, p0, p1, rfl, hds, _, h0, h1⟩ := trodAll_two hA
  obtain ⟨s0, rfl⟩ := opn_str Tryd.underlying9 (hval 0 9 v0 rfl rfl)
  obtain ⟨s1, rfl⟩ := opn_str Tryd.underlying9 (hval 1 9 v1 rfl rfl)
  refine (steps_05 W s0 s1 (of_laid hL)).mono fun e W' ⟨he, hk⟩ => ⟨_, he, ?_⟩
  exact post_law laidOut_polySteps (by kernel_rfl) rfl rfl Tryd.underlying4 hW' (by rw [hds, hgs]; exact ⟨rfl, rfl, rfl⟩) hk.below

set_option maxRecDepth 100000 in
theorem polySteps_lifted (os : Os) (started : os.Started) (H : Type) (enc : TypeId × Value → H) :
    ReturnsInHanded {} Tryd.checked os 8 .any (fun w args => (Rows.polyStepsSpec.pre enc Tryd.prog Tryd.f8 [] false w args ∧ laidMetH Tryd.prog laid2 w) ∧ sizedMet enc Tryd.prog Tryd.f8 (OpenSpec.ofChange Rows.polyStepsSpec) false w args)
      (Rows.polyStepsSpec.post enc Tryd.prog Tryd.f8 false true false false) := by
  refine returnsInHanded_of_change_and (C := Tryd.checked) (X := fun w _ => laidMetH Tryd.prog laid2 w) (fun _ _ _ hh h => h.of_heap hh) knob_polySteps started (by kernel_rfl) Tryd.func8
    (ChangeSpec.witness_shaped (enc := enc) (C := Tryd.checked) (os := os) (X := fun w _ => laidMetH Tryd.prog laid2 w) false (World.doorLaid Tryd.prog 400 os) #[.string ⟨#[]⟩, .string ⟨#[]⟩] 8 rfl (World.shaped_of_RefB (by kernel_rfl) (by kernel_rfl)) (by kernel_rfl) (by kernel_rfl) (by kernel_rfl) (door_met os _)) ?_
  intro W base args ds gs before hval hW _ _ hL _
  exact polySteps_contract H enc W base args ds gs before hval hW hL

theorem polySteps_holds : Rows.PolyStepsSaid :=
  OpenClaim.holds_of_wide 8 Tryd.f8 rfl rfl rfl rfl rfl rfl rfl ⟨rfl, rfl, rfl, rfl, rfl⟩ rfl rfl rfl rfl rfl (by kernel_rfl) Tryd.func8 (by kernel_rfl)
    (of_decide_eq_true (by kernel_rfl)) (by unfold Func.isWrapper; first | (rw [if_pos (by decide +kernel)]; kernel_rfl) | (rw [if_neg (by decide +kernel)]; exact ⟨rfl, rfl⟩))
    (fun os started H enc _ => polySteps_lifted os started H enc)

theorem polySteps_card_holds : Rows.PolyStepsCardSaid :=
  Claim7.holds_tied_plain_at .later [] [.data] true (true, "2eece47a5488c64819bcbe1657ac354be11c56aa05af27bb627445c804cbb991") false
    polySteps_holds (fun _ h => by cases h) (by kernel_rfl) (fun _ h => by cases h) polySteps_row_tie rfl ⟨rfl, rfl⟩ (by kernel_rfl) rfl
    (fun f fn hf hfn => by
      obtain rfl : f = 8 := Option.some.inj ((show Tryd.prog.funcNamed "cryptex/cryptexlaw05.PolySteps" = some 8 by kernel_rfl).symm.trans hf) |>.symm
      obtain rfl : fn = Tryd.f8 := (Option.some.inj (Tryd.func8.symm.trans hfn)).symm
      exact ⟨by kernel_rfl, fun j t ht => by
        have ht' : ([9, 9] : List TypeId).toArray[j]? = some t := ht
        have hm : t ∈ ([9, 9] : List TypeId) := by simpa using Array.mem_of_getElem? ht'
        have hall : (([9, 9] : List TypeId).all fun u => !Tryd.prog.wantsStandIn u) = true := by kernel_rfl
        exact (show Tryd.prog.wantsStandIn t = false by simpa using List.all_eq_true.1 hall t hm)⟩)
    (by kernel_rfl)

end Go.Proofs.YthpodgkmghgenaaDoor
