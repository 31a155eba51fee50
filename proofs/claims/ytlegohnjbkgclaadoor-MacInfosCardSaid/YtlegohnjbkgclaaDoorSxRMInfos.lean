/-
  A law of sums under a key: Infos.
-/
import Derived.Test.YtlegohnjbkgclaaDoorSxML
import Derived.Test.YtlegohnjbkgclaaDoorSxSR
import Derived.Test.YtlegohnjbkgclaaDoorCards
import Derived.Test.YtlegohnjbkgclaaDoorTie
namespace Go.Proofs.YtlegohnjbkgclaaDoor
open Go Go.Sx Go.ChangeShapes Go.WideShapes Go.ChangeAt Go.RowKit Go.Joins Go.Deep
set_option linter.unusedVariables false

theorem knob_macInfos : ownKnob Tryd.prog.godebug = none := by kernel_rfl
theorem laidOut_macInfos : laidOutB Tryd.prog = true := by kernel_rfl

theorem macInfos_contract (H : Type) (enc : TypeId × Value → H) (W : World) (base : Nat) (args : Array Value) (ds gs : List (DataW H)) (before : List MemPlace)
    (hval : ∀ (j : Nat) t v, Tryd.f12.params[j]? = some t → args[j]? = some v → Value.okWide Tryd.prog W .any base t v)
    (hW : DataW.Whole enc Tryd.prog Tryd.f12.params.toList Rows.macInfosSpec.vars false W args.toList ds gs before) (hL : laidMetH Tryd.prog laid2 W) :
    Calls Tryd.prog 12 args W fun e W' => ∃ v, e = .returned v ∧ Rows.macInfosSpec.post enc Tryd.prog Tryd.f12 false true false false W args v W' := by
  have hW' := hW
  obtain ⟨p, q, hA0, hV, hpq, hfz, hnd⟩ := hW
  obtain ⟨hgs, hq⟩ := trodVars_none hV
  have hA : DataW.TrodAll enc Tryd.prog W 0 (fun _ => true) true [28, 28] args.toList ds p := hA0
  obtain ⟨v0, v1, d0, d1, p0, p1, rfl, hds, _, h0, h1⟩ := trodAll_two hA
  obtain ⟨a0, l0, c0, xs0, rfl, g0⟩ := opn_strs Tryd.underlying28 Tryd.underlying9 (by kernel_rfl) h0 (hval 0 28 v0 rfl rfl)
  obtain ⟨a1, l1, c1, xs1, rfl, g1⟩ := opn_strs Tryd.underlying28 Tryd.underlying9 (by kernel_rfl) h1 (hval 1 28 v1 rfl rfl)
  refine (infos_03 W g0 g1 (of_laid hL)).mono fun e W' ⟨he, hk⟩ => ⟨_, he, ?_⟩
  exact post_law laidOut_macInfos (by kernel_rfl) rfl rfl Tryd.underlying4 hW' (by rw [hds, hgs]; exact ⟨rfl, rfl, rfl⟩) hk.below

set_option maxRecDepth 100000 in
theorem macInfos_lifted (os : Os) (started : os.Started) (H : Type) (enc : TypeId × Value → H) :
    ReturnsInHanded {} Tryd.checked os 12 .any (fun w args => (Rows.macInfosSpec.pre enc Tryd.prog Tryd.f12 [] false w args ∧ laidMetH Tryd.prog laid2 w) ∧ sizedMet enc Tryd.prog Tryd.f12 (OpenSpec.ofChange Rows.macInfosSpec) false w args)
      (Rows.macInfosSpec.post enc Tryd.prog Tryd.f12 false true false false) := by
  refine returnsInHanded_of_change_and (C := Tryd.checked) (X := fun w _ => laidMetH Tryd.prog laid2 w) (fun _ _ _ hh h => h.of_heap hh) knob_macInfos started (by kernel_rfl) Tryd.func12
    (ChangeSpec.witness_shaped (enc := enc) (C := Tryd.checked) (os := os) (X := fun w _ => laidMetH Tryd.prog laid2 w) false (World.doorLaid Tryd.prog 400 os) #[.slice none 0 0, .slice none 0 0] 8 rfl (World.shaped_of_RefB (by kernel_rfl) (by kernel_rfl)) (by kernel_rfl) (by kernel_rfl) (by kernel_rfl) (door_met os _)) ?_
  intro W base args ds gs before hval hW _ _ hL _
  exact macInfos_contract H enc W base args ds gs before hval hW hL

theorem macInfos_holds : Rows.MacInfosSaid :=
  OpenClaim.holds_of_wide 12 Tryd.f12 rfl rfl rfl rfl rfl rfl rfl ⟨rfl, rfl, rfl, rfl, rfl⟩ rfl rfl rfl rfl rfl (by kernel_rfl) Tryd.func12 (by kernel_rfl)
    (of_decide_eq_true (by kernel_rfl)) (by unfold Func.isWrapper; first | (rw [if_pos (by decide +kernel)]; kernel_rfl) | (rw [if_neg (by decide +kernel)]; exact ⟨rfl, rfl⟩))
    (fun os started H enc _ => macInfos_lifted os started H enc)

theorem macInfos_card_holds : Rows.MacInfosCardSaid :=
  Claim7.holds_tied_plain_at .later [] [.data, .data] true (true, "fc01a405b65bdbe8f204f32992df092aa4f7de9b63256ea0b8b1a1ac54589220") false
    macInfos_holds (fun _ h => by cases h) (by kernel_rfl) (fun _ h => by cases h) macInfos_row_tie rfl ⟨rfl, rfl⟩ (by kernel_rfl) rfl
    (fun f fn hf hfn => by
      obtain rfl : f = 12 := Option.some.inj ((show Tryd.prog.funcNamed "cryptex/cryptexlaw03.MacInfos" = some 12 by kernel_rfl).symm.trans hf) |>.symm
      obtain rfl : fn = Tryd.f12 := (Option.some.inj (Tryd.func12.symm.trans hfn)).symm
      exact ⟨by kernel_rfl, fun j t ht => by
        have ht' : ([28, 28] : List TypeId).toArray[j]? = some t := ht
        have hm : t ∈ ([28, 28] : List TypeId) := by simpa using Array.mem_of_getElem? ht'
        have hall : (([28, 28] : List TypeId).all fun u => !Tryd.prog.wantsStandIn u) = true := by kernel_rfl
        exact (show Tryd.prog.wantsStandIn t = false by simpa using List.all_eq_true.1 hall t hm)⟩)
    (by kernel_rfl)

end Go.Proofs.YtlegohnjbkgclaaDoor
