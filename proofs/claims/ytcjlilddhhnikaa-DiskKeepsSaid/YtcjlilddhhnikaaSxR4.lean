/-
  The law DiskKeeps of layer 20 is true for every input: no condition beside the row's own.
-/
import Derived.Test.YtcjlilddhhnikaaSxRA
import Derived.Test.YtcjlilddhhnikaaSxG3
import Derived.Test.YtcjlilddhhnikaaChecked
namespace Go.Proofs.Ytcjlilddhhnikaa
open Go Go.Sx Go.ChangeShapes Go.WideShapes Go.ChangeAt Go.RowKit Go.Joins Go.Deep
set_option linter.unusedVariables false

theorem keeps_contract (H : Type) (enc : TypeId × Value → H) (W : World) (base : Nat) (args : Array Value) (ds gs : List (DataW H)) (before : List MemPlace)
    (hval : ∀ (j : Nat) t v, Try.f4.params[j]? = some t → args[j]? = some v → Value.okWide Try.prog W .any base t v)
    (hW : DataW.Whole enc Try.prog Try.f4.params.toList Rows.diskKeepsSpec.vars false W args.toList ds gs before) :
    Calls Try.prog 4 args W fun e W' => ∃ v, e = .returned v ∧ Rows.diskKeepsSpec.post enc Try.prog Try.f4 false true false false W args v W' := by
  have hW' := hW
  obtain ⟨p, q, hA0, hV, hpq, hfz, hnd⟩ := hW
  obtain ⟨hgs, hq⟩ := trodVars_none hV
  have hA : DataW.TrodAll enc Try.prog W 0 (fun _ => true) true [3, 45] args.toList ds p := hA0
  obtain ⟨v0, v1, d0, d1, p0, p1, rfl, hds, _, h0, h1⟩ := trodAll_two hA
  obtain ⟨n, rfl, _, _, hn⟩ := open_int Try.underlying3 (hval 0 3 v0 rfl rfl) h0
  have hn : -9223372036854775808 ≤ n ∧ n ≤ 9223372036854775807 := by simpa [Lit.wf, IntKind.min, IntKind.max, IntKind.signed, IntKind.bits] using hn
  obtain ⟨a, l, c, acts, rfl, hacts, hfu⟩ := open_acts (hval 1 45 v1 rfl rfl) h1
  refine (keeps_4 W hn hacts hfu).mono fun e W' ⟨he, hk⟩ => ⟨_, he, ?_⟩
  exact post_law laidOutT (by kernel_rfl) rfl rfl Try.underlying4 hW' (by rw [hds, hgs]; exact ⟨rfl, rfl, rfl⟩) hk.below

set_option maxRecDepth 100000 in
theorem keeps_lifted (os : Os) (started : os.Started) (H : Type) (enc : TypeId × Value → H) :
    ReturnsInHanded {} Try.checked os 4 .any (Rows.diskKeepsSpec.pre6 enc Try.prog Try.f4 Rows.diskKeepsRow.domain false) (Rows.diskKeepsSpec.post enc Try.prog Try.f4 false true false false) := by
  refine returnsInHanded_of_change (C := Try.checked) knob started (by kernel_rfl) Try.func4
    (ChangeSpec.witness6 (enc := enc) (C := Try.checked) false ⟨#[], #[.int .i64 0, .slice none 0 0], []⟩ 8 (by kernel_rfl) (by kernel_rfl) (by kernel_rfl) (by kernel_rfl)) ?_
  intro W base args ds gs before hval hW _ _
  exact keeps_contract H enc W base args ds gs before hval hW

theorem keeps_holds : Rows.DiskKeepsSaid :=
  OpenClaim.holds_of_wide 4 Try.f4 rfl rfl rfl rfl rfl rfl rfl ⟨rfl, rfl, rfl, rfl, rfl⟩ rfl rfl rfl rfl rfl (by kernel_rfl) Try.func4 (by kernel_rfl)
    (of_decide_eq_true (by kernel_rfl)) (by unfold Func.isWrapper; first | (rw [if_pos (by decide +kernel)]; kernel_rfl) | (rw [if_neg (by decide +kernel)]; exact ⟨rfl, rfl⟩))
    (fun os started H enc _ => keeps_lifted os started H enc)

end Go.Proofs.Ytcjlilddhhnikaa
