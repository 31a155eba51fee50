/-
  A part of the proof: D8.
-/
import Derived.Test.YtcjlilddhhnikaaSxD7
namespace Go.Proofs.Ytcjlilddhhnikaa
open Go Go.Sx
set_option linter.unusedVariables false

def sx : ByteArray := ByteArray.mk #[120]
def sy : ByteArray := ByteArray.mk #[121]
def sz : ByteArray := ByteArray.mk #[122]
def sw : ByteArray := ByteArray.mk #[119]
def wD : Dk := ⟨[], [], -1, false⟩
def wA : Dk := wD.write sx
def wB : Dk := wA.sync
def wC : Dk := wB.write sy
def wH : Dk := wC.crash 0 0
def wI : Dk := wH.write sz
def wJ : Dk := wI.sync
def wS : Dk := wC.swap sw

theorem isLong_sx : isLong sx = false := by decide
theorem isLong_sy : isLong sy = false := by decide
theorem isLong_sz : isLong sz = false := by decide
theorem isLong_sw : isLong sw = false := by decide

theorem wA_eq : wA = ⟨[], [sx], -1, false⟩ := by simp [wA, wD, Dk.write, Dk.step, Dk.may, wrongWrite, isLong_sx]
theorem wB_eq : wB = ⟨[sx], [], -1, false⟩ := by rw [wB, wA_eq]; simp [Dk.sync, Dk.step, Dk.may, isLong_sx]
theorem wC_eq : wC = ⟨[sx], [sy], -1, false⟩ := by rw [wC, wB_eq]; simp [Dk.write, Dk.step, Dk.may, wrongWrite, isLong_sx, isLong_sy]
theorem wH_eq : wH = ⟨[sx], [], 0, false⟩ := by rw [wH, wC_eq]; simp [Dk.crash, Dk.may, isLong_sx, isLong_sy, keepN]
theorem wI_eq : wI = ⟨[sx], [], 0, true⟩ := by rw [wI, wH_eq]; simp [Dk.write, Dk.step, Dk.may, wrongWrite, isLong_sx, isLong_sz]
theorem wS_eq : wS = ⟨[sw], [], -1, false⟩ := by rw [wS, wC_eq]; simp [Dk.swap, Dk.step, Dk.may, wrongSwap, isLong_sx, isLong_sy, isLong_sw]
theorem eA : wD.writeE sx = 0 := by simp [wD, Dk.writeE, Dk.stepE, Dk.may, wrongWrite, isLong_sx]
theorem eB : wA.syncE = 0 := by rw [wA_eq]; simp [Dk.syncE, Dk.stepE, Dk.may, isLong_sx]
theorem eC : wB.writeE sy = 0 := by rw [wB_eq]; simp [Dk.writeE, Dk.stepE, Dk.may, wrongWrite, isLong_sx, isLong_sy]
theorem eI : wH.writeE sz = 15 := by rw [wH_eq]; simp [Dk.writeE, Dk.stepE, Dk.may, wrongWrite, isLong_sx, isLong_sz]
theorem eJ : wI.syncE = 15 := by rw [wI_eq]; simp [Dk.syncE, Dk.stepE, Dk.may, isLong_sx]
theorem eS : wC.swapE sw = 0 := by rw [wC_eq]; simp [Dk.swapE, Dk.stepE, Dk.may, wrongSwap, isLong_sx, isLong_sy, isLong_sw]

theorem works_7 (w : World) : Calls Try.prog 7 #[] w (Ret w (.bool true)) := by
  refine calls_ret (F7_calls _ _ ?_)
  have ln : ∀ d : Dk, (∃ S P f k, d = ⟨S, P, f, k⟩ ∧ S.length + P.length ≤ 1000000) → d.S.length + d.P.length ≤ 1000000 := by rintro d ⟨S, P, f, k, rfl, h⟩; exact h
  have fz : ∀ d : Dk, (d.fuse = 0 ∨ d.fuse = -1) → -9223372036854775808 ≤ d.fuse ∧ d.fuse ≤ 9223372036854775807 := by intro d h; omega
  have D0 : ∀ w', DskAt w' none 0 0 none 0 0 wD := fun w' => ⟨StrsAt.nil, Nat.le_refl _, StrsAt.nil, Nat.le_refl _⟩
  refine CallK.ret (new_20 w (-1)) fun w1 hK => ⟨_, _, _, _, _, _, _, _, rfl, ?_⟩
  have M := (Mem.start w).call hK
  refine M.newK fun b2 w2 M => ?_
  refine M.stK 0 (c := [_, _, _, _]) rfl (by simp) rfl fun w3 M => ?_
  refine ⟨_, _, _, _, _, _, _, _, M.cells 0 (c := [_, _, _, _]) rfl, ?_⟩
  refine (write_22 w3 (d := wD) sx (D0 _) (ln _ ⟨_, _, _, _, rfl, by decide⟩) (fz _ (by simp [wD]))).mono ?_
  rintro e w4 ⟨a3, l3, c3, p3, m3, n3, rfl, hr, hK⟩
  refine ⟨_, _, _, _, _, _, _, _, _, rfl, ?_⟩
  replace M := M.callFr hK hr
  refine M.newK fun b5 w5 M => ?_
  refine M.stK 0 (c := [_, _, _, _]) rfl (by simp) rfl fun w6 M => ?_
  refine ⟨_, _, _, _, _, _, _, _, M.cells 0 (c := [_, _, _, _]) rfl, ?_⟩
  refine (sync_23 w6 (d := wA) (M.now.2.now) (ln _ ⟨_, _, _, _, wA_eq, by decide⟩) (fz _ (by rw [wA_eq]; simp))).mono ?_
  rintro e w7 ⟨a6, l6, c6, p6, m6, n6, rfl, hr, hK⟩
  refine ⟨_, _, _, _, _, _, _, _, _, rfl, ?_⟩
  replace M := M.callFr hK hr
  refine M.newK fun b8 w8 M => ?_
  refine M.stK 0 (c := [_, _, _, _]) rfl (by simp) rfl fun w9 M => ?_
  refine ⟨_, _, _, _, _, _, _, _, M.cells 0 (c := [_, _, _, _]) rfl, ?_⟩
  refine (write_22 w9 (d := wB) sy (M.now.2.now) (ln _ ⟨_, _, _, _, wB_eq, by decide⟩) (fz _ (by rw [wB_eq]; simp))).mono ?_
  rintro e w10 ⟨a9, l9, c9, p9, m9, n9, rfl, hr, hK⟩
  refine ⟨_, _, _, _, _, _, _, _, _, rfl, ?_⟩
  replace M := M.callFr hK hr
  refine M.newK fun b11 w11 M => ?_
  refine M.stK 0 (c := [_, _, _, _]) rfl (by simp) rfl fun w12 M => ?_
  refine ⟨_, _, _, _, _, _, _, _, M.cells 0 (c := [_, _, _, _]) rfl, ?_⟩
  refine (crash_21 w12 (d := wC) 0 0 (M.now.2.now) (ln _ ⟨_, _, _, _, wC_eq, by decide⟩)).mono ?_
  rintro e w13 ⟨a12, l12, c12, p12, m12, n12, rfl, hr, hK⟩
  refine ⟨_, _, _, _, _, _, _, _, rfl, ?_⟩
  replace M := M.callFr hK hr
  refine M.newK fun b14 w14 M => ?_
  refine M.stK 0 (c := [_, _, _, _]) rfl (by simp) rfl fun w15 M => ?_
  refine ⟨_, _, _, _, _, _, _, _, M.cells 0 (c := [_, _, _, _]) rfl, ?_⟩
  refine (write_22 w15 (d := wH) sz (M.now.2.now) (ln _ ⟨_, _, _, _, wH_eq, by decide⟩) (fz _ (by rw [wH_eq]; simp))).mono ?_
  rintro e w16 ⟨a15, l15, c15, p15, m15, n15, rfl, hr, hK⟩
  refine ⟨_, _, _, _, _, _, _, _, _, rfl, ?_⟩
  replace M := M.callFr hK hr
  refine M.newK fun b17 w17 M => ?_
  refine M.stK 0 (c := [_, _, _, _]) rfl (by simp) rfl fun w18 M => ?_
  refine ⟨_, _, _, _, _, _, _, _, M.cells 0 (c := [_, _, _, _]) rfl, ?_⟩
  refine (sync_23 w18 (d := wI) (M.now.2.now) (ln _ ⟨_, _, _, _, wI_eq, by decide⟩) (fz _ (by rw [wI_eq]; simp))).mono ?_
  rintro e w19 ⟨a18, l18, c18, p18, m18, n18, rfl, hr, hK⟩
  refine ⟨_, _, _, _, _, _, _, _, _, rfl, ?_⟩
  replace M := M.callFr hK hr
  refine M.newK fun b20 w20 M => ?_
  refine M.stK 0 (c := [_, _, _, _]) rfl (by simp) rfl fun w21 M => ?_
  refine ⟨_, _, _, _, _, _, _, _, M.cells 3 (c := [_, _, _, _]) rfl, ?_⟩
  refine (swap_24 w21 (d := wC) sw (M.now.1.1.1.2.now) (ln _ ⟨_, _, _, _, wC_eq, by decide⟩) (fz _ (by rw [wC_eq]; simp))).mono ?_
  rintro e w22 ⟨a21, l21, c21, p21, m21, n21, rfl, hr, hK⟩
  refine ⟨_, _, _, _, _, _, _, _, _, rfl, ?_⟩
  replace M := M.callFr hK hr
  refine M.newK fun b23 w23 M => ?_
  refine M.stK 0 (c := [_, _, _, _]) rfl (by simp) rfl fun w24 M => ?_
  have hA : wD.writeE sx = 0 := eA
  refine SplitK.t (by simp [eA]) (SplitK.t (by simp [eB]) (SplitK.t (by simp [eC]) ?_))
  refine ⟨_, _, _, _, _, _, _, _, M.cells 4 (c := [_, _, _, _]) rfl, ?_⟩
  refine (records_16 w24 (M.now.1.1.1.1.2.now).1 (M.now.1.1.1.1.2.now).2.2.1 (ln _ ⟨_, _, _, _, wC_eq, by decide⟩)).mono ?_
  rintro e w25 ⟨ra, rl, rc, rfl, hr, hlc, hK⟩
  have hl := hr.now.1
  rw [show wB.write sy = wC from rfl, wC_eq] at hl
  replace M := M.callFr hK hr
  refine ⟨ra, rl, rc, rfl, SplitK.t (by simp [hl]) ?_⟩
  simp only [addA_mk, Nat.zero_add]
  have hH := M.now.1.1.1.1.2.now
  rw [show wC.crash 0 0 = wH from rfl, wH_eq] at hH
  refine ⟨_, _, _, M.cell 3 (off := 0) (c := [_, _, _, _]) rfl rfl, SplitK.t (by simp [hH.1.1]) ?_⟩
  refine ⟨_, _, _, M.cell 3 (off := 0) (c := [_, _, _, _]) rfl rfl, by simp, by simp [hH.1.1], ?_⟩
  obtain ⟨p, hp, hpc⟩ := hH.1.get (k := 0) (by simp)
  refine SomeK.of p hp ⟨_, hpc, SplitK.t (by simp [sx]) (SplitK.t (by simp [eI]) ?_)⟩
  refine ⟨_, M.cell 2 (off := 3) (c := [_, _, _, _]) rfl rfl, SplitK.t (by rw [show wH.write sz = wI from rfl, wI_eq]) (SplitK.t (by simp [eJ]) (SplitK.t (by simp [eS]) ?_))⟩
  refine ⟨_, _, _, _, _, _, _, _, M.cells 0 (c := [_, _, _, _]) rfl, ?_⟩
  refine (records_16 w25 (M.now.1.2.now).1 (M.now.1.2.now).2.2.1 (ln _ ⟨_, _, _, _, wS_eq, by decide⟩)).mono ?_
  rintro e w26 ⟨sa, sl, sc, rfl, hr, hlc, hK⟩
  have hl := hr.now.1
  rw [show wC.swap sw = wS from rfl, wS_eq] at hl
  replace M := M.callFr hK hr
  refine ⟨sa, sl, sc, rfl, SplitK.t (by simp [hl]) ?_⟩
  refine ⟨_, _, _, _, _, _, _, _, M.cells 4 (c := [_, _, _, _]) rfl, ?_⟩
  refine CallK.ret (check_18 w26 (d := wC) (M.now.1.1.1.1.1.1.2.now) (ln _ ⟨_, _, _, _, wC_eq, by decide⟩)) fun w27 hK => ⟨_, rfl, SplitK.t (by rw [wC_eq]; simp [Dk.may, isLong_sx, isLong_sy]) ?_⟩
  replace M := M.call hK
  refine ⟨_, _, _, _, _, _, _, _, M.cells 4 (c := [_, _, _, _]) rfl, ?_⟩
  refine ⟨_, _, _, _, _, _, _, _, M.cells 4 (c := [_, _, _, _]) rfl, ?_⟩
  refine CallK.ret (same_19 w27 (d := wC) (o := wC) (M.now.1.1.1.1.1.1.2.now) (M.now.1.1.1.1.1.1.2.now) (ln _ ⟨_, _, _, _, wC_eq, by decide⟩)) fun w28 hK => ⟨_, rfl, SplitK.t (by simp [Dk.same]) ?_⟩
  replace M := M.call hK
  refine ⟨_, _, _, _, _, _, _, _, M.cells 5 (c := [_, _, _, _]) rfl, ?_⟩
  refine ⟨_, _, _, _, _, _, _, _, M.cells 4 (c := [_, _, _, _]) rfl, ?_⟩
  refine CallK.ret (same_19 w28 (d := wB) (o := wC) (M.now.1.1.1.1.1.1.1.2.now) (M.now.1.1.1.1.1.1.2.now) (ln _ ⟨_, _, _, _, wB_eq, by decide⟩)) fun w29 hK => ⟨_, rfl, ?_⟩
  replace M := M.call hK
  refine ⟨?_, M.keep⟩
  rw [wB_eq, wC_eq]
  simp [Dk.same]

end Go.Proofs.Ytcjlilddhhnikaa
