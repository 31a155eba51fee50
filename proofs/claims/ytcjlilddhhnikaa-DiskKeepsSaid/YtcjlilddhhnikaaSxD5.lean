/-
  A part of the proof: D5.
-/
import Derived.Test.YtcjlilddhhnikaaSxD4
namespace Go.Proofs.Ytcjlilddhhnikaa
open Go Go.Sx
set_option linter.unusedVariables false

/-- What a step that goes through does to the records. -/
def DoSpec (w : World) (p2 : Value) (d : Dk) (f : Dk → Dk) : Prop :=
  ∀ w1 b optS optP a l c a1 l1 c1 m F n, OwnM optS 9 a l c (d.S.map Value.string) → OwnM optP 9 a1 l1 c1 (d.P.map Value.string) →
    Mem w [] ((b, .cells ([.slice a l c, .slice a1 l1 c1, .int .i64 n, .bool false] : List Value).toArray 24 (0, 0)) :: m ++ (optS ++ optP)) F w1 →
    FnK Try.prog true p2 #[.pointer (some ⟨b, 0, none⟩)] w1 (fun e w2 => e = .returned (.tuple #[]) ∧ ∃ a' l' c' a1' l1' c1',
      Mem w [] ((b, .cells ([.slice a' l' c', .slice a1' l1' c1', .int .i64 n, .bool false] : List Value).toArray 24 (0, 0)) :: m) (fun w' => F w' ∧ Fresh w.heap.size w' (fun w' => DskAt w' a' l' c' a1' l1' c1' (f d))) w2)

/-- The disk behind a step. -/
def Dk.step (d : Dk) (wrong : Int) (f : Dk → Dk) : Dk :=
  if d.may = true ∧ d.dead = false ∧ wrong = 0 then
    if d.fuse = 0 then ⟨d.S, d.P, 0, true⟩
    else ⟨(f d).S, (f d).P, if 0 < d.fuse then d.fuse - 1 else d.fuse, false⟩
  else ⟨[], [], 0, false⟩

/-- What a step tells. -/
def Dk.stepE (d : Dk) (wrong : Int) : Int :=
  if d.may then if d.dead then 15 else if wrong = 0 then (if d.fuse = 0 then 15 else 0) else wrong else 1

theorem step_29 (w : World) {a a1 : Option Addr} {l c l1 c1 : Nat} {d : Dk} {p1 p2 : Value} {wrong : Int} {f : Dk → Dk} (h : DskAt w a l c a1 l1 c1 d) (hb : d.S.length + d.P.length ≤ 1000000)
    (hfz : -9223372036854775808 ≤ d.fuse ∧ d.fuse ≤ 9223372036854775807)
    (hw : d.may = true → ∀ w1, Keep [] w w1 → FnK Try.prog true p1 #[] w1 (Ret w1 (.int .i64 wrong))) (hf : d.may = true → DoSpec w p2 d f) :
    Calls Try.prog 29 #[.agg #[.slice a l c, .slice a1 l1 c1, .int .i64 d.fuse, .bool d.dead], p1, p2] w (RetE w (d.step wrong f) (d.stepE wrong)) := by
  refine calls_retE (F29_calls _ _ _ _ _ _ _ _ _ _ _ _ ?_)
  refine (Mem.start w).newK fun b w1 M => ?_
  refine M.newK fun b1 w2 M => ?_
  refine ⟨_, _, _, _, _, _, _, _, M.cells 1 (c := [_, _, _, _]) rfl, ?_⟩
  refine CallK.ret (check_18 w2 (h.keep0 M.keep) hb) fun w3 hw3 => ⟨_, rfl, ?_⟩
  have M3 := M.call hw3
  intro K hK
  -- the way out with something wrong
  have bad : ∀ (e : Int) (w4 : World), Mem w [] [(b1, .cells #[.slice none 0 0, .slice none 0 0, .int .i64 0, .bool false] 24 (0, 0)), (b, .cells #[.slice a l c, .slice a1 l1 c1, .int .i64 d.fuse, .bool d.dead] 24 (0, 0))] (fun _ => True) w4 → e ≠ 0 → d.step wrong f = ⟨[], [], 0, false⟩ → d.stepE wrong = e → K [.int .i64 e] w4 := by
    intro e w4 M4 he h1 h2
    refine hK _ _ fun _ => SplitK.t (by simp [he]) ?_
    refine M4.stK (i := 0) (c := [_, _, _, _]) rfl (by simp) rfl fun w5 M5 => ?_
    refine ⟨_, _, _, _, _, _, _, _, M5.cells 0 rfl, ?_⟩
    rw [h1, h2]
    exact ⟨_, _, _, _, _, _, rfl, Fresh.always fun w' => ⟨StrsAt.nil, Nat.le_refl _, StrsAt.nil, Nat.le_refl _⟩, M5.keep⟩
  refine SplitK.of (fun hh => ?_) (fun hh => ?_)
  · have hm : d.may = false := by
      cases hd : d.may
      · rfl
      · simp [hd] at hh
    have e1 : (if d.may = true then (0 : Int) else 1) = 1 := by simp [hm]
    rw [e1]
    exact bad 1 w3 M3 (by decide) (by simp [Dk.step, hm]) (by simp [Dk.stepE, hm])
  have hm : d.may = true := by
    cases hd : d.may
    · simp [hd] at hh
    · rfl
  refine ⟨_, by simp only [addA_mk]; exact M3.cell 1 (c := [_, _, _, _]) rfl rfl, ?_⟩
  refine SplitK.of (fun hd => ?_) (fun hd => ?_)
  · exact bad 15 w3 M3 (by decide) (by simp [Dk.step, hd]) (by simp [Dk.stepE, hm, hd])
  have fin : ∀ w4, Keep [] w3 w4 → K [.int .i64 wrong] w4 := by
    intro w4 hw4
    have M4 := M3.call hw4
    by_cases hz : wrong = 0
    case neg => exact bad wrong w4 M4 hz (by simp [Dk.step, hz]) (by simp [Dk.stepE, hm, hd, hz])
    subst hz
    refine hK _ _ fun _ => SplitK.f (by simp) ?_
    rintro w5 rfl
    have M5 := M4.drew
    refine ⟨fun w' => Keep [] w4.drew w', Keep.refl _ _, _, _, _, fun w6 h6 => by simp only [addA_mk]; exact (M5.call h6).cell 1 (c := [_, _, _, _]) rfl rfl, _, _, _, fun w6 h6 => by simp only [addA_mk]; exact (M5.call h6).cell 1 (c := [_, _, _, _]) rfl rfl, ?_⟩
    refine (clone_39 w4.drew ((h.keep0 M5.keep).1) (by omega)).mono ?_
    rintro e w6 ⟨optS, a4, l4, c4, rfl, hoS, MS⟩
    refine ⟨a4, l4, c4, rfl, MS.keep, ?_⟩
    have M6 := M5.join MS
    refine (clone_39 w6 ((h.keep0 M6.keep).2.2.1) (by omega)).mono ?_
    rintro e w7 ⟨optP, a5, l5, c5, rfl, hoP, MP⟩
    refine ⟨a5, l5, c5, rfl, MS.keep.trans0 MP.keep, ?_⟩
    have M7 := (M6.join MP).perm (m' := (b1, .cells #[.slice none 0 0, .slice none 0 0, .int .i64 0, .bool false] 24 (0, 0)) :: (b, .cells #[.slice a l c, .slice a1 l1 c1, .int .i64 d.fuse, .bool d.dead] 24 (0, 0)) :: (optS ++ optP)) (by
      refine List.perm_append_comm.trans ?_
      rw [List.append_assoc]
      exact List.perm_append_comm_assoc _ [_, _] _)
    simp only [addA_mk, Nat.zero_add]
    refine M7.stK 1 (off := 0) (c := [_, _, _, _]) rfl (by simp) rfl fun w8 M8 => ?_
    refine M8.stK 1 (off := 1) (c := [_, _, _, _]) rfl (by simp) rfl fun w9 M9 => ?_
    simp only [spliceL, List.set_cons_zero, List.set_cons_succ] at M8 M9
    refine ⟨_, M9.cell 1 (c := [_, _, _, _]) rfl rfl, ?_⟩
    refine SplitK.of (fun h0 => ?_) (fun h0 => ?_)
    · simp at h0
      refine M9.stK 1 (off := 3) (c := [_, _, _, _]) rfl (by simp) rfl fun w10 M10 => ?_
      refine ⟨_, _, _, _, _, _, _, _, M10.cells 1 (c := [_, _, _, _]) rfl, ?_⟩
      refine M10.stK 0 (off := 0) (c := [_, _, _, _]) rfl (by simp) rfl fun w11 M11 => ?_
      refine ⟨_, _, _, _, _, _, _, _, M11.cells 0 (c := [_, _, _, _]) rfl, ?_⟩
      have es : d.step 0 f = ⟨d.S, d.P, 0, true⟩ := by simp [Dk.step, hm, hd, h0]
      have ee : d.stepE 0 = 15 := by simp [Dk.stepE, hm, hd, h0]
      rw [es, ee]
      refine ⟨_, _, _, _, _, _, by simp only [h0]; rfl, ?_, M11.keep⟩
      have fS := OwnM.fresh (m := [_, _] ++ optP) hoS (M11.perm (List.perm_append_comm_assoc [_, _] _ _))
      have fP := OwnM.fresh (m := _) hoP (M11.perm (List.perm_append_comm (l₁ := [_, _] ++ optS)))
      exact (fS.1.and fP.1).imp fun w' h => ⟨h.1, fS.2, h.2, fP.2⟩
    · simp at h0
      intro K1 hK1
      have go : ∀ w10, Mem w [] ((b1, .cells ([.slice none 0 0, .slice none 0 0, .int .i64 0, .bool false] : List Value).toArray 24 (0, 0)) ::
          (b, .cells ([.slice a4 l4 c4, .slice a5 l5 c5, .int .i64 (if 0 < d.fuse then d.fuse - 1 else d.fuse), .bool false] : List Value).toArray 24 (0, 0)) :: (optS ++ optP)) (fun _ => True) w10 → K1 [] w10 := by
        intro w10 M10
        refine hK1 _ fun _ => ?_
        have hdo := hf hm w10 b optS optP a4 l4 c4 a5 l5 c5 [(b1, .cells ([.slice none 0 0, .slice none 0 0, .int .i64 0, .bool false] : List Value).toArray 24 (0, 0))] (fun _ => True) _ hoS hoP (M10.perm (List.Perm.swap _ _ _))
        refine FnK.mono hdo ?_
        rintro e w11 ⟨rfl, a6, l6, c6, a7, l7, c7, M11⟩
        refine ⟨rfl, _, _, _, _, _, _, _, _, M11.cells 0 (c := [_, _, _, _]) rfl, ?_⟩
        refine M11.stK 1 (off := 0) (c := [_, _, _, _]) rfl (by simp) rfl fun w12 M12 => ?_
        refine ⟨_, _, _, _, _, _, _, _, M12.cells 1 (c := [_, _, _, _]) rfl, ?_⟩
        have es : d.step 0 f = ⟨(f d).S, (f d).P, if 0 < d.fuse then d.fuse - 1 else d.fuse, false⟩ := by simp [Dk.step, hm, hd, h0]
        have ee : d.stepE 0 = 0 := by simp [Dk.stepE, hm, hd, h0]
        rw [es, ee]
        exact ⟨_, _, _, _, _, _, rfl, M12.now.2, M12.keep⟩
      refine ⟨_, M9.cell 1 (c := [_, _, _, _]) rfl rfl, ?_⟩
      refine SplitK.of (fun hp => ?_) (fun hp => ?_)
      · simp at hp
        refine ⟨_, M9.cell 1 (c := [_, _, _, _]) rfl rfl, ?_⟩
        rw [subI_i64 (by omega) (by omega)]
        refine M9.stK 1 (off := 2) (c := [_, _, _, _]) rfl (by simp) rfl fun w10 M10 => ?_
        refine go w10 ?_
        rw [if_pos hp]
        have hd' : d.dead = false := hd
        rw [hd'] at M10
        exact M10
      · simp at hp
        refine go w9 ?_
        rw [if_neg (by omega)]
        have hd' : d.dead = false := hd
        rw [hd'] at M9
        exact M9
  exact FnK.mono (hw hm w3 M3.keep) fun e w4 ⟨he, hk⟩ => ⟨wrong, he, fin w4 hk⟩

end Go.Proofs.Ytcjlilddhhnikaa
