/-
  A part of the proof: D4.
-/
import Derived.Test.YtcjlilddhhnikaaSxD3
namespace Go.Proofs.Ytcjlilddhhnikaa
open Go Go.Sx
set_option linter.unusedVariables false

theorem same_19 (w : World) {a a1 a2 a3 : Option Addr} {l c l1 c1 l2 c2 l3 c3 : Nat} {d o : Dk} (h : DskAt w a l c a1 l1 c1 d) (h' : DskAt w a2 l2 c2 a3 l3 c3 o) (hb : d.S.length + d.P.length ≤ 1000000) :
    Calls Try.prog 19 #[.agg #[.slice a l c, .slice a1 l1 c1, .int .i64 d.fuse, .bool d.dead], .agg #[.slice a2 l2 c2, .slice a3 l3 c3, .int .i64 o.fuse, .bool o.dead]] w (Ret w (.bool (d.same o))) := by
  refine calls_ret (F19_calls _ _ _ _ _ _ _ _ _ _ _ _ _ _ _ _ _ _ ?_)
  refine (Mem.start w).newK fun b w1 M => ?_
  refine M.newK fun b1 w2 M => ?_
  refine ⟨_, _, _, by simp only [addA_mk]; exact M.cell 1 (c := [_, _, _, _]) rfl rfl, _, _, _, by simp only [addA_mk]; exact M.cell 0 (c := [_, _, _, _]) rfl rfl, ?_⟩
  refine CallK.ret (equal_28 w2 (h.1.keep0 M.keep) (h'.1.keep0 M.keep) (by omega)) fun w3 hw3 => ⟨_, rfl, ?_⟩
  have M3 := M.call hw3
  refine SplitK.of (fun hh => ?_) (fun hh => ?_)
  · refine ⟨_, _, _, by simp only [addA_mk]; exact M3.cell 1 (c := [_, _, _, _]) rfl rfl, _, _, _, by simp only [addA_mk]; exact M3.cell 0 (c := [_, _, _, _]) rfl rfl, ?_⟩
    refine CallK.ret (equal_28 w3 (h.2.2.1.keep0 M3.keep) (h'.2.2.1.keep0 M3.keep) (by omega)) fun w4 hw4 => ⟨_, rfl, ?_⟩
    have M4 := M3.call hw4
    refine SplitK.of (fun hp => ?_) (fun hp => ?_)
    · refine ⟨_, by simp only [addA_mk]; exact M4.cell 1 (c := [_, _, _, _]) rfl rfl, _, by simp only [addA_mk]; exact M4.cell 0 (c := [_, _, _, _]) rfl rfl, ?_⟩
      refine SplitK.of (fun hf => ?_) (fun hf => ?_)
      · refine ⟨_, by simp only [addA_mk]; exact M4.cell 1 (c := [_, _, _, _]) rfl rfl, _, by simp only [addA_mk]; exact M4.cell 0 (c := [_, _, _, _]) rfl rfl, ?_, M4.keep⟩
        simp at hf hh hp
        simp [Dk.same, hf, hh, hp, eqB]
      · refine ⟨?_, M4.keep⟩
        simp at hf hh hp
        simp [Dk.same, hf, hh, hp]
    · refine ⟨?_, M4.keep⟩
      simp at hh hp
      simp [Dk.same, hh, hp]
  · refine ⟨?_, M3.keep⟩
    simp at hh
    simp [Dk.same, hh]

/-- A disk that a call hands back. -/
def RetD (w : World) (d : Dk) (e : Ending) (w' : World) : Prop := ∃ a l c a1 l1 c1, e = .returned (.agg #[.slice a l c, .slice a1 l1 c1, .int .i64 d.fuse, .bool d.dead]) ∧ Fresh w.heap.size w' (fun w => DskAt w a l c a1 l1 c1 d) ∧ Keep [] w w'

/-- A disk and what came of it. -/
def RetE (w : World) (d : Dk) (n : Int) (e : Ending) (w' : World) : Prop := ∃ a l c a1 l1 c1, e = .returned (.tuple #[.agg #[.slice a l c, .slice a1 l1 c1, .int .i64 d.fuse, .bool d.dead], .int .i64 n]) ∧ Fresh w.heap.size w' (fun w => DskAt w a l c a1 l1 c1 d) ∧ Keep [] w w'

theorem calls_retD {P : Program} {f : FuncId} {args : Array Value} {w : World} {d : Dk}
    (h : Calls P f args w fun e w' => ∃ v, e = .returned v ∧ ∃ a l c a1 l1 c1, v = .agg #[.slice a l c, .slice a1 l1 c1, .int .i64 d.fuse, .bool d.dead] ∧ Fresh w.heap.size w' (fun w => DskAt w a l c a1 l1 c1 d) ∧ Keep [] w w') : Calls P f args w (RetD w d) :=
  h.mono fun e w' ⟨v, he, a, l, c, a1, l1, c1, hv, h⟩ => ⟨a, l, c, a1, l1, c1, by rw [he, hv], h⟩

theorem calls_retE {P : Program} {f : FuncId} {args : Array Value} {w : World} {d : Dk} {n : Int}
    (h : Calls P f args w fun e w' => ∃ v, e = .returned v ∧ ∃ a l c a1 l1 c1, v = .tuple #[.agg #[.slice a l c, .slice a1 l1 c1, .int .i64 d.fuse, .bool d.dead], .int .i64 n] ∧ Fresh w.heap.size w' (fun w => DskAt w a l c a1 l1 c1 d) ∧ Keep [] w w') : Calls P f args w (RetE w d n) :=
  h.mono fun e w' ⟨v, he, a, l, c, a1, l1, c1, hv, h⟩ => ⟨a, l, c, a1, l1, c1, by rw [he, hv], h⟩

/-- How many pending records a crash keeps. -/
def keepN (k : Int) (n : Nat) : Nat := min k.toNat n

def Dk.crash (d : Dk) (k fuse : Int) : Dk := if d.may then ⟨d.S ++ d.P.take (keepN k d.P.length), [], fuse, false⟩ else ⟨[], [], fuse, false⟩

theorem crash_21 (w : World) {a a1 : Option Addr} {l c l1 c1 : Nat} {d : Dk} (k fuse : Int) (h : DskAt w a l c a1 l1 c1 d) (hb : d.S.length + d.P.length ≤ 1000000) :
    Calls Try.prog 21 #[.agg #[.slice a l c, .slice a1 l1 c1, .int .i64 d.fuse, .bool d.dead], .int .i64 k, .int .i64 fuse] w (RetD w (d.crash k fuse)) := by
  refine calls_retD (F21_calls _ _ _ _ _ _ _ _ _ _ _ _ ?_)
  refine (Mem.start w).newK fun b w1 M => ?_
  refine M.newK fun b1 w2 M => ?_
  refine ⟨_, _, _, _, _, _, _, _, M.cells 1 (c := [_, _, _, _]) rfl, ?_⟩
  refine CallK.ret (check_18 w2 (h.keep0 M.keep) hb) fun w3 hw3 => ⟨_, rfl, ?_⟩
  have M3 := M.call hw3
  refine SplitK.of (fun hh => ?_) (fun hh => ?_)
  · have hm : d.may = false := by
      cases hd : d.may
      · rfl
      · simp [hd] at hh
    refine CallK.ret (new_20 w3 fuse) fun w4 hw4 => ⟨_, _, _, _, _, _, _, _, rfl, ?_⟩
    have M4 := M3.call hw4
    refine M4.stK 0 (c := [_, _, _, _]) rfl (by simp) rfl fun w5 M5 => ?_
    refine ⟨_, _, _, _, _, _, _, _, M5.cells 0 rfl, ?_⟩
    simp only [Dk.crash, hm]
    exact ⟨_, _, _, _, _, _, rfl, Fresh.always fun w' => ⟨StrsAt.nil, Nat.le_refl _, StrsAt.nil, Nat.le_refl _⟩, M5.keep⟩
  · have hm : d.may = true := by
      cases hd : d.may
      · simp [hd] at hh
      · rfl
    refine ⟨_, _, _, by simp only [addA_mk]; exact M3.cell 1 (c := [_, _, _, _]) rfl rfl, _, _, _, by simp only [addA_mk]; exact M3.cell 1 (c := [_, _, _, _]) rfl rfl, ?_⟩
    have e1 := h.2.2.1.1
    have hle := h.2.2.2
    have ek : minI (maxI k 0) (natI l1) = (keepN k d.P.length : Nat) := by
      rw [← e1]; unfold minI maxI keepN; simp only [natI_eq]; split <;> split <;> omega
    have hkl : keepN k d.P.length ≤ d.P.length := by unfold keepN; omega
    rw [ek]
    refine ⟨by omega, by simp; omega, by omega, by simp, ?_⟩
    simp only [addA_mk, intN_eq, Int.toNat_natCast, subN_eq, Nat.sub_zero, cutA_zero]
    refine M3.stK 1 (off := 1) (c := [_, _, _, _]) rfl (by simp) rfl fun w4 M4 => ?_
    refine ⟨_, _, _, _, _, _, _, _, M4.cells 1 rfl, ?_⟩
    have h4 := h.keep0 M4.keep
    have hp := StrsAt.take h4.2.2.1 (keepN k d.P.length) hkl
    refine (records_16 w4 h4.1 hp (by simp; omega)).mono ?_
    rintro e w5 ⟨a2, l2, c2, rfl, hs, hlc, hK⟩
    refine ⟨a2, l2, c2, rfl, ?_⟩
    have M5 := M4.callFr hK hs
    refine M5.stK 0 (c := [_, _, _, _]) rfl (by simp) rfl fun w6 M6 => ?_
    refine ⟨_, _, _, _, _, _, _, _, M6.cells 0 rfl, ?_⟩
    simp only [Dk.crash, hm]
    refine ⟨_, _, _, _, _, _, rfl, ?_, M6.keep⟩
    exact M6.now.2.imp fun w' h => ⟨h, hlc, StrsAt.nil, Nat.le_refl _⟩

end Go.Proofs.Ytcjlilddhhnikaa
