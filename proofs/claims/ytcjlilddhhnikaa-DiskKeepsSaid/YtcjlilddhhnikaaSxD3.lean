/-
  A part of the proof: D3.
-/
import Derived.Test.YtcjlilddhhnikaaSxD2
namespace Go.Proofs.Ytcjlilddhhnikaa
open Go Go.Sx
set_option linter.unusedVariables false

/-- A disk. -/
structure Dk where
  S : List ByteArray
  P : List ByteArray
  fuse : Int
  dead : Bool

theorem concat_25 (w : World) {b : Nat} {a a1 : Option Addr} {l c l1 c1 : Nat} {xs ys : List ByteArray} (hc : CellsAt w ⟨b, 0, none⟩ [.slice a l c, .slice a1 l1 c1])
    (h1 : StrsAt w a l xs) (h2 : StrsAt w a1 l1 ys) (hb : xs.length + ys.length ≤ 1000000) :
    Calls Try.prog 25 #[.slice (some ⟨b, 0, none⟩) 2 2] w (RetS w (xs ++ ys)) := by
  refine calls_retS (F25_calls _ _ _ _ _ ?_)
  have e1 := h1.1; have e2 := h2.1
  refine ⟨fun n vs w1 => ∃ (k : Nat) (s : Int), vs = [.int .i64 s, .int .i64 k] ∧ k + n = 2 ∧ (k = 0 → s = 0) ∧ (k = 1 → s = l) ∧ (k = 2 → s = (l + l1 : Nat)) ∧ Keep [] w w1, ⟨2, 0, 0, rfl, by omega, by simp, by simp, by simp, Keep.refl _ _⟩, ?_⟩
  rintro n vs w1 ⟨k, s, rfl, hk, hs0, hs1, hs2, hK⟩
  refine ⟨s, k, rfl, fun _ => SplitK.of (fun h => ?_) (fun h => ?_)⟩
  · simp at h
    intro K hKK
    refine ⟨by omega, by simp; omega, ?_⟩
    have hc' : CellsAt w1 ⟨b, 0, none⟩ [.slice a l c, .slice a1 l1 c1] := hc.keep hK (by simp)
    rcases (by omega : k = 0 ∨ k = 1) with rfl | rfl
    · have := hs0 rfl; subst this
      refine ⟨a, l, c, hc' 0 _ rfl, ?_⟩
      have e0 : addI .i64 0 (natI l) = l := by rw [addI_i64 (by simp) (by simp; omega)]; simp
      rw [e0]
      refine SplitK.f (by simp) ?_
      exact hKK _ _ fun _ => ⟨n - 1, by omega, 1, l, by rw [addI_one (k := 0) (by omega)], by omega, by simp, by simp, by simp, hK⟩
    · have := hs1 rfl; subst this
      refine ⟨a1, l1, c1, hc' 1 _ rfl, ?_⟩
      have e0 : addI .i64 l (natI l1) = (l + l1 : Nat) := by rw [addI_i64 (by simp; omega) (by simp; omega)]; simp
      rw [e0]
      refine SplitK.f (by simp; omega) ?_
      exact hKK _ _ fun _ => ⟨n - 1, by omega, 2, (l + l1 : Nat), by rw [addI_one (k := 1) (by omega)], by omega, by simp, by simp, by simp, hK⟩
  · simp at h
    have : k = 2 := by omega
    subst this
    have := hs2 rfl; subst this
    refine (grow_37 w1 (a := none) (l := 0) (c := 0) (n := l + l1) (by omega)).mono ?_
    rintro e w2 ⟨opt, a', c', rfl, ho, M⟩
    refine ⟨a', 0, c', rfl, ?_⟩
    refine ⟨fun n vs w3 => ∃ (k : Nat) (opt : List (Nat × Obj)) (a' : Option Addr) (l' c' : Nat), vs = [.slice a' l' c', .int .i64 k] ∧ k + n = 2 ∧ OwnM opt 9 a' l' c' ((([xs, ys].take k).flatten).map Value.string) ∧ Mem w1 [] opt (fun _ => True) w3,
      ⟨2, 0, opt, a', 0, c', rfl, by omega, by simpa using ho, M⟩, ?_⟩
    rintro n vs w3 ⟨k, opt, a', l', c', rfl, hk, ho, M⟩
    refine ⟨a', l', c', k, rfl, fun _ => SplitK.of (fun h => ?_) (fun h => ?_)⟩
    · simp at h
      refine ⟨by omega, by simp; omega, ?_⟩
      have hK3 : Keep [] w w3 := hK.trans0 M.keep
      have hc' : CellsAt w3 ⟨b, 0, none⟩ [.slice a l c, .slice a1 l1 c1] := hc.keep hK3 (by simp)
      rcases (by omega : k = 0 ∨ k = 1) with rfl | rfl
      · refine ⟨a, l, c, hc' 0 _ rfl, _, (h1.keep0 hK3).old.1, (h1.keep0 hK3).old.2, ?_⟩
        refine Mem.appK (opt := opt) (m := []) (by simpa using M) ho (by simp [e1]) (strs_isCell xs) (by simp; omega) (by simp; omega) ?_
        intro a2 l2 c2 opt2 w4 ho2 M2 hl2
        refine ⟨n - 1, by omega, 1, opt2, a2, l2, c2, ?_, by omega, by simpa using ho2, by simpa using M2⟩
        rw [addI_i64 (by omega) (by omega)]; rfl
      · refine ⟨a1, l1, c1, hc' 1 _ rfl, _, (h2.keep0 hK3).old.1, (h2.keep0 hK3).old.2, ?_⟩
        refine Mem.appK (opt := opt) (m := []) (by simpa using M) ho (by simp [e2]) (strs_isCell ys) (by simp; omega) (by simp; omega) ?_
        intro a2 l2 c2 opt2 w4 ho2 M2 hl2
        refine ⟨n - 1, by omega, 2, opt2, a2, l2, c2, ?_, by omega, by simpa using ho2, by simpa using M2⟩
        rw [addI_i64 (by omega) (by omega)]; rfl
    · simp at h
      have : k = 2 := by omega
      subst this
      have := OwnM.fresh (xs := xs ++ ys) (by simpa using ho) (m := []) (by simpa using M)
      exact ⟨_, _, _, rfl, this.1.mono hK.size, this.2, hK.trans0 M.keep⟩

/-- A value is a disk of that row of records. -/
def DskAt (w : World) (a : Option Addr) (l c : Nat) (a1 : Option Addr) (l1 c1 : Nat) (d : Dk) : Prop :=
  StrsAt w a l d.S ∧ l ≤ c ∧ StrsAt w a1 l1 d.P ∧ l1 ≤ c1

theorem DskAt.keep0 {w w' : World} {a a1 : Option Addr} {l c l1 c1 : Nat} {d : Dk} (h : DskAt w a l c a1 l1 c1 d) (hk : Keep [] w w') : DskAt w' a l c a1 l1 c1 d :=
  ⟨h.1.keep0 hk, h.2.1, h.2.2.1.keep0 hk, h.2.2.2⟩

theorem records_16 (w : World) {a a1 : Option Addr} {l c l1 c1 : Nat} {n : Int} {bb : Bool} {xs ys : List ByteArray}
    (h1 : StrsAt w a l xs) (h2 : StrsAt w a1 l1 ys) (hb : xs.length + ys.length ≤ 1000000) :
    Calls Try.prog 16 #[.agg #[.slice a l c, .slice a1 l1 c1, .int .i64 n, .bool bb]] w (RetS w (xs ++ ys)) := by
  refine calls_retS (F16_calls _ _ _ _ _ _ _ _ _ _ ?_)
  refine (Mem.start w).newK fun b w1 M => ?_
  refine ⟨_, _, _, by simp only [addA_mk]; exact M.cell 0 (c := [_, _, _, _]) rfl rfl, _, _, _, by simp only [addA_mk]; exact M.cell 0 (c := [_, _, _, _]) rfl rfl, ?_⟩
  refine M.newK fun b1 w2 M => ?_
  refine (concat_25 w2 (M.cells 0 (c := [_, _]) rfl) (h1.keep0 M.drop.keep) (h2.keep0 M.drop.keep) hb).mono ?_
  rintro e w3 ⟨a2, l2, c2, rfl, hs, hlc, hK⟩
  exact ⟨a2, l2, c2, rfl, a2, l2, c2, rfl, hs.mono M.keep.size, hlc, M.keep.trans0 hK⟩

/-- May a disk be? -/
def Dk.may (d : Dk) : Bool := decide ((d.S ++ d.P).length ≤ 500) && !(d.S ++ d.P).any isLong

theorem check_18 (w : World) {a a1 : Option Addr} {l c l1 c1 : Nat} {d : Dk} (h : DskAt w a l c a1 l1 c1 d) (hb : d.S.length + d.P.length ≤ 1000000) :
    Calls Try.prog 18 #[.agg #[.slice a l c, .slice a1 l1 c1, .int .i64 d.fuse, .bool d.dead]] w (Ret w (.int .i64 (if d.may then 0 else 1))) := by
  refine calls_ret (F18_calls _ _ _ _ _ _ _ _ _ _ ?_)
  refine (Mem.start w).newK fun b w1 M => ?_
  refine ⟨_, _, _, _, _, _, _, _, M.cells 0 (c := [_, _, _, _]) rfl, ?_⟩
  refine (records_16 w1 (h.1.keep0 M.drop.keep) (h.2.2.1.keep0 M.drop.keep) hb).mono ?_
  rintro e w2 ⟨a2, l2, c2, rfl, hs, hlc, hK⟩
  refine ⟨a2, l2, c2, rfl, ?_⟩
  have hK2 : Keep [] w w2 := M.keep.trans0 hK
  intro K hKK
  have hs := hs.now
  have hl := hs.1
  refine SplitK.of (fun h => ?_) (fun h => ?_)
  · simp at h
    refine hKK _ _ fun _ => ?_
    refine SplitK.t rfl ⟨?_, hK2⟩
    have : d.may = false := by simp only [Dk.may, Bool.and_eq_false_iff]; left; simp; simp at hl; omega
    simp [this]
  · simp at h
    refine CallK.ret (contains_26 w2 hs (by simp; omega)) fun w3 hw3 => ⟨_, rfl, hKK _ _ fun _ => ?_⟩
    have hd : decide ((d.S ++ d.P).length ≤ 500) = true := by simp; simp at hl; omega
    refine SplitK.of (fun h => ?_) (fun h => ?_)
    · exact ⟨by simp only [Dk.may, hd, h]; rfl, hK2.trans0 hw3⟩
    · exact ⟨by simp only [Dk.may, hd, h]; rfl, hK2.trans0 hw3⟩

/-- Are two alike? -/
def Dk.same (d o : Dk) : Bool := decide (d.S = o.S) && decide (d.P = o.P) && decide (d.fuse = o.fuse) && (d.dead == o.dead)

theorem new_20 (w : World) (n : Int) : Calls Try.prog 20 #[.int .i64 n] w (Ret w (.agg #[.slice none 0 0, .slice none 0 0, .int .i64 n, .bool false])) := by
  refine calls_ret (F20_calls _ _ _ ?_)
  refine (Mem.start w).newK fun b w1 M => ?_
  refine M.stK 0 (c := [_, _, _, _]) rfl (by simp) rfl fun w2 M => ?_
  exact ⟨_, _, _, _, _, _, _, _, M.cells 0 rfl, rfl, M.keep⟩

end Go.Proofs.Ytcjlilddhhnikaa
