/-
  A part of the proof: E1.
-/
import Derived.Test.YtcjlilddhhnikaaSxD9
namespace Go.Proofs.Ytcjlilddhhnikaa
open Go Go.Sx
set_option linter.unusedVariables false

theorem refRecords_9 (w : World) {a a1 : Option Addr} {l c l1 c1 : Nat} {n : Int} {bb : Bool} {xs ys : List ByteArray}
    (h1 : StrsAt w a l xs) (h2 : StrsAt w a1 l1 ys) (hb : xs.length + ys.length ≤ 1000000) :
    Calls Try.prog 9 #[.agg #[.slice a l c, .slice a1 l1 c1, .int .i64 n, .bool bb]] w (RetS w (xs ++ ys)) := by
  refine calls_retS (F9_calls _ _ _ _ _ _ _ _ _ _ ?_)
  refine (Mem.start w).newK fun b w1 M => ?_
  have e1 := h1.1
  have e2 := h2.1
  refine ⟨_, _, _, M.cellA 0 (c := [_, _, _, _]) rfl rfl, _, (h1.keep0 M.keep).old.1, (h1.keep0 M.keep).old.2, ?_⟩
  refine Mem.appK (opt := []) (m := [_]) M OwnM.nil (by simp [e1]) (strs_isCell xs) (by simp; omega) (by simp; omega) ?_
  intro a3 l3 c3 opt3 w3 ho M hl3
  refine ⟨_, _, _, (M.perm List.perm_append_comm).cellA 0 (c := [_, _, _, _]) rfl rfl, _, (h2.keep0 M.keep).old.1, (h2.keep0 M.keep).old.2, ?_⟩
  refine Mem.appK M ho (by simp [e2]) (strs_isCell ys) (by simp; omega) (by simp; omega) ?_
  intro a4 l4 c4 opt4 w4 ho M hl4
  have := OwnM.fresh (xs := xs ++ ys) (by simpa using ho) M
  exact ⟨_, _, _, rfl, this.1, this.2, M.keep⟩

theorem of_10 (w : World) {a a1 : Option Addr} {l c l1 c1 : Nat} {n : Int} {bb : Bool} :
    Calls Try.prog 10 #[.agg #[.slice a l c, .slice a1 l1 c1, .int .i64 n, .bool bb]] w (Ret w (.agg #[.slice a l c, .slice a1 l1 c1, .int .i64 n, .bool bb])) := by
  refine calls_ret (F10_calls _ _ _ _ _ _ _ _ _ _ ?_)
  refine (Mem.start w).newK fun b w1 M => ?_
  refine M.newK fun b1 w2 M => ?_
  refine ⟨_, _, _, M.cellA 1 (c := [_, _, _, _]) rfl rfl, _, _, _, M.cellA 1 (c := [_, _, _, _]) rfl rfl, _, M.cellA 1 (c := [_, _, _, _]) rfl rfl, _, M.cellA 1 (c := [_, _, _, _]) rfl rfl, ?_⟩
  refine M.stK 0 (c := [_, _, _, _]) rfl (by simp) rfl fun w3 M => ?_
  exact ⟨_, _, _, _, _, _, _, _, M.cells 0 (c := [_, _, _, _]) rfl, rfl, M.keep⟩

theorem refCheck_17 (w : World) {a a1 : Option Addr} {l c l1 c1 : Nat} {d : Dk} (h : DskAt w a l c a1 l1 c1 d) (hb : d.S.length + d.P.length ≤ 1000000) :
    Calls Try.prog 17 #[.agg #[.slice a l c, .slice a1 l1 c1, .int .i64 d.fuse, .bool d.dead]] w (Ret w (.bool d.may)) := by
  refine calls_ret (F17_calls _ _ _ _ _ _ _ _ _ _ ?_)
  refine (Mem.start w).newK fun b w1 M => ?_
  refine ⟨_, _, _, _, _, _, _, _, M.cells 0 (c := [_, _, _, _]) rfl, ?_⟩
  refine (refRecords_9 w1 (h.1.keep0 M.keep) (h.2.2.1.keep0 M.keep) hb).mono ?_
  rintro e w2 ⟨a2, l2, c2, rfl, hr, hlc, hK⟩
  refine ⟨a2, l2, c2, rfl, ?_⟩
  replace M := M.call hK
  have hs := hr.now
  have hl := hs.1
  have hlb : (d.S ++ d.P).length ≤ 1000000 := by simp; omega
  refine ⟨fun n vs w1 => ∃ k : Nat, vs = [.int .i64 (k : Int)] ∧ k + n = (d.S ++ d.P).length ∧ ((d.S ++ d.P).take k).any isLong = false ∧ Keep [] w2 w1, ⟨_, 0, rfl, Nat.zero_add _, by simp, Keep.refl _ _⟩, ?_⟩
  rintro n vs w3 ⟨k, rfl, hk, heq, hK3⟩
  refine ⟨k, rfl, fun _ => SplitK.of (fun h => ?_) (fun h => ?_)⟩
  · simp only [ltI_t, natI_eq, Int.ofNat_lt] at h
    have hkx : k < (d.S ++ d.P).length := by omega
    obtain ⟨p, hp, hpc⟩ := hs.get hkx
    refine ⟨by omega, by simp only [natI_eq, Int.ofNat_lt]; exact h, SomeK.of p hp ⟨_, by rw [addA_int]; exact hK3.cell hpc (by simp), ?_⟩⟩
    have hll : ltI 1048576 (natI (sizeS (d.S ++ d.P)[k])) = isLong (d.S ++ d.P)[k] := by
      rw [Bool.eq_iff_iff]; simp only [ltI_t, natI_eq, sizeS_eq, isLong, decide_eq_true_eq]; omega
    rw [hll]
    refine SplitK.of (fun hh => ?_) (fun hh => ?_)
    · refine ⟨?_, M.keep.trans0 hK3⟩
      have : (d.S ++ d.P).any isLong = true := List.any_eq_true.2 ⟨_, List.getElem_mem hkx, hh⟩
      simp only [Dk.may, this]
      simp
    · refine ⟨n - 1, by omega, k + 1, by rw [addI_one (by omega)], by omega, ?_, hK3⟩
      rw [List.take_succ_eq_append_getElem hkx, List.any_append, heq]
      simpa using hh
  · simp only [ltI_f, natI_eq, Int.ofNat_lt] at h
    have : k = (d.S ++ d.P).length := by omega
    subst this
    rw [List.take_of_length_le (Nat.le_refl _)] at heq
    refine ⟨?_, M.keep.trans0 hK3⟩
    simp only [Dk.may, heq]
    congr 1
    rw [Bool.eq_iff_iff]
    simp only [leI_t, natI_eq, hl, Bool.not_false, Bool.and_true, decide_eq_true_eq]
    omega

theorem refSame_14 (w : World) {a a1 a2 a3 : Option Addr} {l c l1 c1 l2 c2 l3 c3 : Nat} {d o : Dk} (h : DskAt w a l c a1 l1 c1 d) (h' : DskAt w a2 l2 c2 a3 l3 c3 o) (hb : d.S.length ≤ 1000000 ∧ d.P.length ≤ 1000000) :
    Calls Try.prog 14 #[.agg #[.slice a l c, .slice a1 l1 c1, .int .i64 d.fuse, .bool d.dead], .agg #[.slice a2 l2 c2, .slice a3 l3 c3, .int .i64 o.fuse, .bool o.dead]] w (Ret w (.bool (d.same o))) := by
  refine calls_ret (F14_calls _ _ _ _ _ _ _ _ _ _ _ _ _ _ _ _ _ _ ?_)
  refine (Mem.start w).newK fun b w1 M => ?_
  refine M.newK fun b1 w2 M => ?_
  refine ⟨_, _, _, M.cellA 1 (c := [_, _, _, _]) rfl rfl, _, _, _, M.cellA 0 (c := [_, _, _, _]) rfl rfl, ?_⟩
  refine CallK.ret (texts_any w2 (h.1.keep0 M.keep) (h'.1.keep0 M.keep) (by omega)) fun w3 hw3 => ⟨_, rfl, ?_⟩
  have M3 := M.call hw3
  refine SplitK.of (fun hh => ?_) (fun hh => ?_)
  · refine ⟨_, _, _, M3.cellA 1 (c := [_, _, _, _]) rfl rfl, _, _, _, M3.cellA 0 (c := [_, _, _, _]) rfl rfl, ?_⟩
    refine CallK.ret (texts_any w3 (h.2.2.1.keep0 M3.keep) (h'.2.2.1.keep0 M3.keep) (by omega)) fun w4 hw4 => ⟨_, rfl, ?_⟩
    have M4 := M3.call hw4
    refine SplitK.of (fun hp => ?_) (fun hp => ?_)
    · refine ⟨_, M4.cellA 1 (c := [_, _, _, _]) rfl rfl, _, M4.cellA 0 (c := [_, _, _, _]) rfl rfl, ?_⟩
      refine SplitK.of (fun hf => ?_) (fun hf => ?_)
      · refine ⟨_, M4.cellA 1 (c := [_, _, _, _]) rfl rfl, _, M4.cellA 0 (c := [_, _, _, _]) rfl rfl, ?_, M4.keep⟩
        simp at hf hh hp
        simp [Dk.same, hf, hh, hp, eqB]
      · refine ⟨?_, M4.keep⟩
        simp at hf hh hp
        simp [Dk.same, hf, hh, hp]
    · refine ⟨?_, M4.keep⟩
      simp at hh hp
      simp [Dk.same, hh, hp]
  · refine ⟨?_, M3.keep⟩
    simp at hh
    simp [Dk.same, hh]

theorem refCrash_13 (w : World) {a a1 : Option Addr} {l c l1 c1 : Nat} {d : Dk} (k fuse : Int) (h : DskAt w a l c a1 l1 c1 d) (hb : d.S.length + d.P.length ≤ 1000000) :
    Calls Try.prog 13 #[.agg #[.slice a l c, .slice a1 l1 c1, .int .i64 d.fuse, .bool d.dead], .int .i64 k, .int .i64 fuse] w (RetD w (d.crash k fuse)) := by
  refine calls_retD (F13_calls _ _ _ _ _ _ _ _ _ _ _ _ ?_)
  refine (Mem.start w).newK fun b w1 M => ?_
  refine M.newK fun b1 w2 M => ?_
  refine ⟨_, _, _, _, _, _, _, _, M.cells 1 (c := [_, _, _, _]) rfl, ?_⟩
  refine CallK.ret (refCheck_17 w2 (h.keep0 M.keep) hb) fun w3 hw3 => ⟨_, rfl, ?_⟩
  have M3 := M.call hw3
  refine SplitK.of (fun hh => ?_) (fun hh => ?_)
  · have hm : d.may = false := by simpa using hh
    refine M3.stK 0 (c := [_, _, _, _]) rfl (by simp) rfl fun w5 M5 => ?_
    refine ⟨_, _, _, _, _, _, _, _, M5.cells 0 (c := [_, _, _, _]) rfl, ?_⟩
    simp only [Dk.crash, hm]
    exact ⟨_, _, _, _, _, _, rfl, Fresh.always fun w' => ⟨StrsAt.nil, Nat.le_refl _, StrsAt.nil, Nat.le_refl _⟩, M5.keep⟩
  · have hm : d.may = true := by simpa using hh
    refine ⟨_, _, _, M3.cellA 1 (c := [_, _, _, _]) rfl rfl, _, _, _, M3.cellA 1 (c := [_, _, _, _]) rfl rfl, ?_⟩
    have e1 := h.2.2.1.1
    have hle := h.2.2.2
    have ek : minI (maxI k 0) (natI l1) = (keepN k d.P.length : Nat) := by
      rw [← e1]; unfold minI maxI keepN; simp only [natI_eq]; split <;> split <;> omega
    have hkl : keepN k d.P.length ≤ d.P.length := by unfold keepN; omega
    rw [ek]
    refine ⟨by omega, by simp; omega, ?_⟩
    simp only [intN_eq, Int.toNat_natCast, subN_eq, Nat.sub_zero, cutA_zero]
    refine M3.stA 1 (off := 1) (c := [_, _, _, _]) rfl (by simp) rfl fun w4 M4 => ?_
    refine ⟨_, _, _, _, _, _, _, _, M4.cells 1 (c := [_, _, _, _]) rfl, ?_⟩
    have h4 := h.keep0 M4.keep
    have hp := StrsAt.take h4.2.2.1 (keepN k d.P.length) hkl
    refine (refRecords_9 w4 h4.1 hp (by simp; omega)).mono ?_
    rintro e w5 ⟨a2, l2, c2, rfl, hs, hlc, hK⟩
    refine ⟨a2, l2, c2, rfl, ?_⟩
    have M5 := M4.callFr hK hs
    refine M5.stK 0 (c := [_, _, _, _]) rfl (by simp) rfl fun w6 M6 => ?_
    refine ⟨_, _, _, _, _, _, _, _, M6.cells 0 (c := [_, _, _, _]) rfl, ?_⟩
    simp only [Dk.crash, hm]
    refine ⟨_, _, _, _, _, _, rfl, ?_, M6.keep⟩
    exact M6.now.2.imp fun w' h => ⟨h, hlc, StrsAt.nil, Nat.le_refl _⟩

end Go.Proofs.Ytcjlilddhhnikaa
