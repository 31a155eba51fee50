/-
  A part of the proof: D2.
-/
import Derived.Test.YtcjlilddhhnikaaSxD1
namespace Go.Proofs.Ytcjlilddhhnikaa
open Go Go.Sx
set_option linter.unusedVariables false

theorem equal_28 (w : World) {a a' : Option Addr} {l l' c c' : Nat} {xs ys : List ByteArray} (h1 : StrsAt w a l xs) (h2 : StrsAt w a' l' ys) (hb : xs.length ≤ 4611686018427387904) :
    Calls Try.prog 28 #[.slice a l c, .slice a' l' c'] w (Ret w (.bool (decide (xs = ys)))) := by
  refine calls_ret (F28_calls _ _ _ _ _ _ _ _ ?_)
  have h := F15_eq a l c a' l' c' w (fun v' w' => v' = .bool (decide (xs = ys)) ∧ Keep [] w w')
  have e1 := h1.1; have e2 := h2.1
  refine SplitK.of (fun h => ?_) (fun h => ?_)
  · simp at h
    refine ⟨?_, Keep.refl _ _⟩
    have : xs ≠ ys := fun e => h (by rw [e1, e2, e])
    simp [this]
  · simp at h
    have hlen : xs.length = ys.length := by omega
    refine ⟨fun n vs w1 => ∃ k : Nat, vs = [.int .i64 (k : Int)] ∧ k + n = xs.length ∧ xs.take k = ys.take k ∧ Keep [] w w1, ⟨xs.length, 0, rfl, by omega, by simp, Keep.refl _ _⟩, ?_⟩
    rintro n vs w1 ⟨k, rfl, hk, heq, hK⟩
    refine ⟨k, rfl, fun _ => SplitK.of (fun h => ?_) (fun h => ?_)⟩
    · simp at h
      have hkx : k < xs.length := by omega
      have hky : k < ys.length := by omega
      obtain ⟨p, hp, hpc⟩ := h1.get hkx
      obtain ⟨q, hq, hqc⟩ := h2.get hky
      intro w2 hw2
      subst hw2
      refine ⟨fun w' => Keep [] w w', hK.drew, by omega, by simp; omega, SomeK.of p hp ⟨_, fun w3 hw3 => by rw [addA_int]; exact hw3.cell hpc (by simp), by omega, by simp; omega, SomeK.of q hq ⟨_, fun w3 hw3 => by rw [addA_int]; exact hw3.cell hqc (by simp), ?_⟩⟩⟩
      refine SplitK.of (fun h => ?_) (fun h => ?_)
      · simp at h
        refine ⟨?_, hK.drew⟩
        have : xs ≠ ys := fun e => h (by subst e; rfl)
        simp [this]
      · simp at h
        refine ⟨n - 1, by omega, k + 1, ?_, by omega, ?_, hK.drew⟩
        · rw [addI_i64 (by omega) (by omega)]; rfl
        · rw [List.take_succ_eq_append_getElem hkx, List.take_succ_eq_append_getElem hky, heq, h]
    · simp at h
      have : k = xs.length := by omega
      subst this
      refine ⟨?_, hK⟩
      have : xs = ys := by rw [List.take_of_length_le (by omega), List.take_of_length_le (by omega)] at heq; exact heq
      simp [this]

def isLong (s : ByteArray) : Bool := decide (1048576 < s.size)

theorem long_27 (w : World) (s : ByteArray) : Calls Try.prog 27 #[.string s] w (Ret w (.bool (isLong s))) := by
  refine calls_ret (F27_calls _ _ _ ?_)
  refine ⟨?_, Keep.refl _ _⟩
  congr 1
  rw [Bool.eq_iff_iff]
  simp [isLong, sizeS]
  omega

theorem index_38 (w : World) {a : Option Addr} {l c : Nat} {xs : List ByteArray} (h1 : StrsAt w a l xs) (hb : xs.length ≤ 4611686018427387904) :
    Calls Try.prog 38 #[.slice a l c, .func (.func 27) #[] #[]] w (fun e w' => ∃ n : Int, e = .returned (.int .i64 n) ∧ (0 ≤ n ↔ xs.any isLong = true) ∧ Keep [] w w') := by
  refine (F38_calls _ _ _ _ w (fun v w' => ∃ n : Int, v = .int .i64 n ∧ (0 ≤ n ↔ xs.any isLong = true) ∧ Keep [] w w') ?_).mono (fun e w' ⟨v, he, n, hv, h⟩ => ⟨n, by rw [he, hv], h⟩)
  have e1 := h1.1
  refine ⟨fun n vs w1 => ∃ k : Nat, vs = [.int .i64 (k : Int)] ∧ k + n = xs.length ∧ (xs.take k).any isLong = false ∧ Keep [] w w1, ⟨xs.length, 0, rfl, by omega, by simp, Keep.refl _ _⟩, ?_⟩
  rintro n vs w1 ⟨k, rfl, hk, heq, hK⟩
  refine ⟨k, rfl, fun _ => SplitK.of (fun h => ?_) (fun h => ?_)⟩
  · simp at h
    have hkx : k < xs.length := by omega
    obtain ⟨p, hp, hpc⟩ := h1.get hkx
    refine ⟨by omega, by simp; omega, SomeK.of p hp ⟨_, by rw [addA_int]; exact hK.cell hpc (by simp), ?_⟩⟩
    refine CallK.ret (v := .bool (isLong xs[k])) (long_27 w1 xs[k]) fun w2 hw2 => ⟨isLong xs[k], rfl, SplitK.of (fun h => ?_) (fun h => ?_)⟩
    · exact ⟨k, rfl, ⟨fun _ => List.any_eq_true.2 ⟨xs[k], List.getElem_mem hkx, h⟩, fun _ => by omega⟩, hK.trans0 hw2⟩
    · refine ⟨n - 1, by omega, k + 1, ?_, by omega, ?_, hK.trans0 hw2⟩
      · rw [addI_i64 (by omega) (by omega)]; rfl
      · rw [List.take_succ_eq_append_getElem hkx, List.any_append, heq]; simpa using h
  · simp at h
    have : k = xs.length := by omega
    subst this
    rw [List.take_of_length_le (by omega)] at heq
    exact ⟨-1, rfl, by simp [heq], hK⟩

theorem contains_26 (w : World) {a : Option Addr} {l c : Nat} {xs : List ByteArray} (h1 : StrsAt w a l xs) (hb : xs.length ≤ 4611686018427387904) :
    Calls Try.prog 26 #[.slice a l c, .func (.func 27) #[] #[]] w (Ret w (.bool (xs.any isLong))) := by
  refine calls_ret (F26_calls _ _ _ _ _ _ ?_)
  refine (index_38 w h1 hb).mono ?_
  rintro e w' ⟨n, rfl, hn, hK⟩
  refine ⟨n, rfl, ?_, hK⟩
  congr 1
  rw [Bool.eq_iff_iff]
  simp
  simpa using hn

theorem clone_39 (w : World) {a : Option Addr} {l c : Nat} {xs : List ByteArray} (h1 : StrsAt w a l xs) (hb : xs.length ≤ 1000000) :
    Calls Try.prog 39 #[.slice a l c] w (fun e w' => ∃ opt a' l' c', e = .returned (.slice a' l' c') ∧ OwnM opt 9 a' l' c' (xs.map Value.string) ∧ Mem w [] opt (fun _ => True) w') := by
  refine (F39_calls _ _ _ w (fun v w' => ∃ opt a' l' c', v = .slice a' l' c' ∧ OwnM opt 9 a' l' c' (xs.map Value.string) ∧ Mem w [] opt (fun _ => True) w') ?_).mono (fun e w' ⟨v, he, o, a, l, c, hv, h⟩ => ⟨o, a, l, c, by rw [he, hv], h⟩)
  refine SplitK.of (fun h => ?_) (fun h => ?_)
  · have : xs = [] := by
      rcases h1.2 with h | ⟨p, hp, _⟩
      · simpa using h
      · subst hp; simp at h
    subst this
    exact ⟨[], _, _, _, rfl, OwnM.nil, Mem.start w⟩
  · refine (Mem.start w).newK fun b w1 M => ?_
    refine ⟨_, (h1.keep0 M.tail.keep).old.1, (h1.keep0 M.tail.keep).old.2, ?_⟩
    have e1 := h1.1
    refine Mem.appK (opt := [_]) (m := []) M (OwnM.empty b) (by simp [e1]) (strs_isCell xs) (by simp; omega) (by simp; omega) ?_
    intro a' l' c' opt' w' ho M' hl
    exact ⟨opt', _, _, _, rfl, ho, by simpa using M'⟩

theorem grow_37 (w : World) {a : Option Addr} {l c : Nat} {n : Nat} (hn : n ≤ 1000000) :
    Calls Try.prog 37 #[.slice none 0 0, .int .i64 n] w (fun e w' => ∃ opt a c, e = .returned (.slice a 0 c) ∧ OwnM opt 9 a 0 c [] ∧ Mem w [] opt (fun _ => True) w') := by
  refine (F37_calls _ _ _ _ w (fun v w' => ∃ opt a c, v = .slice a 0 c ∧ OwnM opt 9 a 0 c [] ∧ Mem w [] opt (fun _ => True) w') ?_).mono (fun e w' ⟨v, he, o, a, c, hv, h⟩ => ⟨o, a, c, by rw [he, hv], h⟩)
  intro K hK
  refine SplitK.f (by simp) ?_
  refine hK w fun _ => ?_
  intro K1 hK1
  have e0 : subI .i64 (n : Int) (subI .i64 (natI 0) (natI 0)) = n := by rw [subI_i64 (a := natI 0) (by simp) (by simp)]; simp; rw [subI_i64 (by omega) (by omega)]; simp
  rw [e0]
  refine SplitK.of (fun h => ?_) (fun h => ?_)
  · refine ⟨by simp, by simp, by omega, by omega, ?_⟩
    have M0 := Mem.start w
    refine Mem.appK (opt := []) (m := []) (n := n) (vs := []) (a := none) (l := 0) (c := 0) M0 OwnM.nil (by simp [zerosV, zerosL_length]) ?_ (by simp; omega) (by simp; omega) ?_
    · simp [zerosV, zerosL, isCell]
    · intro a' l' c' opt' w' ho M' hl
      refine ⟨by simp, by simp, ?_⟩
      refine hK1 _ _ _ _ fun _ => ?_
      simp only [List.nil_append] at ho
      simp only [List.append_nil] at M'
      refine ⟨opt', cutA a' c' 0 1, c', by simp, ?_, M'⟩
      rcases ho with ⟨rfl, rfl, rfl, rfl, hz⟩ | ⟨b, rest, rfl, rfl, rfl, rfl⟩
      · exact .inl ⟨rfl, rfl, rfl, rfl, rfl⟩
      · refine .inr ⟨b, _, rfl, ?_, rfl, by simp⟩
        unfold cutA; split
        · rfl
        · simp [addr_add]
  · exact hK1 _ _ _ _ fun _ => ⟨[], none, 0, rfl, OwnM.nil, Mem.start w⟩

end Go.Proofs.Ytcjlilddhhnikaa
