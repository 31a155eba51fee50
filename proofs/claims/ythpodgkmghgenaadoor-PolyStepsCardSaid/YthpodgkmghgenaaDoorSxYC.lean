/-
  A part of the proof: YC.
-/
import Derived.Test.YthpodgkmghgenaaDoorSxYB
namespace Go.Proofs.YthpodgkmghgenaaDoor
open Go Go.Sx Go.Oct Go.Poly
set_option linter.unusedVariables false

def u64s (l : List Nat) : List Value := l.map fun (n : Nat) => Value.int .u64 (n : Int)
theorem u64s_at {l : List Nat} {j : Nat} (hj : j < l.length) : (u64s l)[j]? = some (.int .u64 ((l.getD j 0 : Nat) : Int)) := by
  simp [u64s, List.getD_eq_getElem?_getD, List.getElem?_eq_getElem hj]
theorem mem_st64 {w0 w : World} {lo : List Nat} {m : List (Nat × Obj)} {F : World → Prop} (M : Mem w0 lo m F w) (ix : Nat) {b : Nat} {vs : List Nat} {T : TypeId} {k : World → Prop} (j y : Nat)
    (hm : m[ix]? = some (b, .cells (u64s vs).toArray T (0, 0))) (hj : j < vs.length)
    (h : ∀ w1, Mem w0 lo (m.set ix (b, .cells (u64s (vs.set j y)).toArray T (0, 0))) F w1 → k w1) : StK w (addA ⟨b, 0, none⟩ (mulN (intN (j : Int)) 1)) [.int .u64 (y : Int)] k := by
  rw [addA_int, addr_add, Nat.zero_add]
  refine M.stK ix hm (by simp [u64s]; omega) rfl fun w1 M1 => h w1 ?_
  have : spliceL (u64s vs) j [.int .u64 (y : Int)] = u64s (vs.set j y) := by
    show (u64s vs).set j _ = _
    simp [u64s, List.map_set]
  rw [this] at M1
  exact M1
theorem mem_ld64 {w0 w : World} {lo : List Nat} {m : List (Nat × Obj)} {F : World → Prop} (M : Mem w0 lo m F w) (ix : Nat) {b : Nat} {vs : List Nat} {T : TypeId} (j : Nat)
    (hm : m[ix]? = some (b, .cells (u64s vs).toArray T (0, 0))) (hj : j < vs.length) : w.cell? (addA ⟨b, 0, none⟩ (mulN (intN (j : Int)) 1)) = some (.int .u64 ((vs.getD j 0 : Nat) : Int)) := by
  rw [addA_int, addr_add, Nat.zero_add]
  exact M.cell ix (c := u64s vs) hm (u64s_at hj)
theorem getD_set' (l : List Nat) (i j x : Nat) (h : i ≠ j) : (l.set i x).getD j 0 = l.getD j 0 := by
  simp only [List.getD_eq_getElem?_getD, List.getElem?_set, if_neg h]
theorem set_lt {l : List Nat} (h : ∀ x ∈ l, x < 18446744073709551616) (i v : Nat) (hv : v < 18446744073709551616) : ∀ x ∈ l.set i v, x < 18446744073709551616 := by
  intro x hx
  rcases List.mem_or_eq_of_mem_set hx with h1 | rfl
  · exact h x h1
  · exact hv
theorem getD_lt64 {l : List Nat} (h : ∀ x ∈ l, x < 18446744073709551616) (i : Nat) : l.getD i 0 < 18446744073709551616 := by
  rw [List.getD_eq_getElem?_getD]
  cases hi : l[i]? with
  | none => simp
  | some x => simp; exact h x (List.mem_of_getElem? hi)
def N3.l (a : N3) : List Nat := [a.x, a.y, a.z]
theorem N3.l_lt {a : N3} (h : a.ok) : ∀ x ∈ N3.l a, x < 18446744073709551616 := by
  intro x hx
  simp [N3.l] at hx
  rcases hx with rfl | rfl | rfl
  · exact h.x
  · exact h.y
  · exact h.z
theorem N3.l_val (a : N3) : valW (N3.l a) = a.val := by
  simp only [N3.l, valW, N3.val, WW]; omega

theorem p_product (w : World) (a b : N3) (ha : a.ok) (hb : b.ok) : Calls Tryd.prog 44 #[v3 a, v3 b] w
    (fun e w' => ∃ V : List Nat, e = .returned (.agg (u64s V).toArray) ∧ V.length = 6 ∧ (∀ x ∈ V, x < 18446744073709551616) ∧ valW V = a.val * b.val ∧ Keep [] w w') := by
  refine Calls.mono (F44_calls _ _ _ _ _ _ w (fun v w' => ∃ V : List Nat, v = .agg (u64s V).toArray ∧ V.length = 6 ∧ (∀ x ∈ V, x < 18446744073709551616) ∧ valW V = a.val * b.val ∧ Keep [] w w') ?_) (fun e w' ⟨v, he, V, hv, h⟩ => ⟨V, by rw [he, hv], h⟩)
  refine (Mem.start w).newK fun b0 w1 M => ?_
  refine M.newK fun b1 w2 M => ?_
  refine M.newK fun b2 w3 M => ?_
  refine M.newK fun b3 w4 M => ?_
  refine ⟨_, _, _, M.cells 3 (c := c3 a) rfl, ?_⟩
  have M : Mem w [] [(b3, .cells (u64s [0, 0, 0, 0, 0, 0]).toArray 59 (0, 0)), (b2, .cells (u64s [0, 0, 0, 0, 0, 0]).toArray 59 (0, 0)), (b1, .cells (c3 b).toArray 43 (0, 0)), (b0, .cells (c3 a).toArray 43 (0, 0))] (fun _ => True) w4 := M
  have hxl := N3.l_lt ha
  have hyl := N3.l_lt hb
  refine ⟨fun n vs W => ∃ (i : Nat) (V : List Nat), vs = [.int .i64 i] ∧ i + n = 3 ∧ V.length = 6 ∧ (∀ x ∈ V, x < 18446744073709551616) ∧ (∀ j, i + 3 ≤ j → V.getD j 0 = 0) ∧ valW V = valW ((N3.l a).take i) * b.val ∧
    Mem w [] [(b3, .cells (u64s V).toArray 59 (0, 0)), (b2, .cells (u64s [0, 0, 0, 0, 0, 0]).toArray 59 (0, 0)), (b1, .cells (c3 b).toArray 43 (0, 0)), (b0, .cells (c3 a).toArray 43 (0, 0))] (fun _ => True) W,
    ⟨3, 0, [0, 0, 0, 0, 0, 0], rfl, rfl, rfl, by simp, fun j hj => ?_, by simp [valW], M⟩, ?_⟩
  · match j with
    | 0 => rfl
    | 1 => rfl
    | 2 => rfl
    | 3 => rfl
    | 4 => rfl
    | 5 => rfl
    | j + 6 => rfl
  clear M
  rintro n vs w5 ⟨i, V, rfl, hi, hVl, hV, hV0, hval, M⟩
  refine ⟨_, rfl, fun _ => SplitK.of (fun h1 => ?_) (fun h1 => ?_)⟩
  · simp at h1
    have hi3 : i < 3 := by omega
    have hx := getD_lt64 hxl i
    refine ⟨by omega, by simp; omega, (((N3.l a).getD i 0 : Nat) : Int), ?_, ?_⟩
    · have := u64s_at (l := N3.l a) (j := i) hi3
      simp only [intN_eq, Int.toNat_natCast, mulN_eq, Nat.mul_one]
      exact this
    refine ⟨_, _, _, M.cells 2 (c := c3 b) rfl, ?_⟩
    refine ⟨fun n2 vs1 W => ∃ (k o : Nat) (U : List Nat), vs1 = [.int .u64 o, .int .i64 k] ∧ k + n2 = 3 ∧ o < 18446744073709551616 ∧ U.length = 6 ∧ (∀ x ∈ U, x < 18446744073709551616) ∧ (∀ j, i + 3 ≤ j → U.getD j 0 = 0) ∧
      valW U + o * WW ^ (i + k) = valW V + (N3.l a).getD i 0 * WW ^ i * valW ((N3.l b).take k) ∧
      Mem w [] [(b3, .cells (u64s U).toArray 59 (0, 0)), (b2, .cells (u64s [0, 0, 0, 0, 0, 0]).toArray 59 (0, 0)), (b1, .cells (c3 b).toArray 43 (0, 0)), (b0, .cells (c3 a).toArray 43 (0, 0))] (fun _ => True) W,
      ⟨3, 0, 0, V, rfl, rfl, by decide, hVl, hV, hV0, by simp [valW], M⟩, ?_⟩
    clear M
    rintro n2 vs1 w6 ⟨k, o, U, rfl, hk, ho, hUl, hU, hU0, hinv, M⟩
    refine ⟨_, _, rfl, fun _ => SplitK.of (fun h2 => ?_) (fun h2 => ?_)⟩
    · simp at h2
      have hk3 : k < 3 := by omega
      have hy := getD_lt64 hyl k
      have hv := getD_lt64 hU (i + k)
      refine ⟨by omega, by simp; omega, (((N3.l b).getD k 0 : Nat) : Int), ?_, ?_⟩
      · have := u64s_at (l := N3.l b) (j := k) hk3
        simp only [intN_eq, Int.toNat_natCast, mulN_eq, Nat.mul_one]
        exact this
      refine (Tryd.bits_Mul64 _ _ hx hy w6).mono ?_
      rintro e w7 ⟨rfl, rfl⟩
      refine ⟨_, _, rfl, ?_⟩
      refine p_add (c := 0) (by decide) ⟨_, _, rfl, ?_⟩
      have eik : addI .i64 (i : Int) (k : Int) = ((i + k : Nat) : Int) := addI_nat _ _ (by omega)
      rw [eik]
      refine ⟨by omega, by simp; omega, _, mem_ld64 M 0 (i + k) rfl (by omega), ?_⟩
      refine p_add (c := 0) (by decide) ⟨_, _, rfl, by omega, by simp; omega, ?_⟩
      simp only [Nat.add_zero]
      obtain ⟨s1, s2⟩ := mul_step hx hy ho hv
      have hs := valW_set U (i + k) ((U.getD (i + k) 0 + ((N3.l a).getD i 0 * (N3.l b).getD k 0 % 18446744073709551616 + o) % 18446744073709551616) % 18446744073709551616) (by omega)
      refine mem_st64 M 0 (i + k) _ rfl (by omega) fun w8 M => ?_
      refine ⟨n2 - 1, by omega, k + 1, _, _, ?_, by omega, s2, by simp [hUl], set_lt hU _ _ (Nat.mod_lt _ (by decide)), fun j hj => ?_, ?_, M⟩
      · rw [addI_one (by omega), addI_u64, addI_u64]
        have e1 : (((N3.l a).getD i 0 * (N3.l b).getD k 0 / 18446744073709551616 + ((N3.l a).getD i 0 * (N3.l b).getD k 0 % 18446744073709551616 + o) / 18446744073709551616) % 18446744073709551616 + (U.getD (i + k) 0 + ((N3.l a).getD i 0 * (N3.l b).getD k 0 % 18446744073709551616 + o) % 18446744073709551616) / 18446744073709551616) % 18446744073709551616
            = (N3.l a).getD i 0 * (N3.l b).getD k 0 / 18446744073709551616 + ((N3.l a).getD i 0 * (N3.l b).getD k 0 % 18446744073709551616 + o) / 18446744073709551616 + (U.getD (i + k) 0 + ((N3.l a).getD i 0 * (N3.l b).getD k 0 % 18446744073709551616 + o) % 18446744073709551616) / 18446744073709551616 := by
          rw [Nat.mod_add_mod, Nat.mod_eq_of_lt s2]
        rw [e1]
      · rw [getD_set' _ _ _ _ (by omega)]; exact hU0 j hj
      · rw [valW_take _ _ (show k < (N3.l b).length from hk3), ← Nat.add_assoc i k 1, Nat.pow_succ]
        exact prod_round _ _ _ _ _ _ _ _ _ _ _ _ hs hinv s1 _ (Nat.pow_add _ _ _)
    · simp at h2
      obtain rfl : k = 3 := by omega
      have e3 : addI .i64 (i : Int) 3 = ((i + 3 : Nat) : Int) := addI_nat _ 3 (by omega)
      rw [e3]
      refine ⟨by omega, by simp; omega, ?_⟩
      have hs := valW_set U (i + 3) o (by omega)
      rw [hU0 (i + 3) (by omega), Nat.zero_mul, Nat.add_zero] at hs
      refine mem_st64 M 0 (i + 3) o rfl (by omega) fun w8 M => ?_
      refine ⟨n - 1, by omega, i + 1, _, by rw [addI_one (by omega)], by omega, by simp [hUl], set_lt hU _ _ ho, fun j hj => ?_, ?_, M⟩
      · rw [getD_set' _ _ _ _ (by omega)]; exact hU0 j (by omega)
      · have e4 : (N3.l b).take 3 = N3.l b := rfl
        rw [e4, N3.l_val] at hinv
        rw [hs, hinv, hval, valW_take _ _ (show i < (N3.l a).length from hi3), Nat.add_mul]
  · simp at h1
    obtain rfl : i = 3 := by omega
    have e4 : (N3.l a).take 3 = N3.l a := rfl
    rw [e4, N3.l_val] at hval
    match V, hVl with
    | [x0, x1, x2, x3, x4, x5], _ =>
      refine ⟨_, _, _, _, _, _, M.cells 0 (c := u64s [x0, x1, x2, x3, x4, x5]) rfl, ?_⟩
      refine M.stK 1 (off := 0) (c := u64s [0, 0, 0, 0, 0, 0]) rfl (by simp [u64s]) rfl fun w9 M => ?_
      exact ⟨_, _, _, _, _, _, M.cells 1 (c := u64s [x0, x1, x2, x3, x4, x5]) rfl, [x0, x1, x2, x3, x4, x5], rfl, rfl, hV, hval, M.keep⟩

end Go.Proofs.YthpodgkmghgenaaDoor
