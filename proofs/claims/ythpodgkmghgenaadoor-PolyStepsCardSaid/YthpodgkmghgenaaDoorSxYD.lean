/-
  A part of the proof: YD.
-/
import Derived.Test.YthpodgkmghgenaaDoorSxYC
namespace Go.Proofs.YthpodgkmghgenaaDoor
open Go Go.Sx Go.Oct Go.Poly
set_option linter.unusedVariables false

theorem or62 (x y : Nat) (hx : x < 18446744073709551616) (hy : y < 18446744073709551616) : orI .u64 (shrI .u64 (x : Int) 2) (shlI .u64 (y : Int) 62) = ((x / 4 + y % 4 * 4611686018427387904 : Nat) : Int) := by
  have h1 : shrI .u64 (x : Int) 2 = ((x / 4 : Nat) : Int) := shrI_u64 x 2 hx
  have h2 : shlI .u64 (y : Int) 62 = ((y * 4611686018427387904 % 18446744073709551616 : Nat) : Int) := shlI_u64 y 62
  have h3 : y * 4611686018427387904 % 18446744073709551616 = y % 4 * 2 ^ 62 := by
    rw [show (2 : Nat) ^ 62 = 4611686018427387904 from rfl]; omega
  rw [h1, h2, h3, orI_u64 _ _ (by omega) (by rw [show (2 : Nat) ^ 62 = 4611686018427387904 from rfl]; omega), or_add' (by rw [show (2 : Nat) ^ 62 = 4611686018427387904 from rfl]; omega)]
  rw [show (2 : Nat) ^ 62 = 4611686018427387904 from rfl, Nat.add_comm]
theorem and3 (x : Nat) (hx : x < 18446744073709551616) : andI .u64 (x : Int) 3 = ((x % 4 : Nat) : Int) := by
  have := andI_u64 x 3 hx (by decide)
  rw [show (3 : Nat) = 2 ^ 2 - 1 from rfl, Nat.and_two_pow_sub_one_eq_mod] at this
  exact this

theorem p_times (w : World) (hw : LaidP w) (a b : N3) (ha : a.ok) (hb : b.ok) (hza : a.z < 9223372036854775808) (hzb : b.z < 9223372036854775808) : Calls Tryd.prog 32 #[v3 a, v3 b] w
    (fun e w' => ∃ r : N3, e = .returned (v3 r) ∧ r.ok ∧ r.val = a.val * b.val % PP ∧ Keep [] w w') := by
  refine Calls.mono (F32_calls _ _ _ _ _ _ w (fun v w' => ∃ r : N3, v = v3 r ∧ r.ok ∧ r.val = a.val * b.val % PP ∧ Keep [] w w') ?_) (fun e w' ⟨v, he, V, hv, h⟩ => ⟨V, by rw [he, hv], h⟩)
  refine hw.mem.newK fun b0 w1 M => ?_
  refine M.newK fun b1 w2 M => ?_
  refine M.newK fun b2 w3 M => ?_
  intro K hK
  rintro w4 rfl
  have M := M.drew
  have la := left_lt ha hza
  have lb := left_lt hb hzb
  have va := N3.left_val ha hza
  have vb := N3.left_val hb hzb
  have oka := N3.left_ok a
  have okb := N3.left_ok b
  refine ⟨fun W' => CellsAt W' ⟨b0, 0, none⟩ (c3 a) ∧ CellsAt W' ⟨b1, 0, none⟩ (c3 b), ⟨M.cells 2 (c := c3 a) rfl, M.cells 1 (c := c3 b) rfl⟩, _, _, _, fun _ h => h.1, _, _, _, fun _ h => h.2, ?_⟩
  -- behind the product
  have fin : ∀ (x0 x1 x2 x3 x4 x5 b3 : Nat) (W : World), (∀ x ∈ [x0, x1, x2, x3, x4, x5], x < 18446744073709551616) → valW [x0, x1, x2, x3, x4, x5] = a.left.val * b.left.val →
      Mem w [] [(b3, .cells (u64s [x0, x1, x2, x3, x4, x5]).toArray 59 (0, 0)), (b2, .cells (List.toArray [.int .u64 0, .int .u64 0, .int .u64 0]) 43 (0, 0)), (b1, .cells (c3 b).toArray 43 (0, 0)), (b0, .cells (c3 a).toArray 43 (0, 0))] LaidP W → K [.pointer (some ⟨b3, 0, none⟩)] W := by
    intro x0 x1 x2 x3 x4 x5 b3 W hx hval M
    have hlt : valW [x0, x1, x2, x3, x4, x5] < 1852673427797059126777135760139006525652319754650249024631321344126610074238976 := by
      rw [hval]
      refine Nat.lt_of_le_of_lt (Nat.mul_le_mul (Nat.le_of_lt la.1) (Nat.le_of_lt lb.1)) (by decide)
    obtain ⟨okl, okh, hzh, hsum⟩ := low_high x0 x1 x2 x3 x4 x5 hx hlt
    have h2 := hx x2 (by simp); have h3 := hx x3 (by simp); have h4 := hx x4 (by simp)
    refine hK _ _ fun _ => ?_
    refine ⟨by decide, by decide, _, mem_ld64 M 0 0 rfl (by simp), by decide, by decide, _, mem_ld64 M 0 1 rfl (by simp), by decide, by decide, _, mem_ld64 M 0 2 rfl (by simp), ?_⟩
    refine M.newK fun b4 w5 M => ?_
    have g0 : [x0, x1, x2, x3, x4, x5].getD 0 0 = x0 := rfl
    have g1 : [x0, x1, x2, x3, x4, x5].getD 1 0 = x1 := rfl
    have g2 : [x0, x1, x2, x3, x4, x5].getD 2 0 = x2 := rfl
    rw [g0, g1, g2, and3 _ h2]
    refine M.stK 0 (off := 0) (c := [.int .u64 0, .int .u64 0, .int .u64 0]) rfl (by simp) rfl fun w6 M => ?_
    have M : Mem w [] [(b4, .cells (c3 (lowN x0 x1 x2)).toArray 43 (0, 0)), (b3, .cells (u64s [x0, x1, x2, x3, x4, x5]).toArray 59 (0, 0)), (b2, .cells (List.toArray [.int .u64 0, .int .u64 0, .int .u64 0]) 43 (0, 0)), (b1, .cells (c3 b).toArray 43 (0, 0)), (b0, .cells (c3 a).toArray 43 (0, 0))] LaidP w6 := M
    refine ⟨by decide, by decide, _, mem_ld64 M 1 2 rfl (by simp), by decide, by decide, by decide, _, mem_ld64 M 1 3 rfl (by simp), by decide, by decide, by decide, _, mem_ld64 M 1 3 rfl (by simp), by decide, by decide, by decide, _, mem_ld64 M 1 4 rfl (by simp), by decide, by decide, by decide, _, mem_ld64 M 1 4 rfl (by simp), by decide, ?_⟩
    refine M.newK fun b5 w7 M => ?_
    have e4 : shrI .u64 (x4 : Int) 2 = ((x4 / 4 : Nat) : Int) := shrI_u64 x4 2 h4
    have g3 : [x0, x1, x2, x3, x4, x5].getD 3 0 = x3 := rfl
    have g4 : [x0, x1, x2, x3, x4, x5].getD 4 0 = x4 := rfl
    rw [g2, g3, g4, or62 _ _ h2 h3, or62 _ _ h3 h4, e4]
    refine M.stK 0 (off := 0) (c := [.int .u64 0, .int .u64 0, .int .u64 0]) rfl (by simp) rfl fun w8 M => ?_
    have M : Mem w [] [(b5, .cells (c3 (highN x2 x3 x4)).toArray 43 (0, 0)), (b4, .cells (c3 (lowN x0 x1 x2)).toArray 43 (0, 0)), (b3, .cells (u64s [x0, x1, x2, x3, x4, x5]).toArray 59 (0, 0)), (b2, .cells (List.toArray [.int .u64 0, .int .u64 0, .int .u64 0]) 43 (0, 0)), (b1, .cells (c3 b).toArray 43 (0, 0)), (b0, .cells (c3 a).toArray 43 (0, 0))] LaidP w8 := M
    have hlz : (lowN x0 x1 x2).z ≤ 3 := by simp only [lowN]; omega
    generalize lowN x0 x1 x2 = l0 at M okl hsum hlz
    generalize highN x2 x3 x4 = hi at M okh hzh hsum
    refine ⟨fun n vs W => ∃ (i : Nat) (lo : N3), vs = [.int .i64 i] ∧ i + n = 5 ∧ lo.ok ∧ lo.z ≤ 3 ∧ lo.val % PP = (l0.val + i * hi.val) % PP ∧
      Mem w [] [(b5, .cells (c3 hi).toArray 43 (0, 0)), (b4, .cells (c3 lo).toArray 43 (0, 0)), (b3, .cells (u64s [x0, x1, x2, x3, x4, x5]).toArray 59 (0, 0)), (b2, .cells (List.toArray [.int .u64 0, .int .u64 0, .int .u64 0]) 43 (0, 0)), (b1, .cells (c3 b).toArray 43 (0, 0)), (b0, .cells (c3 a).toArray 43 (0, 0))] LaidP W,
      ⟨5, 0, l0, rfl, rfl, okl, hlz, by simp, M⟩, ?_⟩
    clear M okl hlz
    rintro n vs w9 ⟨i, lo, rfl, hin, okl, hlz, hinv, M⟩
    refine ⟨_, rfl, fun _ => SplitK.of (fun hlt => ?_) (fun hlt => ?_)⟩
    · simp at hlt
      refine ⟨_, _, _, M.cells 1 (c := c3 lo) rfl, _, _, _, M.cells 0 (c := c3 hi) rfl, ?_⟩
      have hpz := N3.plus_z okl okh
      refine CallK.ret (p_plus w9 lo hi okl okh) fun w10 k => ⟨_, _, _, rfl, ?_⟩
      have M := M.call k
      refine CallK.ret (p_left w10 M.now _ (N3.plus_ok lo hi)) fun w11 k => ⟨_, _, _, rfl, ?_⟩
      have M := M.call k
      refine M.stK 1 (off := 0) (c := c3 lo) rfl (by simp [c3]) rfl fun w12 M => ?_
      refine ⟨n - 1, by omega, i + 1, (lo.plus hi).left, by rw [addI_one (by omega)], by omega, N3.left_ok _, (left_lt (N3.plus_ok lo hi) (by omega)).2, ?_, M⟩
      rw [N3.left_val (N3.plus_ok lo hi) (by omega), Nat.mod_mod, N3.plus_val okl okh (by omega), Nat.add_mod, hinv, ← Nat.add_mod, Nat.add_assoc, Nat.succ_mul]
    · simp at hlt
      obtain rfl : i = 5 := by omega
      refine ⟨_, _, _, M.cells 1 (c := c3 lo) rfl, ?_⟩
      refine CallK.ret (p_left w9 M.now lo okl) fun w10 k => ⟨_, _, _, rfl, ?_⟩
      have M := M.call k
      refine M.stK 3 (off := 0) (c := [.int .u64 0, .int .u64 0, .int .u64 0]) rfl (by simp) rfl fun w11 M => ?_
      refine ⟨_, _, _, M.cells 3 (c := c3 lo.left) rfl, lo.left, rfl, N3.left_ok _, ?_, M.keep⟩
      rw [N3.left_val okl (by omega), hinv, ← fold5, ← hsum, hval, va, vb, ← Nat.mul_mod]
  have six : ∀ V : List Nat, V.length = 6 → ∃ x0 x1 x2 x3 x4 x5, V = [x0, x1, x2, x3, x4, x5] := by
    intro V hV
    match V, hV with
    | [x0, x1, x2, x3, x4, x5], _ => exact ⟨_, _, _, _, _, _, rfl⟩
  -- the array stands before the product
  have lateP : ∀ (b3 : Nat) (W : World), Mem w [] [(b3, .cells (u64s [0, 0, 0, 0, 0, 0]).toArray 59 (0, 0)), (b2, .cells (List.toArray [.int .u64 0, .int .u64 0, .int .u64 0]) 43 (0, 0)), (b1, .cells (c3 b).toArray 43 (0, 0)), (b0, .cells (c3 a).toArray 43 (0, 0))] LaidP W →
      CallK Tryd.prog 44 #[v3 a.left, v3 b.left] W (fun e2 w8 => ∃ (n12 : Int), ∃ (n13 : Int), ∃ (n14 : Int), ∃ (n15 : Int), ∃ (n16 : Int), ∃ (n17 : Int), (e2 = .returned (.agg (List.toArray [.int .u64 n12, .int .u64 n13, .int .u64 n14, .int .u64 n15, .int .u64 n16, .int .u64 n17]))) ∧ ((CellsAt w8 ⟨b0, 0, none⟩ (c3 a) ∧ CellsAt w8 ⟨b1, 0, none⟩ (c3 b)) ∧
        (StK w8 ⟨b3, 0, none⟩ [.int .u64 n12, .int .u64 n13, .int .u64 n14, .int .u64 n15, .int .u64 n16, .int .u64 n17] (fun w9 => K [.pointer (some ⟨b3, 0, none⟩)] w9)))) := by
    intro b3 W M
    refine (p_product W a.left b.left oka okb).mono ?_
    rintro e W2 ⟨V, rfl, hVl, hV, hval, k⟩
    obtain ⟨x0, x1, x2, x3, x4, x5, rfl⟩ := six V hVl
    have M := M.call k
    refine ⟨_, _, _, _, _, _, rfl, ⟨M.cells 3 (c := c3 a) rfl, M.cells 2 (c := c3 b) rfl⟩, ?_⟩
    refine M.stK 0 (off := 0) (c := u64s [0, 0, 0, 0, 0, 0]) rfl (by simp [u64s]) rfl fun W3 M => ?_
    exact fin x0 x1 x2 x3 x4 x5 b3 W3 hV hval M
  refine ⟨?_, ?_⟩
  · refine CallK.ret (p_left _ M.now a ha) fun w5 k => ⟨_, _, _, rfl, ?_⟩
    have M := M.call k
    refine ⟨⟨M.cells 2 (c := c3 a) rfl, M.cells 1 (c := c3 b) rfl⟩, ?_, ?_⟩
    · refine CallK.ret (p_left w5 M.now b hb) fun w6 k => ⟨_, _, _, rfl, ?_⟩
      have M := M.call k
      refine ⟨⟨M.cells 2 (c := c3 a) rfl, M.cells 1 (c := c3 b) rfl⟩, ?_, ?_⟩
      · refine (p_product w6 a.left b.left oka okb).mono ?_
        rintro e W2 ⟨V, rfl, hVl, hV, hval, k⟩
        obtain ⟨x0, x1, x2, x3, x4, x5, rfl⟩ := six V hVl
        have M := M.call k
        refine ⟨_, _, _, _, _, _, rfl, ⟨M.cells 2 (c := c3 a) rfl, M.cells 1 (c := c3 b) rfl⟩, ?_⟩
        refine M.newK fun b3 w8 M => ⟨⟨M.cells 3 (c := c3 a) rfl, M.cells 2 (c := c3 b) rfl⟩, ?_⟩
        refine M.stK 0 (off := 0) (c := u64s [0, 0, 0, 0, 0, 0]) rfl (by simp [u64s]) rfl fun W3 M => ?_
        exact fin x0 x1 x2 x3 x4 x5 b3 W3 hV hval M
      · refine M.newK fun b3 w7 M => ⟨⟨M.cells 3 (c := c3 a) rfl, M.cells 2 (c := c3 b) rfl⟩, ?_⟩
        exact lateP b3 w7 M
    · refine M.newK fun b3 w6 M => ⟨⟨M.cells 3 (c := c3 a) rfl, M.cells 2 (c := c3 b) rfl⟩, ?_⟩
      refine CallK.ret (p_left w6 M.now b hb) fun w7 k => ⟨_, _, _, rfl, ?_⟩
      have M := M.call k
      exact ⟨⟨M.cells 3 (c := c3 a) rfl, M.cells 2 (c := c3 b) rfl⟩, lateP b3 w7 M⟩
  · refine M.newK fun b3 w5 M => ⟨⟨M.cells 3 (c := c3 a) rfl, M.cells 2 (c := c3 b) rfl⟩, ?_⟩
    refine CallK.ret (p_left w5 M.now a ha) fun w6 k => ⟨_, _, _, rfl, ?_⟩
    have M := M.call k
    refine ⟨⟨M.cells 3 (c := c3 a) rfl, M.cells 2 (c := c3 b) rfl⟩, ?_⟩
    refine CallK.ret (p_left w6 M.now b hb) fun w7 k => ⟨_, _, _, rfl, ?_⟩
    have M := M.call k
    exact ⟨⟨M.cells 3 (c := c3 a) rfl, M.cells 2 (c := c3 b) rfl⟩, lateP b3 w7 M⟩

theorem p_Times (w : World) (hw : LaidP w) (a b : List UInt8) (ha : a.length ≤ 1000000) (hb : b.length ≤ 1000000) : Calls Tryd.prog 13 #[.string (bs a), .string (bs b)] w (Ret w (.string (bs (txt (num a * num b))))) := by
  refine calls_ret (F13_calls _ _ _ _ ?_)
  refine CallK.ret (p_of w a ha) fun w1 k => ⟨_, _, _, rfl, ?_⟩
  have M := hw.mem.call k
  refine CallK.ret (p_of w1 b hb) fun w2 k => ⟨_, _, _, rfl, ?_⟩
  have M := M.call k
  have za := ofS_z a
  have zb := ofS_z b
  refine (p_times w2 M.now (ofS a) (ofS b) (ofS_ok a) (ofS_ok b) (by omega) (by omega)).mono ?_
  rintro e w3 ⟨r, rfl, okr, hr, k⟩
  have M := M.call k
  refine ⟨_, _, _, rfl, ?_⟩
  refine CallK.ret (p_text w3 r okr) fun w4 k => ⟨_, rfl, ?_, (M.call k).keep⟩
  rw [text3_val okr, hr, ofS_val, ofS_val]
  rfl

end Go.Proofs.YthpodgkmghgenaaDoor
