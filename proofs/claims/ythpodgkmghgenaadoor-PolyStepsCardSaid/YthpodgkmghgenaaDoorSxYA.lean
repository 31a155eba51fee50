/-
  A part of the proof: YA.
-/
import Derived.Test.YthpodgkmghgenaaDoorSxOS
import Derived.Test.YthpodgkmghgenaaDoorSxPoly
import Derived.Laws.Externs
namespace Go.Proofs.YthpodgkmghgenaaDoor
open Go Go.Sx Go.Oct Go.Poly
set_option linter.unusedVariables false

theorem p_add {w : World} {x y c : Nat} (hc : c ≤ 1) {R : Ending → World → Prop}
    (h : R (.returned (.tuple #[.int .u64 (((x + y + c) % 18446744073709551616 : Nat) : Int), .int .u64 (((x + y + c) / 18446744073709551616 : Nat) : Int)])) w) :
    FnK Tryd.prog true (.func (.func 41) #[] #[]) #[.int .u64 x, .int .u64 y, .int .u64 c] w R := by
  unfold FnK
  have hcb : callableB Tryd.prog 41 = false := by kernel_rfl
  simp only [hcb]
  refine ⟨Tryd.f41, add64Entry, _, Tryd.func41, by kernel_rfl, by kernel_rfl, by kernel_rfl, by kernel_rfl, run_add64 x y c (by omega) (by omega) (by omega) (by omega) w, ?_⟩
  have e1 : ((x : Int) + (y : Int) + (c : Int)) % 18446744073709551616 = (((x + y + c) % 18446744073709551616 : Nat) : Int) := by omega
  have e2 : ((x : Int) + (y : Int) + (c : Int)) / 18446744073709551616 = (((x + y + c) / 18446744073709551616 : Nat) : Int) := by omega
  rw [e1, e2]
  exact h

def c3 (a : N3) : List Value := [.int .u64 (a.x : Int), .int .u64 (a.y : Int), .int .u64 (a.z : Int)]
def v3 (a : N3) : Value := .agg (c3 a).toArray

theorem p_plus (w : World) (a b : N3) (ha : a.ok) (hb : b.ok) : Calls Tryd.prog 29 #[v3 a, v3 b] w (Ret w (v3 (a.plus b))) := by
  refine calls_ret (F29_calls _ _ _ _ _ _ _ _ ?_)
  refine (Mem.start w).newK fun b0 w1 M => ?_
  refine M.newK fun b1 w2 M => ?_
  refine M.newK fun b2 w3 M => ?_
  refine ⟨by decide, by decide, _, M.cell 2 (c := c3 a) (off := 0) rfl rfl, by decide, by decide, _, M.cell 1 (c := c3 b) (off := 0) rfl rfl, ?_⟩
  refine p_add (c := 0) (by decide) ⟨_, _, rfl, by decide, by decide, ?_⟩
  have e0 : a.x + b.x + 0 = a.x + b.x := rfl
  rw [e0]
  have hc0 : (a.x + b.x) / 18446744073709551616 ≤ 1 := by have := ha.x; have := hb.x; omega
  refine M.stK 2 (off := 0) (c := c3 a) rfl (by simp [c3]) rfl fun w4 M => ?_
  have M : Mem w [] [(b2, .cells (List.toArray [.int .u64 0, .int .u64 0, .int .u64 0]) 43 (0, 0)), (b1, .cells (c3 b).toArray 43 (0, 0)), (b0, .cells (c3 ⟨(a.plus b).x, a.y, a.z⟩).toArray 43 (0, 0))] (fun _ => True) w4 := M
  refine ⟨by decide, by decide, _, M.cell 2 (c := c3 ⟨(a.plus b).x, a.y, a.z⟩) (off := 1) rfl rfl, by decide, by decide, _, M.cell 1 (c := c3 b) (off := 1) rfl rfl, ?_⟩
  refine p_add hc0 ⟨_, _, rfl, by decide, by decide, ?_⟩
  refine M.stK 2 (off := 1) (c := c3 ⟨(a.plus b).x, a.y, a.z⟩) rfl (by simp [c3]) rfl fun w5 M => ?_
  have M : Mem w [] [(b2, .cells (List.toArray [.int .u64 0, .int .u64 0, .int .u64 0]) 43 (0, 0)), (b1, .cells (c3 b).toArray 43 (0, 0)), (b0, .cells (c3 ⟨(a.plus b).x, (a.plus b).y, a.z⟩).toArray 43 (0, 0))] (fun _ => True) w5 := M
  refine ⟨by decide, by decide, _, M.cell 2 (c := c3 ⟨(a.plus b).x, (a.plus b).y, a.z⟩) (off := 2) rfl rfl, by decide, by decide, _, M.cell 1 (c := c3 b) (off := 2) rfl rfl, by decide, by decide, ?_⟩
  have e2 : addI .u64 (a.z : Int) (addI .u64 (b.z : Int) (((a.y + b.y + (a.x + b.x) / 18446744073709551616) / 18446744073709551616 : Nat) : Int)) = (((a.plus b).z : Nat) : Int) := by
    rw [addI_u64, addI_u64]
    congr 1
    simp only [N3.plus]
    generalize (a.y + b.y + (a.x + b.x) / 18446744073709551616) / 18446744073709551616 = f
    omega
  rw [e2]
  refine M.stK 2 (off := 2) (c := c3 ⟨(a.plus b).x, (a.plus b).y, a.z⟩) rfl (by simp [c3]) rfl fun w6 M => ?_
  have M : Mem w [] [(b2, .cells (List.toArray [.int .u64 0, .int .u64 0, .int .u64 0]) 43 (0, 0)), (b1, .cells (c3 b).toArray 43 (0, 0)), (b0, .cells (c3 (a.plus b)).toArray 43 (0, 0))] (fun _ => True) w6 := M
  refine ⟨_, _, _, M.cells 2 (c := c3 (a.plus b)) rfl, ?_⟩
  refine M.stK 0 (off := 0) (c := [.int .u64 0, .int .u64 0, .int .u64 0]) rfl (by simp [c3]) rfl fun w7 M => ?_
  exact ⟨_, _, _, M.cells 0 (c := c3 (a.plus b)) rfl, rfl, M.keep⟩

theorem p_five (w : World) (a : N3) (ha : a.ok) : Calls Tryd.prog 42 #[v3 a] w (Ret w (v3 a.five)) := by
  refine calls_ret (F42_calls _ _ _ _ _ ?_)
  refine (Mem.start w).newK fun b0 w1 M => ?_
  refine M.newK fun b1 w2 M => ?_
  refine ⟨by decide, by decide, _, M.cell 1 (c := c3 a) (off := 2) rfl rfl, by decide, by decide, by decide, _, M.cell 1 (c := c3 a) (off := 2) rfl rfl, by decide, by decide, ?_⟩
  have e1 : andI .u64 (a.z : Int) 3 = ((a.z % 4 : Nat) : Int) := by
    have := andI_u64 a.z 3 ha.z (by decide)
    rw [show (3 : Nat) = 2 ^ 2 - 1 from rfl, Nat.and_two_pow_sub_one_eq_mod] at this
    exact this
  have e2 : mulI .u64 5 (shrI .u64 (a.z : Int) 2) = ((5 * (a.z / 4) % 18446744073709551616 : Nat) : Int) := by
    have h1 : shrI .u64 (a.z : Int) 2 = ((a.z / 4 : Nat) : Int) := shrI_u64 a.z 2 ha.z
    rw [h1]; exact mulI_u64 5 (a.z / 4)
  rw [e1, e2]
  refine M.stK 1 (off := 2) (c := c3 a) rfl (by simp [c3]) rfl fun w3 M => ?_
  have M : Mem w [] [(b1, .cells (List.toArray [.int .u64 0, .int .u64 0, .int .u64 0]) 43 (0, 0)), (b0, .cells (c3 ⟨a.x, a.y, a.z % 4⟩).toArray 43 (0, 0))] (fun _ => True) w3 := M
  refine ⟨_, _, _, M.cells 1 (c := c3 ⟨a.x, a.y, a.z % 4⟩) rfl, ?_⟩
  have hz := Nat.mod_lt a.z (show 0 < 4 by decide)
  refine CallK.ret (p_plus w3 ⟨a.x, a.y, a.z % 4⟩ ⟨5 * (a.z / 4) % 18446744073709551616, 0, 0⟩ ⟨ha.x, ha.y, by show a.z % 4 < _; omega⟩ ⟨Nat.mod_lt _ (by decide), show (0 : Nat) < 18446744073709551616 by decide, show (0 : Nat) < 18446744073709551616 by decide⟩) fun w4 k4 => ⟨_, _, _, rfl, ?_⟩
  have M := M.call k4
  refine M.stK 0 (off := 0) (c := [.int .u64 0, .int .u64 0, .int .u64 0]) rfl (by simp) rfl fun w5 M => ?_
  exact ⟨_, _, _, M.cells 0 (c := c3 a.five) rfl, rfl, M.keep⟩

/-- The package's table, as it is laid. -/
structure LaidP (w : World) : Prop where
  p : CellsAt w ⟨0, 0, none⟩ (c3 p3)
  low : 1 ≤ w.heap.size
theorem LaidP.keep0 {w w' : World} (h : LaidP w) (hk : Keep [] w w') : LaidP w' := ⟨h.p.keep hk (by simp), Nat.le_trans h.low hk.size⟩
theorem LaidP.mem {w : World} (h : LaidP w) : Mem w [] [] LaidP w := Mem.startF w fun w' hk => h.keep0 hk

theorem eq3_t {a0 a1 a2 b0 b1 b2 : Nat} : eq3I (a0 : Int) (a1 : Int) (a2 : Int) (b0 : Int) (b1 : Int) (b2 : Int) = decide (a0 = b0 ∧ a1 = b1 ∧ a2 = b2) := by
  rw [Bool.eq_iff_iff]
  simp only [eq3I, Bool.and_eq_true, beq_iff_eq, decide_eq_true_eq]
  omega

theorem p_left (w : World) (hw : LaidP w) (a : N3) (ha : a.ok) : Calls Tryd.prog 30 #[v3 a] w (Ret w (v3 a.left)) := by
  refine calls_ret (F30_calls _ _ _ _ _ ?_)
  refine hw.mem.newK fun b0 w1 M => ?_
  refine M.newK fun b1 w2 M => ?_
  refine ⟨_, _, _, M.cells 1 (c := c3 a) rfl, ?_⟩
  refine CallK.ret (p_five w2 a ha) fun w3 k3 => ⟨_, _, _, rfl, ?_⟩
  have M := M.call k3
  refine CallK.ret (p_five w3 a.five (N3.five_ok a)) fun w4 k4 => ⟨_, _, _, rfl, ?_⟩
  have M := M.call k4
  have okb := N3.five_ok a.five
  have el : a.left = (if (a.five.five.x = p3.x ∧ a.five.five.y = p3.y ∧ a.five.five.z = p3.z) ∨ 3 < (a.five.five.plus five3).z then ⟨(a.five.five.plus five3).x, (a.five.five.plus five3).y, (a.five.five.plus five3).z % 4⟩ else a.five.five) := rfl
  rw [el]
  generalize a.five.five = b at okb
  refine M.stK 1 (off := 0) (c := c3 a) rfl (by simp [c3]) rfl fun w5 M => ?_
  have M : Mem w [] [(b1, .cells (List.toArray [.int .u64 0, .int .u64 0, .int .u64 0]) 43 (0, 0)), (b0, .cells (c3 b).toArray 43 (0, 0))] LaidP w5 := M
  refine ⟨_, _, _, M.cells 1 (c := c3 b) rfl, ?_⟩
  refine CallK.ret (p_plus w5 b five3 okb ⟨by decide, by decide, by decide⟩) fun w6 k6 => ⟨_, _, _, rfl, ?_⟩
  have M := M.call k6
  have okc := N3.plus_ok b five3
  generalize b.plus five3 = c at okc
  refine M.newK fun b2 w7 M => ?_
  refine M.stK 0 (off := 0) (c := [.int .u64 0, .int .u64 0, .int .u64 0]) rfl (by simp) rfl fun w8 M => ?_
  have M : Mem w [] [(b2, .cells (c3 c).toArray 43 (0, 0)), (b1, .cells (List.toArray [.int .u64 0, .int .u64 0, .int .u64 0]) 43 (0, 0)), (b0, .cells (c3 b).toArray 43 (0, 0))] LaidP w8 := M
  intro K hK
  refine ⟨_, _, _, M.cells 2 (c := c3 b) rfl, _, _, _, M.now.p, ?_⟩
  have go : ∀ t : Bool, (t = true ↔ ((b.x = p3.x ∧ b.y = p3.y ∧ b.z = p3.z) ∨ 3 < c.z)) → K [.bool t] w8 := by
    intro t ht
    refine hK _ _ fun _ => SplitK.of (fun h => ?_) (fun h => ?_)
    · rw [if_pos (ht.1 h)]
      refine ⟨by decide, by decide, _, M.cell 0 (c := c3 c) (off := 2) rfl rfl, by decide, by decide, ?_⟩
      have e1 : andI .u64 (c.z : Int) 3 = ((c.z % 4 : Nat) : Int) := by
        have := andI_u64 c.z 3 okc.z (by decide)
        rw [show (3 : Nat) = 2 ^ 2 - 1 from rfl, Nat.and_two_pow_sub_one_eq_mod] at this
        exact this
      rw [e1]
      refine M.stK 0 (off := 2) (c := c3 c) rfl (by simp [c3]) rfl fun w9 M => ?_
      refine ⟨_, _, _, M.cells 0 (c := c3 ⟨c.x, c.y, c.z % 4⟩) rfl, ?_⟩
      refine M.stK 1 (off := 0) (c := [.int .u64 0, .int .u64 0, .int .u64 0]) rfl (by simp) rfl fun w10 M => ?_
      exact ⟨_, _, _, M.cells 1 (c := c3 ⟨c.x, c.y, c.z % 4⟩) rfl, rfl, M.keep⟩
    · rw [if_neg (fun hc => by rw [ht.2 hc] at h; cases h)]
      refine ⟨_, _, _, M.cells 2 (c := c3 b) rfl, ?_⟩
      refine M.stK 1 (off := 0) (c := [.int .u64 0, .int .u64 0, .int .u64 0]) rfl (by simp) rfl fun w10 M => ?_
      exact ⟨_, _, _, M.cells 1 (c := c3 b) rfl, rfl, M.keep⟩
  refine SplitK.of (fun h => ?_) (fun h => ?_)
  · rw [eq3_t] at h
    exact go true (by simp only [true_iff]; exact .inl (of_decide_eq_true h))
  · rw [eq3_t] at h
    have h := of_decide_eq_false h
    refine ⟨by decide, by decide, _, M.cell 0 (c := c3 c) (off := 2) rfl rfl, go _ ?_⟩
    rw [show ltI 3 (c.z : Int) = decide (3 < c.z) from ltI_nat 3 c.z, decide_eq_true_eq]
    exact ⟨.inr, fun hc => hc.resolve_left h⟩

end Go.Proofs.YthpodgkmghgenaaDoor
