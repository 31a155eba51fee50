/-
  SX: cells of rows of 32-bit numbers, read and written by number.
-/
import Derived.Test.YtgecpbplbkpdlaaSxRange
namespace Go.Sx
open Go
set_option linter.unusedVariables false

theorem u32s_getD {vs : List Nat} {j : Nat} (hj : j < vs.length) : (u32s vs)[j]? = some (.int .u32 ((vs.getD j 0 : Nat) : Int)) := by
  simp [u32s, u32V, List.getD_eq_getElem?_getD, List.getElem?_eq_getElem hj]

/-- A number of an array, in every world of S. -/
theorem ldA {b N : Nat} {vs : List Nat} {S : World → Prop} {i : Int} {k : Int → Prop} (j : Nat) (hi : i = (j : Int)) (hS : ∀ w, S w → CellsAt w ⟨b, 0, none⟩ (u32s vs)) (hN : vs.length = N) (hj : j < N) (hk : k ((vs.getD j 0 : Nat) : Int)) :
    (0 : Int) ≤ i ∧ i < natI N ∧ ∃ n : Int, (∀ w, S w → w.cell? (addA ⟨b, 0, none⟩ (mulN (intN i) 1)) = some (.int .u32 n)) ∧ k n := by
  subst hi hN
  refine ⟨by omega, by simp; exact hj, _, fun w hw => ?_, hk⟩
  rw [addA_int]
  exact hS w hw j _ (u32s_getD hj)

/-- The same, in the world at hand. -/
theorem ldW {b N : Nat} {vs : List Nat} {w : World} {i : Int} {k : Int → Prop} (j : Nat) (hi : i = (j : Int)) (hS : CellsAt w ⟨b, 0, none⟩ (u32s vs)) (hN : vs.length = N) (hj : j < N) (hk : k ((vs.getD j 0 : Nat) : Int)) :
    (0 : Int) ≤ i ∧ i < natI N ∧ ∃ n : Int, w.cell? (addA ⟨b, 0, none⟩ (mulN (intN i) 1)) = some (.int .u32 n) ∧ k n := by
  subst hi hN
  refine ⟨by omega, by simp; exact hj, _, ?_, hk⟩
  rw [addA_int]
  exact hS j _ (u32s_getD hj)

/-- A number of a row, in every world of S. -/
theorem ldR {l : Nat} {a : Option Addr} {p : Addr} {vs : List Nat} {S : World → Prop} {i : Int} {k : Addr → Int → Prop} (j : Nat) (hi : i = (j : Int)) (ha : a = some p) (hS : ∀ w, S w → CellsAt w p (u32s vs)) (hN : vs.length = l) (hj : j < l) (hk : k p ((vs.getD j 0 : Nat) : Int)) :
    (0 : Int) ≤ i ∧ i < natI l ∧ SomeK a fun p => ∃ n : Int, (∀ w, S w → w.cell? (addA p (mulN (intN i) 1)) = some (.int .u32 n)) ∧ k p n := by
  subst hi hN ha
  refine ⟨by omega, by simp; exact hj, _, fun w hw => ?_, hk⟩
  rw [addA_int]
  exact hS w hw j _ (u32s_getD hj)

theorem ldRW {l : Nat} {a : Option Addr} {p : Addr} {vs : List Nat} {w : World} {i : Int} {k : Addr → Int → Prop} (j : Nat) (hi : i = (j : Int)) (ha : a = some p) (hS : CellsAt w p (u32s vs)) (hN : vs.length = l) (hj : j < l) (hk : k p ((vs.getD j 0 : Nat) : Int)) :
    (0 : Int) ≤ i ∧ i < natI l ∧ SomeK a fun p => ∃ n : Int, w.cell? (addA p (mulN (intN i) 1)) = some (.int .u32 n) ∧ k p n := by
  subst hi hN ha
  refine ⟨by omega, by simp; exact hj, _, ?_, hk⟩
  rw [addA_int]
  exact hS j _ (u32s_getD hj)

theorem VsAt.ptr {w : World} {a : Option Addr} {l : Nat} {vs : List Value} (h : VsAt w a l vs) (hv : 0 < vs.length) : ∃ p, a = some p ∧ CellsAt w p vs := by
  rcases h.2 with h1 | ⟨p, hp, hc⟩
  · subst h1; simp at hv
  · exact ⟨p, hp, hc⟩

/-- A number of an array is written. -/
theorem Mem.st32 {w0 w : World} {lo : List Nat} {m : List (Nat × Obj)} {F : World → Prop} (M : Mem w0 lo m F w) (ix : Nat) {b N : Nat} {vs : List Nat} {T : TypeId} {i x : Int} {k : World → Prop}
    (hm : m[ix]? = some (b, .cells (u32s vs).toArray T (0, 0))) (j : Nat) (hi : i = (j : Int)) (hN : vs.length = N) (hj : j < N) (y : Nat) (hx : x = (y : Int))
    (h : ∀ w1, Mem w0 lo (m.set ix (b, .cells (u32s (vs.set j y)).toArray T (0, 0))) F w1 → k w1) :
    (0 : Int) ≤ i ∧ i < natI N ∧ StK w (addA ⟨b, 0, none⟩ (mulN (intN i) 1)) [.int .u32 x] k := by
  subst hi hN hx
  refine ⟨by omega, by simp; exact hj, ?_⟩
  rw [addA_int, addr_add, Nat.zero_add]
  refine M.stK ix hm (by simp; omega) rfl fun w1 M1 => h w1 ?_
  have : spliceL (u32s vs) j [.int .u32 (y : Int)] = u32s (vs.set j y) := by
    show (u32s vs).set j (u32V y) = _
    simp [u32s, List.map_set]
  rw [this] at M1
  exact M1

/-- Appending to an own row: what stood there stands there still. -/
theorem Mem.appK' {w0 w : World} {lo : List Nat} {m opt : List (Nat × Obj)} {F : World → Prop} (M : Mem w0 lo (opt ++ m) F w) {T : TypeId} {a : Option Addr} {l c : Nat} {vs : List Value} (ho : OwnM opt T a l c vs)
    {bytes n : Nat} {z0 : Value} {ys : List Value} {k : Option Addr → Nat → Nat → World → Prop} (hy : ys.length = n) (hc : ys.all isCell = true) (hb : (vs.length + n) * bytes ≤ 140737488355328) (hm : vs.length + n ≤ 4611686018427387904)
    (h : ∀ a' l' c' opt' w', OwnM opt' T a' l' c' (vs ++ ys) → Mem w0 lo (opt' ++ m) F w' → l' = vs.length + n → (∀ p, a = some p → CellsAt w' p vs) → k a' l' c' w') : AppK w T 1 bytes [z0] a l c ys n k := by
  have hl : l = vs.length := by rcases ho with ⟨_, _, h1, _, h2⟩ | ⟨_, _, _, _, h1, _, _⟩ <;> simp [*]
  have base := Mem.appK (k := fun _ _ _ _ => True) (z0 := z0) (bytes := bytes) M ho hy hc hb hm (fun _ _ _ _ _ _ _ _ => trivial)
  refine ⟨hc, by rw [hl]; exact hb, by rw [hl]; exact hm, vs, ?_, ?_, ?_⟩
  · rcases ho with ⟨_, rfl, _, _, rfl⟩ | ⟨b, rest, rfl, rfl, rfl, _, hcb⟩
    · rfl
    · refine ⟨by simp, M.cellsFrom 0 rfl fun j v hv => ?_⟩
      simp [List.getElem?_append_left (List.getElem?_eq_some_iff.1 hv).1, hv]
  · obtain ⟨_, _, _, old, _, h2, _⟩ := base
    exact h2
  · intro a' l' c' w1 hr
    cases hr with
    | room hfit =>
      rcases ho with ⟨rfl, rfl, rfl, rfl, rfl⟩ | ⟨b, rest, rfl, rfl, rfl, rfl, hcb⟩
      · have : ys = [] := List.eq_nil_of_length_eq_zero (by omega)
        subst this
        refine h _ _ _ [] _ (.inl ⟨rfl, rfl, by simp at hy; omega, rfl, rfl⟩) M (by simp) (fun p hp => by cases hp)
      · obtain ⟨h1, h2⟩ := storeAll_block (b := b) (T := T) (fr := (0, 0)) ys (vs ++ rest) (vs.length * 1) 0 w (M.get (i := 0) rfl)
        have e : spliceL (vs ++ rest) (vs.length * 1 + 0) ys = (vs ++ ys) ++ rest.drop ys.length := by
          rw [Nat.mul_one, Nat.add_zero, spliceL_mid _ _ _ (by omega)]
        rw [e] at h1
        have hk : (Addr.mk b 0 none).add (vs.length * 1) = ⟨b, vs.length * 1, none⟩ := by rw [addr_add, Nat.zero_add]
        have M' := M.write 0 rfl h2 h1
        have M'' : Mem w0 lo ((b, .cells ((vs ++ ys) ++ rest.drop ys.length).toArray T (0, 0)) :: m) F (storeAll w ((Addr.mk b 0 none).add (vs.length * 1)) 0 ys) := by rw [hk]; exact M'
        refine h _ _ _ [(b, _)] _ (.inr ⟨b, rest.drop ys.length, rfl, rfl, by simp; omega, by simp; omega, hcb⟩) M'' rfl ?_
        intro p hp
        cases hp
        refine M''.cellsFrom 0 rfl fun j v hv => ?_
        have hj := (List.getElem?_eq_some_iff.1 hv).1
        rw [Nat.zero_add, List.append_assoc, List.getElem?_append_left hj]
        exact hv
    | grows _ hlt hcap hC =>
      have M3 := M.drew.alloc (.cells (vs ++ ys ++ zerosL [z0] (c' - (l + n))).toArray T (0, 0))
      have M' : Mem w0 lo m F w := M.sub (List.sublist_append_right _ _)
      have M2 := M'.drew.alloc (.cells (vs ++ ys ++ zerosL [z0] (c' - (l + n))).toArray T (0, 0))
      refine h _ _ _ [(w.heap.size, _)] _ (.inr ⟨w.heap.size, zerosL [z0] (c' - (l + n)), rfl, rfl, by simp; omega, ?_, hC⟩) M2 (by omega) ?_
      · simp [zerosL_length]; omega
      · intro p hp
        rcases ho with ⟨rfl, rfl, rfl, rfl, rfl⟩ | ⟨b, rest, rfl, rfl, rfl, rfl, hcb⟩
        · cases hp
        · cases hp
          refine M3.cellsFrom 1 rfl fun j v hv => ?_
          have hj := (List.getElem?_eq_some_iff.1 hv).1
          rw [Nat.zero_add, List.getElem?_append_left hj]
          exact hv

/-- Where an own row lies. -/
theorem OwnM.ptr {opt : List (Nat × Obj)} {T : TypeId} {a : Option Addr} {l c : Nat} {vs : List Value} (ho : OwnM opt T a l c vs) (hv : 0 < vs.length) :
    ∃ p, a = some p ∧ ∀ {w0 w : World} {lo : List Nat} {m : List (Nat × Obj)} {F : World → Prop}, Mem w0 lo (opt ++ m) F w → CellsAt w p vs := by
  rcases ho with ⟨rfl, rfl, rfl, rfl, rfl⟩ | ⟨b, rest, rfl, rfl, rfl, rfl, hcb⟩
  · simp at hv
  · refine ⟨_, rfl, fun M => M.cellsFrom 0 rfl fun j v hv => ?_⟩
    have hj := (List.getElem?_eq_some_iff.1 hv).1
    rw [Nat.zero_add, List.getElem?_append_left hj]
    exact hv
theorem ldR' {l : Nat} {a : Option Addr} {p : Addr} {vs : List Nat} {S : World → Prop} {i : Int} {k : Addr → Int → Prop} (j x : Nat) (hx : vs.getD j 0 = x) (hi : i = (j : Int)) (ha : a = some p) (hS : ∀ w, S w → CellsAt w p (u32s vs)) (hN : vs.length = l) (hj : j < l) (hk : k p (x : Int)) :
    (0 : Int) ≤ i ∧ i < natI l ∧ SomeK a fun p => ∃ n : Int, (∀ w, S w → w.cell? (addA p (mulN (intN i) 1)) = some (.int .u32 n)) ∧ k p n := by
  subst hx; exact ldR j hi ha hS hN hj hk
theorem ldRW' {l : Nat} {a : Option Addr} {p : Addr} {vs : List Nat} {w : World} {i : Int} {k : Addr → Int → Prop} (j x : Nat) (hx : vs.getD j 0 = x) (hi : i = (j : Int)) (ha : a = some p) (hS : CellsAt w p (u32s vs)) (hN : vs.length = l) (hj : j < l) (hk : k p (x : Int)) :
    (0 : Int) ≤ i ∧ i < natI l ∧ SomeK a fun p => ∃ n : Int, w.cell? (addA p (mulN (intN i) 1)) = some (.int .u32 n) ∧ k p n := by
  subst hx; exact ldRW j hi ha hS hN hj hk

end Go.Sx
