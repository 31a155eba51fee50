/-
  SX: rows whose elements have more than one cell.
-/
import Derived.Test.YtgecpbplbkpdlaaSxLoads
namespace Go.Sx
open Go
set_option linter.unusedVariables false

/-- A row of elements of so many cells. -/
def RsAt (w : World) (sz : Nat) (a : Option Addr) (l : Nat) (vs : List Value) : Prop := vs.length = l * sz ∧ SlAt w a vs
theorem RsAt.keep0 {w w' : World} {sz : Nat} {a : Option Addr} {l : Nat} {vs : List Value} (h : RsAt w sz a l vs) (hk : Keep [] w w') : RsAt w' sz a l vs := ⟨h.1, h.2.keep0 hk⟩
theorem RsAt.nil {w : World} {sz : Nat} : RsAt w sz none 0 [] := ⟨by simp, .inl rfl⟩
theorem RsAt.ptr {w : World} {sz : Nat} {a : Option Addr} {l : Nat} {vs : List Value} (h : RsAt w sz a l vs) (hv : 0 < vs.length) : ∃ p, a = some p ∧ CellsAt w p vs := by
  rcases h.2 with h1 | ⟨p, hp, hc⟩
  · subst h1; simp at hv
  · exact ⟨p, hp, hc⟩
theorem RsAt.old {w : World} {sz : Nat} {a : Option Addr} {l : Nat} {vs : List Value} (h : RsAt w sz a l vs) (hsz : 0 < sz) : OldAt w a (mulN l sz) vs ∧ (a = none → l = 0) := by
  refine ⟨?_, fun ha => ?_⟩
  · have := h.2.old
    rw [h.1] at this
    exact this
  · rcases h.2 with h1 | ⟨p, hp, _⟩
    · have := h.1
      rw [h1] at this
      simp only [List.length_nil] at this
      rcases Nat.mul_eq_zero.1 this.symm with h2 | h2
      · exact h2
      · omega
    · rw [ha] at hp; cases hp
theorem add_add (p : Addr) (i j : Nat) : (p.add i).add j = p.add (i + j) := by
  obtain ⟨b, o, s⟩ := p
  unfold Addr.add
  by_cases hi : i = 0
  · subst hi; simp
  · by_cases hj : j = 0
    · subst hj; simp
    · simp [hi, hj, Nat.add_assoc]
/-- The cells of one element. -/
theorem CellsAt.part {w : World} {p : Addr} {vs us : List Value} {k : Nat} (h : CellsAt w p vs) (hu : ∀ i v, us[i]? = some v → vs[k + i]? = some v) : CellsAt w (p.add k) us := by
  intro i v hi
  rw [add_add]
  exact h (k + i) v (hu i v hi)

/-- An own row of such elements. -/
def OwnR (opt : List (Nat × Obj)) (T : TypeId) (sz : Nat) (a : Option Addr) (l c : Nat) (vs : List Value) : Prop :=
  (opt = [] ∧ a = none ∧ l = 0 ∧ c = 0 ∧ vs = []) ∨
  ∃ b rest, opt = [(b, .cells (vs ++ rest).toArray T (0, 0))] ∧ a = some ⟨b, 0, none⟩ ∧ vs.length = l * sz ∧ vs.length + rest.length = c * sz ∧ c ≤ 9223372036854775807
theorem OwnR.nil {T : TypeId} {sz : Nat} : OwnR [] T sz none 0 0 [] := .inl ⟨rfl, rfl, rfl, rfl, rfl⟩
theorem OwnR.len {opt : List (Nat × Obj)} {T : TypeId} {sz : Nat} {a : Option Addr} {l c : Nat} {vs : List Value} (ho : OwnR opt T sz a l c vs) : vs.length = l * sz := by
  rcases ho with ⟨_, _, rfl, _, rfl⟩ | ⟨_, _, _, _, h, _, _⟩
  · simp
  · exact h

theorem Mem.appR {w0 w : World} {lo : List Nat} {m opt : List (Nat × Obj)} {F : World → Prop} (M : Mem w0 lo (opt ++ m) F w) {T : TypeId} {sz : Nat} {a : Option Addr} {l c : Nat} {vs : List Value} (ho : OwnR opt T sz a l c vs) (hsz : 0 < sz)
    {bytes n : Nat} {z : List Value} {ys : List Value} {k : Option Addr → Nat → Nat → World → Prop} (hz : z.length = sz) (hy : ys.length = n * sz) (hc : ys.all isCell = true) (hb : (l + n) * bytes ≤ 140737488355328) (hm : l + n ≤ 4611686018427387904)
    (h : ∀ a' l' c' opt' w', OwnR opt' T sz a' l' c' (vs ++ ys) → Mem w0 lo (opt' ++ m) F w' → l' = l + n → k a' l' c' w') : AppK w T sz bytes z a l c ys n k := by
  have hlen := ho.len
  refine ⟨hc, hb, hm, vs, ?_, ?_, ?_⟩
  · rcases ho with ⟨_, rfl, rfl, _, rfl⟩ | ⟨b, rest, rfl, rfl, hl, _, hcb⟩
    · rfl
    · refine ⟨hl, M.cellsFrom 0 rfl fun j v hv => ?_⟩
      simp [List.getElem?_append_left (List.getElem?_eq_some_iff.1 hv).1, hv]
  · rintro p hp hfit
    rcases ho with ⟨_, h1, _⟩ | ⟨b, rest, rfl, rfl, hl, hcp, hcb⟩
    · rw [h1] at hp; cases hp
    · cases hp
      intro j hj
      have hg := M.get (i := 0) rfl
      rw [addr_add, addr_add]
      have h1 : (l + n) * sz ≤ c * sz := Nat.mul_le_mul_right _ hfit
      rw [Nat.add_mul] at h1
      have hlt : 0 + l * sz + j < (vs ++ rest).length := by rw [List.length_append]; omega
      exact ⟨⟨_, cell_of_block hg (by rw [List.getElem?_toArray]; exact List.getElem?_eq_getElem hlt)⟩, frozen_of_block hg (fun h => by simp at h)⟩
  · intro a' l' c' w1 hr
    cases hr with
    | room hfit =>
      rcases ho with ⟨rfl, rfl, rfl, rfl, rfl⟩ | ⟨b, rest, rfl, rfl, hl, hcp, hcb⟩
      · have h0 : n = 0 := by omega
        subst h0
        have : ys = [] := List.eq_nil_of_length_eq_zero (by omega)
        subst this
        exact h _ _ _ [] _ (.inl ⟨rfl, rfl, rfl, rfl, rfl⟩) M (by omega)
      · have h1 : (l + n) * sz ≤ c * sz := Nat.mul_le_mul_right _ hfit
        rw [Nat.add_mul] at h1
        obtain ⟨h1', h2⟩ := storeAll_block (b := b) (T := T) (fr := (0, 0)) ys (vs ++ rest) (l * sz) 0 w (M.get (i := 0) rfl)
        have e : spliceL (vs ++ rest) (l * sz + 0) ys = (vs ++ ys) ++ rest.drop ys.length := by
          rw [Nat.add_zero, ← hl, spliceL_mid _ _ _ (by omega)]
        rw [e] at h1'
        have hk : (Addr.mk b 0 none).add (l * sz) = ⟨b, l * sz, none⟩ := by rw [addr_add, Nat.zero_add]
        have M' := M.write 0 rfl h2 h1'
        refine h _ _ _ [(b, _)] _ (.inr ⟨b, rest.drop ys.length, rfl, rfl, by rw [List.length_append, hl, hy, Nat.add_mul], by rw [List.length_append, List.length_drop]; omega, hcb⟩) ?_ rfl
        show Mem w0 lo _ F (storeAll w ((Addr.mk b 0 none).add (l * sz)) 0 ys)
        rw [hk]
        exact M'
    | grows _ hlt hcap hC =>
      have M' : Mem w0 lo m F w := M.sub (List.sublist_append_right _ _)
      have M2 := M'.drew.alloc (.cells (vs ++ ys ++ zerosL z (c' - (l + n))).toArray T (0, 0))
      refine h _ _ _ [(w.heap.size, _)] _ (.inr ⟨w.heap.size, zerosL z (c' - (l + n)), rfl, rfl, by rw [List.length_append, hlen, hy, Nat.add_mul], ?_, hC⟩) M2 rfl
      rw [zerosL_length, List.length_append, hlen, hy, hz, ← Nat.add_mul, ← Nat.add_mul]
      congr 1
      omega

theorem OwnR.rsAt {opt : List (Nat × Obj)} {T : TypeId} {sz : Nat} {a : Option Addr} {l c : Nat} {vs : List Value} {w0 w : World} {lo : List Nat} {m : List (Nat × Obj)} {F : World → Prop}
    (ho : OwnR opt T sz a l c vs) (M : Mem w0 lo (opt ++ m) F w) : RsAt w sz a l vs := by
  refine ⟨ho.len, ?_⟩
  rcases ho with ⟨rfl, rfl, rfl, rfl, h⟩ | ⟨b, rest, rfl, rfl, hl, hcp, hcb⟩
  · exact .inl h
  · refine .inr ⟨_, rfl, M.cellsFrom 0 rfl fun j v hv => ?_⟩
    have := (List.getElem?_eq_some_iff.1 hv).1
    simp [List.getElem?_append_left this, hv]
theorem OwnR.freshR {opt : List (Nat × Obj)} {T : TypeId} {sz : Nat} {a : Option Addr} {l c : Nat} {vs : List Value} {w0 w : World} {m : List (Nat × Obj)} {F : World → Prop}
    (ho : OwnR opt T sz a l c vs) (M : Mem w0 [] (opt ++ m) F w) : Fresh w0.heap.size w (fun w => RsAt w sz a l vs) := by
  have hs := OwnR.rsAt ho M
  intro ids w' hi hk
  refine ⟨ho.len, ?_⟩
  rcases ho with ⟨rfl, rfl, rfl, rfl, h⟩ | ⟨b, rest, rfl, rfl, hl, hcp, hcb⟩
  · exact .inl h
  · have hb := M.fresh (b, _) (List.mem_append_left _ (List.mem_singleton.2 rfl))
    rcases hs.2 with h | ⟨p, hp, hc⟩
    · exact .inl h
    · cases hp
      refine .inr ⟨_, rfl, hc.keep hk fun hm => ?_⟩
      have := hi _ hm
      rcases hb with h | h
      · simp at this h; omega
      · cases h
end Go.Sx
