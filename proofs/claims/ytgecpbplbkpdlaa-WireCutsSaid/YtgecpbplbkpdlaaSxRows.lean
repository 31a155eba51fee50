/-
  SX: rows of cells that a call hands back, whatever their values.
-/
import Derived.Test.YtgecpbplbkpdlaaSxTxt
namespace Go.Sx
open Go
set_option linter.unusedVariables false

def VsAt (w : World) (a : Option Addr) (l : Nat) (vs : List Value) : Prop := l = vs.length ∧ SlAt w a vs

theorem VsAt.get {w : World} {a : Option Addr} {l : Nat} {vs : List Value} (h : VsAt w a l vs) {k : Nat} (hk : k < vs.length) : ∃ p, a = some p ∧ w.cell? (p.add k) = some vs[k] := by
  rcases h.2 with h1 | ⟨p, hp, hc⟩
  · subst h1; simp at hk
  · exact ⟨p, hp, hc k _ (by simp [hk])⟩
theorem VsAt.keep0 {w w' : World} {a : Option Addr} {l : Nat} {vs : List Value} (h : VsAt w a l vs) (hk : Keep [] w w') : VsAt w' a l vs := ⟨h.1, h.2.keep0 hk⟩
theorem VsAt.nil {w : World} : VsAt w none 0 [] := ⟨rfl, .inl rfl⟩
theorem VsAt.old {w : World} {a : Option Addr} {l : Nat} {vs : List Value} (h : VsAt w a l vs) : OldAt w a (mulN l 1) vs ∧ (a = none → l = 0) := by
  refine ⟨?_, fun ha => ?_⟩
  · have := h.2.old
    rw [← h.1] at this
    simpa using this
  · rcases h.2 with h1 | ⟨p, hp, _⟩
    · rw [h.1, h1]; rfl
    · rw [ha] at hp; cases hp

/-- A row of cells that a call hands back. -/
def RetV (w : World) (vs : List Value) (e : Ending) (w' : World) : Prop := ∃ a l c, e = .returned (.slice a l c) ∧ Fresh w.heap.size w' (fun w => VsAt w a l vs) ∧ Keep [] w w'

theorem calls_retV {P : Program} {f : FuncId} {args : Array Value} {w : World} {vs : List Value}
    (h : Calls P f args w fun e w' => ∃ v, e = .returned v ∧ ∃ a l c, v = .slice a l c ∧ Fresh w.heap.size w' (fun w => VsAt w a l vs) ∧ Keep [] w w') : Calls P f args w (RetV w vs) :=
  h.mono fun e w' ⟨v, he, a, l, c, hv, h⟩ => ⟨a, l, c, by rw [he, hv], h⟩

/-- A call that hands back a row. -/
theorem CallK.retV {P : Program} {f : FuncId} {args : Array Value} {w : World} {vs : List Value} {R : Ending → World → Prop} (h : Calls P f args w (RetV w vs))
    (k : ∀ a l c w1, Fresh w.heap.size w1 (fun w => VsAt w a l vs) → Keep [] w w1 → R (.returned (.slice a l c)) w1) : CallK P f args w R :=
  h.mono fun e w1 ⟨a, l, c, he, hf, hk⟩ => by subst he; exact k a l c w1 hf hk

theorem OwnM.vsAt {opt : List (Nat × Obj)} {T : TypeId} {a : Option Addr} {l c : Nat} {vs : List Value} {w0 w : World} {lo : List Nat} {m : List (Nat × Obj)} {F : World → Prop}
    (ho : OwnM opt T a l c vs) (M : Mem w0 lo (opt ++ m) F w) : VsAt w a l vs := by
  rcases ho with ⟨rfl, rfl, rfl, rfl, h⟩ | ⟨b, rest, rfl, rfl, rfl, rfl, hcb⟩
  · subst h; exact ⟨rfl, .inl rfl⟩
  · refine ⟨rfl, .inr ⟨_, rfl, M.cellsFrom 0 rfl fun j v hv => ?_⟩⟩
    have := (List.getElem?_eq_some_iff.1 hv).1
    simp [List.getElem?_append_left this, hv]

theorem OwnM.freshV {opt : List (Nat × Obj)} {T : TypeId} {a : Option Addr} {l c : Nat} {vs : List Value} {w0 w : World} {m : List (Nat × Obj)} {F : World → Prop}
    (ho : OwnM opt T a l c vs) (M : Mem w0 [] (opt ++ m) F w) : Fresh w0.heap.size w (fun w => VsAt w a l vs) := by
  have hs := OwnM.vsAt ho M
  intro ids w' hi hk
  rcases ho with ⟨rfl, rfl, rfl, rfl, h⟩ | ⟨b, rest, rfl, rfl, rfl, rfl, hcb⟩
  · subst h; exact ⟨rfl, .inl rfl⟩
  · have hb := M.fresh (b, _) (List.mem_append_left _ (List.mem_singleton.2 rfl))
    refine ⟨hs.1, ?_⟩
    rcases hs.2 with h | ⟨p, hp, hc⟩
    · exact .inl h
    · cases hp
      refine .inr ⟨_, rfl, hc.keep hk fun hm => ?_⟩
      have := hi _ hm
      rcases hb with h | h
      · simp at this h; omega
      · cases h

/-- An own row that is no longer written. -/
theorem Mem.ownFrV {w0 w : World} {m opt : List (Nat × Obj)} {F : World → Prop} (M : Mem w0 [] (opt ++ m) F w) {T : TypeId} {a : Option Addr} {l c : Nat} {vs : List Value}
    (ho : OwnM opt T a l c vs) : Mem w0 [] m (fun w => F w ∧ Fresh w0.heap.size w fun w => VsAt w a l vs) w := by
  have hs := OwnM.vsAt ho M
  refine Mem.addF (M.sub (List.sublist_append_right _ _)) fun w' hk => ?_
  intro ids w'' hi hk2
  rcases ho with ⟨rfl, rfl, rfl, rfl, h⟩ | ⟨b, rest, rfl, rfl, rfl, rfl, hcb⟩
  · subst h; exact ⟨rfl, .inl rfl⟩
  · have hnd := M.nd
    simp only [List.cons_append, List.nil_append, List.map_cons, List.nodup_cons] at hnd
    have hb := M.fresh (b, _) (List.mem_append_left _ (List.mem_singleton.2 rfl))
    refine ⟨hs.1, ?_⟩
    rcases hs.2 with h | ⟨p, hp, hc⟩
    · exact .inl h
    · cases hp
      refine .inr ⟨_, rfl, (hc.keep hk hnd.1).keep hk2 fun hm => ?_⟩
      have := hi _ hm
      rcases hb with h | h
      · simp at this h; omega
      · cases h

/-- Numbers of 32 bits as cells. -/
def u32V (n : Nat) : Value := .int .u32 (n : Int)
def u32s (l : List Nat) : List Value := l.map u32V
@[simp] theorem u32s_length (l : List Nat) : (u32s l).length = l.length := by simp [u32s]
theorem u32s_get {l : List Nat} {k : Nat} (h : k < (u32s l).length) : (u32s l)[k] = u32V (l[k]'(by simpa using h)) := by simp [u32s]
/-- Whole numbers as cells. -/
def i64V (n : Int) : Value := .int .i64 n

end Go.Sx
