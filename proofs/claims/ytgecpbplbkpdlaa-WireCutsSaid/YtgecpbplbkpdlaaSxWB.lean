/-
  A part of the proof: WB.
-/
import Derived.Test.YtgecpbplbkpdlaaSxOD
import Derived.Test.YtgecpbplbkpdlaaSxRE
import Derived.Test.YtgecpbplbkpdlaaSxPanic
import Derived.Test.YtgecpbplbkpdlaaSxWire
import Derived.Test.YtgecpbplbkpdlaaSxRange
import Derived.Test.YtgecpbplbkpdlaaSxLoads
namespace Go.Proofs.Ytgecpbplbkpdlaa
open Go Go.Sx Go.Oct Go.Wire
set_option linter.unusedVariables false

/-- A block that the caller has laid and that may be written. -/
theorem Mem.startB {w : World} {b : Nat} {o : Obj} (h : w.heap[b]? = some o) : Mem w [b] [(b, o)] (fun _ => True) w :=
  ⟨Keep.refl _ _, by simp, by simp [h], by simp, fun _ _ => trivial⟩
theorem w_need (w : World) (b : Bool) : Calls Try.prog 73 #[.bool b] w (fun e w' => w' = w ∧ e = if b then .returned (.tuple #[]) else .panicked [oddP false]) := by
  refine F73_calls _ _ _ ?_
  cases b
  · exact ⟨rfl, rfl⟩
  · exact ⟨rfl, rfl⟩
theorem need_t {w : World} {b : Bool} {R : Ending → World → Prop} (hb : b = true) (h : R (.returned (.tuple #[])) w) : CallK Try.prog 73 #[.bool b] w R :=
  (w_need w b).mono fun e w' ⟨hw, he⟩ => by subst hw hb; rw [he]; exact h
theorem need_f {w : World} {b : Bool} {R : Ending → World → Prop} (hb : b = false) (h : R (.panicked [oddP false]) w) : CallK Try.prog 73 #[.bool b] w R :=
  (w_need w b).mono fun e w' ⟨hw, he⟩ => by subst hw hb; rw [he]; exact h

/-- A reader's block. -/
def rdr (s : List UInt8) : Obj := .cells (List.toArray [.string (bs s)]) 131 (0, 0)

theorem w_take (w : World) (b : Nat) (s : List UInt8) (n : Nat) (hn : n ≤ s.length) (hs : s.length ≤ 1000000000) (hb : w.heap[b]? = some (rdr s)) :
    Calls Try.prog 74 #[.pointer (some ⟨b, 0, none⟩), .int .i64 n] w (fun e w' => e = .returned (.string (bs (s.take n))) ∧ Keep [b] w w' ∧ w'.heap[b]? = some (rdr (s.drop n))) := by
  refine F74_calls _ _ _ _ ?_
  have M := Mem.startB hb
  have hc : w.cell? (addA ⟨b, 0, none⟩ 0) = some (.string (bs s)) := by rw [addA_mk]; exact M.cell 0 (c := [.string (bs s)]) rfl rfl
  intro K hK
  refine ⟨_, hc, SplitK.f (by simp; omega) (hK _ _ fun _ => ⟨_, hc, by omega, by simp; omega, _, hc, by omega, by simp; omega, ?_⟩)⟩
  refine SomeK.of _ rfl (M.stA 0 (c := [.string (bs s)]) rfl (by simp) rfl fun w2 M => ?_)
  refine ⟨?_, M.keep, ?_⟩
  · simp only [intN_eq, Int.toNat_natCast]; rw [cutS_bs, List.drop_zero]
  · have := M.get (i := 0) rfl
    rw [this]
    simp only [intN_eq, Int.toNat_natCast, rdr]
    rw [cutS_bs, sizeS_bs, List.take_length]
    rfl
theorem take_at {w0 w : World} {lo : List Nat} {m : List (Nat × Obj)} {F : World → Prop} (M : Mem w0 lo m F w) (i : Nat) {b : Nat} {s : List UInt8} (n : Nat) {R : Ending → World → Prop} (hm : m[i]? = some (b, rdr s)) (hn : n ≤ s.length) (hs : s.length ≤ 1000000000)
    (h : ∀ w', Mem w0 lo (m.set i (b, rdr (s.drop n))) F w' → R (.returned (.string (bs (s.take n)))) w') : CallK Try.prog 74 #[.pointer (some ⟨b, 0, none⟩), .int .i64 n] w R :=
  (w_take w b s n hn hs (M.get hm)).mono fun e w' ⟨he, hk, ho⟩ => by subst he; exact h w' (M.write i hm hk ho)

end Go.Proofs.Ytgecpbplbkpdlaa
