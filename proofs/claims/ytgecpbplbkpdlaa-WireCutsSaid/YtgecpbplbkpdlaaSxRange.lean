/-
  SX: ranges over functions: the loop's record among what is known of memory.
-/
import Derived.Test.YtgecpbplbkpdlaaSxRows
namespace Go.Sx
open Go
set_option linter.unusedVariables false

theorem FnK.yield {P : Program} {l : Nat} {args : Array Value} {w : World} {R : Ending → World → Prop} (h : RoundK P l args w R) : FnK P true (.func (.yield l) #[] #[]) args w R := by
  unfold FnK
  simpa using h

theorem FnK.fn {P : Program} {y : Bool} {f : FuncId} {first args capt : Array Value} {w : World} {R : Ending → World → Prop} (hc : callableB P f = true) (h : CallK P f (first ++ args ++ capt) w R) : FnK P y (.func (.func f) first capt) args w R := by
  unfold FnK
  simp only [hc]
  exact h

theorem keep_put (w : World) (b : Nat) (o : Obj) : Keep [b] w (w.putObj b o) :=
  ⟨rfl, rfl, rfl, by simp, fun k hk hn => World.putObj_heap_other (by simpa using hn)⟩

section
variable {w0 w : World} {lo : List Nat} {m : List (Nat × Obj)} {F : World → Prop}

/-- The record, and the block for the rounds' deferred calls. -/
theorem Mem.enter (M : Mem w0 lo m F w) (o : Obj) : Mem w0 lo ((w.heap.size + 1, o) :: (w.heap.size, .deferred (some [])) :: m) F ((w.alloc (.deferred (some []))).alloc o) := by
  have h1 := M.alloc (.deferred (some []))
  have h2 := h1.alloc o
  simpa using h2

theorem Mem.enterE (M : Mem w0 lo m F w) {o : Obj} {D l : Nat} {w1 : World} (hD : D = w.heap.size) (hl : l = w.heap.size + 1) (hw : w1 = (w.alloc (.deferred (some []))).alloc o) :
    Mem w0 lo ((l, o) :: (D, .deferred (some [])) :: m) F w1 := by
  subst hD hl hw; exact M.enter o

/-- Block number i of the list becomes o. -/
theorem Mem.put (M : Mem w0 lo m F w) (i : Nat) {b : Nat} {o : Obj} (o' : Obj) (hm : m[i]? = some (b, o)) : Mem w0 lo (m.set i (b, o')) F (w.putObj b o') :=
  M.write i hm (keep_put w b o') (World.putObj_heap_same (M.lt (List.mem_of_getElem? hm)))

/-- A store into a block part of which may not be written. -/
theorem Mem.stKf (M : Mem w0 lo m F w) (i : Nat) {b off : Nat} {c vs : List Value} {T : TypeId} {fr : Nat × Nat} {k : World → Prop} (hm : m[i]? = some (b, .cells c.toArray T fr))
    (hl : off + vs.length ≤ c.length) (hf : ∀ j, off ≤ j → j < off + vs.length → ¬ (fr.1 ≤ j ∧ j < fr.2)) (hc : vs.all isCell = true)
    (h : ∀ w1, Mem w0 lo (m.set i (b, .cells (spliceL c off vs).toArray T fr)) F w1 → k w1) : StK w ⟨b, off, none⟩ vs k := by
  refine ⟨hc, ?_, ?_⟩
  · intro j hj
    rw [addr_add]
    refine ⟨⟨c[off + j]'(by omega), cell_of_block (M.get hm) (by simp)⟩, frozen_of_block (M.get hm) (hf _ (by omega) (by omega))⟩
  · intro w1 hw
    subst hw
    obtain ⟨h1, h2⟩ := storeAll_block (b := b) (T := T) vs c off 0 w (M.get hm)
    exact h _ (M.write i hm h2 h1)

/-- A text's bytes in a new block. -/
theorem Mem.bytesOfK (M : Mem w0 lo m F w) {s : List UInt8} {T : TypeId} {k : Nat → Nat → World → Prop}
    (h : ∀ b rest w1, Mem w0 lo ((b, .cells (byteVs s ++ rest).toArray T (s.length + rest.length, s.length + rest.length + 1)) :: m) F w1 → k b (s.length + rest.length) w1) : BytesOfK w (bs s) T k := by
  intro b cap w1 hb hc hw
  subst hb hw
  rw [bs_size] at hc
  have e : cap = s.length + (List.replicate (cap - s.length) (Value.int .u8 0)).length := by simp; omega
  have M' := M.drew.alloc (.cells ((bs s).data.toList.map byteV ++ List.replicate (cap - (bs s).size) (Value.int .u8 0)).toArray T (cap, cap + 1))
  have := h w.heap.size (List.replicate (cap - s.length) (Value.int .u8 0)) (w.drew.alloc (.cells ((bs s).data.toList.map byteV ++ List.replicate (cap - (bs s).size) (Value.int .u8 0)).toArray T (cap, cap + 1)))
  rw [← e] at this
  refine this ?_
  rw [bs_toList, bs_size] at M' ⊢
  exact M'

theorem Mem.hget (M : Mem w0 lo m F w) (i : Nat) {b : Nat} {o : Obj} (hm : m[i]? = some (b, o)) : w.heap[b]? = some o := M.get hm
end

end Go.Sx
