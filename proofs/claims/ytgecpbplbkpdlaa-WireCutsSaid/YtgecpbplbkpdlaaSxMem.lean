/-
  SX: what is known of memory at a place of a function: 'Mem'.
-/
import Derived.Test.YtgecpbplbkpdlaaSxSound
import Derived.Below
namespace Go.Sx
open Go
set_option linter.unusedVariables false

/-- From w to w' no block that was there has turned, but for those in ids. -/
structure Keep (ids : List Nat) (w w' : World) : Prop where
  os : w'.os = w.os
  tape : w'.tape = w.tape
  output : w'.output = w.output
  size : w.heap.size ≤ w'.heap.size
  block : ∀ k, k < w.heap.size → k ∉ ids → w'.heap[k]? = w.heap[k]?

theorem Keep.refl (ids : List Nat) (w : World) : Keep ids w w := ⟨rfl, rfl, rfl, Nat.le_refl _, fun _ _ _ => rfl⟩

theorem Keep.trans {ids ids' : List Nat} {a b c : World} (h : Keep ids a b) (h' : Keep ids' b c) (hs : ∀ i ∈ ids', i ∈ ids ∨ a.heap.size ≤ i) : Keep ids a c :=
  ⟨h'.os.trans h.os, h'.tape.trans h.tape, h'.output.trans h.output, Nat.le_trans h.size h'.size, fun k hk hn =>
    (h'.block k (Nat.lt_of_lt_of_le hk h.size) fun hi => by rcases hs k hi with h1 | h1 <;> first | exact hn h1 | omega).trans (h.block k hk hn)⟩

theorem Keep.trans0 {ids : List Nat} {a b c : World} (h : Keep ids a b) (h' : Keep [] b c) : Keep ids a c := h.trans h' (fun i hi => by cases hi)

theorem Keep.mono {ids ids' : List Nat} {a b : World} (h : Keep ids a b) (hs : ∀ i ∈ ids, i ∈ ids' ∨ a.heap.size ≤ i) : Keep ids' a b :=
  ⟨h.os, h.tape, h.output, h.size, fun k hk hn => h.block k hk fun hi => by rcases hs k hi with h1 | h1 <;> first | exact hn h1 | omega⟩

theorem Keep.below {w w' : World} (h : Keep [] w w') : Go.RowKit.Below w.heap.size w w' := ⟨h.os, h.tape, h.output, h.size, fun k hk => h.block k hk (by simp)⟩

theorem Keep.drew {ids : List Nat} {a w : World} (h : Keep ids a w) : Keep ids a w.drew := ⟨h.os, h.tape, h.output, h.size, h.block⟩

theorem Keep.alloc (w : World) (o : Obj) : Keep [] w (w.alloc o) :=
  ⟨rfl, rfl, rfl, by simp, fun k hk _ => by show (w.heap.push o)[k]? = _; rw [Array.getElem?_push, if_neg (by omega)]⟩

theorem cell_of_heap {w w' : World} {p : Addr} (h : w'.heap[p.block]? = w.heap[p.block]?) : w'.cell? p = w.cell? p := by
  unfold World.cell?; rw [h]

theorem block_lt {w : World} {p : Addr} {v : Value} (h : w.cell? p = some v) : p.block < w.heap.size := by
  unfold World.cell? at h
  split at h
  · rename_i hb; exact (Array.getElem?_eq_some_iff.1 hb).1
  · cases h

theorem Keep.cell {ids : List Nat} {w w' : World} (h : Keep ids w w') {p : Addr} {v : Value} (hc : w.cell? p = some v) (hn : p.block ∉ ids) : w'.cell? p = some v := by
  rw [cell_of_heap (h.block p.block (block_lt hc) hn)]; exact hc

/-! ### A world's blocks -/
structure Mem (w0 : World) (lo : List Nat) (m : List (Nat × Obj)) (F : World → Prop) (w : World) : Prop where
  keep : Keep lo w0 w
  fresh : ∀ e ∈ m, w0.heap.size ≤ e.1 ∨ e.1 ∈ lo
  has : ∀ e ∈ m, w.heap[e.1]? = some e.2
  nd : (m.map (·.1)).Nodup
  fact : ∀ w', Keep (m.map (·.1)) w w' → F w'

section
variable {w0 w : World} {lo : List Nat} {m : List (Nat × Obj)} {F : World → Prop}

theorem Mem.start (w : World) : Mem w [] [] (fun _ => True) w := ⟨Keep.refl _ _, by simp, by simp, by simp, fun _ _ => trivial⟩

theorem Mem.startF (w : World) {F : World → Prop} (h : ∀ w', Keep [] w w' → F w') : Mem w [] [] F w := ⟨Keep.refl _ _, by simp, by simp, by simp, h⟩

theorem Mem.lt (M : Mem w0 lo m F w) {e : Nat × Obj} (h : e ∈ m) : e.1 < w.heap.size := (Array.getElem?_eq_some_iff.1 (M.has e h)).1

theorem Mem.now (M : Mem w0 lo m F w) : F w := M.fact w (Keep.refl _ _)

theorem Mem.drew (M : Mem w0 lo m F w) : Mem w0 lo m F w.drew := ⟨M.keep.drew, M.fresh, M.has, M.nd, fun w' h => M.fact w' ⟨h.os, h.tape, h.output, h.size, h.block⟩⟩

/-- A step that leaves alone what was there. -/
theorem Mem.call (M : Mem w0 lo m F w) {w' : World} (h : Keep [] w w') : Mem w0 lo m F w' :=
  ⟨M.keep.trans0 h, M.fresh, fun e he => (h.block e.1 (M.lt he) (by simp)).trans (M.has e he), M.nd, fun w'' h' => M.fact w'' ((h.mono (by simp)).trans h' fun i hi => .inl hi)⟩

/-- The same, with new blocks that are known. -/
theorem Mem.callNew (M : Mem w0 lo m F w) {w' : World} (h : Keep [] w w') {b : Nat} {o : Obj} (hb : w.heap.size ≤ b) (ho : w'.heap[b]? = some o) : Mem w0 lo ((b, o) :: m) F w' := by
  have M' := M.call h
  refine ⟨M'.keep, ?_, ?_, ?_, ?_⟩
  · intro e he
    rcases List.mem_cons.1 he with rfl | he
    · exact .inl (Nat.le_trans M.keep.size hb)
    · exact M.fresh e he
  · intro e he
    rcases List.mem_cons.1 he with rfl | he
    · exact ho
    · exact M'.has e he
  · simp only [List.map_cons, List.nodup_cons]
    refine ⟨fun hm => ?_, M.nd⟩
    obtain ⟨e, he, hee⟩ := List.mem_map.1 hm
    have := M.lt he
    omega
  · intro w'' h'
    refine M.fact w'' ((h.mono (by simp)).trans h' fun i hi => ?_)
    rcases List.mem_cons.1 hi with rfl | hi
    · exact .inr hb
    · exact .inl hi

theorem Mem.alloc (M : Mem w0 lo m F w) (o : Obj) : Mem w0 lo ((w.heap.size, o) :: m) F (w.alloc o) :=
  M.callNew (Keep.alloc w o) (Nat.le_refl _) (by show (w.heap.push o)[w.heap.size]? = _; simp)

theorem Mem.newK (M : Mem w0 lo m F w) {c : Array Value} {T : TypeId} {k : Nat → World → Prop} (h : ∀ b w1, Mem w0 lo ((b, .cells c T (0, 0)) :: m) F w1 → k b w1) : NewK w c T k := by
  intro b w1 hb hw
  subst hb; subst hw
  exact h _ _ (M.alloc _)

theorem Mem.addF (M : Mem w0 lo m F w) {G : World → Prop} (h : ∀ w', Keep (m.map (·.1)) w w' → G w') : Mem w0 lo m (fun w => F w ∧ G w) w :=
  ⟨M.keep, M.fresh, M.has, M.nd, fun w' hk => ⟨M.fact w' hk, h w' hk⟩⟩

theorem Mem.imp (M : Mem w0 lo m F w) {G : World → Prop} (h : ∀ w', F w' → G w') : Mem w0 lo m G w :=
  ⟨M.keep, M.fresh, M.has, M.nd, fun w' hk => h w' (M.fact w' hk)⟩

theorem Mem.sub (M : Mem w0 lo m F w) {m' : List (Nat × Obj)} (h : m'.Sublist m) : Mem w0 lo m' F w :=
  ⟨M.keep, fun e he => M.fresh e (h.mem he), fun e he => M.has e (h.mem he), M.nd.sublist (h.map _), fun w' hk => M.fact w' (hk.mono fun i hi => .inl ((h.map _).mem hi))⟩

theorem Mem.drop (M : Mem w0 lo m F w) : Mem w0 lo [] F w := M.sub (List.nil_sublist _)

theorem Mem.tail {e : Nat × Obj} (M : Mem w0 lo (e :: m) F w) : Mem w0 lo m F w := M.sub (List.sublist_cons_self _ _)

theorem Mem.perm (M : Mem w0 lo m F w) {m' : List (Nat × Obj)} (h : m.Perm m') : Mem w0 lo m' F w :=
  ⟨M.keep, fun e he => M.fresh e (h.mem_iff.2 he), fun e he => M.has e (h.mem_iff.2 he), (h.map _).nodup_iff.1 M.nd, fun w' hk => M.fact w' (hk.mono fun i hi => .inl ((h.map _).mem_iff.2 hi))⟩

theorem cell_of_block {b off : Nat} {c : Array Value} {T : TypeId} {fr : Nat × Nat} {v : Value} (hb : w.heap[b]? = some (.cells c T fr)) (hc : c[off]? = some v) : w.cell? ⟨b, off, none⟩ = some v := by
  simp [World.cell?, hb, hc]

theorem frozen_of_block {b off : Nat} {c : Array Value} {T : TypeId} {fr : Nat × Nat} (hb : w.heap[b]? = some (.cells c T fr)) (hf : ¬ (fr.1 ≤ off ∧ off < fr.2)) : w.frozen? ⟨b, off, none⟩ = false := by
  simp only [World.frozen?, hb]
  simpa using hf

theorem Mem.get (M : Mem w0 lo m F w) {i b : Nat} {o : Obj} (hm : m[i]? = some (b, o)) : w.heap[b]? = some o := M.has _ (List.mem_of_getElem? hm)

/-- A cell of block number i of the list. -/
theorem Mem.cell (M : Mem w0 lo m F w) (i : Nat) {b off : Nat} {c : List Value} {T : TypeId} {fr : Nat × Nat} {v : Value} (hm : m[i]? = some (b, .cells c.toArray T fr)) (hc : c[off]? = some v) : w.cell? ⟨b, off, none⟩ = some v :=
  cell_of_block (M.get hm) (by simpa using hc)

theorem addr_add (b o n : Nat) : (Addr.mk b o none).add n = ⟨b, o + n, none⟩ := by
  unfold Addr.add
  split
  · rename_i h; subst h; rfl
  · rfl

/-- A whole block is read. -/
theorem Mem.cells (M : Mem w0 lo m F w) (i : Nat) {b : Nat} {c : List Value} {T : TypeId} {fr : Nat × Nat} (hm : m[i]? = some (b, .cells c.toArray T fr)) : CellsAt w ⟨b, 0, none⟩ c := by
  intro j v hj
  rw [addr_add, Nat.zero_add]
  exact M.cell i hm hj

theorem Mem.cellsFrom (M : Mem w0 lo m F w) (i : Nat) {b off : Nat} {c vs : List Value} {T : TypeId} {fr : Nat × Nat} (hm : m[i]? = some (b, .cells c.toArray T fr)) (hv : ∀ j v, vs[j]? = some v → c[off + j]? = some v) : CellsAt w ⟨b, off, none⟩ vs := by
  intro j v hj
  rw [addr_add]
  exact M.cell i hm (hv j v hj)

/-- What is written over c from off on. -/
def spliceL : List Value → Nat → List Value → List Value
  | c, _, [] => c
  | c, off, v :: r => spliceL (c.set off v) (off + 1) r

theorem spliceL_length : ∀ (vs c : List Value) (off : Nat), (spliceL c off vs).length = c.length
  | [], c, off => rfl
  | v :: r, c, off => by simp only [spliceL]; rw [spliceL_length r]; simp

theorem setCell_heap {b off : Nat} {c : List Value} {T : TypeId} {fr : Nat × Nat} {v : Value} (hb : w.heap[b]? = some (.cells c.toArray T fr)) :
    (w.setCell ⟨b, off, none⟩ v).heap[b]? = some (.cells (c.set off v).toArray T fr) := by
  simp only [World.setCell, Array.getElem?_modify, if_true, hb, Option.map_some]
  simp

theorem setCell_other {p : Addr} {v : Value} {k : Nat} (h : k ≠ p.block) : (w.setCell p v).heap[k]? = w.heap[k]? := by
  simp only [World.setCell, Array.getElem?_modify]
  rw [if_neg (by omega)]

theorem storeAll_block {b : Nat} {T : TypeId} {fr : Nat × Nat} : ∀ (vs c : List Value) (off i : Nat) (w : World), w.heap[b]? = some (.cells c.toArray T fr) →
    (storeAll w ⟨b, off, none⟩ i vs).heap[b]? = some (.cells (spliceL c (off + i) vs).toArray T fr) ∧ Keep [b] w (storeAll w ⟨b, off, none⟩ i vs)
  | [], c, off, i, w, hb => ⟨hb, Keep.refl _ _⟩
  | v :: r, c, off, i, w, hb => by
    simp only [storeAll, addr_add, spliceL]
    have h1 := setCell_heap (off := off + i) (v := v) hb
    obtain ⟨h2, h3⟩ := storeAll_block r (c.set (off + i) v) off (i + 1) _ h1
    refine ⟨by rw [show off + i + 1 = off + (i + 1) from by omega]; exact h2, ?_⟩
    have h0 : Keep [b] w (w.setCell ⟨b, off + i, none⟩ v) := ⟨rfl, rfl, rfl, by simp, fun k hk hn => setCell_other (p := ⟨b, off + i, none⟩) (by simpa using hn)⟩
    exact Keep.trans h0 h3 (fun i hi => .inl hi)

/-- Block number i is written. -/
theorem Mem.write (M : Mem w0 lo m F w) (i : Nat) {b : Nat} {o o' : Obj} {w1 : World} (hm : m[i]? = some (b, o)) (hk : Keep [b] w w1) (ho : w1.heap[b]? = some o') : Mem w0 lo (m.set i (b, o')) F w1 := by
  have hi : i < m.length := (List.getElem?_eq_some_iff.1 hm).1
  have hmi : m[i] = (b, o) := (List.getElem?_eq_some_iff.1 hm).2
  have hmap : (m.set i (b, o')).map (·.1) = m.map (·.1) := by
    rw [List.map_set]
    apply List.ext_getElem?
    intro j
    rw [List.getElem?_set]
    split
    · rename_i e; subst e; simp [hi, hmi]
    · rfl
  have hbm : b ∈ m.map (·.1) := List.mem_map.2 ⟨_, List.mem_of_getElem? hm, rfl⟩
  have hids : ∀ e ∈ m.set i (b, o'), ∃ e' ∈ m, e'.1 = e.1 := by
    intro e he
    rcases List.mem_or_eq_of_mem_set he with h | h
    · exact ⟨e, h, rfl⟩
    · exact ⟨(b, o), List.mem_of_getElem? hm, by rw [h]⟩
  refine ⟨?_, ?_, ?_, by rw [hmap]; exact M.nd, ?_⟩
  · refine M.keep.trans hk fun j hj => ?_
    simp only [List.mem_singleton] at hj
    subst hj
    rcases M.fresh _ (List.mem_of_getElem? hm) with h | h
    · exact .inr h
    · exact .inl h
  · intro e he
    obtain ⟨e', h1, h2⟩ := hids e he
    rw [← h2]; exact M.fresh e' h1
  · intro e he
    obtain ⟨j, hj, hje⟩ := List.getElem_of_mem he
    rw [List.getElem_set] at hje
    split at hje
    · subst hje; exact ho
    · rename_i hij
      have hj' : j < m.length := by simpa using hj
      have hmem : e ∈ m := hje ▸ List.getElem_mem hj'
      have hne : e.1 ≠ b := by
        intro heq
        have hnd := M.nd
        have h1 : (m.map (·.1))[i]? = some b := by simp [hi, hmi]
        have h2 : (m.map (·.1))[j]? = some b := by simp [hj', hje, heq]
        exact hij ((List.getElem?_inj (by simpa using hi) hnd).1 (h1.trans h2.symm))
      exact (hk.block e.1 (M.lt hmem) (by simpa using hne)).trans (M.has e hmem)
  · intro w' h'
    rw [hmap] at h'
    refine M.fact w' (Keep.trans (hk.mono fun j hj => ?_) h' fun j hj => .inl hj)
    simp only [List.mem_singleton] at hj
    subst hj
    exact .inl hbm

/-- A store into block number i of the list. -/
theorem Mem.stK (M : Mem w0 lo m F w) (i : Nat) {b off : Nat} {c vs : List Value} {T : TypeId} {k : World → Prop} (hm : m[i]? = some (b, .cells c.toArray T (0, 0)))
    (hl : off + vs.length ≤ c.length) (hc : vs.all isCell = true) (h : ∀ w1, Mem w0 lo (m.set i (b, .cells (spliceL c off vs).toArray T (0, 0))) F w1 → k w1) : StK w ⟨b, off, none⟩ vs k := by
  refine ⟨hc, ?_, ?_⟩
  · intro j hj
    rw [addr_add]
    refine ⟨⟨c[off + j]'(by omega), cell_of_block (M.get hm) (by simp)⟩, frozen_of_block (M.get hm) (fun h => by simp at h)⟩
  · intro w1 hw
    subst hw
    obtain ⟨h1, h2⟩ := storeAll_block (b := b) (T := T) vs c off 0 w (M.get hm)
    exact h _ (M.write i hm h2 h1)

/-- The same, at the block's begin. -/
theorem Mem.cell? (M : Mem w0 lo m F w) : True := trivial
end

/-- A slice's cells. -/
def SlAt (w : World) (a : Option Addr) (vs : List Value) : Prop := vs = [] ∨ ∃ p, a = some p ∧ CellsAt w p vs

theorem CellsAt.keep {ids : List Nat} {w w' : World} {p : Addr} {vs : List Value} (h : CellsAt w p vs) (hk : Keep ids w w') (hn : p.block ∉ ids) : CellsAt w' p vs := by
  intro i v hi
  have : (p.add i).block = p.block := by unfold Addr.add; split <;> rfl
  exact hk.cell (h i v hi) (by rw [this]; exact hn)

theorem SlAt.keep0 {w w' : World} {a : Option Addr} {vs : List Value} (h : SlAt w a vs) (hk : Keep [] w w') : SlAt w' a vs := by
  rcases h with h | ⟨p, hp, h⟩
  · exact .inl h
  · exact .inr ⟨p, hp, h.keep hk (by simp)⟩

theorem CellsAt.lt {w : World} {p : Addr} {vs : List Value} (h : CellsAt w p vs) (hv : vs ≠ []) : p.block < w.heap.size := by
  obtain ⟨v, r, rfl⟩ := List.exists_cons_of_ne_nil hv
  have := h 0 v rfl
  have h2 : p.add 0 = p := rfl
  rw [h2] at this
  exact block_lt this

/-- A contract's end: the value, and nothing that was there has turned. -/
def Ret (w : World) (v : Value) (e : Ending) (w' : World) : Prop := e = .returned v ∧ Keep [] w w'

theorem calls_ret {P : Program} {f : FuncId} {args : Array Value} {w : World} {v : Value} (h : Calls P f args w fun e w' => ∃ v', e = .returned v' ∧ (v' = v ∧ Keep [] w w')) : Calls P f args w (Ret w v) :=
  h.mono fun e w' ⟨v', he, hv, hk⟩ => ⟨by rw [he, hv], hk⟩

end Go.Sx
