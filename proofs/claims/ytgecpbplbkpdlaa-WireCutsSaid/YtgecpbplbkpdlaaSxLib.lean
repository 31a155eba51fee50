/-
  SX: small lemmas on the words of the shallow texts.
-/
import Derived.Test.YtgecpbplbkpdlaaSxMem
import Derived.Laws.Strings
namespace Go.Sx
open Go
set_option linter.unusedVariables false

/-! ### Numbers -/
@[simp] theorem natI_eq (n : Nat) : natI n = (n : Int) := rfl
@[simp] theorem intN_eq (i : Int) : intN i = i.toNat := rfl
@[simp] theorem byteI_eq (b : UInt8) : byteI b = ((b.toNat : Nat) : Int) := rfl
@[simp] theorem subN_eq (a b : Nat) : subN a b = a - b := rfl
@[simp] theorem addN_eq (a b : Nat) : addN a b = a + b := rfl
@[simp] theorem mulN_eq (a b : Nat) : mulN a b = a * b := rfl
@[simp] theorem minN_eq (a b : Nat) : minN a b = min a b := rfl
@[simp] theorem eqI_t (a b : Int) : (eqI a b = true) = (a = b) := by simp [eqI]
@[simp] theorem eqI_f (a b : Int) : (eqI a b = false) = ¬ (a = b) := by simp [eqI]
@[simp] theorem ltI_t (a b : Int) : (ltI a b = true) = (a < b) := by simp [ltI]
@[simp] theorem ltI_f (a b : Int) : (ltI a b = false) = ¬ (a < b) := by simp [ltI]
@[simp] theorem leI_t (a b : Int) : (leI a b = true) = (a ≤ b) := by simp [leI]
@[simp] theorem leI_f (a b : Int) : (leI a b = false) = ¬ (a ≤ b) := by simp [leI]
@[simp] theorem notB_t (b : Bool) : (notB b = true) = (b = false) := by cases b <;> simp [notB]
@[simp] theorem notB_f (b : Bool) : (notB b = false) = (b = true) := by cases b <;> simp [notB]
@[simp] theorem notB_not (b : Bool) : notB b = !b := rfl
@[simp] theorem eqB_t (a b : Bool) : (eqB a b = true) = (a = b) := by simp [eqB]
@[simp] theorem eqB_f (a b : Bool) : (eqB a b = false) = ¬ (a = b) := by simp [eqB]
@[simp] theorem noneA_none : noneA none = true := rfl
@[simp] theorem noneA_some (p : Addr) : noneA (some p) = false := rfl

theorem toList_eq (s : ByteArray) : s.toList = s.data.toList := ByteArray.toList_eq s

theorem eqS_eq (a b : ByteArray) : eqS a b = decide (a = b) := by
  unfold eqS
  rw [toList_eq, toList_eq]
  by_cases h : a = b
  · subst h; simp
  · have h1 : ¬ (a.data = b.data) := fun e => h (ByteArray.ext e)
    simp [h, h1]
@[simp] theorem eqS_t (a b : ByteArray) : (eqS a b = true) = (a = b) := by simp [eqS_eq]
@[simp] theorem eqS_f (a b : ByteArray) : (eqS a b = false) = ¬ (a = b) := by simp [eqS_eq]

theorem addI_i64 {a b : Int} (h1 : -9223372036854775808 ≤ a + b) (h2 : a + b ≤ 9223372036854775807) : addI .i64 a b = a + b := by
  simp only [addI, IntKind.wrap, IntKind.signed, IntKind.bits]; simp; omega
theorem subI_i64 {a b : Int} (h1 : -9223372036854775808 ≤ a - b) (h2 : a - b ≤ 9223372036854775807) : subI .i64 a b = a - b := by
  simp only [subI, IntKind.wrap, IntKind.signed, IntKind.bits]; simp; omega
theorem mulI_i64 {a b : Int} (h1 : -9223372036854775808 ≤ a * b) (h2 : a * b ≤ 9223372036854775807) : mulI .i64 a b = a * b := by
  simp only [mulI, IntKind.wrap, IntKind.signed, IntKind.bits]; simp; omega

theorem addI_one {k : Nat} (h : k < 4611686018427387904) : addI .i64 (k : Int) 1 = ((k + 1 : Nat) : Int) := by
  rw [addI_i64 (by omega) (by omega)]; rfl
@[simp] theorem sizeS_eq (s : ByteArray) : sizeS s = s.size := rfl

@[simp] theorem addA_mk (b o n : Nat) : addA ⟨b, o, none⟩ n = ⟨b, o + n, none⟩ := addr_add b o n
theorem addA_eq (p : Addr) (n : Nat) : addA p n = p.add n := rfl
@[simp] theorem addA_int (p : Addr) (k : Nat) : addA p (mulN (intN (k : Int)) 1) = p.add k := by simp [addA]

/-! ### Ways -/
theorem SplitK.of {b : Bool} {x y : Prop} (hx : b = true → x) (hy : b = false → y) : SplitK b x y := split_in hx hy
theorem SplitK.t {b : Bool} {x y : Prop} (h : b = true) (hx : x) : SplitK b x y := by subst h; exact hx
theorem SplitK.f {b : Bool} {x y : Prop} (h : b = false) (hy : y) : SplitK b x y := by subst h; exact hy
theorem SomeK.of {α : Type} {o : Option α} {k : α → Prop} (a : α) (h : o = some a) (hk : k a) : SomeK o k := by subst h; exact hk

/-- A call by a contract that tells the value. -/
theorem CallK.ret {P : Program} {f : FuncId} {args : Array Value} {w : World} {v : Value} {R : Ending → World → Prop} (h : Calls P f args w (Ret w v)) (k : ∀ w1, Keep [] w w1 → R (.returned v) w1) : CallK P f args w R :=
  h.mono fun e w1 ⟨he, hk⟩ => by subst he; exact k w1 hk

theorem FnK.mono {P : Program} {y : Bool} {v : Value} {args : Array Value} {w : World} {R R' : Ending → World → Prop} (h : FnK P y v args w R) (hm : ∀ e w', R e w' → R' e w') : FnK P y v args w R' := by
  unfold FnK at h ⊢
  split
  · split
    · rename_i e
      simp only [e] at h
      exact Calls.mono h hm
    · rename_i e
      simp only [e] at h
      cases y
      · exact h
      · obtain ⟨fn, e1, v1, h1, h2, h3, h4, h5, h6, h7⟩ := h
        exact ⟨fn, e1, v1, h1, h2, h3, h4, h5, h6, hm _ _ h7⟩
  · split
    · simp only at h
      obtain ⟨f, tmps, assign, body, hr, hi⟩ := h
      exact ⟨f, tmps, assign, body, hr, hi.mono fun e w' he => hm _ _ he⟩
    · rename_i e
      simp only at h
  · rename_i h1 h2
    split at h
    · exact absurd rfl (h1 _ _ _)
    · exact absurd rfl (h2 _ _ _)
    · exact h

/-! ### Slices of strings -/
def StrsAt (w : World) (a : Option Addr) (l : Nat) (xs : List ByteArray) : Prop := l = xs.length ∧ SlAt w a (xs.map Value.string)

theorem StrsAt.get {w : World} {a : Option Addr} {l : Nat} {xs : List ByteArray} (h : StrsAt w a l xs) {k : Nat} (hk : k < xs.length) : ∃ p, a = some p ∧ w.cell? (p.add k) = some (.string xs[k]) := by
  rcases h.2 with h1 | ⟨p, hp, hc⟩
  · simp at h1; subst h1; simp at hk
  · exact ⟨p, hp, hc k _ (by simp [hk])⟩

theorem StrsAt.keep0 {w w' : World} {a : Option Addr} {l : Nat} {xs : List ByteArray} (h : StrsAt w a l xs) (hk : Keep [] w w') : StrsAt w' a l xs := ⟨h.1, h.2.keep0 hk⟩

theorem SlAt.old {w : World} {a : Option Addr} {vs : List Value} (h : SlAt w a vs) : OldAt w a vs.length vs := by
  rcases h with rfl | ⟨p, rfl, hc⟩
  · cases a with
    | none => rfl
    | some p => exact ⟨rfl, fun i v hv => by simp at hv⟩
  · exact ⟨rfl, hc⟩

theorem StrsAt.old {w : World} {a : Option Addr} {l : Nat} {xs : List ByteArray} (h : StrsAt w a l xs) : OldAt w a (mulN l 1) (xs.map Value.string) ∧ (a = none → l = 0) := by
  refine ⟨?_, fun ha => ?_⟩
  · have := h.2.old
    rw [List.length_map, ← h.1] at this
    simpa using this
  · rcases h.2 with h1 | ⟨p, hp, _⟩
    · simp at h1; rw [h.1, h1]; rfl
    · rw [ha] at hp; cases hp

theorem strs_isCell (xs : List ByteArray) : (xs.map Value.string).all isCell = true := by simp [isCell]

/-- A slice whose block is the call's own, in the list of what is known. -/
def OwnM (opt : List (Nat × Obj)) (T : TypeId) (a : Option Addr) (l c : Nat) (vs : List Value) : Prop :=
  (opt = [] ∧ a = none ∧ l = 0 ∧ c = 0 ∧ vs = []) ∨
  ∃ b rest, opt = [(b, .cells (vs ++ rest).toArray T (0, 0))] ∧ a = some ⟨b, 0, none⟩ ∧ l = vs.length ∧ c = vs.length + rest.length ∧ c ≤ 9223372036854775807

theorem spliceL_mid : ∀ (ys vs rest : List Value), ys.length ≤ rest.length → spliceL (vs ++ rest) vs.length ys = vs ++ ys ++ rest.drop ys.length
  | [], vs, rest, _ => by simp [spliceL]
  | y :: r, vs, [], h => by simp at h
  | y :: r, vs, x :: rest, h => by
    simp only [spliceL]
    have h1 : (vs ++ x :: rest).set vs.length y = (vs ++ [y]) ++ rest := by simp
    have h2 := spliceL_mid r (vs ++ [y]) rest (by simpa using h)
    rw [h1, show vs.length + 1 = (vs ++ [y]).length from by simp, h2]
    simp

theorem Mem.appK {w0 w : World} {lo : List Nat} {m opt : List (Nat × Obj)} {F : World → Prop} (M : Mem w0 lo (opt ++ m) F w) {T : TypeId} {a : Option Addr} {l c : Nat} {vs : List Value} (ho : OwnM opt T a l c vs)
    {bytes n : Nat} {z0 : Value} {ys : List Value} {k : Option Addr → Nat → Nat → World → Prop} (hy : ys.length = n) (hc : ys.all isCell = true) (hb : (vs.length + n) * bytes ≤ 140737488355328) (hm : vs.length + n ≤ 4611686018427387904)
    (h : ∀ a' l' c' opt' w', OwnM opt' T a' l' c' (vs ++ ys) → Mem w0 lo (opt' ++ m) F w' → l' = vs.length + n → k a' l' c' w') : AppK w T 1 bytes [z0] a l c ys n k := by
  have hl : l = vs.length := by rcases ho with ⟨_, _, h1, _, h2⟩ | ⟨_, _, _, _, h1, _, _⟩ <;> simp [*]
  refine ⟨hc, by rw [hl]; exact hb, by rw [hl]; exact hm, vs, ?_, ?_, ?_⟩
  · rcases ho with ⟨_, rfl, _, _, rfl⟩ | ⟨b, rest, rfl, rfl, rfl, _, hcb⟩
    · rfl
    · refine ⟨by simp, M.cellsFrom 0 rfl fun j v hv => ?_⟩
      simp [List.getElem?_append_left (List.getElem?_eq_some_iff.1 hv).1, hv]
  · rintro p hp hfit
    rcases ho with ⟨_, h1, _⟩ | ⟨b, rest, rfl, rfl, rfl, rfl, hcb⟩
    · rw [h1] at hp; cases hp
    · cases hp
      intro j hj
      have hg := M.get (i := 0) rfl
      rw [addr_add, addr_add]
      have hlt : 0 + vs.length * 1 + j < (vs ++ rest).length := by simp; omega
      exact ⟨⟨_, cell_of_block hg (by rw [List.getElem?_toArray]; exact List.getElem?_eq_getElem hlt)⟩, frozen_of_block hg (fun h => by simp at h)⟩
  · intro a' l' c' w1 hr
    cases hr with
    | room hfit =>
      rcases ho with ⟨rfl, rfl, rfl, rfl, rfl⟩ | ⟨b, rest, rfl, rfl, rfl, rfl, hcb⟩
      · have : ys = [] := List.eq_nil_of_length_eq_zero (by omega)
        subst this
        refine h _ _ _ [] _ (.inl ⟨rfl, rfl, by simp at hy; omega, rfl, rfl⟩) M (by simp)
      · obtain ⟨h1, h2⟩ := storeAll_block (b := b) (T := T) (fr := (0, 0)) ys (vs ++ rest) (vs.length * 1) 0 w (M.get (i := 0) rfl)
        have e : spliceL (vs ++ rest) (vs.length * 1 + 0) ys = (vs ++ ys) ++ rest.drop ys.length := by
          rw [Nat.mul_one, Nat.add_zero, spliceL_mid _ _ _ (by omega)]
        rw [e] at h1
        have hk : (Addr.mk b 0 none).add (vs.length * 1) = ⟨b, vs.length * 1, none⟩ := by rw [addr_add, Nat.zero_add]
        have M' := M.write 0 rfl h2 h1
        refine h _ _ _ [(b, _)] _ (.inr ⟨b, rest.drop ys.length, rfl, rfl, by simp; omega, by simp; omega, hcb⟩) ?_ rfl
        show Mem w0 lo _ F (storeAll w ((Addr.mk b 0 none).add (vs.length * 1)) 0 ys)
        rw [hk]
        exact M'
    | grows _ hlt hcap hC =>
      have M' : Mem w0 lo m F w := M.sub (List.sublist_append_right _ _)
      have M2 := M'.drew.alloc (.cells (vs ++ ys ++ zerosL [z0] (c' - (l + n))).toArray T (0, 0))
      refine h _ _ _ [(w.heap.size, _)] _ (.inr ⟨w.heap.size, zerosL [z0] (c' - (l + n)), rfl, rfl, by simp; omega, ?_, hC⟩) M2 (by omega)
      simp [zerosL_length]; omega

/-- It stays, whatever is done to the blocks below n. -/
def Fresh (n : Nat) (w : World) (G : World → Prop) : Prop := ∀ ids w', (∀ i ∈ ids, i < n) → Keep ids w w' → G w'

theorem Fresh.now {n : Nat} {w : World} {G : World → Prop} (h : Fresh n w G) : G w := h [] w (by simp) (Keep.refl _ _)
theorem Fresh.mono {n n' : Nat} {w : World} {G : World → Prop} (h : Fresh n w G) (hn : n' ≤ n) : Fresh n' w G := fun ids w' hi hk => h ids w' (fun i hm => by have := hi i hm; omega) hk
theorem Fresh.keep0 {n : Nat} {w w' : World} {G : World → Prop} (h : Fresh n w G) (hk : Keep [] w w') : Fresh n w' G := fun ids w'' hi hk' => h ids w'' hi ((hk.mono (by simp)).trans hk' fun i hi => .inl hi)
theorem Fresh.imp {n : Nat} {w : World} {G H : World → Prop} (h : Fresh n w G) (hg : ∀ w', G w' → H w') : Fresh n w H := fun ids w' hi hk => hg _ (h ids w' hi hk)
theorem Fresh.and {n : Nat} {w : World} {G H : World → Prop} (h : Fresh n w G) (h' : Fresh n w H) : Fresh n w fun w => G w ∧ H w := fun ids w' hi hk => ⟨h ids w' hi hk, h' ids w' hi hk⟩
theorem Fresh.always {n : Nat} {w : World} {G : World → Prop} (h : ∀ w', G w') : Fresh n w G := fun _ w' _ _ => h w'

/-- A call's result in new memory is known further on. -/
theorem Mem.callF {w0 w : World} {lo : List Nat} {m : List (Nat × Obj)} {F G : World → Prop} (M : Mem w0 lo m F w) {w' : World} (h : Keep [] w w') (hG : Fresh w.heap.size w' G) : Mem w0 lo m (fun w => F w ∧ G w) w' :=
  (M.call h).addF fun w'' hk => hG _ w'' (fun i hi => by obtain ⟨e, he, rfl⟩ := List.mem_map.1 hi; exact M.lt he) hk

theorem Fresh.deep {n n' : Nat} {w : World} {G : World → Prop} (h : Fresh n' w G) (hn : n ≤ n') : Fresh n' w fun w => Fresh n w G := fun ids w' hi hk ids2 w'' hi2 hk2 =>
  h (ids ++ ids2) w'' (fun i hm => by rcases List.mem_append.1 hm with h1 | h1; exact hi i h1; have := hi2 i h1; omega)
    ((hk.mono fun i hm => .inl (List.mem_append_left _ hm)).trans hk2 fun i hm => .inl (List.mem_append_right _ hm))

theorem Mem.callFr {w0 w : World} {lo : List Nat} {m : List (Nat × Obj)} {F G : World → Prop} (M : Mem w0 lo m F w) {w' : World} (h : Keep [] w w') (hG : Fresh w.heap.size w' G) : Mem w0 lo m (fun w => F w ∧ Fresh w0.heap.size w G) w' :=
  M.callF h (hG.deep M.keep.size)

/-- What is known of a world is new to the one that the call began in. -/
theorem Mem.freshF {w0 w : World} {F G : World → Prop} (M : Mem w0 [] [] F w) (h : Fresh w0.heap.size w G) : Fresh w0.heap.size w fun w => G w := h

theorem Mem.join {w0 w w' : World} {lo : List Nat} {m opt : List (Nat × Obj)} {F G : World → Prop} (M : Mem w0 lo m F w) (M' : Mem w [] opt G w') : Mem w0 lo (opt ++ m) F w' := by
  have M2 := M.call M'.keep
  have hge : ∀ e ∈ opt, w.heap.size ≤ e.1 := fun e he => by
    rcases M'.fresh e he with h | h
    · exact h
    · cases h
  refine ⟨M2.keep, ?_, ?_, ?_, ?_⟩
  · intro e he
    rcases List.mem_append.1 he with h | h
    · exact .inl (Nat.le_trans M.keep.size (hge e h))
    · exact M.fresh e h
  · intro e he
    rcases List.mem_append.1 he with h | h
    · exact M'.has e h
    · exact M2.has e h
  · rw [List.map_append, List.nodup_append]
    refine ⟨M'.nd, M.nd, ?_⟩
    intro x hx y hy heq
    obtain ⟨e, he, rfl⟩ := List.mem_map.1 hx
    obtain ⟨e', he', rfl⟩ := List.mem_map.1 hy
    have h1 := hge e he
    have h2 := M.lt he'
    omega
  · intro w'' hk
    rw [List.map_append] at hk
    refine M.fact w'' ((M'.keep.mono (by simp)).trans hk fun i hi => ?_)
    rcases List.mem_append.1 hi with h | h
    · obtain ⟨e, he, rfl⟩ := List.mem_map.1 h
      exact .inr (hge e he)
    · exact .inl h

/-- A row of texts that a call hands back. -/
def RetS (w : World) (xs : List ByteArray) (e : Ending) (w' : World) : Prop := ∃ a l c, e = .returned (.slice a l c) ∧ Fresh w.heap.size w' (fun w => StrsAt w a l xs) ∧ l ≤ c ∧ Keep [] w w'

theorem calls_retS {P : Program} {f : FuncId} {args : Array Value} {w : World} {xs : List ByteArray}
    (h : Calls P f args w fun e w' => ∃ v, e = .returned v ∧ ∃ a l c, v = .slice a l c ∧ Fresh w.heap.size w' (fun w => StrsAt w a l xs) ∧ l ≤ c ∧ Keep [] w w') : Calls P f args w (RetS w xs) :=
  h.mono fun e w' ⟨v, he, a, l, c, hv, h⟩ => ⟨a, l, c, by rw [he, hv], h⟩

/-- What an own slice of texts is, seen as any other one. -/
theorem OwnM.strs {opt : List (Nat × Obj)} {T : TypeId} {a : Option Addr} {l c : Nat} {xs : List ByteArray} {w0 w : World} {lo : List Nat} {m : List (Nat × Obj)} {F : World → Prop}
    (ho : OwnM opt T a l c (xs.map Value.string)) (M : Mem w0 lo (opt ++ m) F w) : StrsAt w a l xs ∧ l ≤ c := by
  rcases ho with ⟨rfl, rfl, rfl, rfl, h⟩ | ⟨b, rest, rfl, rfl, rfl, rfl, hcb⟩
  · simp at h; subst h; exact ⟨⟨rfl, .inl rfl⟩, Nat.le_refl _⟩
  · refine ⟨⟨by simp, .inr ⟨_, rfl, M.cellsFrom 0 rfl fun j v hv => ?_⟩⟩, by omega⟩
    have := (List.getElem?_eq_some_iff.1 hv).1
    simp [List.getElem?_append_left this, hv]

theorem OwnM.fresh {opt : List (Nat × Obj)} {T : TypeId} {a : Option Addr} {l c : Nat} {xs : List ByteArray} {w0 w : World} {m : List (Nat × Obj)} {F : World → Prop}
    (ho : OwnM opt T a l c (xs.map Value.string)) (M : Mem w0 [] (opt ++ m) F w) : Fresh w0.heap.size w (fun w => StrsAt w a l xs) ∧ l ≤ c := by
  have hs := OwnM.strs ho M
  refine ⟨fun ids w' hi hk => ?_, hs.2⟩
  rcases ho with ⟨rfl, rfl, rfl, rfl, h⟩ | ⟨b, rest, rfl, rfl, rfl, rfl, hcb⟩
  · simp at h; subst h; exact ⟨rfl, .inl rfl⟩
  · have hb := M.fresh (b, _) (List.mem_append_left _ (List.mem_singleton.2 rfl))
    refine ⟨hs.1.1, ?_⟩
    rcases hs.1.2 with h | ⟨p, hp, hc⟩
    · exact .inl h
    · cases hp
      refine .inr ⟨_, rfl, hc.keep hk fun hm => ?_⟩
      have := hi _ hm
      rcases hb with h | h
      · simp at this h; omega
      · cases h

theorem OwnM.empty {T : TypeId} (b : Nat) : OwnM [(b, .cells #[] T (0, 0))] T (some ⟨b, 0, none⟩) 0 0 [] := .inr ⟨b, [], rfl, rfl, rfl, rfl, by simp⟩
theorem OwnM.nil {T : TypeId} : OwnM [] T none 0 0 [] := .inl ⟨rfl, rfl, rfl, rfl, rfl⟩


/-- An own row that is no longer written: it stays, whatever is done to the other blocks. -/
theorem Mem.own {w0 w : World} {lo : List Nat} {m opt : List (Nat × Obj)} {F : World → Prop} (M : Mem w0 lo (opt ++ m) F w) {T : TypeId} {a : Option Addr} {l c : Nat} {xs : List ByteArray}
    (ho : OwnM opt T a l c (xs.map Value.string)) : Mem w0 lo m (fun w => F w ∧ StrsAt w a l xs) w ∧ l ≤ c := by
  have hs := OwnM.strs ho M
  refine ⟨Mem.addF (M.sub (List.sublist_append_right _ _)) fun w' hk => ?_, hs.2⟩
  rcases ho with ⟨rfl, rfl, rfl, rfl, h⟩ | ⟨b, rest, rfl, rfl, rfl, rfl, hcb⟩
  · simp at h; subst h; exact ⟨rfl, .inl rfl⟩
  · have hnd := M.nd
    simp only [List.cons_append, List.nil_append, List.map_cons, List.nodup_cons] at hnd
    refine ⟨hs.1.1, ?_⟩
    rcases hs.1.2 with h | ⟨p, hp, hc⟩
    · exact .inl h
    · cases hp
      exact .inr ⟨_, rfl, hc.keep hk hnd.1⟩

theorem StrsAt.nil {w : World} : StrsAt w none 0 [] := ⟨rfl, .inl rfl⟩

theorem StrsAt.take {w : World} {a : Option Addr} {l : Nat} {xs : List ByteArray} (h : StrsAt w a l xs) (k : Nat) (hk : k ≤ xs.length) : StrsAt w a k (xs.take k) := by
  refine ⟨by simp; omega, ?_⟩
  rcases h.2 with h | ⟨p, hp, hc⟩
  · left; simp at h; simp [h]
  · refine .inr ⟨p, hp, fun i v hv => hc i v ?_⟩
    simp only [List.getElem?_map, List.getElem?_take] at hv ⊢
    split at hv
    · exact hv
    · simp at hv

theorem cutA_zero (o : Option Addr) (n : Nat) : cutA o n 0 1 = o := by
  unfold cutA; split
  · rfl
  · cases o with
    | none => rfl
    | some p => cases p with | mk b off path => cases path <;> rfl

/-- The same, and new to the one that the call began in. -/
theorem Mem.ownFr {w0 w : World} {m opt : List (Nat × Obj)} {F : World → Prop} (M : Mem w0 [] (opt ++ m) F w) {T : TypeId} {a : Option Addr} {l c : Nat} {xs : List ByteArray}
    (ho : OwnM opt T a l c (xs.map Value.string)) : Mem w0 [] m (fun w => F w ∧ Fresh w0.heap.size w fun w => StrsAt w a l xs) w ∧ l ≤ c := by
  have hs := OwnM.strs ho M
  refine ⟨Mem.addF (M.sub (List.sublist_append_right _ _)) fun w' hk => ?_, hs.2⟩
  intro ids w'' hi hk2
  rcases ho with ⟨rfl, rfl, rfl, rfl, h⟩ | ⟨b, rest, rfl, rfl, rfl, rfl, hcb⟩
  · simp at h; subst h; exact ⟨rfl, .inl rfl⟩
  · have hnd := M.nd
    simp only [List.cons_append, List.nil_append, List.map_cons, List.nodup_cons] at hnd
    have hb := M.fresh (b, _) (List.mem_append_left _ (List.mem_singleton.2 rfl))
    refine ⟨hs.1.1, ?_⟩
    rcases hs.1.2 with h | ⟨p, hp, hc⟩
    · exact .inl h
    · cases hp
      refine .inr ⟨_, rfl, (hc.keep hk hnd.1).keep hk2 fun hm => ?_⟩
      have := hi _ hm
      rcases hb with h | h
      · simp at this h; omega
      · cases h

theorem perm3 {α : Type} (o x s : List α) : (o ++ (x ++ s)).Perm (x ++ (s ++ o)) := List.perm_append_comm.trans (List.Perm.of_eq (List.append_assoc _ _ _))

/-- A cell of block number i, as the texts name it. -/
theorem Mem.cellA {w0 w : World} {lo : List Nat} {m : List (Nat × Obj)} {F : World → Prop} (M : Mem w0 lo m F w) (i : Nat) {b off : Nat} {c : List Value} {T : TypeId} {fr : Nat × Nat} {v : Value} (hm : m[i]? = some (b, .cells c.toArray T fr)) (hc : c[off]? = some v) :
    w.cell? (addA ⟨b, 0, none⟩ off) = some v := by
  rw [addA_mk, Nat.zero_add]; exact M.cell i hm hc

theorem Mem.stA {w0 w : World} {lo : List Nat} {m : List (Nat × Obj)} {F : World → Prop} (M : Mem w0 lo m F w) (i : Nat) {b off : Nat} {c vs : List Value} {T : TypeId} {k : World → Prop} (hm : m[i]? = some (b, .cells c.toArray T (0, 0)))
    (hl : off + vs.length ≤ c.length) (hc : vs.all isCell = true) (h : ∀ w1, Mem w0 lo (m.set i (b, .cells (spliceL c off vs).toArray T (0, 0))) F w1 → k w1) : StK w (addA ⟨b, 0, none⟩ off) vs k := by
  rw [addA_mk, Nat.zero_add]; exact M.stK i hm hl hc h

/-- It stays, whatever is done to the blocks of A. -/
def Stb (A : Nat → Prop) (w : World) (G : World → Prop) : Prop := ∀ ids w', (∀ i ∈ ids, A i) → Keep ids w w' → G w'

theorem Stb.now {A : Nat → Prop} {w : World} {G : World → Prop} (h : Stb A w G) : G w := h [] w (by simp) (Keep.refl _ _)
theorem Stb.keep0 {A : Nat → Prop} {w w' : World} {G : World → Prop} (h : Stb A w G) (hk : Keep [] w w') : Stb A w' G := fun ids w'' hi hk' => h ids w'' hi ((hk.mono (by simp)).trans hk' fun i hi => .inl hi)
theorem Stb.imp {A : Nat → Prop} {w : World} {G H : World → Prop} (h : Stb A w G) (hg : ∀ w', G w' → H w') : Stb A w H := fun ids w' hi hk => hg _ (h ids w' hi hk)
theorem Stb.and {A : Nat → Prop} {w : World} {G H : World → Prop} (h : Stb A w G) (h' : Stb A w H) : Stb A w fun w => G w ∧ H w := fun ids w' hi hk => ⟨h ids w' hi hk, h' ids w' hi hk⟩
theorem Stb.sub {A B : Nat → Prop} {w : World} {G : World → Prop} (h : Stb A w G) (hs : ∀ i, B i → A i) : Stb B w G := fun ids w' hi hk => h ids w' (fun i hm => hs i (hi i hm)) hk
theorem Fresh.stb {n : Nat} {A : Nat → Prop} {w : World} {G : World → Prop} (h : Fresh n w G) (hA : ∀ i, A i → i < n) : Stb A w G := fun ids w' hi hk => h ids w' (fun i hm => hA i (hi i hm)) hk
theorem Mem.stb {w0 w : World} {lo : List Nat} {m : List (Nat × Obj)} {F G : World → Prop} (M : Mem w0 lo m F w) (hg : ∀ w', F w' → G w') : Stb (· ∈ m.map (·.1)) w G := fun ids w' hi hk => hg _ (M.fact w' (hk.mono fun i hm => .inl (hi i hm)))
theorem Mem.callStb {w0 w : World} {lo : List Nat} {m : List (Nat × Obj)} {F G : World → Prop} (M : Mem w0 lo m F w) {w' : World} (h : Keep [] w w') (hG : Stb (· ∈ m.map (·.1)) w' G) : Mem w0 lo m (fun w => F w ∧ G w) w' :=
  (M.call h).addF fun w'' hk => hG _ w'' (fun _ hi => hi) hk
theorem Mem.oldLt {w0 w : World} {lo : List Nat} {m : List (Nat × Obj)} {F : World → Prop} (M : Mem w0 lo m F w) : ∀ i, i ∈ m.map (·.1) → i < w.heap.size := fun i hi => by
  obtain ⟨e, he, rfl⟩ := List.mem_map.1 hi
  exact M.lt he

end Go.Sx
