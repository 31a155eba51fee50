/-
  A part of the proof: MB.
-/
import Derived.Test.YtlegohnjbkgclaaDoorSxMA
namespace Go.Proofs.YtlegohnjbkgclaaDoor
open Go Go.Sx Go.Oct Go.Sha Go.Mac
set_option linter.unusedVariables false

/-- A builder's text; what else is known of memory, but rows of bytes, stands. -/
theorem b_StringO {w0 w : World} {opt m : List (Nat × Obj)} {F : World → Prop} {b : Nat} {p : Value} {a : Option Addr} {l c : Nat} {xs : List UInt8} (M : Mem w0 [] ((b, bcell p a l c) :: (opt ++ m)) F w) (hp : p = .pointer none ∨ p = bptr b)
    (ho : OwnM opt 5 a l c (byteVs xs)) {R : Ending → World → Prop} (h : ∀ w', Keep [] w0 w' → (∀ k o, w.heap[k]? = some o → k ≠ b → (∀ c fz, o ≠ .cells c 5 fz) → w'.heap[k]? = some o) → R (.returned (.string (bs xs))) w') :
    CallK Tryd.prog 56 #[bptr b] w R := by
  have hge : ∀ e ∈ (b, bcell p a l c) :: (opt ++ m), w0.heap.size ≤ e.1 := fun e he => by
    rcases M.fresh e he with h | h
    · exact h
    · cases h
  have hb : w.heap[b]? = some (.cells (List.toArray [p, .slice a l c]) 72 (0, 0)) := M.get (i := 0) rfl
  have hrow := ownsRowF_of (B := w0.heap.size) (M.sub (List.sublist_cons_self _ _)) ho (fun e he => hge e (by simp [he]))
  have hne : Value.ownBlock (.slice a l c) ≠ some b := by
    have hnd := M.nd
    rcases ho with ⟨_, rfl, _⟩ | ⟨b', rest, rfl, rfl, _⟩
    · simp [Value.ownBlock]
    · simp only [List.map_cons, List.cons_append, List.nil_append, List.nodup_cons, List.mem_cons, not_or] at hnd
      simp only [Value.ownBlock, ne_eq, Option.some.injEq]
      exact fun e => hnd.1.1 e.symm
  have hbld : Lib.IsBuilderF 72 5 w0.heap.size b (byteVs xs) w := by
    have hat : Lib.BuilderAtF 72 5 w0.heap.size b p (byteVs xs) w := ⟨hge _ (List.mem_cons_self ..), _, hb, hrow, hne⟩
    rcases hp with rfl | rfl
    · exact .inl hat
    · exact .inr hat
  refine (Tryd.Builder_String_any_k w0.heap.size b xs w hbld M.keep.size).mono ?_
  rintro e w' ⟨rfl, _, hbel, hoth⟩
  refine h w' ⟨hbel.os.trans M.keep.os, hbel.tape.trans M.keep.tape, hbel.output.trans M.keep.output, Nat.le_trans M.keep.size hbel.size, fun k hk hn => (hbel.block k hk).trans (M.keep.block k hk hn)⟩ (fun k o hk hkb hnu => hoth k o hk (by simpa using hkb) hnu)

theorem m_Info (w : World) {a : Option Addr} {l c : Nat} {xs : List ByteArray} (h : StrsAt w a l xs) (hx : ∀ x ∈ xs, x.size ≤ 1000) (hl : xs.length ≤ 1000) : Calls Tryd.prog 39 #[.slice a l c] w (Ret w (.string (bs (infoL xs)))) := by
  refine calls_ret (F39_calls _ _ _ _ _ ?_)
  have hll : l = xs.length := h.1
  refine (Mem.start w).newK fun b w1 M => ?_
  refine ⟨fun n vs w2 => ∃ (k : Nat) (opt : List (Nat × Obj)) (p : Value) (a : Option Addr) (l c : Nat), vs = [.int .i64 k] ∧ k + n = xs.length ∧ (p = .pointer none ∨ p = bptr b) ∧ OwnM opt 5 a l c (byteVs (infoL (xs.take k))) ∧ Mem w [] ((b, bcell p a l c) :: (opt ++ [])) (fun _ => True) w2,
    ⟨xs.length, 0, [], .pointer none, none, 0, 0, rfl, by omega, .inl rfl, OwnM.nil, by exact M⟩, ?_⟩
  rintro n vs w2 ⟨k, opt, p, a1, l1, c1, rfl, hk, hp, ho, M⟩
  refine ⟨_, rfl, fun _ => SplitK.of (fun hlt => ?_) (fun hlt => ?_)⟩
  · simp at hlt
    have hkx : k < xs.length := by omega
    obtain ⟨q, hq, hqc⟩ := (h.keep0 M.keep).get (k := k) hkx
    have hxk := hx _ (List.getElem_mem hkx)
    have hit := infoL_take xs k hkx
    have hle := infoL_le (xs.take k) 1000 (fun x hx' => hx x (List.mem_of_mem_take hx'))
    rw [List.length_take] at hle
    have hle2 : (1000 + 4) * min k xs.length ≤ 1004 * 1000 := Nat.mul_le_mul (Nat.le_refl _) (by omega)
    obtain ⟨s, hs⟩ := bs_surj xs[k]
    rw [hs] at hqc hxk hit
    simp at hxk
    refine ⟨by omega, by simp; omega, SomeK.of q hq ⟨bs s, by rw [addA_int]; exact hqc, ?_⟩⟩
    rw [sizeS_bs, natI_eq, wrapU64 _ (by omega)]
    refine CallK.ret (o_Big w2 _ 4 (by omega)) fun w3 h3 => ⟨_, rfl, ?_⟩
    have M := M.call h3
    rw [many4]
    refine b_Write M hp ho (by rw [bigL_length]; omega) ?_
    intro a' l' c' opt' w' ho' M'
    refine ⟨_, _, rfl, ?_⟩
    refine b_Write M' (.inr rfl) ho' (by rw [List.length_append, bigL_length]; omega) ?_
    intro a' l' c' opt' w' ho' M'
    refine ⟨_, _, rfl, n - 1, by omega, k + 1, opt', bptr b, a', l', c', by rw [addI_one (by omega)], by omega, .inr rfl, ?_, M'⟩
    have e2 : (bs s).data.toList = s := by simp [bs]
    rw [hit, e2, bs_size]
    exact ho'
  · simp at hlt
    have : k = xs.length := by omega
    subst this
    rw [List.take_length] at ho
    exact b_String M hp ho fun w' hK => ⟨_, rfl, rfl, hK⟩

theorem x_Info (w : World) {a : Option Addr} {l c : Nat} {xs : List ByteArray} (h : StrsAt w a l xs) (hx : ∀ x ∈ xs, x.size ≤ 1000) (hl : xs.length ≤ 1000) : Calls Tryd.prog 37 #[.slice a l c] w (Ret w (.string (bs (infoL xs)))) := by
  refine calls_ret (F37_calls _ _ _ _ _ ?_)
  have hll : l = xs.length := h.1
  refine ⟨fun n vs w2 => ∃ k : Nat, vs = [.string (bs (infoL (xs.take k))), .int .i64 k] ∧ k + n = xs.length ∧ Keep [] w w2, ⟨xs.length, 0, rfl, by omega, Keep.refl _ _⟩, ?_⟩
  rintro n vs w2 ⟨k, rfl, hk, hK⟩
  refine ⟨_, _, rfl, fun _ => SplitK.of (fun hlt => ?_) (fun hlt => ?_)⟩
  · simp at hlt
    have hkx : k < xs.length := by omega
    intro K hKK
    rintro w3 rfl
    obtain ⟨q, hq, hqc⟩ := (h.keep0 hK.drew).get (k := k) hkx
    have hxk := hx _ (List.getElem_mem hkx)
    have hit := infoL_take xs k hkx
    have hle := infoL_le (xs.take k) 1000 (fun x hx' => hx x (List.mem_of_mem_take hx'))
    rw [List.length_take] at hle
    have hle2 : (1000 + 4) * min k xs.length ≤ 1004 * 1000 := Nat.mul_le_mul (Nat.le_refl _) (by omega)
    obtain ⟨s, hs⟩ := bs_surj xs[k]
    rw [hs] at hqc hxk hit
    simp at hxk
    have e1 : addA q (mulN (intN (k : Int)) 1) = q.add k := addA_int q k
    refine ⟨fun W' => W'.cell? (q.add k) = some (.string (bs s)), hqc, by omega, by simp; omega, SomeK.of q hq ⟨bs s, fun w' hw => by rw [e1]; exact hw, by omega, by simp; omega, SomeK.of q hq ⟨bs s, fun w' hw => by rw [e1]; exact hw, hqc, ?_⟩⟩⟩
    rw [sizeS_bs, natI_eq, wrapU64 _ (by omega)]
    refine CallK.ret (x_Big _ _ 4 (by omega)) fun w3 h3 => ⟨_, rfl, ?_⟩
    have hq3 := hqc
    refine ⟨h3.cell hqc (by simp), ?_⟩
    rw [many4, catS_bs, catS_bs]
    refine ⟨by simp; omega, by simp; omega, hKK _ _ fun _ => ⟨n - 1, by omega, k + 1, ?_, by omega, hK.drew.trans0 h3⟩⟩
    have e2 : (bs s).data.toList = s := by simp [bs]
    rw [hit, e2, bs_size, addI_one (by omega)]
  · simp at hlt
    have : k = xs.length := by omega
    subst this
    rw [List.take_length]
    exact ⟨rfl, hK⟩

theorem x_Texts (w : World) {a a' : Option Addr} {l c l' c' : Nat} {xs ys : List ByteArray} (h : StrsAt w a l xs) (h' : StrsAt w a' l' ys) (hl : xs.length ≤ 1000000) : Calls Tryd.prog 40 #[.slice a l c, .slice a' l' c'] w (Ret w (.bool (decide (xs = ys)))) := by
  refine calls_ret (F40_calls _ _ _ _ _ _ _ _ ?_)
  have hxl : l = xs.length := h.1
  have hyl : l' = ys.length := h'.1
  refine SplitK.of (fun hn => ?_) (fun hn => ?_)
  · simp only [natI_eq, notB_t, eqI_f] at hn
    have : xs ≠ ys := fun e => hn (by rw [hxl, hyl, e])
    exact ⟨by simp [this], Keep.refl _ _⟩
  · simp only [natI_eq, notB_f, eqI_t] at hn
    have hll : xs.length = ys.length := by omega
    refine ⟨fun n vs w2 => ∃ k : Nat, vs = [.int .i64 k] ∧ k + n = xs.length ∧ xs.take k = ys.take k ∧ Keep [] w w2, ⟨xs.length, 0, rfl, by omega, rfl, Keep.refl _ _⟩, ?_⟩
    rintro n vs w2 ⟨k, rfl, hk, ht, hK⟩
    refine ⟨_, rfl, fun _ => SplitK.of (fun hlt => ?_) (fun hlt => ?_)⟩
    · simp at hlt
      have hkx : k < xs.length := by omega
      have hky : k < ys.length := by omega
      rintro w3 rfl
      obtain ⟨q, hq, hqc⟩ := (h.keep0 hK.drew).get (k := k) hkx
      obtain ⟨q', hq', hqc'⟩ := (h'.keep0 hK.drew).get (k := k) hky
      have e1 : ∀ q : Addr, addA q (mulN (intN (k : Int)) 1) = q.add k := fun q => addA_int q k
      refine ⟨fun W' => W'.cell? (q.add k) = some (.string xs[k]) ∧ W'.cell? (q'.add k) = some (.string ys[k]), ⟨hqc, hqc'⟩, by omega, by simp; omega, SomeK.of q hq ⟨_, fun w' hw => by rw [e1]; exact hw.1, by omega, by simp; omega, SomeK.of q' hq' ⟨_, fun w' hw => by rw [e1]; exact hw.2, ?_⟩⟩⟩
      refine SplitK.of (fun he => ?_) (fun he => ?_)
      · obtain ⟨s, hs⟩ := bs_surj xs[k]
        obtain ⟨t, hs'⟩ := bs_surj ys[k]
        rw [hs, hs', eqS_bs] at he
        simp at he
        have : xs ≠ ys := fun e => by
          subst e
          rw [hs] at hs'
          have := congrArg (fun x => x.data.toList) hs'
          simp [bs] at this
          exact he this
        exact ⟨by simp [this], hK.drew⟩
      · obtain ⟨s, hs⟩ := bs_surj xs[k]
        obtain ⟨t, hs'⟩ := bs_surj ys[k]
        rw [hs, hs', eqS_bs] at he
        simp at he
        subst he
        refine ⟨n - 1, by omega, k + 1, by rw [addI_one (by omega)], by omega, ?_, hK.drew⟩
        rw [List.take_succ_eq_append_getElem hkx, List.take_succ_eq_append_getElem hky, ht, hs, hs']
    · simp at hlt
      have : k = xs.length := by omega
      subst this
      rw [List.take_length, hll, List.take_length] at ht
      exact ⟨by simp [ht], hK⟩

def fewB (xs : List ByteArray) : Bool := decide (xs.length ≤ 10) && xs.all (fun x => decide (x.size ≤ 200))
theorem fewB_t {xs : List ByteArray} (h : fewB xs = true) : xs.length ≤ 10 ∧ ∀ x ∈ xs, x.size ≤ 200 := by simpa [fewB] using h
theorem m_few (w : World) {a : Option Addr} {l c : Nat} {xs : List ByteArray} (h : StrsAt w a l xs) : Calls Tryd.prog 34 #[.slice a l c] w (Ret w (.bool (fewB xs))) := by
  refine calls_ret (F34_calls _ _ _ _ _ ?_)
  have hxl : l = xs.length := h.1
  refine ⟨fun n vs w2 => ∃ k : Nat, vs = [.int .i64 k] ∧ k + n = 11 ∧ k ≤ xs.length ∧ (∀ x ∈ xs.take k, x.size ≤ 200) ∧ w2 = w, ⟨11, 0, rfl, by omega, by omega, by simp, rfl⟩, ?_⟩
  rintro n vs w2 ⟨k, rfl, hk, hkl, ht, rfl⟩
  refine ⟨_, rfl, fun _ K hK => ?_⟩
  have fin : (k = xs.length ∨ 10 < k) → K [.bool false] w2 := by
    intro hc
    refine hK _ _ fun _ => SplitK.f rfl ⟨?_, Keep.refl _ _⟩
    congr 1
    have e : leI (natI l) 10 = decide (xs.length ≤ 10) := by rw [natI_eq, hxl]; exact leI_nat _ 10
    rw [e, Bool.eq_iff_iff]
    simp only [fewB, Bool.and_eq_true, decide_eq_true_eq, List.all_eq_true]
    constructor
    · intro h1
      have hkx : k = xs.length := by omega
      rw [hkx, List.take_length] at ht
      exact ⟨by omega, ht⟩
    · intro h1; omega
  refine SplitK.of (fun hlt => ?_) (fun hlt => ?_)
  · simp at hlt
    have hkx : k < xs.length := by omega
    by_cases h10 : k ≤ 10
    · have e10 : leI (k : Int) 10 = true := by simp [leI]; omega
      rw [e10]
      refine hK _ _ fun _ => SplitK.t rfl ?_
      obtain ⟨q, hq, hqc⟩ := h.get (k := k) hkx
      refine ⟨by omega, by simp; omega, SomeK.of q hq ⟨_, by rw [addA_int]; exact hqc, ?_⟩⟩
      obtain ⟨s, hs⟩ := bs_surj xs[k]
      rw [hs]
      refine SplitK.of (fun hb => ?_) (fun hb => ?_)
      · simp at hb
        refine ⟨?_, Keep.refl _ _⟩
        congr 1
        rw [eq_comm, Bool.eq_false_iff]
        intro hf
        have := (fewB_t hf).2 _ (List.getElem_mem hkx)
        rw [hs, bs_size] at this
        omega
      · simp at hb
        refine ⟨n - 1, by omega, k + 1, by rw [addI_one (by omega)], by omega, by omega, ?_, by trivial⟩
        intro x hx
        rw [List.take_succ_eq_append_getElem hkx, List.mem_append, List.mem_singleton] at hx
        rcases hx with hx | rfl
        · exact ht x hx
        · rw [hs, bs_size]; omega
    · have e10 : leI (k : Int) 10 = false := by simp [leI]; omega
      rw [e10]
      exact fin (.inr (by omega))
  · simp at hlt
    exact fin (.inl (by omega))

end Go.Proofs.YtlegohnjbkgclaaDoor
