/-
  A part of the proof: WK.
-/
import Derived.Test.YtgecpbplbkpdlaaSxWJ
namespace Go.Proofs.Ytgecpbplbkpdlaa
open Go Go.Sx Go.Oct Go.Wire
set_option linter.unusedVariables false

def tokC (t : TokV) : List Value := [.string (bs t.key), .int .i64 t.n]
def toksC (l : List TokV) : List Value := (l.map tokC).flatten
theorem toksC_len (l : List TokV) : (toksC l).length = l.length * 2 := flat_len tokC 2 (fun _ => rfl) l
theorem tok_at {w : World} {a : Option Addr} {l : Nat} {ts : List TokV} (h : RsAt w 2 a l (toksC ts)) {k : Nat} (hk : k < ts.length) :
    ∃ p, a = some p ∧ CellsAt w (addA p (mulN (intN (k : Int)) 2)) (tokC ts[k]) := by
  obtain ⟨p, hp, hc⟩ := h.ptr (by rw [toksC_len]; omega)
  refine ⟨p, hp, ?_⟩
  show CellsAt w (p.add (k * 2)) _
  exact hc.part fun i v hv => flat_at tokC 2 (fun _ => rfl) ts k hk i v hv
theorem toks_len {w : World} {a : Option Addr} {l : Nat} {ts : List TokV} (h : RsAt w 2 a l (toksC ts)) : l = ts.length := by
  have h1 := h.1; rw [toksC_len] at h1; omega
theorem tok_eqB (o q : TokV) : andB (eqS (bs o.key) (bs q.key)) (eqI o.n q.n) = decide (o = q) := by
  rw [eqS_bs, Bool.eq_iff_iff, decide_eq_true_eq]
  simp only [andB, Bool.and_eq_true, decide_eq_true_eq, eqI_t]
  constructor
  · rintro ⟨h1, h2⟩
    obtain ⟨a, b⟩ := o
    obtain ⟨a', b'⟩ := q
    simp only at h1 h2
    subst h1 h2; rfl
  · rintro rfl; exact ⟨rfl, rfl⟩

theorem w_eqToks (w : World) {a a' : Option Addr} {l c l' c' : Nat} {xs ys : List TokV} (h : RsAt w 2 a l (toksC xs)) (h' : RsAt w 2 a' l' (toksC ys)) (hx : xs.length ≤ 1000000) : Calls Try.prog 43 #[.slice a l c, .slice a' l' c'] w (Ret w (.bool (decide (xs = ys)))) := by
  refine calls_ret (F43_calls _ _ _ _ _ _ _ _ ?_)
  have hxl := toks_len h
  have hyl := toks_len h'
  subst hxl hyl
  refine SplitK.of (fun hn => ?_) (fun hn => ?_)
  · simp only [natI_eq, notB_t, eqI_f] at hn
    have : xs ≠ ys := fun e => hn (by rw [e])
    exact ⟨by rw [decide_eq_false this], Keep.refl _ _⟩
  · simp only [natI_eq, notB_f, eqI_t] at hn
    have hll : xs.length = ys.length := by omega
    refine ⟨fun n vs w2 => ∃ k : Nat, vs = [.int .i64 k] ∧ k + n = xs.length ∧ xs.take k = ys.take k ∧ Keep [] w w2, ⟨xs.length, 0, rfl, by omega, rfl, Keep.refl _ _⟩, ?_⟩
    rintro n vs w2 ⟨k, rfl, hk, ht, hK⟩
    refine ⟨_, rfl, fun _ => SplitK.of (fun hlt => ?_) (fun hlt => ?_)⟩
    · simp at hlt
      have hkx : k < xs.length := by omega
      have hky : k < ys.length := by omega
      obtain ⟨he, hne⟩ := same_rows hll hkx ht
      rintro w3 rfl
      obtain ⟨q, hq, hqc⟩ := tok_at (h.keep0 hK.drew) hkx
      obtain ⟨q', hq', hqc'⟩ := tok_at (h'.keep0 hK.drew) hky
      refine ⟨fun W' => CellsAt W' (addA q (mulN (intN (k : Int)) 2)) (tokC xs[k]) ∧ CellsAt W' (addA q' (mulN (intN (k : Int)) 2)) (tokC ys[k]), ⟨hqc, hqc'⟩, by omega, by rw [natI_eq]; omega, SomeK.of q hq ⟨bs xs[k].key, xs[k].n, fun w' hw => hw.1, by omega, by rw [natI_eq]; omega, SomeK.of q' hq' ⟨bs ys[k].key, ys[k].n, fun w' hw => hw.2, ?_⟩⟩⟩
      rw [tok_eqB]
      refine SplitK.of (fun hb => ?_) (fun hb => ?_)
      · simp only [notB_t, decide_eq_false_iff_not] at hb
        exact ⟨by rw [decide_eq_false (hne hb)], hK.drew⟩
      · simp only [notB_f, decide_eq_true_eq] at hb
        exact ⟨n - 1, by omega, k + 1, by rw [addI_one (by omega)], by omega, he hb, hK.drew⟩
    · simp at hlt
      obtain rfl : k = xs.length := by omega
      rw [List.take_length, hll, List.take_length] at ht
      exact ⟨by rw [decide_eq_true ht], hK⟩

theorem str_at {w : World} {a : Option Addr} {l : Nat} {xs : List (List UInt8)} (h : VsAt w a l (strs xs)) {k : Nat} (hk : k < xs.length) :
    ∃ p, a = some p ∧ w.cell? (addA p (mulN (intN (k : Int)) 1)) = some (.string (bs xs[k])) := by
  obtain ⟨p, hp, hc⟩ := VsAt.ptr h (by rw [strs_length]; omega)
  exact ⟨p, hp, by rw [addA_int]; exact hc k _ (strs_at hk)⟩
theorem strs_len {w : World} {a : Option Addr} {l : Nat} {xs : List (List UInt8)} (h : VsAt w a l (strs xs)) : l = xs.length := by
  have := h.1; rwa [strs_length] at this

theorem sameStrs_body (w : World) {a a' : Option Addr} {l l' : Nat} (c c' : Nat) {xs ys : List (List UInt8)} (h : VsAt w a l (strs xs)) (h' : VsAt w a' l' (strs ys)) (hx : xs.length ≤ 1000000) : F48 a l c a' l' c' w (fun v w' => v = .bool (decide (xs = ys)) ∧ Keep [] w w') := by
  have hxl := strs_len h
  have hyl := strs_len h'
  subst hxl hyl
  refine SplitK.of (fun hn => ?_) (fun hn => ?_)
  · simp only [natI_eq, notB_t, eqI_f] at hn
    have : xs ≠ ys := fun e => hn (by rw [e])
    exact ⟨by rw [decide_eq_false this], Keep.refl _ _⟩
  · simp only [natI_eq, notB_f, eqI_t] at hn
    have hll : xs.length = ys.length := by omega
    refine ⟨fun n vs w2 => ∃ k : Nat, vs = [.int .i64 k] ∧ k + n = xs.length ∧ xs.take k = ys.take k ∧ Keep [] w w2, ⟨xs.length, 0, rfl, by omega, rfl, Keep.refl _ _⟩, ?_⟩
    rintro n vs w2 ⟨k, rfl, hk, ht, hK⟩
    refine ⟨_, rfl, fun _ => SplitK.of (fun hlt => ?_) (fun hlt => ?_)⟩
    · simp at hlt
      have hkx : k < xs.length := by omega
      have hky : k < ys.length := by omega
      obtain ⟨he, hne⟩ := same_rows hll hkx ht
      rintro w3 rfl
      obtain ⟨q, hq, hqc⟩ := str_at (h.keep0 hK.drew) hkx
      obtain ⟨q', hq', hqc'⟩ := str_at (h'.keep0 hK.drew) hky
      refine ⟨fun W' => W'.cell? (addA q (mulN (intN (k : Int)) 1)) = some (.string (bs xs[k])) ∧ W'.cell? (addA q' (mulN (intN (k : Int)) 1)) = some (.string (bs ys[k])), ⟨hqc, hqc'⟩, by omega, by rw [natI_eq]; omega, SomeK.of q hq ⟨_, fun w' hw => hw.1, by omega, by rw [natI_eq]; omega, SomeK.of q' hq' ⟨_, fun w' hw => hw.2, ?_⟩⟩⟩
      rw [eqS_bs]
      refine SplitK.of (fun hb => ?_) (fun hb => ?_)
      · simp only [notB_t, decide_eq_false_iff_not] at hb
        exact ⟨by rw [decide_eq_false (hne hb)], hK.drew⟩
      · simp only [notB_f, decide_eq_true_eq] at hb
        exact ⟨n - 1, by omega, k + 1, by rw [addI_one (by omega)], by omega, he hb, hK.drew⟩
    · simp at hlt
      obtain rfl : k = xs.length := by omega
      rw [List.take_length, hll, List.take_length] at ht
      exact ⟨by rw [decide_eq_true ht], hK⟩
theorem x_Strs (w : World) {a a' : Option Addr} {l c l' c' : Nat} {xs ys : List (List UInt8)} (h : VsAt w a l (strs xs)) (h' : VsAt w a' l' (strs ys)) (hx : xs.length ≤ 1000000) : Calls Try.prog 48 #[.slice a l c, .slice a' l' c'] w (Ret w (.bool (decide (xs = ys)))) :=
  calls_ret (F48_calls _ _ _ _ _ _ _ _ (sameStrs_body w c c' h h' hx))
theorem w_eqStrs (w : World) {a a' : Option Addr} {l c l' c' : Nat} {xs ys : List (List UInt8)} (h : VsAt w a l (strs xs)) (h' : VsAt w a' l' (strs ys)) (hx : xs.length ≤ 1000000) : Calls Try.prog 49 #[.slice a l c, .slice a' l' c'] w (Ret w (.bool (decide (xs = ys)))) :=
  calls_ret (F49_calls _ _ _ _ _ _ _ _ (sameStrs_body w c c' h h' hx))

theorem w_short (w : World) (s : List UInt8) : Calls Try.prog 51 #[.string (bs s)] w (Ret w (.bool (decide (1 ≤ s.length ∧ s.length ≤ 64)))) := by
  refine calls_ret (F51_calls _ _ _ ?_)
  unfold F51
  rw [lit_bs [], eqS_bs]
  refine SplitK.of (fun h => ?_) (fun h => ?_)
  · simp only [notB_t, decide_eq_false_iff_not] at h
    have h1 : 1 ≤ s.length := by cases s; exact absurd rfl h; simp
    refine ⟨?_, Keep.refl _ _⟩
    congr 1
    rw [Bool.eq_iff_iff, leI_t, decide_eq_true_eq, sizeS_bs, natI_eq]
    omega
  · simp only [notB_f, decide_eq_true_eq] at h
    refine ⟨?_, Keep.refl _ _⟩
    subst h; rfl
theorem w_badTok (w : World) (t : TokV) : Calls Try.prog 50 #[.agg (tokC t).toArray] w (Ret w (.bool (decide (BadTok t)))) := by
  refine calls_ret (F50_calls _ _ _ _ ?_)
  refine (Mem.start w).newK fun b w1 M => ?_
  refine ⟨_, M.cellA 0 (c := tokC t) rfl rfl, ?_⟩
  refine CallK.ret (w_short w1 t.key) fun w2 k => ⟨_, rfl, ?_⟩
  have M := M.call k
  have c1 : w2.cell? (addA ⟨b, 0, none⟩ 1) = some (.int .i64 t.n) := M.cellA 0 (c := tokC t) rfl rfl
  refine SplitK.of (fun h => ?_) (fun h => ⟨_, c1, SplitK.of (fun h2 => ?_) (fun h2 => ⟨_, c1, ?_⟩)⟩)
  · simp only [notB_t, decide_eq_false_iff_not] at h
    refine ⟨?_, M.keep⟩
    rw [decide_eq_true]
    unfold BadTok; omega
  · simp only [notB_f, decide_eq_true_eq] at h
    rw [ltI_t] at h2
    refine ⟨?_, M.keep⟩
    rw [decide_eq_true]
    unfold BadTok; omega
  · simp only [notB_f, decide_eq_true_eq] at h
    rw [ltI_f] at h2
    refine ⟨?_, M.keep⟩
    congr 1
    rw [Bool.eq_iff_iff, ltI_t, decide_eq_true_eq]
    unfold BadTok; omega
theorem w_anyTok (w : World) {a : Option Addr} {l c : Nat} {ts : List TokV} (h : RsAt w 2 a l (toksC ts)) (hl : ts.length ≤ 1000000) :
    Calls Try.prog 52 #[.slice a l c, .func (.func 50) #[] #[]] w (Ret w (.bool (decide (∃ t ∈ ts, BadTok t)))) := by
  refine calls_ret (F52_calls _ _ _ _ _ _ ?_)
  have hlen := toks_len h
  subst hlen
  refine Calls.mono (F65_calls _ _ _ _ w (fun v w' => ∃ n : Int, v = .int .i64 n ∧ (0 ≤ n ↔ ∃ o ∈ ts, BadTok o) ∧ Keep [] w w') ?_) ?_
  · refine ⟨fun n vs W => ∃ k : Nat, vs = [.int .i64 k] ∧ k + n = ts.length ∧ (∀ o ∈ ts.take k, ¬ BadTok o) ∧ Keep [] w W, ⟨ts.length, 0, rfl, by omega, by simp, Keep.refl _ _⟩, ?_⟩
    rintro n vs W ⟨k, rfl, hk, hno, kk⟩
    refine ⟨_, rfl, fun _ => SplitK.of (fun hlt => ?_) (fun hlt => ?_)⟩
    · simp at hlt
      have hko : k < ts.length := by omega
      obtain ⟨p, hp, hc⟩ := tok_at (h.keep0 kk) hko
      refine ⟨by omega, by simp; omega, SomeK.of p hp ⟨_, _, hc, FnK.fn rfl ?_⟩⟩
      refine CallK.ret (w_badTok W ts[k]) fun w2 k2 => ⟨_, rfl, SplitK.of (fun ho => ?_) (fun ho => ?_)⟩
      · have ho := of_decide_eq_true ho
        exact ⟨_, rfl, ⟨fun _ => ⟨_, List.getElem_mem hko, ho⟩, fun _ => by omega⟩, kk.trans0 k2⟩
      · have ho := of_decide_eq_false ho
        refine ⟨n - 1, by omega, k + 1, by rw [addI_one (by omega)], by omega, ?_, kk.trans0 k2⟩
        intro o hm
        rw [List.take_succ_eq_append_getElem hko] at hm
        rcases List.mem_append.1 hm with h1 | h1
        · exact hno o h1
        · rw [List.mem_singleton.1 h1]; exact ho
    · simp at hlt
      obtain rfl : k = ts.length := by omega
      rw [List.take_length] at hno
      exact ⟨_, rfl, ⟨fun h => absurd h (by decide), fun ⟨o, ho, hb⟩ => absurd hb (hno o ho)⟩, kk⟩
  · rintro e w' ⟨v, rfl, n, rfl, hn, kk⟩
    refine ⟨_, rfl, ?_, kk⟩
    congr 1
    rw [Bool.eq_iff_iff, leI_t, decide_eq_true_eq]; exact hn

/-- Boxes that are too long. -/
theorem w_anyLong (w : World) {a : Option Addr} {l c : Nat} {xs : List (List UInt8)} (h : VsAt w a l (strs xs)) (hl : xs.length ≤ 1000000) :
    Calls Try.prog 45 #[.slice a l c, .func (.func 44) #[] #[]] w (Ret w (.bool (decide (∃ x ∈ xs, 8192 < x.length)))) := by
  refine calls_ret (F45_calls _ _ _ _ _ _ ?_)
  have hlen := strs_len h
  subst hlen
  refine Calls.mono (F64_calls _ _ _ _ w (fun v w' => ∃ n : Int, v = .int .i64 n ∧ (0 ≤ n ↔ ∃ x ∈ xs, 8192 < x.length) ∧ Keep [] w w') ?_) ?_
  · refine ⟨fun n vs W => ∃ k : Nat, vs = [.int .i64 k] ∧ k + n = xs.length ∧ (∀ o ∈ xs.take k, ¬ 8192 < o.length) ∧ Keep [] w W, ⟨xs.length, 0, rfl, by omega, by simp, Keep.refl _ _⟩, ?_⟩
    rintro n vs W ⟨k, rfl, hk, hno, kk⟩
    refine ⟨_, rfl, fun _ => SplitK.of (fun hlt => ?_) (fun hlt => ?_)⟩
    · simp at hlt
      have hko : k < xs.length := by omega
      obtain ⟨p, hp, hc⟩ := str_at (h.keep0 kk) hko
      refine ⟨by omega, by simp; omega, SomeK.of p hp ⟨_, hc, FnK.fn rfl ?_⟩⟩
      refine Calls.mono (F44_calls (bs xs[k]) W (fun v w' => v = .bool (decide (8192 < xs[k].length)) ∧ w' = W) ?_) ?_
      · refine ⟨?_, rfl⟩
        congr 1
        rw [Bool.eq_iff_iff, ltI_t, decide_eq_true_eq, sizeS_bs, natI_eq]; omega
      rintro e w2 ⟨v, rfl, rfl, rfl⟩
      refine ⟨_, rfl, SplitK.of (fun ho => ?_) (fun ho => ?_)⟩
      · have ho := of_decide_eq_true ho
        exact ⟨_, rfl, ⟨fun _ => ⟨_, List.getElem_mem hko, ho⟩, fun _ => by omega⟩, kk⟩
      · have ho := of_decide_eq_false ho
        refine ⟨n - 1, by omega, k + 1, by rw [addI_one (by omega)], by omega, ?_, kk⟩
        intro o hm
        rw [List.take_succ_eq_append_getElem hko] at hm
        rcases List.mem_append.1 hm with h1 | h1
        · exact hno o h1
        · rw [List.mem_singleton.1 h1]; exact ho
    · simp at hlt
      obtain rfl : k = xs.length := by omega
      rw [List.take_length] at hno
      exact ⟨_, rfl, ⟨fun h => absurd h (by decide), fun ⟨o, ho, hb⟩ => absurd hb (hno o ho)⟩, kk⟩
  · rintro e w' ⟨v, rfl, n, rfl, hn, kk⟩
    refine ⟨_, rfl, ?_, kk⟩
    congr 1
    rw [Bool.eq_iff_iff, leI_t, decide_eq_true_eq]; exact hn

end Go.Proofs.Ytgecpbplbkpdlaa
