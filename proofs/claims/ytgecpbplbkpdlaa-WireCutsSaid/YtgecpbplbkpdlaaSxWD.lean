/-
  A part of the proof: WD.
-/
import Derived.Test.YtgecpbplbkpdlaaSxWC
namespace Go.Proofs.Ytgecpbplbkpdlaa
open Go Go.Sx Go.Oct Go.Wire
set_option linter.unusedVariables false

def strs (xs : List (List UInt8)) : List Value := xs.map fun x => Value.string (bs x)
theorem strs_snoc (xs : List (List UInt8)) (x : List UInt8) : strs xs ++ [.string (bs x)] = strs (xs ++ [x]) := by simp [strs]
@[simp] theorem strs_length (xs : List (List UInt8)) : (strs xs).length = xs.length := by simp [strs]
def boxL (a : Option Addr) (l c : Nat) : Obj := .cells (List.toArray [.slice a l c]) 44 (0, 0)

theorem OwnM.lc {opt : List (Nat × Obj)} {T : TypeId} {a : Option Addr} {l c : Nat} {vs : List Value} (ho : OwnM opt T a l c vs) : l ≤ c := by
  rcases ho with ⟨_, _, h1, h2, _⟩ | ⟨_, _, _, _, h1, h2, _⟩ <;> omega

theorem Mem.startB2 {w : World} {b b2 : Nat} {o o2 : Obj} (h : w.heap[b]? = some o) (h2 : w.heap[b2]? = some o2) (hn : b ≠ b2) : Mem w [b, b2] [(b, o), (b2, o2)] (fun _ => True) w :=
  ⟨Keep.refl _ _, by simp, by simp [h, h2], by simp [hn], fun _ _ => trivial⟩

theorem w_split1 (w : World) (b L : Nat) (s : List UInt8) (hs : s.length ≤ 1000000) (hb : w.heap[b]? = some (rdr s)) (hL : w.heap[L]? = some (boxL none 0 0)) (hn : b ≠ L) :
    Calls Try.prog 72 #[.pointer (some ⟨b, 0, none⟩), .pointer (some ⟨L, 0, none⟩)] w (fun e w' => Keep [b, L] w w' ∧ match splitL s with
      | some xs => e = .returned (.tuple #[]) ∧ w'.heap[b]? = some (rdr []) ∧ ∃ a l c, w'.cell? ⟨L, 0, none⟩ = some (.slice a l c) ∧ l ≤ c ∧ Fresh w.heap.size w' (fun w => VsAt w a l (strs xs))
      | none => e = .panicked [oddP false]) := by
  refine F72_calls _ _ _ _ ?_
  have M := Mem.startB2 hb hL hn
  refine ⟨fun n vs W => vs = [] ∧ ∃ (rest : List UInt8) (xs : List (List UInt8)) (opt : List (Nat × Obj)) (a : Option Addr) (l c : Nat), n = rest.length ∧ rest.length ≤ s.length ∧ xs.length + rest.length ≤ s.length ∧ splitL s = (splitL rest).map (xs ++ ·) ∧ OwnM opt 9 a l c (strs xs) ∧
      Mem w [b, L] ([(b, rdr rest), (L, boxL a l c)] ++ opt) (fun _ => True) W, ⟨s.length, rfl, s, [], [], none, 0, 0, rfl, Nat.le_refl _, by simp, by cases splitL s <;> simp, OwnM.nil, by simpa using M⟩, ?_⟩
  clear M
  rintro n vs W ⟨rfl, rest, xs, opt, a, l, c, rfl, hrl, hxl, hsp, ho, M⟩
  have cR : W.cell? (addA ⟨b, 0, none⟩ 0) = some (.string (bs rest)) := by rw [addA_mk]; exact M.cell 0 (c := [.string (bs rest)]) rfl rfl
  refine ⟨rfl, fun _ => SomeK.of _ rfl ⟨_, cR, ?_⟩⟩
  rw [lit_bs [], eqS_bs]
  match rest, hrl, hxl, hsp, M with
  | [], hrl, hxl, hsp, M =>
    refine SplitK.f rfl ?_
    rw [hsp]
    have M' : Mem w [b, L] (opt ++ [(b, rdr []), (L, boxL a l c)]) (fun _ => True) W := M.perm List.perm_append_comm
    refine ⟨M.keep, ?_⟩
    rw [splitL_nil, Option.map_some, List.append_nil]
    refine ⟨rfl, M.hget 0 rfl, a, l, c, M.cell 1 (c := [.slice a l c]) rfl rfl, OwnM.lc ho, ?_⟩
    have hv := ho.vsAt M'
    intro ids w' hi hk
    rcases ho with ⟨rfl, rfl, rfl, rfl, hx⟩ | ⟨g, rs, rfl, rfl, rfl, rfl, hcb⟩
    · rw [hx] at hv ⊢; exact ⟨rfl, .inl rfl⟩
    · refine ⟨hv.1, ?_⟩
      rcases hv.2 with h | ⟨p, hp, hc⟩
      · exact .inl h
      · cases hp
        refine .inr ⟨_, rfl, hc.keep hk fun hm => ?_⟩
        have h1 := hi _ hm
        simp only at h1
        have hnd := M'.nd
        simp only [List.cons_append, List.nil_append, List.map_cons, List.map_nil, List.nodup_cons, List.mem_cons, List.not_mem_nil, or_false, not_or] at hnd
        rcases M'.fresh (g, _) (List.mem_append_left _ (List.mem_singleton.2 rfl)) with h | h
        · simp only at h; omega
        · simp only [List.mem_cons, List.not_mem_nil, or_false] at h
          rcases h with h | h
          · exact hnd.1.1 h
          · exact hnd.1.2 h
  | c0 :: r, hrl, hxl, hsp, M =>
    refine SplitK.t (by simp) ?_
    show CallK Try.prog 74 #[.pointer (some ⟨b, 0, none⟩), .int .i64 ((1 : Nat) : Int)] _ _
    refine take_at M 0 1 rfl (by simp) (by omega) fun w2 M => .inl ⟨_, rfl, by decide, byteAt (by simp) ?_⟩
    have M : Mem w [b, L] ([(b, rdr r), (L, boxL a l c)] ++ opt) (fun _ => True) w2 := M
    have e4 : eqI (byteI c0) 4 = decide (c0 = 4) := by
      rw [Bool.eq_iff_iff, eqI_t, decide_eq_true_eq, byteI_eq]
      constructor
      · intro h
        have h : c0.toNat = 4 := by omega
        exact UInt8.toNat_inj.1 (by rw [h]; rfl)
      · intro h; rw [h]; rfl
    show CallK Try.prog 73 #[.bool (eqI (byteI c0) 4)] _ _
    rw [e4]
    by_cases h4 : c0 = 4
    · refine need_t (decide_eq_true h4) (.inl ⟨rfl, ?_⟩)
      rintro w4 rfl
      have M := M.drew
      refine ⟨fun W' => W'.cell? ⟨L, 0, none⟩ = some (.slice a l c), M.cell 1 (c := [.slice a l c]) rfl rfl, SomeK.of _ rfl ⟨a, l, c, fun _ h => h, ?_⟩⟩
      refine (w_text _ b r (by simp at hrl; omega) (M.hget 0 rfl)).mono ?_
      rintro e w5 ⟨hk, hres⟩
      cases hd : decB r with
      | none =>
        rw [hd] at hres
        have hdec : splitL (c0 :: r) = none := by rw [splitL_cons, if_pos h4, hd]
        refine .inr ⟨_, hres, ?_⟩
        refine ⟨M.keep.trans hk fun i hi => .inl (by simp at hi; simp [hi]), ?_⟩
        rw [hsp, hdec]; rfl
      | some p =>
        rw [hd] at hres
        have hdec : splitL (c0 :: r) = (splitL p.2).map (p.1 :: ·) := by rw [splitL_cons, if_pos h4, hd]
        obtain ⟨he, hob⟩ := hres
        subst he
        have hlen := decB_len (x := p.1) (r := p.2) hd
        have M : Mem w [b, L] ([(b, rdr p.2), (L, boxL a l c)] ++ opt) (fun _ => True) w5 := M.write 0 rfl hk hob
        refine .inl ⟨_, rfl, M.cell 1 (c := [.slice a l c]) rfl rfl, ?_⟩
        refine M.newK fun b1 w6 M => ⟨M.cell 2 (c := [.slice a l c]) rfl rfl, _, M.old1, ne1, ?_⟩
        have M2 : Mem w [b, L] (opt ++ [(b, rdr p.2), (L, boxL a l c)]) (fun _ => True) w6 := M.tail.perm List.perm_append_comm
        refine Mem.appK M2 ho rfl rfl (by rw [strs_length]; omega) (by rw [strs_length]; omega) ?_
        intro a' l' c' opt' w7 ho' M' hl'
        have M' : Mem w [b, L] ([(b, rdr p.2), (L, boxL a l c)] ++ opt') (fun _ => True) w7 := M'.perm List.perm_append_comm
        refine SomeK.of _ rfl (M'.stK 1 (c := [.slice a l c]) rfl (by simp) rfl fun w8 M => ?_)
        simp only [List.length_cons] at hrl hxl
        refine ⟨p.2.length, by simp only [List.length_cons]; omega, rfl, p.2, xs ++ [p.1], opt', a', l', c', rfl, by omega, by simp; omega, ?_, ?_, M⟩
        · rw [hsp, hdec]
          cases splitL p.2 <;> simp
        · rw [← strs_snoc]; exact ho'
    · refine need_f (decide_eq_false h4) (.inr ⟨_, rfl, M.keep, ?_⟩)
      rw [hsp, splitL_cons, if_neg h4]; rfl

theorem w_Split (w : World) (s : List UInt8) (hs : s.length ≤ 1000000) :
    Calls Try.prog 59 #[.string (bs s)] w (fun e w' => Keep [] w w' ∧ match splitL s with
      | some xs => ∃ a l c, e = .returned (.tuple #[.slice a l c, .int .i64 0]) ∧ l ≤ c ∧ Fresh w.heap.size w' (fun w => VsAt w a l (strs xs))
      | none => e = .returned (.tuple #[.slice none 0 0, .int .i64 5])) := by
  refine Calls.mono (F59_calls (bs s) w (fun v w' => Keep [] w w' ∧ match splitL s with
      | some xs => ∃ a l c, v = .tuple #[.slice a l c, .int .i64 0] ∧ l ≤ c ∧ Fresh w.heap.size w' (fun w => VsAt w a l (strs xs))
      | none => v = .tuple #[.slice none 0 0, .int .i64 5]) ?_) ?_
  · refine (Mem.start w).newK fun L w1 M => ?_
    have hL : L < w1.heap.size := (Array.getElem?_eq_some_iff.1 (M.hget 0 rfl)).1
    have hen : ∀ args w, (callFunc 72 args).run Try.prog w = .ok (.enter 72 args) w := fun args w => by
      simp only [callFunc, program, Sem.run_bind, Sem.run, Try.func72, Result.andThen]
      rfl
    let G : Bool → World → Prop := fun ok W => match splitL s with
      | some xs => ok = true ∧ ∃ a l c, W.cell? ⟨L, 0, none⟩ = some (.slice a l c) ∧ l ≤ c ∧ Fresh (w1.heap.size + 3) W (fun w => VsAt w a l (strs xs))
      | none => ok = false
    refine (w_read (bs s) 72 hen (.pointer (some ⟨L, 0, none⟩)) w1 [w1.heap.size + 2, L] (fun i hi => by simp at hi; omega) G ?_ ?_).mono ?_
    · have hsz : (readW (bs s) w1).heap.size = w1.heap.size + 3 := by simp [readW]
      have h2 : (readW (bs s) w1).heap[w1.heap.size + 2]? = some (rdr s) := by
        show (((w1.heap.push _).push _).push _)[w1.heap.size + 2]? = _
        rw [Array.getElem?_push, if_pos (by simp only [Array.size_push])]; rfl
      have hLo : (readW (bs s) w1).heap[L]? = some (boxL none 0 0) := by
        show (((w1.heap.push _).push _).push _)[L]? = _
        rw [Array.getElem?_push, if_neg (by simp only [Array.size_push]; omega), Array.getElem?_push, if_neg (by simp only [Array.size_push]; omega), Array.getElem?_push, if_neg (by omega)]
        exact M.hget 0 rfl
      refine (w_split1 _ (w1.heap.size + 2) L s hs h2 hLo (by omega)).mono ?_
      rintro e w2 ⟨hk, hres⟩
      refine ⟨hk, ?_⟩
      cases hsp : splitL s with
      | none =>
        rw [hsp] at hres
        exact .inr ⟨hres, by simp only [G, hsp]⟩
      | some xs =>
        rw [hsp] at hres
        obtain ⟨he, hob, a, l, c, hc, hlc, hf⟩ := hres
        refine .inl ⟨he, ⟨_, cell_of_block hob rfl⟩, ?_⟩
        simp only [G, hsp]
        exact ⟨trivial, a, l, c, hc, hlc, by rw [← hsz]; exact hf⟩
    · intro ok w' w'' hg hk
      cases hsp : splitL s with
      | none => simp only [G, hsp] at hg ⊢; exact hg
      | some xs =>
        simp only [G, hsp] at hg ⊢
        obtain ⟨h0, a, l, c, hc, hlc, hf⟩ := hg
        refine ⟨h0, a, l, c, hk.cell hc (by simp; omega), hlc, fun ids w3 hi hk3 => ?_⟩
        refine hf ([w1.heap.size, w1.heap.size + 1] ++ ids) w3 (fun i him => ?_) ((hk.mono fun i him => .inl (List.mem_append_left _ him)).trans hk3 fun i him => .inl (List.mem_append_right _ him))
        rcases List.mem_append.1 him with h | h
        · simp at h; omega
        · exact hi i h
    · rintro e w2 ⟨ok, t, rfl, hg, hk⟩
      have kk : Keep [] w w2 := M.keep.trans hk fun i hi => .inr (by
        simp at hi
        have := M.keep.size
        have hLn := M.fresh (L, _) (List.mem_singleton.2 rfl)
        simp at hLn
        omega)
      refine ⟨_, _, rfl, ?_⟩
      cases hsp : splitL s with
      | none =>
        simp only [G, hsp] at hg
        subst hg
        exact SplitK.t rfl ⟨kk, rfl⟩
      | some xs =>
        simp only [G, hsp] at hg
        obtain ⟨h0, a, l, c, hc, hlc, hf⟩ := hg
        subst h0
        refine SplitK.f rfl ⟨a, l, c, hc, kk, a, l, c, rfl, hlc, hf.mono ?_⟩
        have := M.keep.size; omega
  · rintro e w' ⟨v, rfl, hk, hres⟩
    refine ⟨hk, ?_⟩
    cases hsp : splitL s with
    | none => rw [hsp] at hres; rw [hres]
    | some xs =>
      rw [hsp] at hres
      obtain ⟨a, l, c, hv, hlc, hf⟩ := hres
      exact ⟨a, l, c, by rw [hv], hlc, hf⟩

end Go.Proofs.Ytgecpbplbkpdlaa
