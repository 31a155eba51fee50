/-
  A part of the proof: WC.
-/
import Derived.Test.YtgecpbplbkpdlaaSxWB
namespace Go.Proofs.Ytgecpbplbkpdlaa
open Go Go.Sx Go.Oct Go.Wire
set_option linter.unusedVariables false

def boxP (b : Nat) : Obj := .cells (List.toArray [.pointer (some ⟨b, 0, none⟩)]) 129 (0, 0)
def outB (a : Option Addr) (l c : Nat) : Obj := .cells (List.toArray [.slice a l c]) 67 (0, 0)

theorem w_text (w : World) (b : Nat) (s : List UInt8) (hs : s.length ≤ 1000000) (hb : w.heap[b]? = some (rdr s)) :
    Calls Try.prog 75 #[.pointer (some ⟨b, 0, none⟩)] w (fun e w' => Keep [b] w w' ∧ match decB s with | some p => e = .returned (.string (bs p.1)) ∧ w'.heap[b]? = some (rdr p.2) | none => e = .panicked [oddP false]) := by
  refine F75_calls _ _ _ ?_
  have M := Mem.startB hb
  refine M.newK fun b1 w1 M => ?_
  have M : Mem w [b] [(b1, outB none 0 0), (b, rdr s)] (fun _ => True) w1 := M
  intro K hK
  refine Calls.mono (F80_calls (some ⟨b, 0, none⟩) w1 (fun v w' => ∃ B0, v = .func (.func 82) #[] #[.pointer (some ⟨B0, 0, none⟩)] ∧ Mem w [b] [(B0, boxP b), (b1, outB none 0 0), (b, rdr s)] (fun _ => True) w') ?_) ?_
  · exact M.newK fun B0 w2 M => ⟨B0, rfl, M⟩
  rintro e w2 ⟨v, rfl, B0, rfl, M⟩
  refine .inl ⟨_, rfl, ?_⟩
  intro D l rec w3 hD hl hw3 hround
  have M := M.enterE hD hl hw3
  refine FnK.fn rfl ?_
  -- what is behind the loop
  let Mm : LoopState → Option Code → Option Addr → Nat → Nat → List UInt8 → List (Nat × Obj) → World → Prop := fun st j a lx c rest opt W =>
    Mem w [b] ([(l, rec st j), (D, .deferred (some [])), (B0, boxP b), (b1, outB a lx c), (b, rdr rest)] ++ opt) (fun _ => True) W
  let R2 : Ending → World → Prop := fun e w' =>
    (e = .returned (.tuple #[]) ∧ ∃ opt a lx c p, OwnM opt 5 a lx c (byteVs p.1) ∧ decB s = some p ∧ Mm .done (some (.exit 0)) a lx c p.2 opt w') ∨
    (e = .panicked [oddP false] ∧ decB s = none ∧ Mem w [b] [(D, .deferred (some []))] (fun _ => True) w')
  have toP : ∀ {st j a lx c rest opt W}, Mm st j a lx c rest opt W → Mem w [b] [(D, .deferred (some []))] (fun _ => True) W := fun h => by
    have h : Mem w [b] (_ :: [(D, .deferred (some []))] ++ _) (fun _ => True) _ := h
    exact h.sub (List.Sublist.cons _ (List.sublist_append_left [(D, Obj.deferred (some []))] _))
  refine Calls.mono (F82_calls (.func (.yield l) #[] #[]) (some ⟨B0, 0, none⟩) w3 R2 ?_) ?_
  · refine ⟨fun n vs W => vs = [] ∧ ∃ (rest x : List UInt8) (opt : List (Nat × Obj)) (a : Option Addr) (lx c : Nat), n = rest.length ∧ rest.length ≤ s.length ∧ x.length ≤ s.length - rest.length ∧ decB s = (decB rest).map (fun p => (x ++ p.1, p.2)) ∧ OwnM opt 5 a lx c (byteVs x) ∧ Mm .ready none a lx c rest opt W,
      ⟨s.length, rfl, s, [], [], none, 0, 0, rfl, Nat.le_refl _, by simp, by cases decB s <;> simp, OwnM.nil, by simpa [Mm] using M⟩, ?_⟩
    clear M
    rintro n vs W ⟨rfl, rest, x, opt, a, lx, c, rfl, hrl, hxl, hdec, ho, M⟩
    have cB : ∀ {st j a lx c rest opt W}, Mm st j a lx c rest opt W → W.cell? ⟨B0, 0, none⟩ = some (.pointer (some ⟨b, 0, none⟩)) := fun M => M.cell 2 (c := [.pointer (some ⟨b, 0, none⟩)]) rfl rfl
    have cR : ∀ {st j a lx c rest opt W}, Mm st j a lx c rest opt W → W.cell? (addA ⟨b, 0, none⟩ 0) = some (.string (bs rest)) := fun {st j a lx c rest opt W} M => by rw [addA_mk]; exact M.cell 4 (c := [.string (bs rest)]) rfl rfl
    refine ⟨rfl, fun _ => SomeK.of _ rfl ⟨_, cB M, SomeK.of _ rfl ⟨_, cR M, ?_⟩⟩⟩
    match rest, hdec, hrl, hxl, M with
    | [], hdec, hrl, hxl, M => exact need_f rfl (.inr ⟨_, rfl, .inr ⟨rfl, by rw [hdec, decB_nil]; rfl, toP M⟩⟩)
    | [a0], hdec, hrl, hxl, M => exact need_f rfl (.inr ⟨_, rfl, .inr ⟨rfl, by rw [hdec, decB_one]; rfl, toP M⟩⟩)
    | a0 :: a1 :: r, hdec, hrl, hxl, M =>
      have hlen : (a0 :: a1 :: r).length ≤ 1000000 := by omega
      refine need_t (by rw [sizeS_bs, natI_eq, ltI_t]; simp; omega) (.inl ⟨rfl, ?_⟩)
      rintro w4 rfl
      have M : Mm .ready none a lx c (a0 :: a1 :: r) opt _ := Mem.drew M
      refine ⟨fun W' => W'.cell? ⟨B0, 0, none⟩ = some (.pointer (some ⟨b, 0, none⟩)) ∧ W'.cell? (addA ⟨b, 0, none⟩ 0) = some (.string (bs (a0 :: a1 :: r))), ⟨cB M, cR M⟩, SomeK.of _ rfl ⟨_, fun _ h => h.1, SomeK.of _ rfl ⟨_, fun _ h => h.2, by decide, ?_⟩⟩⟩
      refine byteAt (by simp) (SomeK.of _ rfl ⟨_, fun _ h => h.1, SomeK.of _ rfl ⟨_, fun _ h => h.2, by decide, byteAt (by simp) (SomeK.of _ rfl ⟨_, cB M, ?_⟩)⟩⟩)
      show CallK Try.prog 74 #[.pointer (some ⟨b, 0, none⟩), .int .i64 ((1 : Nat) : Int)] _ _
      refine take_at M 4 1 rfl (by simp) (by omega) fun w5 M => .inl ⟨_, rfl, ?_⟩
      have M : Mm .ready none a lx c (a1 :: r) opt w5 := M
      intro K0 hK0
      -- yield
      have go : ∀ rest2 W5, Mm .ready none a lx c rest2 opt W5 → (a0 = 0 → rest2 = r) → (a0 ≠ 0 → rest2 = a1 :: r) → K0 [] W5 := by
        intro rest2 W5 M h0 h1
        refine hK0 _ fun _ => FnK.yield (hround _ _ _ _ (M.hget 0 rfl) ⟨M.hget 0 rfl, ?_⟩)
        rintro W6 rfl
        have M : Mm .busy none a lx c rest2 opt _ := M.put 0 (rec .busy none) rfl
        intro K1 hK1
        have e0 : ∀ (z : UInt8) (v : Nat) (hv : v < 256), eqI (byteI z) (v : Int) = decide (z = UInt8.ofNat v) := by
          intro z v hv
          rw [Bool.eq_iff_iff, eqI_t, decide_eq_true_eq, byteI_eq]
          constructor
          · intro h
            have h : z.toNat = v := by omega
            rw [← h]; simp
          · intro h; rw [h]; simp; omega
        have z0 : ∀ z : UInt8, eqI (byteI z) 0 = decide (z = 0) := fun z => e0 z 0 (by decide)
        have z255 : ∀ z : UInt8, eqI (byteI z) 255 = decide (z = 255) := fun z => e0 z 255 (by decide)
        have fin : ∀ W6, Mm .busy none a lx c rest2 opt W6 → K1 [.bool (decide (a0 = 0 ∧ a1 = 0))] W6 := by
          intro W6 M
          refine hK1 _ _ fun _ => SplitK.of (fun h => ?_) (fun h => ?_)
          · have h := of_decide_eq_true h
            refine ⟨M.hget 0 rfl, ?_⟩
            rintro W7 rfl
            have M : Mm .done (some (.exit 0)) a lx c rest2 opt _ := M.put 0 (rec .done (some (.exit 0))) rfl
            refine .inl ⟨false, rfl, .inl ⟨rfl, opt, a, lx, c, (x, rest2), ho, ?_, M⟩⟩
            rw [hdec, decB_two, if_pos h.1, if_pos h.2, h0 h.1]
            simp
          · have h := of_decide_eq_false h
            intro K2 hK2
            have bad : a0 = 0 → a1 ≠ 255 → decB s = none := by
              intro ha hb
              rw [hdec, decB_two, if_pos ha, if_neg (fun h1 => h ⟨ha, h1⟩), if_neg hb]; rfl
            have good : (a0 = 0 → a1 = 255) → K2 [] W6 := by
              intro h255
              refine hK2 _ fun _ => ⟨a, lx, c, M.cell 3 (c := [.slice a lx c]) rfl rfl, ?_⟩
              refine Mem.newK M fun b2 W8 M => ?_
              have M : Mem w [b] ((b2, .cells (List.toArray [byteV a0]) 5 (0, 0)) :: ([(l, rec .busy none), (D, .deferred (some [])), (B0, boxP b), (b1, outB a lx c), (b, rdr rest2)] ++ opt)) (fun _ => True) W8 := M
              refine ⟨_, M.old1, ne1, ?_⟩
              have M2 : Mem w [b] (opt ++ [(l, rec .busy none), (D, .deferred (some [])), (B0, boxP b), (b1, outB a lx c), (b, rdr rest2)]) (fun _ => True) W8 := M.tail.perm List.perm_append_comm
              refine Mem.appK M2 ho rfl rfl (by simp [byteVs]; omega) (by simp [byteVs]; omega) ?_
              intro a' l' c' opt' W9 ho' M' hl'
              have M' : Mem w [b] ([(l, rec .busy none), (D, .deferred (some [])), (B0, boxP b), (b1, outB a lx c), (b, rdr rest2)] ++ opt') (fun _ => True) W9 := M'.perm List.perm_append_comm
              refine M'.stK 3 (c := [.slice a lx c]) rfl (by simp) rfl fun W10 M => ?_
              have M : Mm .busy none a' l' c' rest2 opt' W10 := M
              refine ⟨M.hget 0 rfl, ?_⟩
              rintro W11 rfl
              have M : Mm .ready none a' l' c' rest2 opt' _ := M.put 0 (rec .ready none) rfl
              have hrest : rest2.length < (a0 :: a1 :: r).length := by
                by_cases ha : a0 = 0
                · rw [h0 ha]; simp; omega
                · rw [h1 ha]; simp
              refine .inl ⟨true, rfl, rest2.length, hrest, rfl, rest2, x ++ [a0], opt', a', l', c', rfl, by omega, ?_, ?_, ?_, M⟩
              · simp; omega
              · rw [hdec, decB_two]
                by_cases ha : a0 = 0
                · rw [if_pos ha, if_neg (fun h1 => h ⟨ha, h1⟩), if_pos (h255 ha), h0 ha, ha]
                  cases decB r <;> simp
                · rw [if_neg ha, h1 ha]
                  cases decB (a1 :: r) <;> simp
              · have e : byteVs x ++ [byteV a0] = byteVs (x ++ [a0]) := by simp [byteVs]
                rw [← e]; exact ho'
            rw [z0]
            refine SplitK.of (fun hz => ?_) (fun hz => ?_)
            · simp only [notB_t, decide_eq_false_iff_not] at hz
              exact need_t rfl (.inl ⟨rfl, good fun h => absurd h hz⟩)
            · simp only [notB_f, decide_eq_true_eq] at hz
              rw [z255]
              by_cases h255 : a1 = 255
              · exact need_t (decide_eq_true h255) (.inl ⟨rfl, good fun _ => h255⟩)
              · refine need_f (decide_eq_false h255) (.inr ⟨_, rfl, ?_⟩)
                exact .inr ⟨_, rfl, .inr ⟨rfl, bad hz h255, toP M⟩⟩
        rw [z0, z0]
        refine SplitK.of (fun hz => ?_) (fun hz => ?_)
        · have hz := of_decide_eq_true hz
          have := fin _ M
          rwa [show decide (a0 = 0 ∧ a1 = 0) = decide (a1 = 0) from decide_eq_decide.2 ⟨fun h => h.2, fun h => ⟨hz, h⟩⟩] at this
        · have hz := of_decide_eq_false hz
          have := fin _ M
          rwa [show decide (a0 = 0 ∧ a1 = 0) = false from decide_eq_false fun h => hz h.1] at this
      have z0 : eqI (byteI a0) 0 = decide (a0 = 0) := by
        rw [Bool.eq_iff_iff, eqI_t, decide_eq_true_eq, byteI_eq]
        constructor
        · intro h
          have h : a0.toNat = 0 := by omega
          exact UInt8.toNat_inj.1 (by rw [h]; rfl)
        · intro h; rw [h]; rfl
      refine SplitK.of (fun hz => ?_) (fun hz => ?_)
      · have hz : a0 = 0 := of_decide_eq_true (z0 ▸ hz)
        refine SomeK.of _ rfl ⟨_, cB M, ?_⟩
        show CallK Try.prog 74 #[.pointer (some ⟨b, 0, none⟩), .int .i64 ((1 : Nat) : Int)] _ _
        refine take_at M 4 1 rfl (by simp) (by simp at hlen ⊢; omega) fun w6 M => .inl ⟨_, rfl, ?_⟩
        exact go r w6 M (fun _ => rfl) (fun h => absurd hz h)
      · have hz : a0 ≠ 0 := of_decide_eq_false (z0 ▸ hz)
        exact go (a1 :: r) w5 M (fun h => absurd h hz) (fun _ => rfl)
  · rintro e w4 (⟨rfl, opt, a, lx, c, p, ho, hd, M⟩ | ⟨rfl, hd, M⟩)
    · refine .inl ⟨_, rfl, some (.exit 0), M.hget 0 rfl, ?_⟩
      rintro w5 rfl
      have M : Mm .exhausted (some (.exit 0)) a lx c p.2 opt _ := M.put 0 (rec .exhausted (some (.exit 0))) rfl
      refine hK _ _ fun _ => ⟨a, lx, c, M.cell 3 (c := [.slice a lx c]) rfl rfl, p.1, ho.bytesAt (M.perm List.perm_append_comm), M.hget 1 rfl, ?_⟩
      rintro w6 rfl
      have M := M.put 1 (.deferred none) rfl
      refine ⟨M.keep, ?_⟩
      rw [hd]
      exact ⟨rfl, M.hget 4 rfl⟩
    · refine .inr ⟨_, rfl, M.hget 0 rfl, ?_⟩
      rintro w5 rfl
      have M := M.put 0 (.deferred none) rfl
      refine ⟨M.keep, ?_⟩
      rw [hd]

end Go.Proofs.Ytgecpbplbkpdlaa
