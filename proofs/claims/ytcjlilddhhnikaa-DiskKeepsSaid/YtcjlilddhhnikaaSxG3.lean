/-
  A part of the proof: G3.
-/
import Derived.Test.YtcjlilddhhnikaaSxG2
namespace Go.Proofs.Ytcjlilddhhnikaa
open Go Go.Sx
set_option linter.unusedVariables false

theorem take_front (xs ys : List ByteArray) (n m : Nat) (h : m = xs.length + min n ys.length) : xs ++ ys.take n = (xs ++ ys).take m := by
  subst h
  rw [List.take_append, List.take_of_length_le (l := xs) (by omega), Nat.add_sub_cancel_left]
  by_cases hn : n ≤ ys.length
  · rw [Nat.min_eq_left hn]
  · rw [List.take_of_length_le (i := n) (by omega), List.take_of_length_le (by omega)]

theorem keeps_4 (w : World) {p0 : Int} {a : Option Addr} {l c : Nat} {acts : List Ac} (hp : -9223372036854775808 ≤ p0 ∧ p0 ≤ 9223372036854775807) (h : ActsAt w a l acts)
    (hfu : ∀ x ∈ acts, -9223372036854775808 ≤ x.fuse ∧ x.fuse ≤ 9223372036854775807) :
    Calls Try.prog 4 #[.int .i64 p0, .slice a l c] w (Ret w (.bool true)) := by
  refine calls_ret (F4_calls _ _ _ _ _ _ ?_)
  have hl := h.1
  have M := Mem.start w
  refine CallK.ret (works_7 w) fun w1 hK => ⟨_, rfl, SplitK.f rfl ?_⟩
  replace M := M.call hK
  refine SplitK.of (fun h60 => ⟨rfl, M.keep⟩) (fun h60 => ?_)
  simp at h60
  refine CallK.ret (new_20 w1 p0) fun w2 hK => ⟨_, _, _, _, _, _, _, _, rfl, ?_⟩
  replace M := M.call hK
  refine M.newK fun b w3 M => ?_
  refine M.stK 0 (c := [_, _, _, _]) rfl (by simp) rfl fun w4 M => ?_
  let Cell : Dk → Option Addr → Nat → Nat → Option Addr → Nat → Nat → Nat × Obj := fun D a2 l2 c2 a3 l3 c3 => (b, .cells ([.slice a2 l2 c2, .slice a3 l3 c3, .int .i64 D.fuse, .bool D.dead] : List Value).toArray 24 (0, 0))
  let St : Dk → List ByteArray → Option Addr → Nat → Nat → World → Prop := fun D B ba bl bc w' => ∃ opt a2 l2 c2 a3 l3 c3, OwnM opt 9 ba bl bc (B.map Value.string) ∧ bl ≤ bc ∧ Mem w [] (Cell D a2 l2 c2 a3 l3 c3 :: opt) (fun w' => Fresh w.heap.size w' fun w' => DskAt w' a2 l2 c2 a3 l3 c3 D) w'
  refine ⟨fun n vs w5 => ∃ (k : Nat) (D : Dk) (ba : Option Addr) (bl bc : Nat), vs = [.slice ba bl bc, .int .i64 (D.S.length : Int), .int .i64 (k : Int)] ∧ k + n = acts.length ∧ D.ok k ∧ (-9223372036854775808 ≤ D.fuse ∧ D.fuse ≤ 9223372036854775807) ∧ St D (D.S ++ D.P) ba bl bc w5,
    ⟨acts.length, 0, ⟨[], [], p0, false⟩, none, 0, 0, rfl, by omega, ⟨by simp, by simp⟩, hp, [], none, 0, 0, none, 0, 0, OwnM.nil, Nat.le_refl _, M.imp fun w' _ => Fresh.always fun w' => ⟨StrsAt.nil, Nat.le_refl _, StrsAt.nil, Nat.le_refl _⟩⟩, ?_⟩
  rintro n vs w5 ⟨k, D, ba, bl, bc, rfl, hk, hok, hfz, opt, a2, l2, c2, a3, l3, c3, hopt, hbc, M⟩
  refine ⟨_, _, _, _, _, rfl, fun _ => SplitK.of (fun hlt => ?_) (fun hlt => ⟨rfl, M.keep⟩)⟩
  simp at hlt
  have hkl : k < acts.length := by omega
  have hget : ∀ {w' : World}, Keep [] w w' → ∃ p, a = some p ∧ CellsAt w' (addA p (mulN (intN (k : Int)) 4)) acts[k].cells := fun hk' => (h.keep0 hk').2 k hkl
  have ix0 : (0 : Int) ≤ k := by omega
  have ix1 : (k : Int) < natI l := by simp; omega
  generalize hx : acts[k] = x at hget
  have hxf := hfu x (by rw [← hx]; exact List.getElem_mem hkl)
  obtain ⟨p, hpa, hpc⟩ := hget M.keep
  refine ⟨ix0, ix1, SomeK.of p hpa ⟨_, hpc 1 _ rfl, SplitK.of (fun h1 => ⟨rfl, M.keep⟩) (fun h1 => ?_)⟩⟩
  have hs := short_of h1
  have hb : D.S.length + D.P.length ≤ 1000000 := by have := hok.1; omega
  obtain ⟨hok', hbook, hcrash⟩ := took_ok (x := x) hok (by omega) hs
  have hfz' := took_fuse D x hfz hxf
  generalize hE : D.actE x.k x.s x.keep x.fuse = E at hbook
  intro K hK
  -- behind the act
  have main : ∀ (bx : Nat) (w6 : World) a4 l4 c4 a5 l5 c5, Mem w [] ((bx, .cells ([.slice a4 l4 c4, .slice a5 l5 c5, .int .i64 (D.act x.k x.s x.keep x.fuse).fuse, .bool (D.act x.k x.s x.keep x.fuse).dead] : List Value).toArray 24 (0, 0)) :: Cell D a2 l2 c2 a3 l3 c3 :: opt)
      (fun w' => (Fresh w.heap.size w' fun w' => DskAt w' a2 l2 c2 a3 l3 c3 D) ∧ (Fresh w.heap.size w' fun w' => DskAt w' a4 l4 c4 a5 l5 c5 (D.act x.k x.s x.keep x.fuse))) w6 → K [.pointer (some ⟨bx, 0, none⟩), .int .i64 E] w6 := by
    intro bx w6 a4 l4 c4 a5 l5 c5 M
    refine hK _ _ _ fun _ K1 hK1 => ?_
    -- the book
    have st1 : ∀ w7, St (D.took x) (D.S ++ D.P) ba bl bc w7 → K1 [] w7 := by
      intro w7 S7
      refine hK1 _ fun _ K2 hK2 => ?_
      have st2 : ∀ w8 a6 l6 c6, St (D.took x) (book1 (D.S ++ D.P) E x) a6 l6 c6 w8 → K2 [.slice a6 l6 c6] w8 := by
        intro w8 a6 l6 c6 S8
        refine hK2 _ _ _ _ fun _ K3 hK3 => ?_
        have hl6 : l6 = (book1 (D.S ++ D.P) E x).length := by
          obtain ⟨opt, _, _, _, _, _, _, ho, _, _⟩ := S8
          rcases ho with ⟨_, _, h1, _, h2⟩ | ⟨_, _, _, _, h1, _⟩
          · rw [h1]; simp at h2; simp [h2]
          · simpa using h1
        have st3 : ∀ w9, St (D.took x) (book1 (D.S ++ D.P) E x) a6 l6 c6 w9 → K3 [.int .i64 (sync2 (book1 (D.S ++ D.P) E x) D.S.length E x : Nat)] w9 := by
          intro w9 S9
          refine hK3 _ _ fun _ K4 hK4 => ?_
          have st4 : ∀ w10 a7 l7 c7, St (D.took x) (book3 (book1 (D.S ++ D.P) E x) E x) a7 l7 c7 w10 → K4 [.slice a7 l7 c7, .int .i64 (sync3 (sync2 (book1 (D.S ++ D.P) E x) D.S.length E x) E x : Nat)] w10 := by
            intro w10 a7 l7 c7 S10
            refine hK4 _ _ _ _ _ fun _ K5 hK5 => ?_
            have st5 : ∀ w11 a8 l8 c8, St (D.took x) ((D.took x).S ++ (D.took x).P) a8 l8 c8 w11 → K5 [.slice a8 l8 c8, .int .i64 ((D.took x).S.length : Nat)] w11 := by
              intro w11 a8 l8 c8 S11
              refine hK5 _ _ _ _ _ fun _ => ?_
              have hmay := hok'.may (by omega)
              have hb' : (D.took x).S.length + (D.took x).P.length ≤ 1000000 := by have := hok'.1; omega
              generalize D.took x = T at *
              refine ⟨fun n8 vs1 w12 => ∃ j : Int, vs1 = [.int .i64 j] ∧ -1 ≤ j ∧ j ≤ 4 ∧ n8 = (4 - j).toNat ∧ St T (T.S ++ T.P) a8 l8 c8 w12, ⟨5, -1, rfl, by omega, by omega, rfl, S11⟩, ?_⟩
              rintro n8 vs1 w12 ⟨j, rfl, hj1, hj2, hn8, opt, a9, l9, c9, a10, l10, c10, ho, hlc, M⟩
              refine ⟨_, rfl, fun _ => SplitK.of (fun hj => ?_) (fun hj => ?_)⟩
              · simp at hj
                refine ⟨_, _, _, _, _, _, _, _, M.cells 0 (c := [_, _, _, _]) rfl, ?_⟩
                refine (crash_21 w12 j (-1) M.now.now hb').mono ?_
                rintro e w13 ⟨a11, l11, c11, a12, l12, c12, rfl, hr, hK13⟩
                refine ⟨_, _, _, _, _, _, _, _, rfl, ?_⟩
                replace M := M.callFr hK13 hr
                have hC : T.crash j (-1) = ⟨T.S ++ T.P.take (keepN j T.P.length), [], -1, false⟩ := by rw [Dk.crash, if_pos hmay]
                rw [hC] at M ⊢
                refine M.newK fun bc' w14 M => ?_
                refine M.stK 0 (c := [_, _, _, _]) rfl (by simp) rfl fun w15 M => ?_
                refine ⟨_, _, _, _, _, _, _, _, M.cells 0 (c := [_, _, _, _]) rfl, ?_⟩
                refine (records_16 w15 M.now.2.now.1 M.now.2.now.2.2.1 (by simp; omega)).mono ?_
                rintro e w16 ⟨a13, l13, c13, rfl, hr, hlc2, hK16⟩
                refine ⟨_, _, _, rfl, ?_⟩
                replace M := M.call hK16
                have hrl := hr.now.1
                have hS := OwnM.strs ho (M.perm (m' := opt ++ [_, _]) (List.perm_append_comm (l₁ := [_, _])))
                have hSl := hS.1.1
                have hp12 := M.now.2.now.2.2.1.1
                simp at hrl hSl hp12
                intro K6 hK6
                have st6 : K6 [.bool false] w16 := by
                  refine hK6 _ _ fun _ => SplitK.f rfl ⟨by simp, by simp; omega, ?_⟩
                  simp only [natI_eq, intN_eq, Int.toNat_natCast, subN_eq, Nat.sub_zero, cutA_zero]
                  have hle : l13 ≤ (T.S ++ T.P).length := by simp; omega
                  have htk := hS.1.take l13 hle
                  refine CallK.ret (texts_any w16 hr.now htk (by simp; omega)) fun w17 hK17 => ⟨_, rfl, SplitK.f ?_ ?_⟩
                  · have : T.S ++ List.take (keepN j T.P.length) T.P ++ [] = List.take l13 (T.S ++ T.P) := by
                      rw [List.append_nil]
                      exact take_front _ _ _ _ hrl
                    simp only [this, decide_true]
                    rfl
                  · replace M := M.call hK17
                    refine ⟨n8 - 1, by omega, j + 1, ?_, by omega, by omega, by omega, opt, _, _, _, _, _, _, ho, hlc, (M.tail).imp fun w' h => h.1⟩
                    rw [addI_i64 (by omega) (by omega)]
                refine SplitK.f (by simp; omega) (SplitK.f (by simp; omega) ?_)
                refine ⟨_, M.cellA 0 (c := [_, _, _, _]) rfl rfl, SplitK.f rfl ⟨_, _, _, M.cellA 0 (c := [_, _, _, _]) rfl rfl, ?_⟩⟩
                have : ltI 0 (natI l12) = false := by simp; omega
                rw [this]
                exact st6
              · refine ⟨n - 1, by omega, k + 1, T, a8, l8, c8, ?_, by omega, hok', hfz', opt, a9, l9, c9, a10, l10, c10, ho, hlc, M⟩
                rw [addI_one (by omega)]
            intro K6 hK6
            have st6 : ∀ r, r = decide (x.k < 0 ∨ 2 < x.k) → K6 [.bool r] w10 := by
              rintro r rfl
              refine hK6 _ _ fun _ => ?_
              refine SplitK.of (fun hr => ?_) (fun hr => ?_)
              · simp only [decide_eq_true_eq] at hr
                obtain ⟨opt, a9, l9, c9, a10, l10, c10, ho, hlc, M⟩ := S10
                have hP := hcrash hr
                have hb' : (D.took x).S.length + (D.took x).P.length ≤ 1000000 := by have := hok'.1; omega
                have M' := M.sub (m' := [_]) (List.Sublist.cons_cons _ (List.nil_sublist _))
                refine M'.newK fun bn w11 M => ?_
                refine ⟨_, _, _, _, _, _, _, _, M.cells 1 (c := [_, _, _, _]) rfl, ?_⟩
                refine (records_16 w11 M.now.now.1 M.now.now.2.2.1 hb').mono ?_
                rintro e w12 ⟨a13, l13, c13, rfl, hr, hlc2, hK12⟩
                refine ⟨_, _, _, rfl, _, hr.now.old.1, hr.now.old.2, ?_⟩
                replace M := M.call hK12
                have hrl := hr.now.1
                simp at hrl
                refine Mem.appK (opt := [_]) M (OwnM.empty bn) (by simp [hrl]) (strs_isCell _) (by simp; omega) (by simp; omega) ?_
                intro a14 l14 c14 opt14 w14 ho M hl14
                have e1 : (natI l14) = ((D.took x).S.length : Nat) := by simp [hl14, hrl, hP]
                rw [e1]
                refine st5 w14 a14 l14 c14 ⟨opt14, _, _, _, _, _, _, by simpa using ho, ?_, M.perm List.perm_append_comm⟩
                rcases ho with ⟨_, _, h1, h2, _⟩ | ⟨_, _, _, _, h1, h2⟩ <;> omega
              · simp only [decide_eq_false_iff_not] at hr
                obtain ⟨e1, e2⟩ := hbook hr
                rw [e2]
                rw [e1] at S10
                exact st5 w10 a7 l7 c7 S10
            have hKp : Keep [] w w10 := by obtain ⟨_, _, _, _, _, _, _, _, _, M⟩ := S10; exact M.keep
            obtain ⟨p, hpa, hpc⟩ := hget hKp
            refine ⟨ix0, ix1, SomeK.of p hpa ⟨_, hpc 0 _ rfl, SplitK.of (fun hr => ?_) (fun hr => ?_)⟩⟩
            · simp at hr
              exact st6 _ (by simp [hr])
            · simp at hr
              refine ⟨ix0, ix1, SomeK.of p hpa ⟨_, hpc 0 _ rfl, st6 _ ?_⟩⟩
              rw [Bool.eq_iff_iff]; simp only [ltI_t, decide_eq_true_eq]; omega
          have hKp : Keep [] w w9 := by obtain ⟨_, _, _, _, _, _, _, _, _, M⟩ := S9; exact M.keep
          intro K5 hK5
          have st5 : ∀ r, r = decide (E = 0 ∧ x.k = 2) → K5 [.bool r] w9 := by
            rintro r rfl
            refine hK5 _ _ fun _ => SplitK.of (fun hr => ?_) (fun hr => ?_)
            · simp only [decide_eq_true_eq] at hr
              obtain ⟨p, hpa, hpc⟩ := hget hKp
              refine ⟨ix0, ix1, SomeK.of p hpa ⟨_, hpc 1 _ rfl, ?_⟩⟩
              obtain ⟨opt, a9, l9, c9, a10, l10, c10, ho, hlc, M⟩ := S9
              have M' := M.sub (m' := [_]) (List.Sublist.cons_cons _ (List.nil_sublist _))
              refine M'.newK fun bn w11 M => ?_
              have e2 : sync3 (sync2 (book1 (D.S ++ D.P) E x) D.S.length E x) E x = 1 := by rw [sync3, if_pos hr]
              have e1 : book3 (book1 (D.S ++ D.P) E x) E x = [x.s] := by rw [book3, if_pos hr]
              have := st4 w11 (some ⟨bn, 0, none⟩) 1 1
              rw [e1, e2] at this
              exact this ⟨[_], _, _, _, _, _, _, .inr ⟨bn, [], rfl, rfl, rfl, rfl⟩, Nat.le_refl _, M.perm (List.Perm.swap _ _ _)⟩
            · simp only [decide_eq_false_iff_not] at hr
              have e2 : sync3 (sync2 (book1 (D.S ++ D.P) E x) D.S.length E x) E x = sync2 (book1 (D.S ++ D.P) E x) D.S.length E x := by rw [sync3, if_neg hr]
              have e1 : book3 (book1 (D.S ++ D.P) E x) E x = book1 (D.S ++ D.P) E x := by rw [book3, if_neg hr]
              have := st4 w9 a6 l6 c6
              rw [e1, e2] at this
              exact this S9
          refine SplitK.of (fun he => ?_) (fun he => ?_)
          · simp at he
            obtain ⟨p, hpa, hpc⟩ := hget hKp
            refine ⟨ix0, ix1, SomeK.of p hpa ⟨_, hpc 0 _ rfl, st5 _ ?_⟩⟩
            rw [Bool.eq_iff_iff]; simp [he]
          · simp at he
            exact st5 _ (by simp [he])
        have hKp : Keep [] w w8 := by obtain ⟨_, _, _, _, _, _, _, _, _, M⟩ := S8; exact M.keep
        intro K4 hK4
        have st4 : ∀ r, r = decide (E = 0 ∧ x.k = 1) → K4 [.bool r] w8 := by
          rintro r rfl
          refine hK4 _ _ fun _ => SplitK.of (fun hr => ?_) (fun hr => ?_)
          · simp only [decide_eq_true_eq] at hr
            have := st3 w8 S8
            rw [sync2, if_pos hr, ← hl6] at this
            exact this
          · simp only [decide_eq_false_iff_not] at hr
            have := st3 w8 S8
            rw [sync2, if_neg hr] at this
            exact this
        refine SplitK.of (fun he => ?_) (fun he => ?_)
        · simp at he
          obtain ⟨p, hpa, hpc⟩ := hget hKp
          refine ⟨ix0, ix1, SomeK.of p hpa ⟨_, hpc 0 _ rfl, st4 _ ?_⟩⟩
          rw [Bool.eq_iff_iff]; simp [he]
        · simp at he
          exact st4 _ (by simp [he])
      have hKp : Keep [] w w7 := by obtain ⟨_, _, _, _, _, _, _, _, _, M⟩ := S7; exact M.keep
      intro K3 hK3
      have st3 : ∀ r, r = decide (E = 0 ∧ x.k = 0) → K3 [.bool r] w7 := by
        rintro r rfl
        refine hK3 _ _ fun _ => SplitK.of (fun hr => ?_) (fun hr => ?_)
        · simp only [decide_eq_true_eq] at hr
          obtain ⟨p, hpa, hpc⟩ := hget hKp
          refine ⟨ix0, ix1, SomeK.of p hpa ⟨_, hpc 1 _ rfl, ?_⟩⟩
          obtain ⟨opt, a9, l9, c9, a10, l10, c10, ho, hlc, M⟩ := S7
          refine M.newK fun bn w11 M => ?_
          refine ⟨[.string x.s], ⟨rfl, M.cells 0 (c := [_]) rfl⟩, by simp, ?_⟩
          refine Mem.appK (M.tail.perm (m' := opt ++ [_]) (List.perm_append_comm (l₁ := [_]))) ho rfl (by simp [isCell]) (by simp; have := hok.1; omega) (by simp; have := hok.1; omega) ?_
          intro a14 l14 c14 opt14 w14 ho M hl14
          have e1 : book1 (D.S ++ D.P) E x = D.S ++ D.P ++ [x.s] := by rw [book1, if_pos hr]
          refine st2 w14 a14 l14 c14 ⟨opt14, _, _, _, _, _, _, by rw [e1]; simpa using ho, ?_, M.perm List.perm_append_comm⟩
          rcases ho with ⟨_, _, h1, h2, _⟩ | ⟨_, _, _, _, h1, h2⟩ <;> omega
        · simp only [decide_eq_false_iff_not] at hr
          have e1 : book1 (D.S ++ D.P) E x = D.S ++ D.P := by rw [book1, if_neg hr]
          exact st2 w7 ba bl bc (by rw [e1]; exact S7)
      refine SplitK.of (fun he => ?_) (fun he => ?_)
      · simp at he
        obtain ⟨p, hpa, hpc⟩ := hget hKp
        refine ⟨ix0, ix1, SomeK.of p hpa ⟨_, hpc 0 _ rfl, st3 _ ?_⟩⟩
        rw [Bool.eq_iff_iff]; simp [he]
      · simp at he
        exact st3 _ (by simp [he])
    intro K2 hK2
    have st2 : ∀ r, r = decide (E = 0 ∨ (E = 15 ∧ D.dead = false)) → K2 [.bool r] w6 := by
      rintro r rfl
      refine hK2 _ _ fun _ => SplitK.of (fun hr => ?_) (fun hr => ?_)
      · simp only [decide_eq_true_eq] at hr
        have hT : D.took x = D.act x.k x.s x.keep x.fuse := by rw [Dk.took, hE, if_pos hr]
        refine SomeK.of _ rfl ⟨_, _, _, _, _, _, _, _, M.cells 0 (c := [_, _, _, _]) rfl, ?_⟩
        refine M.stK 1 (off := 0) (c := [_, _, _, _]) rfl (by simp) rfl fun w8 M => ?_
        refine st1 w8 ?_
        rw [hT]
        exact ⟨opt, _, _, _, _, _, _, hopt, hbc, M.tail.imp fun w' h => h.2⟩
      · simp only [decide_eq_false_iff_not] at hr
        have hT : D.took x = D := by rw [Dk.took, hE, if_neg hr]
        refine st1 w6 ?_
        rw [hT]
        exact ⟨opt, _, _, _, _, _, _, hopt, hbc, M.tail.imp fun w' h => h.1⟩
    refine SplitK.of (fun he => ?_) (fun he => SplitK.of (fun he2 => ?_) (fun he2 => ?_))
    · simp at he
      exact st2 _ (by simp [he])
    · simp at he he2
      refine ⟨_, M.cellA 1 (off := 3) (c := [_, _, _, _]) rfl rfl, st2 _ ?_⟩
      rw [Bool.eq_iff_iff]; simp [he2]
    · simp at he he2
      exact st2 _ (by simp [he, he2])
  rintro w6 rfl
  replace M := M.drew
  refine ⟨fun w' => Keep [] w5.drew w', Keep.refl _ _, _, _, _, _, _, _, _, _, fun w7 h7 => (M.call h7).cells 0 (c := [_, _, _, _]) rfl, ix0, ix1, SomeK.of p hpa ⟨x.k, x.s, x.keep, x.fuse, fun w7 h7 => ?_, ?_, ?_⟩⟩
  · obtain ⟨p', hp', hc'⟩ := hget (M.call h7).keep
    rw [hpa] at hp'
    cases hp'
    exact hc'
  · refine (act_11 w5.drew x.k x.s x.keep x.fuse M.now.now hb hfz).mono ?_
    rintro e w7 ⟨a4, l4, c4, a5, l5, c5, rfl, hr, hK7⟩
    refine ⟨_, _, _, _, _, _, _, _, _, rfl, ?_⟩
    replace M := M.callFr hK7 hr
    intro bx w8 hbx hw8
    subst hbx; subst hw8
    refine ⟨hK7.trans0 (Keep.alloc _ _), ?_⟩
    refine (M.alloc _).stK 0 (c := [_, _, _, _]) rfl (by simp) rfl fun w9 M9 => ?_
    rw [hE]
    exact main _ w9 _ _ _ _ _ _ M9
  · intro bx w8 hbx hw8
    subst hbx; subst hw8
    refine ⟨Keep.alloc _ _, ?_⟩
    have M8 := M.alloc (.cells #[.slice none 0 0, .slice none 0 0, .int .i64 0, .bool false] 24 (0, 0))
    refine (act_11 _ x.k x.s x.keep x.fuse M8.now.now hb hfz).mono ?_
    rintro e w7 ⟨a4, l4, c4, a5, l5, c5, rfl, hr, hK7⟩
    refine ⟨_, _, _, _, _, _, _, _, _, rfl, ?_⟩
    have M9 := M8.callFr hK7 hr
    refine M9.stK 0 (c := [_, _, _, _]) rfl (by simp) rfl fun w9 M9 => ?_
    rw [hE]
    exact main _ w9 _ _ _ _ _ _ M9

end Go.Proofs.Ytcjlilddhhnikaa
