/-
  A part of the proof: E3.
-/
import Derived.Test.YtcjlilddhhnikaaSxE2
namespace Go.Proofs.Ytcjlilddhhnikaa
open Go Go.Sx
set_option linter.unusedVariables false

/-- What the document says of an act. -/
def Dk.doc (d : Dk) (k : Int) (s : ByteArray) (keep fuse : Int) : Dk := if k < 0 ∨ 2 < k then d.crash keep fuse else d.refStep k s
def Dk.docE (d : Dk) (k : Int) (s : ByteArray) : Int := if k < 0 ∨ 2 < k then 0 else d.refStepE k s

theorem step_doc (d : Dk) (k : Int) (s : ByteArray) (wrong : Int) (f : Dk → Dk) (hE : d.refE k s = if d.may = false then 1 else if d.dead = true then 15 else wrong)
    (hf : ∀ z, (((Dk.mk d.S d.P z false).ref0 k s).ref1 k).ref2 k s = ⟨(f d).S, (f d).P, z, false⟩) : d.step wrong f = d.refStep k s ∧ d.stepE wrong = d.refStepE k s := by
  unfold Dk.step Dk.stepE Dk.refStep Dk.refStepE
  rw [hE, hf]
  cases d.may <;> cases d.dead <;> simp

theorem act_doc (d : Dk) (k : Int) (s : ByteArray) (keep fuse : Int) : d.act k s keep fuse = d.doc k s keep fuse ∧ d.actE k s keep fuse = d.docE k s := by
  unfold Dk.act Dk.actE Dk.doc Dk.docE
  by_cases h0 : k = 0
  · subst h0
    have := step_doc d 0 s (wrongWrite d s) (fun d => ⟨d.S, d.P ++ [s], d.fuse, d.dead⟩) (by unfold Dk.refE wrongWrite; cases isLong s <;> simp) (fun z => by simp [Dk.ref0, Dk.ref1, Dk.ref2])
    simpa [Dk.write, Dk.writeE] using this
  by_cases h1 : k = 1
  · subst h1
    have := step_doc d 1 s 0 (fun d => ⟨d.S ++ d.P, [], d.fuse, d.dead⟩) (by unfold Dk.refE; simp) (fun z => by simp [Dk.ref0, Dk.ref1, Dk.ref2])
    simpa [Dk.sync, Dk.syncE] using this
  by_cases h2 : k = 2
  · subst h2
    have := step_doc d 2 s (wrongSwap s) (fun d => ⟨[s], [], d.fuse, d.dead⟩) (by unfold Dk.refE wrongSwap; cases isLong s <;> simp) (fun z => by simp [Dk.ref0, Dk.ref1, Dk.ref2])
    simpa [Dk.swap, Dk.swapE] using this
  have : k < 0 ∨ 2 < k := by omega
  simp [h0, h1, h2, this]

theorem steps_3 (w : World) {a a1 a2 a3 : Option Addr} {l c l1 c1 l2 c2 l3 c3 : Nat} {d o : Dk} (k : Int) (s : ByteArray) (keep fuse : Int) (h : DskAt w a l c a1 l1 c1 d) (ho : DskAt w a2 l2 c2 a3 l3 c3 o)
    (hfz : -9223372036854775808 ≤ d.fuse ∧ d.fuse ≤ 9223372036854775807) (hf1 : -9223372036854775808 ≤ fuse ∧ fuse ≤ 9223372036854775807) :
    Calls Try.prog 3 #[.agg #[.slice a l c, .slice a1 l1 c1, .int .i64 d.fuse, .bool d.dead], .agg #[.slice a2 l2 c2, .slice a3 l3 c3, .int .i64 o.fuse, .bool o.dead], .agg #[.int .i64 k, .string s, .int .i64 keep, .int .i64 fuse]] w (Ret w (.bool true)) := by
  refine calls_ret (F3_calls _ _ _ _ _ _ _ _ _ _ _ _ _ _ _ _ _ _ _ _ _ _ ?_)
  have M := Mem.startF w (F := fun w' => DskAt w' a l c a1 l1 c1 d ∧ DskAt w' a2 l2 c2 a3 l3 c3 o) fun w' hk => ⟨h.keep0 hk, ho.keep0 hk⟩
  refine M.newK fun b w1 M => ?_
  refine M.newK fun b1 w2 M => ?_
  refine M.newK fun b2 w3 M => ?_
  refine CallK.ret (works_7 w3) fun w4 hK => ⟨_, rfl, SplitK.f rfl ?_⟩
  replace M := M.call hK
  intro K hKK
  have go : ∀ (r : Bool) (w5 : World), Mem w [] [(b2, .cells #[.int .i64 k, .string s, .int .i64 keep, .int .i64 fuse] 26 (0, 0)), (b1, .cells #[.slice a2 l2 c2, .slice a3 l3 c3, .int .i64 o.fuse, .bool o.dead] 24 (0, 0)), (b, .cells #[.slice a l c, .slice a1 l1 c1, .int .i64 d.fuse, .bool d.dead] 24 (0, 0))] (fun w' => DskAt w' a l c a1 l1 c1 d ∧ DskAt w' a2 l2 c2 a3 l3 c3 o) w5 →
      (r = true → d.S.length ≤ 520 ∧ d.P.length ≤ 520 ∧ o.S.length ≤ 520 ∧ o.P.length ≤ 520) → K [.bool r] w5 := by
    intro r w5 M hr
    refine hKK _ _ fun _ K1 hK1 => ?_
    have fin : (d.S.length ≤ 520 ∧ d.P.length ≤ 520 ∧ o.S.length ≤ 520 ∧ o.P.length ≤ 520) → K1 [.bool false] w5 := by
      intro hlen
      refine hK1 _ _ fun _ => SplitK.f rfl ?_
      have hb : d.S.length + d.P.length ≤ 1000000 := by omega
      have hl1 := act_len d k s keep fuse
      refine M.newK fun b6 w7 M => ?_
      refine ⟨_, _, _, _, _, _, _, _, M.cells 3 (c := [_, _, _, _]) rfl, ?_⟩
      refine CallK.ret (of_10 w7) fun w8 hK => ⟨_, _, _, _, _, _, _, _, rfl, ?_⟩
      replace M := M.call hK
      refine (refRecords_9 w8 M.now.1.1 M.now.1.2.2.1 hb).mono ?_
      rintro e w9 ⟨ra, rl, rc, rfl, hr, hlc, hK⟩
      refine ⟨ra, rl, rc, rfl, ?_⟩
      have hrl := hr.now.1
      have hrlen : rl ≤ 1040 := by rw [hrl]; simp; omega
      refine ⟨_, hr.now.old.1, hr.now.old.2, ?_⟩
      replace M := M.call hK
      refine Mem.appK (opt := [_]) M (OwnM.empty b6) (by simp [hrl]) (strs_isCell _) (by simp; omega) (by simp; omega) ?_
      intro a7 l7 c7 opt7 w10 ho7 M hl7
      have N := Mem.ownFr (xs := d.S ++ d.P) M (by simpa using ho7)
      replace M := N.1
      refine ⟨_, _, _, _, _, _, _, _, M.cells 2 (c := [_, _, _, _]) rfl, _, _, _, _, M.cells 0 (c := [_, _, _, _]) rfl, ?_⟩
      refine (act_11 w10 k s keep fuse M.now.1.1 hb hfz).mono ?_
      rintro e w11 ⟨a8, l8, c8, a9, l9, c9, rfl, hr, hK⟩
      refine ⟨_, _, _, _, _, _, _, _, _, rfl, ?_⟩
      replace M := M.callFr hK hr
      refine M.newK fun b11 w12 M => ?_
      refine M.stK 0 (c := [_, _, _, _]) rfl (by simp) rfl fun w13 M => ?_
      obtain ⟨ex, eE⟩ := act_doc d k s keep fuse
      intro K2 hK2
      have fin2 : ∀ (p : Nat) (w14 : World) (ya : Option Addr) (yl yc : Nat) (ya1 : Option Addr) (yl1 yc1 : Nat), Mem w [] [(p, .cells #[.slice ya yl yc, .slice ya1 yl1 yc1, .int .i64 (d.refStep k s).fuse, .bool (d.refStep k s).dead] 30 (0, 0)), (b11, .cells #[.slice a8 l8 c8, .slice a9 l9 c9, .int .i64 (d.act k s keep fuse).fuse, .bool (d.act k s keep fuse).dead] 24 (0, 0)), (b2, .cells #[.int .i64 k, .string s, .int .i64 keep, .int .i64 fuse] 26 (0, 0)), (b1, .cells #[.slice a2 l2 c2, .slice a3 l3 c3, .int .i64 o.fuse, .bool o.dead] 24 (0, 0)), (b, .cells #[.slice a l c, .slice a1 l1 c1, .int .i64 d.fuse, .bool d.dead] 24 (0, 0))]
            (fun w' => (((DskAt w' a l c a1 l1 c1 d ∧ DskAt w' a2 l2 c2 a3 l3 c3 o) ∧ (Fresh w.heap.size w' fun w => StrsAt w a7 l7 (d.S ++ d.P))) ∧ (Fresh w.heap.size w' fun w' => DskAt w' a8 l8 c8 a9 l9 c9 (d.act k s keep fuse))) ∧ DskAt w' ya yl yc ya1 yl1 yc1 (d.refStep k s)) w14 →
          K2 [.pointer (some ⟨p, 0, none⟩), .int .i64 (d.refStepE k s)] w14 := by
        intro p w14 ya yl yc ya1 yl1 yc1 M
        refine hK2 _ _ _ fun _ K3 hK3 => ?_
        have fin3 : ∀ (w15 : World) (ya : Option Addr) (yl yc : Nat) (ya1 : Option Addr) (yl1 yc1 : Nat), Mem w [] [(p, .cells #[.slice ya yl yc, .slice ya1 yl1 yc1, .int .i64 (d.doc k s keep fuse).fuse, .bool (d.doc k s keep fuse).dead] 30 (0, 0)), (b11, .cells #[.slice a8 l8 c8, .slice a9 l9 c9, .int .i64 (d.act k s keep fuse).fuse, .bool (d.act k s keep fuse).dead] 24 (0, 0)), (b2, .cells #[.int .i64 k, .string s, .int .i64 keep, .int .i64 fuse] 26 (0, 0)), (b1, .cells #[.slice a2 l2 c2, .slice a3 l3 c3, .int .i64 o.fuse, .bool o.dead] 24 (0, 0)), (b, .cells #[.slice a l c, .slice a1 l1 c1, .int .i64 d.fuse, .bool d.dead] 24 (0, 0))]
            (fun w' => (((DskAt w' a l c a1 l1 c1 d ∧ DskAt w' a2 l2 c2 a3 l3 c3 o) ∧ (Fresh w.heap.size w' fun w => StrsAt w a7 l7 (d.S ++ d.P))) ∧ (Fresh w.heap.size w' fun w' => DskAt w' a8 l8 c8 a9 l9 c9 (d.act k s keep fuse))) ∧ DskAt w' ya yl yc ya1 yl1 yc1 (d.doc k s keep fuse)) w15 →
            K3 [.int .i64 (d.docE k s)] w15 := by
          intro w15 ya yl yc ya1 yl1 yc1 M
          refine hK3 _ _ fun _ => ?_
          rintro w16 rfl
          replace M := M.drew
          refine ⟨fun w' => Keep [] w15.drew w', Keep.refl _ _, _, _, _, _, _, _, _, _, fun w17 h17 => (M.call h17).cells 1 (c := [_, _, _, _]) rfl, SomeK.of _ rfl ⟨_, _, _, _, _, _, _, _, fun w17 h17 => (M.call h17).cells 0 (c := [_, _, _, _]) rfl, ?_⟩⟩
          refine CallK.ret (of_10 _) fun w17 hK => ⟨_, _, _, _, _, _, _, _, rfl, hK, ?_⟩
          have M17 := M.call hK
          refine CallK.ret (refSame_14 w17 (d := d.act k s keep fuse) (o := d.doc k s keep fuse) M17.now.1.2.now M17.now.2 (by omega)) fun w18 hK2 => ⟨_, rfl, hK.trans0 hK2, ?_⟩
          have M18 := M17.call hK2
          refine ⟨_, _, _, _, _, _, _, _, M18.cells 4 (c := [_, _, _, _]) rfl, ?_⟩
          refine (records_16 w18 M18.now.1.1.1.1.1 M18.now.1.1.1.1.2.2.1 hb).mono ?_
          rintro e w19 ⟨ra2, rl2, rc2, rfl, hr, hlc, hK⟩
          refine ⟨_, _, _, rfl, ?_⟩
          have M19 := M18.call hK
          refine CallK.ret (texts_any w19 hr.now M19.now.1.1.2.now (by simp; omega)) fun w20 hK => ⟨_, rfl, ?_⟩
          have M20 := M19.call hK
          refine ⟨_, _, _, _, _, _, _, _, M20.cells 4 (c := [_, _, _, _]) rfl, ?_⟩
          refine CallK.ret (of_10 _) fun w21 hK => ⟨_, _, _, _, _, _, _, _, rfl, ?_⟩
          have M21 := M20.call hK
          refine CallK.ret (refCheck_17 w21 (d := d) M21.now.1.1.1.1 hb) fun w22 hK => ⟨_, rfl, ?_⟩
          have M22 := M21.call hK
          rintro w23 rfl
          have M23 := M22.drew
          refine ⟨fun w' => Keep [] w22.drew w', Keep.refl _ _, _, _, _, _, _, _, _, _, fun w17 h17 => (M23.call h17).cells 4 (c := [_, _, _, _]) rfl, _, _, _, _, _, _, _, _, fun w17 h17 => (M23.call h17).cells 3 (c := [_, _, _, _]) rfl, ?_⟩
          refine CallK.ret (of_10 _) fun w24 hK => ⟨_, _, _, _, _, _, _, _, rfl, hK, ?_⟩
          refine CallK.ret (of_10 _) fun w25 hK2 => ⟨_, _, _, _, _, _, _, _, rfl, hK.trans0 hK2, ?_⟩
          have M25 := (M23.call hK).call hK2
          refine CallK.ret (refSame_14 w25 (d := d) (o := o) M25.now.1.1.1.1 M25.now.1.1.1.2 (by omega)) fun w26 hK3 => ⟨_, rfl, (hK.trans0 hK2).trans0 hK3, ?_⟩
          have M26 := M25.call hK3
          refine SplitK.t rfl (SplitK.t (by rw [ex]; simp [Dk.same]) (SplitK.t (by rw [eE]; simp) (SplitK.t (by simp) ?_)))
          refine ⟨_, _, _, _, _, _, _, _, M26.cells 4 (c := [_, _, _, _]) rfl, ?_⟩
          refine CallK.ret (check_18 w26 (d := d) M26.now.1.1.1.1 hb) fun w27 hK => ⟨_, rfl, SplitK.t (by cases d.may <;> simp) ?_⟩
          have M27 := M26.call hK
          refine ⟨_, _, _, _, _, _, _, _, M27.cells 4 (c := [_, _, _, _]) rfl, _, _, _, _, _, _, _, _, M27.cells 3 (c := [_, _, _, _]) rfl, ?_⟩
          refine CallK.ret (same_19 w27 (d := d) (o := o) M27.now.1.1.1.1 M27.now.1.1.1.2 hb) fun w28 hK => ⟨_, rfl, ?_, (M27.call hK).keep⟩
          simp [eqB]
        intro K4 hK4
        have fin4 : ∀ r, r = decide (k < 0 ∨ 2 < k) → K4 [.bool r] w14 := by
          intro r hr
          refine hK4 _ _ fun _ => ?_
          subst hr
          refine SplitK.of (fun hk => ?_) (fun hk => ?_)
          · simp only [decide_eq_true_eq] at hk
            rintro w16 rfl
            have M16 := M.drew
            refine ⟨fun w' => Keep [] w14.drew w', Keep.refl _ _, _, _, _, _, _, _, _, _, fun w17 h17 => (M16.call h17).cells 4 (c := [_, _, _, _]) rfl, _, fun w17 h17 => (M16.call h17).cellA 2 (c := [_, _, _, _]) rfl rfl, _, fun w17 h17 => (M16.call h17).cellA 2 (c := [_, _, _, _]) rfl rfl, ?_⟩
            refine CallK.ret (of_10 _) fun w17 hK => ⟨_, _, _, _, _, _, _, _, rfl, hK, ?_⟩
            have M17 := M16.call hK
            refine (refCrash_13 w17 keep fuse M17.now.1.1.1.1 hb).mono ?_
            rintro e w18 ⟨ca, cl, cc, ca1, cl1, cc1, rfl, hr, hK2⟩
            refine ⟨_, _, _, _, _, _, _, _, rfl, hK.trans0 hK2, SomeK.of _ rfl ?_⟩
            have M18 := M17.callF hK2 hr
            refine M18.stK 0 (c := [_, _, _, _]) rfl (by simp) rfl fun w19 M19 => ?_
            have e1 : d.doc k s keep fuse = d.crash keep fuse := by unfold Dk.doc; rw [if_pos hk]
            have e2 : d.docE k s = 0 := by unfold Dk.docE; rw [if_pos hk]
            have := fin3 w19 ca cl cc ca1 cl1 cc1
            rw [e1, e2] at this
            exact this (M19.imp fun w' h => ⟨h.1.1, h.2⟩)
          · simp only [decide_eq_false_iff_not] at hk
            have e1 : d.doc k s keep fuse = d.refStep k s := by unfold Dk.doc; rw [if_neg hk]
            have e2 : d.docE k s = d.refStepE k s := by unfold Dk.docE; rw [if_neg hk]
            have := fin3 w14 ya yl yc ya1 yl1 yc1
            rw [e1, e2] at this
            exact this M
        refine ⟨_, M.cellA 2 (c := [_, _, _, _]) rfl rfl, SplitK.of (fun hk => ?_) (fun hk => ?_)⟩
        · simp at hk
          exact fin4 _ (by simp [hk])
        · simp at hk
          refine ⟨_, M.cellA 2 (c := [_, _, _, _]) rfl rfl, fin4 _ ?_⟩
          rw [Bool.eq_iff_iff]; simp only [ltI_t, decide_eq_true_eq]; omega
      rintro w14 rfl
      replace M := M.drew
      refine ⟨fun w' => Keep [] w13.drew w', Keep.refl _ _, _, _, _, _, _, _, _, _, fun w17 h17 => (M.call h17).cells 3 (c := [_, _, _, _]) rfl, _, fun w17 h17 => (M.call h17).cellA 1 (c := [_, _, _, _]) rfl rfl, _, fun w17 h17 => (M.call h17).cellA 1 (c := [_, _, _, _]) rfl rfl, ?_, ?_⟩
      · refine CallK.ret (of_10 _) fun w15 hK => ⟨_, _, _, _, _, _, _, _, rfl, hK, ?_, ?_⟩
        · have M15 := M.call hK
          refine (refStep_12 w15 (d := d) k s M15.oldLt (M15.stb fun w' h => h.1.1.1) hb hfz).mono ?_
          rintro e w16 ⟨ya, yl, yc, ya1, yl1, yc1, rfl, hy, hK2⟩
          refine ⟨_, _, _, _, _, _, _, _, _, rfl, hK.trans0 hK2, ?_⟩
          have M16 := M15.callStb hK2 hy
          intro p w17 hp hw17
          subst hp; subst hw17
          refine ⟨(hK.trans0 hK2).trans0 (Keep.alloc _ _), ?_⟩
          refine (M16.alloc _).stK 0 (c := [_, _, _, _]) rfl (by simp) rfl fun w18 M18 => ?_
          exact fin2 _ w18 _ _ _ _ _ _ M18
        · have M15 := M.call hK
          intro p w16 hp hw16
          subst hp; subst hw16
          refine ⟨hK.trans0 (Keep.alloc _ _), ?_⟩
          have M16 := M15.alloc (.cells #[.slice none 0 0, .slice none 0 0, .int .i64 0, .bool false] 30 (0, 0))
          refine (refStep_12 _ (d := d) k s M16.oldLt (M16.stb fun w' h => h.1.1.1) hb hfz).mono ?_
          rintro e w17 ⟨ya, yl, yc, ya1, yl1, yc1, rfl, hy, hK2⟩
          refine ⟨_, _, _, _, _, _, _, _, _, rfl, (hK.trans0 (Keep.alloc _ _)).trans0 hK2, ?_⟩
          have M17 := M16.callStb hK2 hy
          refine M17.stK 0 (c := [_, _, _, _]) rfl (by simp) rfl fun w18 M18 => ?_
          exact fin2 _ w18 _ _ _ _ _ _ M18
      · intro p w15 hp hw15
        subst hp; subst hw15
        refine ⟨Keep.alloc _ _, ?_⟩
        have M15 := M.alloc (.cells #[.slice none 0 0, .slice none 0 0, .int .i64 0, .bool false] 30 (0, 0))
        refine CallK.ret (of_10 _) fun w16 hK => ⟨_, _, _, _, _, _, _, _, rfl, (Keep.alloc _ _).trans0 hK, ?_⟩
        have M16 := M15.call hK
        refine (refStep_12 _ (d := d) k s M16.oldLt (M16.stb fun w' h => h.1.1.1) hb hfz).mono ?_
        rintro e w17 ⟨ya, yl, yc, ya1, yl1, yc1, rfl, hy, hK2⟩
        refine ⟨_, _, _, _, _, _, _, _, _, rfl, ((Keep.alloc _ _).trans0 hK).trans0 hK2, ?_⟩
        have M17 := M16.callStb hK2 hy
        refine M17.stK 0 (c := [_, _, _, _]) rfl (by simp) rfl fun w18 M18 => ?_
        exact fin2 _ w18 _ _ _ _ _ _ M18
    refine SplitK.of (fun hb => ?_) (fun hb => ?_)
    · exact hK1 _ _ fun _ => SplitK.t rfl ⟨rfl, M.keep⟩
    · have hb' : r = true := by simpa using hb
      refine ⟨_, M.cellA 0 (off := 1) (c := [_, _, _, _]) rfl rfl, ?_⟩
      cases hs2 : ltI 100 (natI (sizeS s))
      · exact fin (hr hb')
      · exact hK1 _ _ fun _ => SplitK.t rfl ⟨rfl, M.keep⟩
  refine ⟨_, _, _, M.cellA 2 (off := 0) (c := [_, _, _, _]) rfl rfl, ?_⟩
  refine (few_8 w4 M.now.1.1).mono ?_
  rintro e w5 ⟨r, rfl, hr, hK⟩
  replace M := M.call hK
  refine ⟨_, rfl, SplitK.of (fun hh => ?_) (fun hh => go false w5 M (by simp))⟩
  refine ⟨_, _, _, M.cellA 2 (off := 1) (c := [_, _, _, _]) rfl rfl, ?_⟩
  refine (few_8 w5 M.now.1.2.2.1).mono ?_
  rintro e w6 ⟨r2, rfl, hr2, hK⟩
  replace M := M.call hK
  refine ⟨_, rfl, SplitK.of (fun hh2 => ?_) (fun hh2 => go false w6 M (by simp))⟩
  refine ⟨_, _, _, M.cellA 1 (off := 0) (c := [_, _, _, _]) rfl rfl, ?_⟩
  refine (few_8 w6 M.now.2.1).mono ?_
  rintro e w7 ⟨r3, rfl, hr3, hK⟩
  replace M := M.call hK
  refine ⟨_, rfl, SplitK.of (fun hh3 => ?_) (fun hh3 => go false w7 M (by simp))⟩
  refine ⟨_, _, _, M.cellA 1 (off := 1) (c := [_, _, _, _]) rfl rfl, ?_⟩
  refine (few_8 w7 M.now.2.2.2.1).mono ?_
  rintro e w8 ⟨r4, rfl, hr4, hK⟩
  replace M := M.call hK
  exact ⟨_, rfl, go r4 w8 M fun h4 => ⟨(hr hh).1, (hr2 hh2).1, (hr3 hh3).1, (hr4 h4).1⟩⟩

end Go.Proofs.Ytcjlilddhhnikaa
