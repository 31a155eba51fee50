/-
  A part of the proof: E2.
-/
import Derived.Test.YtcjlilddhhnikaaSxE1
namespace Go.Proofs.Ytcjlilddhhnikaa
open Go Go.Sx
set_option linter.unusedVariables false

/-- The document's step: what is done at last. -/
def Dk.ref0 (d : Dk) (k : Int) (s : ByteArray) : Dk := if k = 0 then ⟨d.S, d.P ++ [s], d.fuse, d.dead⟩ else d
def Dk.ref1 (d : Dk) (k : Int) : Dk := if k = 1 then ⟨d.S ++ d.P, [], d.fuse, d.dead⟩ else d
def Dk.ref2 (d : Dk) (k : Int) (s : ByteArray) : Dk := if k = 2 then ⟨[s], [], d.fuse, d.dead⟩ else d
/-- What the document says is wrong. -/
def Dk.refE (d : Dk) (k : Int) (s : ByteArray) : Int :=
  if d.may = false then 1 else if d.dead = true then 15 else if k ≠ 1 ∧ isLong s = true then 4 else if k = 0 ∧ d.S.length + d.P.length = 500 then 14 else 0
def Dk.refStep (d : Dk) (k : Int) (s : ByteArray) : Dk :=
  if d.refE k s ≠ 0 then ⟨[], [], 0, false⟩ else if d.fuse = 0 then ⟨d.S, d.P, 0, true⟩ else (((Dk.mk d.S d.P (if 0 < d.fuse then d.fuse - 1 else d.fuse) false).ref0 k s).ref1 k).ref2 k s
def Dk.refStepE (d : Dk) (k : Int) (s : ByteArray) : Int := if d.refE k s ≠ 0 then d.refE k s else if d.fuse = 0 then 15 else 0

/-- A disk that a call hands back, that stays whatever is done to the blocks of A. -/
def RetA (A : Nat → Prop) (w : World) (d : Dk) (n : Int) (e : Ending) (w' : World) : Prop := ∃ a l c a1 l1 c1, e = .returned (.tuple #[.agg #[.slice a l c, .slice a1 l1 c1, .int .i64 d.fuse, .bool d.dead], .int .i64 n]) ∧ Stb A w' (fun w => DskAt w a l c a1 l1 c1 d) ∧ Keep [] w w'

theorem refStep_12 (w : World) {a a1 : Option Addr} {l c l1 c1 : Nat} {d : Dk} (k : Int) (s : ByteArray) {A : Nat → Prop} (hA : ∀ i, A i → i < w.heap.size) (h : Stb A w fun w => DskAt w a l c a1 l1 c1 d) (hb : d.S.length + d.P.length ≤ 1000000)
    (hfz : -9223372036854775808 ≤ d.fuse ∧ d.fuse ≤ 9223372036854775807) :
    Calls Try.prog 12 #[.agg #[.slice a l c, .slice a1 l1 c1, .int .i64 d.fuse, .bool d.dead], .int .i64 k, .string s] w (RetA A w (d.refStep k s) (d.refStepE k s)) := by
  refine (F12_calls _ _ _ _ _ _ _ _ _ _ w (fun v w' => ∃ a l c a1 l1 c1, v = .tuple #[.agg #[.slice a l c, .slice a1 l1 c1, .int .i64 (d.refStep k s).fuse, .bool (d.refStep k s).dead], .int .i64 (d.refStepE k s)] ∧ Stb A w' (fun w => DskAt w a l c a1 l1 c1 (d.refStep k s)) ∧ Keep [] w w') ?_).mono
    (fun e w' ⟨v, he, a, l, c, a1, l1, c1, hv, h⟩ => ⟨a, l, c, a1, l1, c1, by rw [he, hv], h⟩)
  have M0 := Mem.startF w (F := fun w' => Stb A w' fun w => DskAt w a l c a1 l1 c1 d) fun w' hk => h.keep0 hk
  refine M0.newK fun b w1 M => ?_
  refine M.newK fun b1 w2 M => ?_
  refine ⟨_, _, _, _, _, _, _, _, M.cells 1 (c := [_, _, _, _]) rfl, ?_⟩
  refine CallK.ret (refCheck_17 w2 M.now.now hb) fun w3 hw3 => ⟨_, rfl, ?_⟩
  have M3 := M.call hw3
  let St : Dk → World → Prop := fun D w' => ∃ a6 l6 c6 a7 l7 c7, Mem w [] [(b1, .cells ([.slice none 0 0, .slice none 0 0, .int .i64 0, .bool false] : List Value).toArray 30 (0, 0)), (b, .cells ([.slice a6 l6 c6, .slice a7 l7 c7, .int .i64 D.fuse, .bool D.dead] : List Value).toArray 30 (0, 0))] (fun w' => Stb A w' fun w => DskAt w a6 l6 c6 a7 l7 c7 D) w'
  have bad : ∀ (e : Int) (w4 : World) {R : Value → World → Prop}, St d w4 → d.refE k s = e → e ≠ 0 →
      (∀ v w', (∃ a l c a1 l1 c1, v = .tuple #[.agg #[.slice a l c, .slice a1 l1 c1, .int .i64 (d.refStep k s).fuse, .bool (d.refStep k s).dead], .int .i64 (d.refStepE k s)] ∧ Stb A w' (fun w => DskAt w a l c a1 l1 c1 (d.refStep k s)) ∧ Keep [] w w') → R v w') →
      StK w4 (Addr.mk b1 0 none) [.slice none 0 0, .slice none 0 0, .int .i64 0, .bool false] (fun w5 => ∃ (a2 : Option Addr), ∃ (l2 : Nat), ∃ (c2 : Nat), ∃ (a3 : Option Addr), ∃ (l3 : Nat), ∃ (c3 : Nat), ∃ (n1 : Int), ∃ (b7 : Bool), (CellsAt w5 (Addr.mk b1 0 none) [Value.slice a2 l2 c2, Value.slice a3 l3 c3, Value.int .i64 n1, Value.bool b7]) ∧ (R (Value.tuple (List.toArray [Value.agg (List.toArray [Value.slice a2 l2 c2, Value.slice a3 l3 c3, Value.int .i64 n1, Value.bool b7]), Value.int .i64 e])) w5)) := by
    rintro e w4 R ⟨a6, l6, c6, a7, l7, c7, M4⟩ h1 h2 hR
    refine M4.stK 0 (c := [_, _, _, _]) rfl (by simp) rfl fun w5 M5 => ?_
    refine ⟨_, _, _, _, _, _, _, _, M5.cells 0 (c := [_, _, _, _]) rfl, hR _ _ ?_⟩
    have e1 : d.refStep k s = ⟨[], [], 0, false⟩ := by unfold Dk.refStep; rw [h1, if_pos h2]
    have e2 : d.refStepE k s = e := by unfold Dk.refStepE; rw [h1, if_pos h2]
    rw [e1, e2]
    exact ⟨_, _, _, _, _, _, rfl, fun _ _ _ _ => ⟨StrsAt.nil, Nat.le_refl _, StrsAt.nil, Nat.le_refl _⟩, M5.keep⟩
  have S3 : St d w3 := ⟨_, _, _, _, _, _, M3⟩
  refine SplitK.of (fun hm => ?_) (fun hm => ?_)
  · exact bad 1 w3 S3 (by simp at hm; simp [Dk.refE, hm]) (by decide) fun _ _ h => h
  have hmay : d.may = true := by simpa using hm
  refine ⟨_, M3.cellA 1 (c := [_, _, _, _]) rfl rfl, ?_⟩
  refine SplitK.of (fun hd => ?_) (fun hd => ?_)
  · exact bad 15 w3 S3 (by simp [Dk.refE, hmay, hd]) (by decide) fun _ _ h => h
  intro K hK
  have step1 : K [.bool (decide (k ≠ 1 ∧ isLong s = true))] w3 := by
    refine hK _ _ fun _ => ?_
    refine SplitK.of (fun h4 => ?_) (fun h4 => ?_)
    · simp only [decide_eq_true_eq] at h4
      exact bad 4 w3 S3 (by simp [Dk.refE, hmay, hd, h4]) (by decide) fun _ _ h => h
    simp only [decide_eq_false_iff_not] at h4
    intro K1 hK1
    have step2 : K1 [.bool (decide (k = 0 ∧ d.S.length + d.P.length = 500))] w3 := by
      refine hK1 _ _ fun _ => ?_
      refine SplitK.of (fun h5 => ?_) (fun h5 => ?_)
      · simp only [decide_eq_true_eq] at h5
        exact bad 14 w3 S3 (by rw [Dk.refE, if_neg (by simp [hmay]), if_neg (by simp [hd]), if_neg h4, if_pos h5]) (by decide) fun _ _ h => h
      simp only [decide_eq_false_iff_not] at h5
      have hE : d.refE k s = 0 := by rw [Dk.refE, if_neg (by simp [hmay]), if_neg (by simp [hd]), if_neg h4, if_neg h5]
      refine ⟨_, M3.cellA 1 (c := [_, _, _, _]) rfl rfl, ?_⟩
      refine SplitK.of (fun h0 => ?_) (fun h0 => ?_)
      · simp at h0
        refine M3.stA 1 (off := 3) (c := [_, _, _, _]) rfl (by simp) rfl fun w4 M4 => ?_
        refine ⟨_, _, _, _, _, _, _, _, M4.cells 1 (c := [_, _, _, _]) rfl, ?_⟩
        refine M4.stK 0 (c := [_, _, _, _]) rfl (by simp) rfl fun w5 M5 => ?_
        refine ⟨_, _, _, _, _, _, _, _, M5.cells 0 (c := [_, _, _, _]) rfl, ?_⟩
        have e1 : d.refStep k s = ⟨d.S, d.P, d.fuse, true⟩ := by unfold Dk.refStep; rw [hE, if_neg (by simp), if_pos h0, h0]
        have e2 : d.refStepE k s = 15 := by unfold Dk.refStepE; rw [hE, if_neg (by simp), if_pos h0]
        rw [e1, e2]
        exact ⟨_, _, _, _, _, _, rfl, M5.now, M5.keep⟩
      simp at h0
      have e1 : d.refStep k s = (((Dk.mk d.S d.P (if 0 < d.fuse then d.fuse - 1 else d.fuse) false).ref0 k s).ref1 k).ref2 k s := by unfold Dk.refStep; rw [hE, if_neg (by simp), if_neg h0]
      have e2 : d.refStepE k s = 0 := by unfold Dk.refStepE; rw [hE, if_neg (by simp), if_neg h0]
      intro K2 hK2
      have hd' : d.dead = false := hd
      have step3 : ∀ w6, St ⟨d.S, d.P, if 0 < d.fuse then d.fuse - 1 else d.fuse, false⟩ w6 → K2 [] w6 := by
        intro w6 hS6
        refine hK2 _ fun _ K3 hK3 => ?_
        generalize hD6 : Dk.mk d.S d.P (if 0 < d.fuse then d.fuse - 1 else d.fuse) false = D6 at hS6 e1
        have hb6 : D6.S.length + D6.P.length ≤ 1000000 := by rw [← hD6]; exact hb
        have step4 : ∀ w7, St (D6.ref0 k s) w7 → K3 [] w7 := by
          intro w7 hS7
          refine hK3 _ fun _ K4 hK4 => ?_
          generalize hD7 : D6.ref0 k s = D7 at hS7 e1
          have hb7 : k = 1 → D7.S.length + D7.P.length ≤ 1000000 := fun hk => by rw [← hD7, Dk.ref0, if_neg (by omega)]; exact hb6
          have step5 : ∀ w8, St (D7.ref1 k) w8 → K4 [] w8 := by
            intro w8 hS8
            refine hK4 _ fun _ K5 hK5 => ?_
            generalize hD8 : D7.ref1 k = D8 at hS8 e1
            have step6 : ∀ w9, St (D8.ref2 k s) w9 → K5 [] w9 := by
              rintro w9 ⟨a6, l6, c6, a7, l7, c7, M9⟩
              refine hK5 _ fun _ => ?_
              refine ⟨_, _, _, _, _, _, _, _, M9.cells 1 (c := [_, _, _, _]) rfl, ?_⟩
              refine M9.stK 0 (c := [_, _, _, _]) rfl (by simp) rfl fun w10 M10 => ?_
              refine ⟨_, _, _, _, _, _, _, _, M10.cells 0 (c := [_, _, _, _]) rfl, ?_⟩
              rw [e1, e2]
              exact ⟨_, _, _, _, _, _, rfl, M10.now, M10.keep⟩
            refine SplitK.of (fun hk => ?_) (fun hk => ?_)
            · simp at hk
              obtain ⟨a6, l6, c6, a7, l7, c7, M8⟩ := hS8
              refine M8.newK fun b2 w9 M9 => ?_
              have ho : OwnM [(b2, .cells #[.string s] 9 (0, 0))] 9 (some ⟨b2, 0, none⟩) 1 1 ([s].map Value.string) := .inr ⟨b2, [], rfl, rfl, rfl, rfl⟩
              have M9' := Mem.ownFr (opt := [_]) M9 ho
              refine M9'.1.stA 1 (off := 0) (c := [_, _, _, _]) rfl (by simp) rfl fun w10 M10 => ?_
              refine M10.stA 1 (off := 1) (c := [_, _, _, _]) rfl (by simp) rfl fun w11 M11 => ?_
              refine step6 _ ?_
              rw [Dk.ref2, if_pos hk]
              exact ⟨_, _, _, _, _, _, M11.imp fun w' h => (h.2.stb hA).imp fun w'' h => ⟨h, Nat.le_refl _, StrsAt.nil, Nat.le_refl _⟩⟩
            · simp at hk
              exact step6 w8 (by rw [Dk.ref2, if_neg hk]; exact hS8)
          refine SplitK.of (fun hk => ?_) (fun hk => ?_)
          · simp at hk
            obtain ⟨a6, l6, c6, a7, l7, c7, M7⟩ := hS7
            refine ⟨_, _, _, _, _, _, _, _, M7.cells 1 (c := [_, _, _, _]) rfl, ?_⟩
            refine (refRecords_9 w7 M7.now.now.1 M7.now.now.2.2.1 (hb7 hk)).mono ?_
            rintro e w8 ⟨a8, l8, c8, rfl, hr, hlc, hK⟩
            refine ⟨_, _, _, rfl, ?_⟩
            have M8 := M7.callFr hK hr
            refine M8.stA 1 (off := 0) (c := [_, _, _, _]) rfl (by simp) rfl fun w10 M10 => ?_
            refine M10.stA 1 (off := 1) (c := [_, _, _, _]) rfl (by simp) rfl fun w11 M11 => ?_
            refine step5 _ ?_
            rw [Dk.ref1, if_pos hk]
            exact ⟨_, _, _, _, _, _, M11.imp fun w' h => (h.2.stb hA).imp fun w'' h => ⟨h, hlc, StrsAt.nil, Nat.le_refl _⟩⟩
          · simp at hk
            exact step5 w7 (by rw [Dk.ref1, if_neg hk]; exact hS7)
        refine SplitK.of (fun hk => ?_) (fun hk => ?_)
        · simp at hk
          obtain ⟨a6, l6, c6, a7, l7, c7, M6⟩ := hS6
          have hs6 := M6.now.now.2.2.1
          have el := hs6.1
          refine ⟨_, _, _, M6.cellA 1 (c := [_, _, _, _]) rfl rfl, _, hs6.old.1, hs6.old.2, ?_⟩
          refine Mem.appK (opt := []) M6 OwnM.nil (by simp [el]) (strs_isCell _) (by simp; omega) (by simp; omega) ?_
          intro a8 l8 c8 opt8 w8 ho M8 hl8
          refine (M8.perm List.perm_append_comm).newK fun b2 w9 M9 => ?_
          refine ⟨[.string s], ⟨rfl, M9.cells 0 (c := [_]) rfl⟩, by simp, ?_⟩
          have M9' := M9.tail.perm List.perm_append_comm
          refine Mem.appK M9' ho rfl (by simp [isCell]) (by simp; omega) (by simp; omega) ?_
          intro a10 l10 c10 opt10 w10 ho M10 hl10
          have e : ([] ++ (D6.P.map Value.string)) ++ [Value.string s] = (D6.P ++ [s]).map Value.string := by simp
          rw [e] at ho
          have M11 := Mem.ownFr M10 ho
          refine M11.1.stA 1 (off := 1) (c := [_, _, _, _]) rfl (by simp) rfl fun w12 M12 => ?_
          refine step4 _ ?_
          rw [Dk.ref0, if_pos hk]
          exact ⟨_, _, _, _, _, _, M12.imp fun w' h => (h.1.and (h.2.stb hA)).imp fun w'' h => ⟨h.1.1, h.1.2.1, h.2, M11.2⟩⟩
        · simp at hk
          exact step4 w6 (by rw [Dk.ref0, if_neg hk]; exact hS6)
      refine ⟨_, M3.cellA 1 (c := [_, _, _, _]) rfl rfl, ?_⟩
      refine SplitK.of (fun hp => ?_) (fun hp => ?_)
      · simp at hp
        refine ⟨_, M3.cellA 1 (c := [_, _, _, _]) rfl rfl, ?_⟩
        rw [subI_i64 (by omega) (by omega)]
        refine M3.stA 1 (off := 2) (c := [_, _, _, _]) rfl (by simp) rfl fun w10 M10 => ?_
        refine step3 w10 ?_
        rw [if_pos hp]
        rw [hd'] at M10
        exact ⟨_, _, _, _, _, _, M10⟩
      · simp at hp
        refine step3 w3 ?_
        rw [if_neg (by omega)]
        rw [hd'] at M3
        exact ⟨_, _, _, _, _, _, M3⟩
    refine SplitK.of (fun hk => ?_) (fun hk => ?_)
    · simp at hk
      refine ⟨_, _, _, M3.cellA 1 (c := [_, _, _, _]) rfl rfl, _, _, _, M3.cellA 1 (c := [_, _, _, _]) rfl rfl, ?_⟩
      have e1 := M3.now.now.1.1
      have e2 := M3.now.now.2.2.1.1
      rw [addI_i64 (by simp; omega) (by simp; omega)]
      have : eqI (natI l + natI l1) 500 = decide (k = 0 ∧ d.S.length + d.P.length = 500) := by
        rw [Bool.eq_iff_iff]; simp only [eqI_t, natI_eq, decide_eq_true_eq]; omega
      rw [this]
      exact step2
    · simp at hk
      have : (false : Bool) = decide (k = 0 ∧ d.S.length + d.P.length = 500) := by simp [hk]
      rw [this]
      exact step2
  refine SplitK.of (fun hk => ?_) (fun hk => ?_)
  · simp at hk
    have : ltI 1048576 (natI (sizeS s)) = decide (k ≠ 1 ∧ isLong s = true) := by
      rw [Bool.eq_iff_iff]; simp only [ltI_t, natI_eq, sizeS_eq, isLong, decide_eq_true_eq]; omega
    rw [this]
    exact step1
  · simp at hk
    have : (false : Bool) = decide (k ≠ 1 ∧ isLong s = true) := by simp [hk]
    rw [this]
    exact step1

end Go.Proofs.Ytcjlilddhhnikaa
