/-
  A part of the proof: D9.
-/
import Derived.Test.YtcjlilddhhnikaaSxD8
namespace Go.Proofs.Ytcjlilddhhnikaa
open Go Go.Sx
set_option linter.unusedVariables false

theorem step_len (d : Dk) (n : Int) (f : Dk → Dk) (m : Nat) (h : d.S.length + d.P.length ≤ m) (hf : (f d).S.length + (f d).P.length ≤ m) : (d.step n f).S.length + (d.step n f).P.length ≤ m := by
  unfold Dk.step
  split
  · split
    · exact h
    · exact hf
  · simp

theorem act_len (d : Dk) (k : Int) (s : ByteArray) (keep fuse : Int) : (d.act k s keep fuse).S.length + (d.act k s keep fuse).P.length ≤ d.S.length + d.P.length + 1 := by
  unfold Dk.act
  split
  · exact step_len _ _ _ _ (by omega) (by simp; omega)
  split
  · exact step_len _ _ _ _ (by omega) (by simp)
  split
  · exact step_len _ _ _ _ (by omega) (by simp)
  unfold Dk.crash keepN
  split <;> simp
  omega

theorem step_fuse (d : Dk) (n : Int) (f : Dk → Dk) (h : -9223372036854775808 ≤ d.fuse ∧ d.fuse ≤ 9223372036854775807) :
    -9223372036854775808 ≤ (d.step n f).fuse ∧ (d.step n f).fuse ≤ 9223372036854775807 := by
  unfold Dk.step
  split
  · split
    · simp
    · simp only
      split <;> omega
  · simp

theorem act_fuse (d : Dk) (k : Int) (s : ByteArray) (keep fuse : Int) (h : -9223372036854775808 ≤ d.fuse ∧ d.fuse ≤ 9223372036854775807) (hf : -9223372036854775808 ≤ fuse ∧ fuse ≤ 9223372036854775807) :
    -9223372036854775808 ≤ (d.act k s keep fuse).fuse ∧ (d.act k s keep fuse).fuse ≤ 9223372036854775807 := by
  unfold Dk.act
  split
  · exact step_fuse _ _ _ h
  split
  · exact step_fuse _ _ _ h
  split
  · exact step_fuse _ _ _ h
  unfold Dk.crash
  split <;> exact hf

/-- What is not done leaves nothing. -/
theorem act_none (d : Dk) (k : Int) (s : ByteArray) (keep fuse : Int) (h0 : d.actE k s keep fuse ≠ 0) (h15 : d.actE k s keep fuse ≠ 15) : (d.act k s keep fuse).S ++ (d.act k s keep fuse).P = [] := by
  have step : ∀ n f, d.stepE n ≠ 0 → d.stepE n ≠ 15 → (d.step n f).S ++ (d.step n f).P = [] := by
    intro n f h h'
    unfold Dk.stepE at h h'
    unfold Dk.step
    split
    · rename_i hc
      simp only [hc, if_true] at h h'
      split at h <;> simp_all
    · rfl
  unfold Dk.actE at h0 h15
  unfold Dk.act
  split
  · rename_i hk
    rw [if_pos hk] at h0 h15
    exact step _ _ h0 h15
  split
  · rename_i hn hk
    rw [if_neg hn, if_pos hk] at h0 h15
    exact step _ _ h0 h15
  split
  · rename_i hn hm hk
    rw [if_neg hn, if_neg hm, if_pos hk] at h0 h15
    exact step _ _ h0 h15
  rename_i hn hm hk
  rw [if_neg hn, if_neg hm, if_neg hk] at h0
  exact absurd rfl h0

theorem own_6 (w : World) {a a1 : Option Addr} {l c l1 c1 : Nat} {d : Dk} (k : Int) (s : ByteArray) (keep fuse : Int) (k2 : Int) (s2 : ByteArray) (keep2 fuse2 : Int) (h : DskAt w a l c a1 l1 c1 d)
    (hfz : -9223372036854775808 ≤ d.fuse ∧ d.fuse ≤ 9223372036854775807) (hf1 : -9223372036854775808 ≤ fuse ∧ fuse ≤ 9223372036854775807) (hf2 : -9223372036854775808 ≤ fuse2 ∧ fuse2 ≤ 9223372036854775807) :
    Calls Try.prog 6 #[.agg #[.slice a l c, .slice a1 l1 c1, .int .i64 d.fuse, .bool d.dead], .agg #[.int .i64 k, .string s, .int .i64 keep, .int .i64 fuse], .agg #[.int .i64 k2, .string s2, .int .i64 keep2, .int .i64 fuse2]] w (Ret w (.bool true)) := by
  refine calls_ret (F6_calls _ _ _ _ _ _ _ _ _ _ _ _ _ _ _ _ _ _ ?_)
  refine (Mem.start w).newK fun b w1 M => ?_
  refine M.newK fun b1 w2 M => ?_
  refine M.newK fun b2 w3 M => ?_
  refine CallK.ret (works_7 w3) fun w4 hK => ⟨_, rfl, SplitK.f rfl ?_⟩
  replace M := M.call hK
  intro K hKK
  have go : ∀ (r : Bool) (w5 : World), Mem w [] [(b2, .cells #[.int .i64 k2, .string s2, .int .i64 keep2, .int .i64 fuse2] 26 (0, 0)), (b1, .cells #[.int .i64 k, .string s, .int .i64 keep, .int .i64 fuse] 26 (0, 0)), (b, .cells #[.slice a l c, .slice a1 l1 c1, .int .i64 d.fuse, .bool d.dead] 24 (0, 0))] (fun _ => True) w5 →
      (r = true → d.S.length ≤ 520 ∧ d.P.length ≤ 520) → K [.bool r] w5 := by
    intro r w5 M hr
    refine hKK _ _ fun _ K1 hK1 => ?_
    have fin : (d.S.length ≤ 520 ∧ d.P.length ≤ 520) → K1 [.bool false] w5 := by
      intro hlen
      refine hK1 _ _ fun _ => SplitK.f rfl ?_
      have hb : d.S.length + d.P.length ≤ 1000000 := by omega
      have hl1 := act_len d k s keep fuse
      have hl2 := act_len d k2 s2 keep2 fuse2
      have hz1 := act_fuse d k s keep fuse hfz hf1
      refine ⟨_, _, _, _, _, _, _, _, M.cells 2 (c := [_, _, _, _]) rfl, _, _, _, _, M.cells 1 (c := [_, _, _, _]) rfl, ?_⟩
      refine (act_11 w5 k s keep fuse (h.keep0 M.keep) hb hfz).mono ?_
      rintro e w6 ⟨a6, l6, c6, p6, m6, n6, rfl, hr, hK⟩
      refine ⟨_, _, _, _, _, _, _, _, _, rfl, ?_⟩
      replace M := M.callFr hK hr
      refine M.newK fun b3 w7 M => ?_
      refine M.stK 0 (c := [_, _, _, _]) rfl (by simp) rfl fun w8 M => ?_
      refine M.newK fun b4 w9 M => ?_
      refine ⟨_, _, _, _, _, _, _, _, M.cells 1 (c := [_, _, _, _]) rfl, ?_⟩
      refine (records_16 w9 M.now.2.now.1 M.now.2.now.2.2.1 (by omega)).mono ?_
      rintro e w10 ⟨ra, rl, rc, rfl, hr, hlc, hK⟩
      refine ⟨ra, rl, rc, rfl, ?_⟩
      have hrl := hr.now.1
      have hrlen : rl ≤ 1041 := by rw [hrl]; simp; omega
      refine ⟨_, hr.now.old.1, hr.now.old.2, ?_⟩
      replace M := M.callFr hK hr
      refine Mem.appK (opt := [_]) M (OwnM.empty b4) (by simp [hrl]) (strs_isCell _) (by simp; omega) (by simp; omega) ?_
      intro a7 l7 c7 opt7 w11 ho M hl7
      have N := Mem.ownFr (xs := (d.act k s keep fuse).S ++ (d.act k s keep fuse).P) M (by simpa using ho)
      replace M := N.1
      refine ⟨_, _, _, _, _, _, _, _, M.cells 3 (c := [_, _, _, _]) rfl, _, _, _, _, M.cells 1 (c := [_, _, _, _]) rfl, ?_⟩
      refine (act_11 w11 k2 s2 keep2 fuse2 (h.keep0 M.keep) hb hfz).mono ?_
      rintro e w12 ⟨a12, l12, c12, p12, m12, n12, rfl, hr, hK⟩
      refine ⟨_, _, _, _, _, _, _, _, _, rfl, ?_⟩
      replace M := M.call hK
      refine ⟨_, _, _, _, _, _, _, _, M.cells 0 (c := [_, _, _, _]) rfl, _, _, _, _, M.cells 1 (c := [_, _, _, _]) rfl, ?_⟩
      refine (act_11 w12 k2 s2 keep2 fuse2 M.now.1.1.2.now (by omega) hz1).mono ?_
      rintro e w13 ⟨a13, l13, c13, p13, m13, n13, rfl, hr, hK⟩
      refine ⟨_, _, _, _, _, _, _, _, _, rfl, ?_⟩
      replace M := M.callFr hK hr
      refine M.newK fun b5 w14 M => ?_
      refine M.stK 0 (c := [_, _, _, _]) rfl (by simp) rfl fun w15 M => ?_
      refine ⟨_, _, _, _, _, _, _, _, M.cells 1 (c := [_, _, _, _]) rfl, _, _, _, _, M.cells 2 (c := [_, _, _, _]) rfl, ?_⟩
      refine (act_11 w15 k2 s2 keep2 fuse2 M.now.1.1.1.2.now (by omega) hz1).mono ?_
      rintro e w16 ⟨a16, l16, c16, p16, m16, n16, rfl, hr, hK⟩
      refine ⟨_, _, _, _, _, _, _, _, _, rfl, ?_⟩
      replace M := M.callFr hK hr
      refine M.newK fun b6 w17 M => ?_
      refine M.stK 0 (c := [_, _, _, _]) rfl (by simp) rfl fun w18 M => ?_
      refine ⟨_, _, _, _, _, _, _, _, M.cells 2 (c := [_, _, _, _]) rfl, ?_⟩
      refine (records_16 w18 M.now.1.1.1.1.2.now.1 M.now.1.1.1.1.2.now.2.2.1 (by omega)).mono ?_
      rintro e w19 ⟨ra2, rl2, rc2, rfl, hr, hlc, hK⟩
      refine ⟨ra2, rl2, rc2, rfl, ?_⟩
      replace M := M.call hK
      refine CallK.ret (texts_any w19 hr.now M.now.1.1.2.now (by simp; omega)) fun w20 hK => ⟨_, rfl, SplitK.t rfl (SplitK.t (by simp) (SplitK.t (by simp) ?_))⟩
      replace M := M.call hK
      have hl3 := act_len (d.act k s keep fuse) k2 s2 keep2 fuse2
      refine ⟨_, _, _, _, _, _, _, _, M.cells 1 (c := [_, _, _, _]) rfl, _, _, _, _, _, _, _, _, M.cells 0 (c := [_, _, _, _]) rfl, ?_⟩
      refine CallK.ret (same_19 w20 (d := (d.act k s keep fuse).act k2 s2 keep2 fuse2) (o := (d.act k s keep fuse).act k2 s2 keep2 fuse2) M.now.1.2.now M.now.2.now (by omega)) fun w21 hK => ⟨_, rfl, SplitK.t (by simp [Dk.same]) ?_⟩
      replace M := M.call hK
      refine SplitK.of (fun he => ⟨rfl, M.keep⟩) (fun he => SplitK.of (fun he2 => ⟨rfl, M.keep⟩) (fun he2 => ⟨?_, M.keep⟩))
      simp at he he2
      have hn := act_none d k s keep fuse he he2
      have : l7 = 0 := by rw [hl7]; rw [hrl, hn]; simp
      simp [this, eqI]
    refine SplitK.of (fun hb => ?_) (fun hb => ?_)
    · exact hK1 _ _ fun _ => SplitK.t rfl ⟨rfl, M.keep⟩
    · have hb' : r = true := by simpa using hb
      refine ⟨_, M.cellA 1 (off := 1) (c := [_, _, _, _]) rfl rfl, SplitK.of (fun hs => ?_) (fun hs => ?_)⟩
      · exact hK1 _ _ fun _ => SplitK.t rfl ⟨rfl, M.keep⟩
      · refine ⟨_, M.cellA 0 (off := 1) (c := [_, _, _, _]) rfl rfl, ?_⟩
        cases hs2 : ltI 100 (natI (sizeS s2))
        · exact fin (hr hb')
        · exact hK1 _ _ fun _ => SplitK.t rfl ⟨rfl, M.keep⟩
  refine ⟨_, _, _, M.cellA 2 (off := 0) (c := [_, _, _, _]) rfl rfl, ?_⟩
  refine (few_8 w4 ((h.keep0 M.keep).1)).mono ?_
  rintro e w5 ⟨r, rfl, hr, hK⟩
  replace M := M.call hK
  refine ⟨_, rfl, SplitK.of (fun hh => ?_) (fun hh => ?_)⟩
  · refine ⟨_, _, _, M.cellA 2 (off := 1) (c := [_, _, _, _]) rfl rfl, ?_⟩
    refine (few_8 w5 ((h.keep0 M.keep).2.2.1)).mono ?_
    rintro e w6 ⟨r2, rfl, hr2, hK⟩
    exact ⟨_, rfl, go r2 w6 (M.call hK) fun h2 => ⟨(hr hh).1, (hr2 h2).1⟩⟩
  · exact go false w5 M (by simp)

end Go.Proofs.Ytcjlilddhhnikaa
