/-
  A part of the proof: G1.
-/
import Derived.Test.YtcjlilddhhnikaaSxE3
namespace Go.Proofs.Ytcjlilddhhnikaa
open Go Go.Sx
set_option linter.unusedVariables false

/-- An act. -/
structure Ac where
  k : Int
  s : ByteArray
  keep : Int
  fuse : Int

def Ac.cells (a : Ac) : List Value := [.int .i64 a.k, .string a.s, .int .i64 a.keep, .int .i64 a.fuse]

/-- A slice of acts. -/
def ActsAt (w : World) (a : Option Addr) (l : Nat) (acts : List Ac) : Prop := l = acts.length ∧ ∀ i (h : i < acts.length), ∃ p, a = some p ∧ CellsAt w (addA p (mulN (intN (i : Int)) 4)) acts[i].cells

theorem ActsAt.keep0 {w w' : World} {a : Option Addr} {l : Nat} {acts : List Ac} (h : ActsAt w a l acts) (hk : Keep [] w w') : ActsAt w' a l acts :=
  ⟨h.1, fun i hi => by obtain ⟨p, hp, hc⟩ := h.2 i hi; exact ⟨p, hp, hc.keep hk (by simp)⟩⟩

/-- Records are few, and not long. -/
def Dk.ok (d : Dk) (m : Nat) : Prop := d.S.length + d.P.length ≤ m ∧ ∀ s ∈ d.S ++ d.P, isLong s = false

theorem Dk.ok.may {d : Dk} {m : Nat} (h : d.ok m) (hm : m ≤ 500) : d.may = true := by
  unfold Dk.may
  have h1 := h.1
  rw [Bool.and_eq_true]
  refine ⟨by simp; omega, ?_⟩
  rw [Bool.not_eq_true', List.any_eq_false]
  intro s hs
  simp [h.2 s hs]

/-- What an act of the first three does to a disk that is alive, or dead. -/
theorem act_ok {d : Dk} {m : Nat} {k : Int} {s : ByteArray} {keep fuse : Int} (h : d.ok m) (hm : m < 500) (hs : isLong s = false) (hk : k = 0 ∨ k = 1 ∨ k = 2) :
    (d.dead = true → d.actE k s keep fuse = 15) ∧
    (d.dead = false → d.fuse = 0 → d.actE k s keep fuse = 15 ∧ d.act k s keep fuse = ⟨d.S, d.P, 0, true⟩) ∧
    (d.dead = false → d.fuse ≠ 0 → d.actE k s keep fuse = 0 ∧ d.act k s keep fuse = ⟨if k = 0 then d.S else if k = 1 then d.S ++ d.P else [s], if k = 0 then d.P ++ [s] else [], if 0 < d.fuse then d.fuse - 1 else d.fuse, false⟩) := by
  have hmay := h.may (by omega)
  have hlen : ¬ (d.S.length + d.P.length = 500) := by have := h.1; omega
  rcases hk with rfl | rfl | rfl
  · simp [Dk.act, Dk.actE, Dk.write, Dk.writeE, Dk.step, Dk.stepE, hmay, wrongWrite, hs, hlen]
    refine ⟨fun h => ?_, fun h h' => ?_, fun h h' => ?_⟩
    · simp [h]
    · simp [h, h']
    · simp [h, h']
  · simp [Dk.act, Dk.actE, Dk.sync, Dk.syncE, Dk.step, Dk.stepE, hmay]
    refine ⟨fun h => ?_, fun h h' => ?_, fun h h' => ?_⟩
    · simp [h]
    · simp [h, h']
    · simp [h, h']
  · simp [Dk.act, Dk.actE, Dk.swap, Dk.swapE, Dk.step, Dk.stepE, hmay, wrongSwap, hs]
    refine ⟨fun h => ?_, fun h h' => ?_, fun h h' => ?_⟩
    · simp [h]
    · simp [h, h']
    · simp [h, h']

theorem ok_act {d : Dk} {m : Nat} {k : Int} {s : ByteArray} {keep fuse : Int} (h : d.ok m) (hm : m < 500) (hs : isLong s = false) (hd : d.dead = false) (hk : k = 0 ∨ k = 1 ∨ k = 2) : (d.act k s keep fuse).ok (m + 1) := by
  obtain ⟨_, h1, h2⟩ := act_ok (keep := keep) (fuse := fuse) h hm hs hk
  have hl := h.1
  by_cases hf : d.fuse = 0
  · rw [(h1 hd hf).2]
    exact ⟨by simp; omega, h.2⟩
  · rw [(h2 hd hf).2]
    refine ⟨?_, fun t ht => ?_⟩
    · rcases hk with rfl | rfl | rfl <;> simp <;> omega
    · have h3 : t ∈ d.S ++ d.P ∨ t = s := by rcases hk with rfl | rfl | rfl <;> simp at ht ⊢ <;> grind
      rcases h3 with h3 | rfl
      · exact h.2 t h3
      · exact hs

theorem short_of {s : ByteArray} (h : ltI 100 (natI (sizeS s)) = false) : isLong s = false := by
  simp at h
  simp [isLong]
  omega

theorem clamp (n : Int) : minI (maxI n 0) 2 = 0 ∨ minI (maxI n 0) 2 = 1 ∨ minI (maxI n 0) 2 = 2 := by
  unfold minI maxI; split <;> split <;> omega

theorem dead_5 (w : World) {p0 : Int} {a : Option Addr} {l c : Nat} {acts : List Ac} (hp : 0 ≤ p0 ∧ p0 ≤ 255) (h : ActsAt w a l acts) :
    Calls Try.prog 5 #[.int .u8 p0, .slice a l c] w (Ret w (.bool true)) := by
  refine calls_ret (F5_calls _ _ _ _ _ _ ?_)
  have hl := h.1
  have M := Mem.start w
  refine CallK.ret (works_7 w) fun w1 hK => ⟨_, rfl, SplitK.f rfl ?_⟩
  replace M := M.call hK
  refine SplitK.of (fun h60 => ⟨rfl, M.keep⟩) (fun h60 => ⟨by decide, ?_⟩)
  simp at h60
  have hN : remI (wrapI .i64 p0) 20 = ((p0 % 20).toNat : Int) := by
    have : wrapI .i64 p0 = p0 := by simp only [wrapI, IntKind.wrap, IntKind.signed, IntKind.bits]; simp; omega
    rw [this, remI, Int.tmod_eq_emod_of_nonneg hp.1]
    omega
  rw [hN]
  generalize hNN : (p0 % 20).toNat = N
  have hN20 : N < 20 := by omega
  refine CallK.ret (new_20 w1 N) fun w2 hK => ⟨_, _, _, _, _, _, _, _, rfl, ?_⟩
  replace M := M.call hK
  refine M.newK fun b w3 M => ?_
  refine M.stK 0 (c := [_, _, _, _]) rfl (by simp) rfl fun w4 M => ?_
  refine ⟨fun n vs w5 => ∃ (k : Nat) (D : Dk) (a2 : Option Addr) (l2 c2 : Nat) (a3 : Option Addr) (l3 c3 : Nat), vs = [.int .i64 (min k N : Nat), .int .i64 (k : Int)] ∧ k + n = acts.length ∧ D.ok k ∧ (D.dead = decide (N < k)) ∧ (k ≤ N → D.fuse = (N - k : Nat)) ∧ (-9223372036854775808 ≤ D.fuse ∧ D.fuse ≤ 9223372036854775807) ∧
    Mem w [] [(b, .cells ([.slice a2 l2 c2, .slice a3 l3 c3, .int .i64 D.fuse, .bool D.dead] : List Value).toArray 24 (0, 0))] (fun w' => Fresh w.heap.size w' fun w' => DskAt w' a2 l2 c2 a3 l3 c3 D) w5,
    ⟨acts.length, 0, ⟨[], [], N, false⟩, none, 0, 0, none, 0, 0, by simp, by omega, ⟨by simp, by simp⟩, by simp, by simp, by simp; omega, M.imp fun w' _ => Fresh.always fun w' => ⟨StrsAt.nil, Nat.le_refl _, StrsAt.nil, Nat.le_refl _⟩⟩, ?_⟩
  rintro n vs w5 ⟨k, D, a2, l2, c2, a3, l3, c3, rfl, hk, hok, hdead, hfuse, hfz, M⟩
  refine ⟨_, _, rfl, fun _ => SplitK.of (fun hlt => ?_) (fun hlt => ?_)⟩
  · simp at hlt
    have hkl : k < acts.length := by omega
    intro K hKK
    obtain ⟨p, hp1, hpc⟩ := (h.keep0 M.keep).2 k hkl
    refine ⟨by omega, by simp; omega, SomeK.of p hp1 ⟨_, _, _, _, hpc, ?_⟩⟩
    refine M.newK fun b3 w6 M => ?_
    refine M.stK 0 (c := [_, _, _, _]) rfl (by simp) rfl fun w7 M => ?_
    refine ⟨_, M.cellA 0 (c := [_, _, _, _]) rfl rfl, SplitK.of (fun h1 => ⟨rfl, M.keep⟩) (fun h1 => ?_)⟩
    have hs := short_of h1
    refine ⟨_, M.cellA 0 (c := [_, _, _, _]) rfl rfl, ?_⟩
    refine M.stA 0 (off := 0) (c := [_, _, _, _]) rfl (by simp) rfl fun w8 M => ?_
    refine ⟨_, _, _, _, _, _, _, _, M.cells 1 (c := [_, _, _, _]) rfl, _, _, _, _, M.cells 0 (c := [_, _, _, _]) rfl, ?_⟩
    have hb : D.S.length + D.P.length ≤ 1000000 := by have := hok.1; omega
    have hkc := clamp acts[k].k
    generalize minI (maxI acts[k].k 0) 2 = kk at hkc
    refine (act_11 w8 kk acts[k].s acts[k].keep acts[k].fuse M.now.now hb hfz).mono ?_
    rintro e w9 ⟨a4, l4, c4, a5, l5, c5, rfl, hr, hK⟩
    refine ⟨_, _, _, _, _, _, _, _, _, rfl, ?_⟩
    replace M := M.callFr hK hr
    refine M.newK fun b6 w10 M => ?_
    refine M.stK 0 (c := [_, _, _, _]) rfl (by simp) rfl fun w11 M => ?_
    obtain ⟨hA, hB, hC⟩ := act_ok (keep := acts[k].keep) (fuse := acts[k].fuse) hok (by omega) hs hkc
    refine SplitK.of (fun hd => ?_) (fun hd => ?_)
    · simp at hd
      have hkN : k < N := by omega
      have hd0 : D.dead = false := by rw [hdead]; simp; omega
      have hf := hfuse (by omega)
      obtain ⟨hE, hX⟩ := hC hd0 (by omega)
      intro K1 hK1
      rw [hE]
      refine SplitK.f (by simp) ⟨_, M.cellA 0 (c := [_, _, _, _]) rfl rfl, ?_⟩
      have e1 : subI .i64 (subI .i64 (N : Int) ((min k N : Nat) : Int)) 1 = (D.act kk acts[k].s acts[k].keep acts[k].fuse).fuse := by
        rw [hX, subI_i64 (a := N) (by omega) (by omega), subI_i64 (by omega) (by omega)]
        simp only
        split <;> omega
      rw [e1]
      refine hK1 _ _ fun _ => SplitK.f (by simp) ?_
      refine ⟨_, _, _, _, _, _, _, _, M.cells 0 (c := [_, _, _, _]) rfl, ?_⟩
      refine M.stK 2 (off := 0) (c := [_, _, _, _]) rfl (by simp) rfl fun w13 M => ?_
      refine hKK _ _ fun _ => ⟨n - 1, by omega, k + 1, D.act kk acts[k].s acts[k].keep acts[k].fuse, a4, l4, c4, a5, l5, c5, ?_, by omega, ok_act hok (by omega) hs hd0 hkc, ?_, ?_, ?_, ?_⟩
      · rw [addI_one (by omega), show min k N = k from by omega, addI_one (by omega), show min (k + 1) N = k + 1 from by omega]
      · rw [hX]; simp; omega
      · intro hkn; rw [hX]; simp only; split <;> omega
      · rw [hX]; simp only; split <;> omega
      · exact (M.sub (m' := [(b, _)]) (((List.Sublist.refl _).cons _).cons _)).imp fun w' h => h.2
    · simp at hd
      have hkN : N ≤ k := by omega
      by_cases hdd : D.dead = true
      · have hE := hA hdd
        rw [hE]
        refine SplitK.f (by simp) ⟨_, M.cellA 2 (c := [_, _, _, _]) rfl rfl, SplitK.f (by simp [hdd]) ?_⟩
        rw [hdd] at hdead
        have hNk : N < k := by simpa using hdead.symm
        refine hKK _ _ fun _ => ⟨n - 1, by omega, k + 1, D, a2, l2, c2, a3, l3, c3, ?_, by omega, ⟨by have := hok.1; omega, hok.2⟩, ?_, ?_, hfz, ?_⟩
        · rw [addI_one (by omega), show min k N = N from by omega, show min (k + 1) N = N from by omega]
        · rw [hdd]; simp; omega
        · intro hkn; omega
        · exact (M.sub (m' := [(b, _)]) (((List.Sublist.refl _).cons _).cons _)).imp fun w' h => h.1
      · have hd0 : D.dead = false := by simpa using hdd
        rw [hd0] at hdead
        have hkN' : k = N := by have := hdead.symm; simp at this; omega
        have hf := hfuse (by omega)
        obtain ⟨hE, hX⟩ := hB hd0 (by omega)
        rw [hE]
        refine SplitK.f (by simp) ⟨_, M.cellA 2 (c := [_, _, _, _]) rfl rfl, SplitK.t (by simp [hd0]) ?_⟩
        rintro w12 rfl
        replace M := M.drew
        refine ⟨fun w' => Keep [] w11.drew w', Keep.refl _ _, _, _, _, _, _, _, _, _, fun w17 h17 => (M.call h17).cells 0 (c := [_, _, _, _]) rfl, _, _, _, _, _, _, _, _, fun w17 h17 => (M.call h17).cells 2 (c := [_, _, _, _]) rfl, ?_⟩
        have hbx : (D.act kk acts[k].s acts[k].keep acts[k].fuse).S.length + (D.act kk acts[k].s acts[k].keep acts[k].fuse).P.length ≤ 1000000 := by rw [hX]; exact hb
        refine (records_16 w11.drew M.now.2.now.1 M.now.2.now.2.2.1 hbx).mono ?_
        rintro e w13 ⟨r1, r1l, r1c, rfl, hr1, _, hK1⟩
        refine ⟨_, _, _, rfl, hK1, ?_⟩
        have M13 := M.callFr hK1 hr1
        refine (records_16 w13 M13.now.1.1.now.1 M13.now.1.1.now.2.2.1 hb).mono ?_
        rintro e w14 ⟨r2, r2l, r2c, rfl, hr2, _, hK2⟩
        refine ⟨_, _, _, rfl, hK1.trans0 hK2, ?_⟩
        have M14 := M13.callFr hK2 hr2
        refine CallK.ret (texts_any w14 M14.now.1.2.now M14.now.2.now (by simp; omega)) fun w15 hK3 => ⟨_, rfl, (hK1.trans0 hK2).trans0 hK3, ?_⟩
        have M15 := M14.call hK3
        intro K1 hKK1
        have heq : decide ((D.act kk acts[k].s acts[k].keep acts[k].fuse).S ++ (D.act kk acts[k].s acts[k].keep acts[k].fuse).P = D.S ++ D.P) = true := by rw [hX]; simp
        rw [heq]
        refine ⟨_, M15.cellA 0 (c := [_, _, _, _]) rfl rfl, SplitK.f (by rw [hX]; rfl) ?_⟩
        refine hKK1 _ _ fun _ => SplitK.f rfl ?_
        refine ⟨_, _, _, _, _, _, _, _, M15.cells 0 (c := [_, _, _, _]) rfl, ?_⟩
        refine M15.stK 2 (off := 0) (c := [_, _, _, _]) rfl (by simp) rfl fun w16 M16 => ?_
        refine hKK _ _ fun _ => ⟨n - 1, by omega, k + 1, D.act kk acts[k].s acts[k].keep acts[k].fuse, a4, l4, c4, a5, l5, c5, ?_, by omega, ok_act hok (by omega) hs hd0 hkc, ?_, ?_, ?_, ?_⟩
        · rw [addI_one (by omega), show min k N = N from by omega, show min (k + 1) N = N from by omega]
        · rw [hX]; simp; omega
        · intro hkn; omega
        · rw [hX]; simp
        · exact (M16.sub (m' := [(b, _)]) (((List.Sublist.refl _).cons _).cons _)).imp fun w' h => h.1.1.2
  · simp at hlt
    have : k = acts.length := by omega
    refine SplitK.t rfl ⟨_, M.cellA 0 (c := [_, _, _, _]) rfl rfl, ?_, M.keep⟩
    rw [hdead]
    have : ltI (N : Int) (natI l) = decide (N < k) := by rw [Bool.eq_iff_iff]; simp; omega
    rw [this]
    simp [eqB]

end Go.Proofs.Ytcjlilddhhnikaa
