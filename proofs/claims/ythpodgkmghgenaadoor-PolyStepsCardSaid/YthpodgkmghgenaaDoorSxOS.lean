/-
  A part of the proof: OS.
-/
import Derived.Test.YthpodgkmghgenaaDoorSxOD
import Derived.Test.YthpodgkmghgenaaDoorSxShelf
namespace Go.Proofs.YthpodgkmghgenaaDoor
open Go Go.Sx Go.Oct
set_option linter.unusedVariables false

theorem keep_of_below {w w' : World} (h : Go.RowKit.Below w.heap.size w w') : Keep [] w w' := ⟨h.os, h.tape, h.output, h.size, fun k hk _ => h.block k hk⟩

theorem repeatL_zeros : ∀ n, Lib.repeatL [0] n = zerosB n
  | 0 => rfl
  | n + 1 => by rw [Lib.repeatL, repeatL_zeros n]; simp [zerosB, List.replicate_succ]

theorem s_Repeat (w : World) (s : List UInt8) (n : Nat) (h : s.length * n ≤ 1000000000) (hn : n ≤ 1000000000) : Calls Tryd.prog 34 #[.string (bs s), .int .i64 n] w (Ret w (.string (bs (Lib.repeatL s n)))) := by
  refine (Tryd.strings_Repeat (bs s) n w (by omega) (by simp; omega)).mono fun e w' ⟨he, hb⟩ => ⟨?_, keep_of_below hb⟩
  rw [he]
  simp [bs]

theorem o_Fill (w : World) (s : List UInt8) (size : Int) (hs : s.length ≤ 1000000) (hz : size ≤ 1000000) : Calls Tryd.prog 21 #[.string (bs s), .int .i64 size] w (Ret w (.string (bs (fillL s size)))) := by
  refine calls_ret (F21_calls _ _ _ _ ?_)
  refine SplitK.of (fun h => ?_) (fun h => ?_)
  · simp at h
    exact ⟨by rw [fillL, if_pos h], Keep.refl _ _⟩
  · simp at h
    obtain ⟨n, rfl⟩ := Int.eq_ofNat_of_zero_le (show 0 ≤ size by omega)
    have hlt := Nat.mod_lt s.length (show 0 < n by omega)
    have e1 : remI (subI .i64 (n : Int) (remI (natI (sizeS (bs s))) (n : Int))) (n : Int) = ((fillN s.length n : Nat) : Int) := by
      rw [sizeS_bs, natI_eq, remI_nat, subI_nat _ _ (by omega) (by omega), remI_nat]; rfl
    refine ⟨by omega, by omega, ?_⟩
    rw [e1]
    have hf := fillN_lt (n := s.length) (show 0 < n by omega)
    refine CallK.ret (s_Repeat w [0] (fillN s.length n) (by simp; omega) (by omega)) fun w1 h1 => ⟨_, rfl, ?_⟩
    rw [repeatL_zeros]
    refine ⟨by simp [zerosB]; omega, ?_, h1⟩
    rw [catS_bs, fillL, if_neg (by omega)]
    rfl

/-! ### The builder -/
def bcell (p : Value) (a : Option Addr) (l c : Nat) : Obj := .cells (List.toArray [p, .slice a l c]) 66 (0, 0)
def bptr (b : Nat) : Value := .pointer (some ⟨b, 0, none⟩)

theorem b_check {w0 w : World} {lo : List Nat} {m : List (Nat × Obj)} {F : World → Prop} {b : Nat} {p : Value} {a : Option Addr} {l c : Nat} (M : Mem w0 lo ((b, bcell p a l c) :: m) F w) (hp : p = .pointer none ∨ p = bptr b) :
    Calls Tryd.prog 57 #[bptr b] w fun e w' => e = .returned (.tuple #[]) ∧ Mem w0 lo ((b, bcell (bptr b) a l c) :: m) F w' := by
  have hc : w.cell? ⟨b, 0, none⟩ = some p := M.cell 0 (c := [p, .slice a l c]) rfl rfl
  have hb : w.heap[b]? = some (.cells (List.toArray [p, .slice a l c]) 66 (0, 0)) := M.get (i := 0) rfl
  rcases hp with rfl | rfl
  · refine (Any.Builder_copyCheck_fresh (ρ := Tryd.lays105_ren) { Tryd.lays105 with } { Tryd.Builder_Extra_105 with } b w hc ?_ ?_).mono ?_
    · simp [World.shape?, hb]; rfl
    · exact frozen_of_block hb (by simp)
    · rintro e w' ⟨rfl, rfl⟩
      have h1 := setCell_heap (off := 0) (v := bptr b) (c := [.pointer none, .slice a l c]) hb
      exact ⟨rfl, M.write 0 rfl ⟨rfl, rfl, rfl, by simp, fun k hk hn => setCell_other (p := ⟨b, 0, none⟩) (by simpa using hn)⟩ h1⟩
  · refine (Any.Builder_copyCheck_used (ρ := Tryd.lays105_ren) { Tryd.lays105 with } { Tryd.Builder_Extra_105 with } b w hc).mono ?_
    rintro e w' ⟨rfl, rfl⟩
    exact ⟨rfl, M⟩

theorem Mem.rot {w0 w : World} {lo : List Nat} {m opt : List (Nat × Obj)} {F : World → Prop} {x : Nat × Obj} (M : Mem w0 lo (x :: (opt ++ m)) F w) : Mem w0 lo (opt ++ (x :: m)) F w :=
  M.perm (List.perm_middle.symm)
theorem Mem.rot' {w0 w : World} {lo : List Nat} {m opt : List (Nat × Obj)} {F : World → Prop} {x : Nat × Obj} (M : Mem w0 lo (opt ++ (x :: m)) F w) : Mem w0 lo (x :: (opt ++ m)) F w :=
  M.perm List.perm_middle

/-- A text is written behind. -/
theorem b_Write {w0 w : World} {lo : List Nat} {opt m : List (Nat × Obj)} {F : World → Prop} {b : Nat} {p : Value} {a : Option Addr} {l c : Nat} {xs s : List UInt8} (M : Mem w0 lo ((b, bcell p a l c) :: (opt ++ m)) F w) (hp : p = .pointer none ∨ p = bptr b)
    (ho : OwnM opt 5 a l c (byteVs xs)) (hl : xs.length + s.length ≤ 1000000000) {R : Ending → World → Prop}
    (h : ∀ a' l' c' opt' w', OwnM opt' 5 a' l' c' (byteVs (xs ++ s)) → Mem w0 lo ((b, bcell (bptr b) a' l' c') :: (opt' ++ m)) F w' → R (.returned (.tuple (List.toArray [.int .i64 (natI (sizeS (bs s))), .nilIface]))) w') :
    CallK Tryd.prog 49 #[bptr b, .string (bs s)] w R := by
  refine Calls.mono (F49_calls (some ⟨b, 0, none⟩) (bs s) w (fun v w' => R (.returned v) w') ?_) (fun e w' ⟨v, he, hr⟩ => by rw [he]; exact hr)
  refine (b_check M hp).mono ?_
  rintro e w1 ⟨rfl, M⟩
  refine ⟨rfl, a, l, c, M.cellA 0 (off := 1) (c := [bptr b, .slice a l c]) rfl rfl, ?_⟩
  have hb : bytesL (bs s) = byteVs s := by simp [bytesL, byteVs]
  rw [hb, sizeS_bs]
  refine Mem.appK (Mem.rot M) ho (by simp [byteVs]) (byteVs_isCell _) (by simp [byteVs]; omega) (by simp [byteVs]; omega) ?_
  intro a' l' c' opt' w' ho' M' hl
  have M' := Mem.rot' M'
  refine M'.stA 0 (off := 1) (c := [bptr b, .slice a l c]) rfl (by simp) rfl fun w3 M3 => ?_
  have := h a' l' c' opt' w3 (by simpa [byteVs] using ho') M3
  rw [sizeS_bs] at this
  exact this

theorem ownsRowF_of {w0 w : World} {lo : List Nat} {opt m : List (Nat × Obj)} {F : World → Prop} {B : Nat} {a : Option Addr} {l c : Nat} {xs : List UInt8} (M : Mem w0 lo (opt ++ m) F w) (ho : OwnM opt 5 a l c (byteVs xs))
    (hB : ∀ e ∈ opt, B ≤ e.1) : World.ownsRowF w B 5 1 (.slice a l c) (byteVs xs).length (byteVs xs) := by
  refine ⟨by simp, ?_⟩
  rcases ho with ⟨rfl, rfl, rfl, rfl, h⟩ | ⟨b, rest, rfl, rfl, rfl, rfl, hcb⟩
  · rw [h]; exact .inl ⟨rfl, rfl⟩
  · refine .inr ⟨b, _, _, (0, 0), rfl, hB _ (List.mem_singleton.2 rfl), M.get (i := 0) rfl, by simp, by omega, ?_, ?_, ?_⟩
    · unfold maxLen; exact hcb
    · simp
    · simp

/-- What was written, as a text: the builder is not used again. -/
theorem b_String {w0 w : World} {opt m : List (Nat × Obj)} {F : World → Prop} {b : Nat} {p : Value} {a : Option Addr} {l c : Nat} {xs : List UInt8} (M : Mem w0 [] ((b, bcell p a l c) :: (opt ++ m)) F w) (hp : p = .pointer none ∨ p = bptr b)
    (ho : OwnM opt 5 a l c (byteVs xs)) {R : Ending → World → Prop} (h : ∀ w', Keep [] w0 w' → R (.returned (.string (bs xs))) w') :
    CallK Tryd.prog 51 #[bptr b] w R := by
  have hge : ∀ e ∈ (b, bcell p a l c) :: (opt ++ m), w0.heap.size ≤ e.1 := fun e he => by
    rcases M.fresh e he with h | h
    · exact h
    · cases h
  have hb : w.heap[b]? = some (.cells (List.toArray [p, .slice a l c]) 66 (0, 0)) := M.get (i := 0) rfl
  have hrow := ownsRowF_of (B := w0.heap.size) (M.sub (List.sublist_cons_self _ _)) ho (fun e he => hge e (by simp [he]))
  have hne : Value.ownBlock (.slice a l c) ≠ some b := by
    have hnd := M.nd
    rcases ho with ⟨_, rfl, _⟩ | ⟨b', rest, rfl, rfl, _⟩
    · simp [Value.ownBlock]
    · simp only [List.map_cons, List.cons_append, List.nil_append, List.nodup_cons, List.mem_cons, not_or] at hnd
      simp only [Value.ownBlock, ne_eq, Option.some.injEq]
      exact fun e => hnd.1.1 e.symm
  have hbld : Lib.IsBuilderF 66 5 w0.heap.size b (byteVs xs) w := by
    have hat : Lib.BuilderAtF 66 5 w0.heap.size b p (byteVs xs) w := ⟨hge _ (List.mem_cons_self ..), _, hb, hrow, hne⟩
    rcases hp with rfl | rfl
    · exact .inl hat
    · exact .inr hat
  refine (Tryd.Builder_String_any_k w0.heap.size b xs w hbld M.keep.size).mono ?_
  rintro e w' ⟨rfl, _, hbel, _⟩
  refine h w' ⟨hbel.os.trans M.keep.os, hbel.tape.trans M.keep.tape, hbel.output.trans M.keep.output, Nat.le_trans M.keep.size hbel.size, fun k hk hn => (hbel.block k hk).trans (M.keep.block k hk hn)⟩

end Go.Proofs.YthpodgkmghgenaaDoor
