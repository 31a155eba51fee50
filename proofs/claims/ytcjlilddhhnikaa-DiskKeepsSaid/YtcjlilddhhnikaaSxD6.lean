/-
  A part of the proof: D6.
-/
import Derived.Test.YtcjlilddhhnikaaSxD5
namespace Go.Proofs.Ytcjlilddhhnikaa
open Go Go.Sx
set_option linter.unusedVariables false

theorem fits_31 (w : World) (s : ByteArray) : Calls Try.prog 31 #[.string s] w (Ret w (.int .i64 (if isLong s then 4 else 0))) := by
  refine calls_ret (F31_calls _ _ _ ?_)
  refine CallK.ret (long_27 w s) fun w1 hw1 => ⟨_, rfl, SplitK.of (fun h => ?_) (fun h => ?_)⟩
  · exact ⟨by simp [h], hw1⟩
  · exact ⟨by simp [h], hw1⟩

def wrongWrite (d : Dk) (s : ByteArray) : Int := if isLong s then 4 else if d.S.length + d.P.length = 500 then 14 else 0

theorem do_write (w : World) (q : Addr) (s : ByteArray) (d : Dk) (hq : w.cell? q = some (.string s)) (hb : d.S.length + d.P.length ≤ 1000000) :
    DoSpec w (.func (.func 32) #[] #[.pointer (some q)]) d (fun d => ⟨d.S, d.P ++ [s], d.fuse, d.dead⟩) := by
  intro w1 b optS optP a l c a1 l1 c1 m F n hS hP M
  refine (F32_calls _ _ _ (fun v w2 => v = .tuple #[] ∧ ∃ a' l' c' a1' l1' c1',
      Mem w [] ((b, .cells ([.slice a' l' c', .slice a1' l1' c1', .int .i64 n, .bool false] : List Value).toArray 24 (0, 0)) :: m) (fun w' => F w' ∧ Fresh w.heap.size w' (fun w' => DskAt w' a' l' c' a1' l1' c1' ⟨d.S, d.P ++ [s], d.fuse, d.dead⟩)) w2) ?_).mono
    (fun e w' ⟨v, he, hv, h⟩ => ⟨by rw [he, hv], h⟩)
  rintro w2 rfl
  have M2 := M.drew
  have hS2 : w1.drew.cell? ⟨b, 1, none⟩ = some (.slice a1 l1 c1) ∧ w1.drew.cell? q = some (.string s) := ⟨M2.cell 0 (off := 1) (c := [_, _, _, _]) rfl rfl, M2.keep.cell hq (by simp)⟩
  refine ⟨fun w' => w'.cell? ⟨b, 1, none⟩ = some (.slice a1 l1 c1) ∧ w'.cell? q = some (.string s), hS2, ?_⟩
  refine SomeK.of _ rfl ⟨_, _, _, fun w3 h3 => by simp only [addA_mk, Nat.zero_add]; exact h3.1, ?_⟩
  refine SomeK.of _ rfl ⟨_, fun w3 h3 => h3.2, ?_⟩
  refine M2.newK fun bs w3 M3 => ?_
  have hS3 : w3.cell? ⟨b, 1, none⟩ = some (.slice a1 l1 c1) ∧ w3.cell? q = some (.string s) := ⟨M3.cell 1 (off := 1) (c := [_, _, _, _]) rfl rfl, M3.keep.cell hq (by simp)⟩
  refine ⟨hS3, [.string s], ⟨rfl, M3.cells 0 (c := [_]) rfl⟩, by simp, ?_⟩
  have Mp := M3.tail.perm (m' := optP ++ ((b, .cells ([.slice a l c, .slice a1 l1 c1, .int .i64 n, .bool false] : List Value).toArray 24 (0, 0)) :: m ++ optS)) (by
    rw [← List.append_assoc]
    exact List.perm_append_comm)
  have hlen : d.P.length ≤ 1000000 := by omega
  refine Mem.appK Mp hP rfl (by simp [isCell]) (by simp; omega) (by simp; omega) ?_
  intro a2 l2 c2 opt2 w4 ho2 M4 hl2
  have M4' := M4.perm (m' := (b, .cells ([.slice a l c, .slice a1 l1 c1, .int .i64 n, .bool false] : List Value).toArray 24 (0, 0)) :: m ++ (optS ++ opt2)) (perm3 _ (_ :: m) _)
  refine ⟨⟨M4'.cell 0 (off := 1) (c := [_, _, _, _]) rfl rfl, M4'.keep.cell hq (by simp)⟩, SomeK.of _ rfl ?_⟩
  simp only [addA_mk, Nat.zero_add]
  refine M4'.stK 0 (off := 1) (c := [_, _, _, _]) rfl (by simp) rfl fun w5 M5 => ?_
  have e : (d.P.map Value.string) ++ [Value.string s] = (d.P ++ [s]).map Value.string := by simp
  rw [e] at ho2
  have M6 := Mem.ownFr (opt := optS) (M5.perm (List.perm_append_comm_assoc (_ :: m) optS opt2)) hS
  have M7 := Mem.ownFr (opt := opt2) (M6.1.perm List.perm_append_comm) ho2
  exact ⟨trivial, _, _, _, _, _, _, M7.1.imp fun w' h => ⟨h.1.1, (h.1.2.and h.2).imp fun w'' h => ⟨h.1, M6.2, h.2, M7.2⟩⟩⟩

theorem do_sync (w : World) (d : Dk) (hb : d.S.length + d.P.length ≤ 1000000) :
    DoSpec w (.func (.func 34) #[] #[]) d (fun d => ⟨d.S ++ d.P, [], d.fuse, d.dead⟩) := by
  intro w1 b optS optP a l c a1 l1 c1 m F n hS hP M
  refine (F34_calls _ _ (fun v w2 => v = .tuple #[] ∧ ∃ a' l' c' a1' l1' c1',
      Mem w [] ((b, .cells ([.slice a' l' c', .slice a1' l1' c1', .int .i64 n, .bool false] : List Value).toArray 24 (0, 0)) :: m) (fun w' => F w' ∧ Fresh w.heap.size w' (fun w' => DskAt w' a' l' c' a1' l1' c1' ⟨d.S ++ d.P, [], d.fuse, d.dead⟩)) w2) ?_).mono
    (fun e w' ⟨v, he, hv, h⟩ => ⟨by rw [he, hv], h⟩)
  refine SomeK.of _ rfl ⟨_, _, _, _, _, _, _, _, M.cells 0 (c := [_, _, _, _]) rfl, ?_⟩
  have N1 := Mem.ownFr (opt := optS) (M.perm (List.perm_append_comm_assoc (_ :: m) optS optP)) hS
  have N2 := Mem.ownFr (opt := optP) (N1.1.perm List.perm_append_comm) hP
  refine (records_16 w1 N2.1.now.1.2.now N2.1.now.2.now hb).mono ?_
  rintro e w2 ⟨a2, l2, c2, rfl, hs, hlc, hK⟩
  refine ⟨a2, l2, c2, rfl, SomeK.of _ rfl ?_⟩
  have M2 := N2.1.callFr hK hs
  simp only [addA_mk, Nat.zero_add]
  refine M2.stK 0 (off := 0) (c := [_, _, _, _]) rfl (by simp) rfl fun w3 M3 => SomeK.of _ rfl ?_
  refine M3.stK 0 (off := 1) (c := [_, _, _, _]) rfl (by simp) rfl fun w4 M4 => ?_
  exact ⟨trivial, _, _, _, _, _, _, M4.imp fun w' h => ⟨h.1.1.1, h.2.imp fun w'' h => ⟨h, hlc, StrsAt.nil, Nat.le_refl _⟩⟩⟩

theorem do_swap (w : World) (q : Addr) (s : ByteArray) (d : Dk) (hq : w.cell? q = some (.string s)) :
    DoSpec w (.func (.func 36) #[] #[.pointer (some q)]) d (fun d => ⟨[s], [], d.fuse, d.dead⟩) := by
  intro w1 b optS optP a l c a1 l1 c1 m F n hS hP M
  refine (F36_calls _ _ _ (fun v w2 => v = .tuple #[] ∧ ∃ a' l' c' a1' l1' c1',
      Mem w [] ((b, .cells ([.slice a' l' c', .slice a1' l1' c1', .int .i64 n, .bool false] : List Value).toArray 24 (0, 0)) :: m) (fun w' => F w' ∧ Fresh w.heap.size w' (fun w' => DskAt w' a' l' c' a1' l1' c1' ⟨[s], [], d.fuse, d.dead⟩)) w2) ?_).mono
    (fun e w' ⟨v, he, hv, h⟩ => ⟨by rw [he, hv], h⟩)
  refine SomeK.of _ rfl ⟨_, M.keep.cell hq (by simp), ?_⟩
  refine (M.sub (List.sublist_append_left (_ :: m) _)).newK fun bs w2 M2 => SomeK.of _ rfl ?_
  have ho : OwnM [(bs, .cells #[.string s] 9 (0, 0))] 9 (some ⟨bs, 0, none⟩) 1 1 ([s].map Value.string) := .inr ⟨bs, [], rfl, rfl, rfl, rfl⟩
  have M3 := Mem.ownFr (opt := [_]) M2 ho
  simp only [addA_mk, Nat.zero_add]
  refine M3.1.stK 0 (off := 0) (c := [_, _, _, _]) rfl (by simp) rfl fun w3 M3 => SomeK.of _ rfl ?_
  refine M3.stK 0 (off := 1) (c := [_, _, _, _]) rfl (by simp) rfl fun w4 M4 => ?_
  exact ⟨trivial, _, _, _, _, _, _, M4.imp fun w' h => ⟨h.1, h.2.imp fun w'' h => ⟨h, Nat.le_refl _, StrsAt.nil, Nat.le_refl _⟩⟩⟩

theorem wrong_write (w : World) (q : Addr) (b : Nat) (s : ByteArray) {a a1 : Option Addr} {l c l1 c1 : Nat} (d : Dk) (hq : w.cell? q = some (.string s)) (hb : CellsAt w ⟨b, 0, none⟩ [.slice a l c, .slice a1 l1 c1, .int .i64 d.fuse, .bool d.dead])
    (hl : l = d.S.length) (hl1 : l1 = d.P.length) (hn : d.S.length + d.P.length ≤ 1000000) :
    ∀ w1, Keep [] w w1 → FnK Try.prog true (.func (.func 30) #[] #[.pointer (some q), .pointer (some ⟨b, 0, none⟩)]) #[] w1 (Ret w1 (.int .i64 (wrongWrite d s))) := by
  intro w1 hk
  refine calls_ret (F30_calls _ _ _ _ ?_)
  refine SomeK.of _ rfl ⟨_, hk.cell hq (by simp), ?_⟩
  refine CallK.ret (fits_31 w1 s) fun w2 hw2 => ⟨_, rfl, ?_⟩
  have hk2 := hk.trans0 hw2
  have hb2 := hb.keep hk2 (by simp)
  refine SplitK.of (fun h => ?_) (fun h => ?_)
  · have : isLong s = true := by
      cases hs : isLong s
      · simp [hs] at h
      · rfl
    exact ⟨by simp [wrongWrite, this], hw2⟩
  · have : isLong s = false := by
      cases hs : isLong s
      · rfl
      · simp [hs] at h
    refine SomeK.of _ rfl ⟨_, _, _, hb2 0 _ rfl, SomeK.of _ rfl ⟨_, _, _, hb2 1 _ rfl, ?_⟩⟩
    rw [addI_i64 (by simp; omega) (by simp; omega)]
    refine SplitK.of (fun h => ?_) (fun h => ?_)
    · simp at h
      exact ⟨by simp [wrongWrite, this]; omega, hw2⟩
    · simp at h
      exact ⟨by simp [wrongWrite, this]; omega, hw2⟩

def wrongSwap (s : ByteArray) : Int := if isLong s then 4 else 0

theorem wrong_swap (w : World) (q : Addr) (s : ByteArray) (hq : w.cell? q = some (.string s)) :
    ∀ w1, Keep [] w w1 → FnK Try.prog true (.func (.func 35) #[] #[.pointer (some q)]) #[] w1 (Ret w1 (.int .i64 (wrongSwap s))) := by
  intro w1 hk
  refine calls_ret (F35_calls _ _ _ ?_)
  refine SomeK.of _ rfl ⟨_, hk.cell hq (by simp), ?_⟩
  exact CallK.ret (fits_31 w1 s) fun w2 hw2 => ⟨_, rfl, rfl, hw2⟩

theorem wrong_none (w : World) : ∀ w1, Keep [] w w1 → FnK Try.prog true (.func (.func 33) #[] #[]) #[] w1 (Ret w1 (.int .i64 0)) := by
  intro w1 hk
  exact calls_ret (F33_calls _ _ ⟨rfl, Keep.refl _ _⟩)

def Dk.write (d : Dk) (s : ByteArray) : Dk := d.step (wrongWrite d s) fun d => ⟨d.S, d.P ++ [s], d.fuse, d.dead⟩
def Dk.writeE (d : Dk) (s : ByteArray) : Int := d.stepE (wrongWrite d s)
def Dk.sync (d : Dk) : Dk := d.step 0 fun d => ⟨d.S ++ d.P, [], d.fuse, d.dead⟩
def Dk.syncE (d : Dk) : Int := d.stepE 0
def Dk.swap (d : Dk) (s : ByteArray) : Dk := d.step (wrongSwap s) fun d => ⟨[s], [], d.fuse, d.dead⟩
def Dk.swapE (d : Dk) (s : ByteArray) : Int := d.stepE (wrongSwap s)

theorem write_22 (w : World) {a a1 : Option Addr} {l c l1 c1 : Nat} {d : Dk} (s : ByteArray) (h : DskAt w a l c a1 l1 c1 d) (hb : d.S.length + d.P.length ≤ 1000000)
    (hfz : -9223372036854775808 ≤ d.fuse ∧ d.fuse ≤ 9223372036854775807) :
    Calls Try.prog 22 #[.agg #[.slice a l c, .slice a1 l1 c1, .int .i64 d.fuse, .bool d.dead], .string s] w (RetE w (d.write s) (d.writeE s)) := by
  refine calls_retE (F22_calls _ _ _ _ _ _ _ _ _ _ _ ?_)
  refine (Mem.start w).newK fun b w1 M => ?_
  refine M.newK fun b1 w2 M => ?_
  refine M.newK fun b2 w3 M => ?_
  refine ⟨_, _, _, _, _, _, _, _, M.cells 2 (c := [_, _, _, _]) rfl, ?_⟩
  have hq := M.cell 1 (off := 0) (c := [_]) rfl rfl
  have h3 := h.keep0 M.keep
  refine (step_29 w3 (wrong := wrongWrite d s) h3 hb hfz (fun _ => wrong_write w3 _ b s d hq (M.cells 2 (c := [_, _, _, _]) rfl) h.1.1 h.2.2.1.1 hb) (fun _ => do_write w3 _ s d hq hb)).mono ?_
  rintro e w4 ⟨a2, l2, c2, a3, l3, c3, rfl, hr, hK⟩
  refine ⟨_, _, _, _, _, _, _, _, _, rfl, ?_⟩
  have M4 := M.callFr hK hr
  refine M4.stK 0 (c := [_, _, _, _]) rfl (by simp) rfl fun w5 M5 => ?_
  exact ⟨_, _, _, _, _, _, _, _, M5.cells 0 (c := [_, _, _, _]) rfl, _, _, _, _, _, _, rfl, M5.now.2, M5.keep⟩

theorem sync_23 (w : World) {a a1 : Option Addr} {l c l1 c1 : Nat} {d : Dk} (h : DskAt w a l c a1 l1 c1 d) (hb : d.S.length + d.P.length ≤ 1000000)
    (hfz : -9223372036854775808 ≤ d.fuse ∧ d.fuse ≤ 9223372036854775807) :
    Calls Try.prog 23 #[.agg #[.slice a l c, .slice a1 l1 c1, .int .i64 d.fuse, .bool d.dead]] w (RetE w d.sync d.syncE) := by
  refine calls_retE (F23_calls _ _ _ _ _ _ _ _ _ _ ?_)
  refine (Mem.start w).newK fun b w1 M => ?_
  refine M.newK fun b2 w3 M => ?_
  refine ⟨_, _, _, _, _, _, _, _, M.cells 1 (c := [_, _, _, _]) rfl, ?_⟩
  have h3 := h.keep0 M.keep
  refine (step_29 w3 (wrong := 0) h3 hb hfz (fun _ => wrong_none w3) (fun _ => do_sync w3 d hb)).mono ?_
  rintro e w4 ⟨a2, l2, c2, a3, l3, c3, rfl, hr, hK⟩
  refine ⟨_, _, _, _, _, _, _, _, _, rfl, ?_⟩
  have M4 := M.callFr hK hr
  refine M4.stK 0 (c := [_, _, _, _]) rfl (by simp) rfl fun w5 M5 => ?_
  exact ⟨_, _, _, _, _, _, _, _, M5.cells 0 (c := [_, _, _, _]) rfl, _, _, _, _, _, _, rfl, M5.now.2, M5.keep⟩

theorem swap_24 (w : World) {a a1 : Option Addr} {l c l1 c1 : Nat} {d : Dk} (s : ByteArray) (h : DskAt w a l c a1 l1 c1 d) (hb : d.S.length + d.P.length ≤ 1000000)
    (hfz : -9223372036854775808 ≤ d.fuse ∧ d.fuse ≤ 9223372036854775807) :
    Calls Try.prog 24 #[.agg #[.slice a l c, .slice a1 l1 c1, .int .i64 d.fuse, .bool d.dead], .string s] w (RetE w (d.swap s) (d.swapE s)) := by
  refine calls_retE (F24_calls _ _ _ _ _ _ _ _ _ _ _ ?_)
  refine (Mem.start w).newK fun b w1 M => ?_
  refine M.newK fun b1 w2 M => ?_
  refine M.newK fun b2 w3 M => ?_
  refine ⟨_, _, _, _, _, _, _, _, M.cells 2 (c := [_, _, _, _]) rfl, ?_⟩
  have hq := M.cell 1 (off := 0) (c := [_]) rfl rfl
  have h3 := h.keep0 M.keep
  refine (step_29 w3 (wrong := wrongSwap s) h3 hb hfz (fun _ => wrong_swap w3 _ s hq) (fun _ => do_swap w3 _ s d hq)).mono ?_
  rintro e w4 ⟨a2, l2, c2, a3, l3, c3, rfl, hr, hK⟩
  refine ⟨_, _, _, _, _, _, _, _, _, rfl, ?_⟩
  have M4 := M.callFr hK hr
  refine M4.stK 0 (c := [_, _, _, _]) rfl (by simp) rfl fun w5 M5 => ?_
  exact ⟨_, _, _, _, _, _, _, _, M5.cells 0 (c := [_, _, _, _]) rfl, _, _, _, _, _, _, rfl, M5.now.2, M5.keep⟩

end Go.Proofs.Ytcjlilddhhnikaa
