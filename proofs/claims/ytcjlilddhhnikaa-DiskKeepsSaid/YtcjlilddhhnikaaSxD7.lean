/-
  A part of the proof: D7.
-/
import Derived.Test.YtcjlilddhhnikaaSxD6
namespace Go.Proofs.Ytcjlilddhhnikaa
open Go Go.Sx
set_option linter.unusedVariables false

def Dk.act (d : Dk) (k : Int) (s : ByteArray) (keep fuse : Int) : Dk := if k = 0 then d.write s else if k = 1 then d.sync else if k = 2 then d.swap s else d.crash keep fuse
def Dk.actE (d : Dk) (k : Int) (s : ByteArray) (keep fuse : Int) : Int := if k = 0 then d.writeE s else if k = 1 then d.syncE else if k = 2 then d.swapE s else 0

theorem act_11 (w : World) {a a1 : Option Addr} {l c l1 c1 : Nat} {d : Dk} (k : Int) (s : ByteArray) (keep fuse : Int) (h : DskAt w a l c a1 l1 c1 d) (hb : d.S.length + d.P.length ≤ 1000000)
    (hfz : -9223372036854775808 ≤ d.fuse ∧ d.fuse ≤ 9223372036854775807) :
    Calls Try.prog 11 #[.agg #[.slice a l c, .slice a1 l1 c1, .int .i64 d.fuse, .bool d.dead], .agg #[.int .i64 k, .string s, .int .i64 keep, .int .i64 fuse]] w (RetE w (d.act k s keep fuse) (d.actE k s keep fuse)) := by
  refine calls_retE (F11_calls _ _ _ _ _ _ _ _ _ _ _ _ _ _ ?_)
  refine (Mem.start w).newK fun b w1 M => ?_
  refine M.newK fun b1 w2 M => ?_
  refine M.newK fun b2 w3 M => ?_
  have h3 := h.keep0 M.keep
  simp only [addA_mk, Nat.zero_add]
  refine ⟨_, M.cell 1 (c := [_, _, _, _]) rfl rfl, SplitK.of (fun hk => ?_) (fun hk => ?_)⟩
  · simp at hk
    refine ⟨_, _, _, _, _, _, _, _, M.cells 2 (c := [_, _, _, _]) rfl, _, M.cell 1 (c := [_, _, _, _]) rfl rfl, ?_⟩
    refine (write_22 w3 s h3 hb hfz).mono ?_
    rintro e w4 ⟨a2, l2, c2, a3, l3, c3, rfl, hr, hK⟩
    refine ⟨_, _, _, _, _, _, _, _, _, rfl, ?_⟩
    refine (M.callFr hK hr).stK 0 (c := [_, _, _, _]) rfl (by simp) rfl fun w5 M5 => ?_
    have e1 : d.act k s keep fuse = d.write s := by simp [Dk.act, hk]
    have e2 : d.actE k s keep fuse = d.writeE s := by simp [Dk.actE, hk]
    rw [e1, e2]
    exact ⟨_, _, _, _, _, _, _, _, M5.cells 0 (c := [_, _, _, _]) rfl, _, _, _, _, _, _, rfl, M5.now.2, M5.keep⟩
  simp at hk
  refine ⟨_, M.cell 1 (c := [_, _, _, _]) rfl rfl, SplitK.of (fun hk1 => ?_) (fun hk1 => ?_)⟩
  · simp at hk1
    refine ⟨_, _, _, _, _, _, _, _, M.cells 2 (c := [_, _, _, _]) rfl, ?_⟩
    refine (sync_23 w3 h3 hb hfz).mono ?_
    rintro e w4 ⟨a2, l2, c2, a3, l3, c3, rfl, hr, hK⟩
    refine ⟨_, _, _, _, _, _, _, _, _, rfl, ?_⟩
    refine (M.callFr hK hr).stK 0 (c := [_, _, _, _]) rfl (by simp) rfl fun w5 M5 => ?_
    have e1 : d.act k s keep fuse = d.sync := by simp [Dk.act, hk1]
    have e2 : d.actE k s keep fuse = d.syncE := by simp [Dk.actE, hk1]
    rw [e1, e2]
    exact ⟨_, _, _, _, _, _, _, _, M5.cells 0 (c := [_, _, _, _]) rfl, _, _, _, _, _, _, rfl, M5.now.2, M5.keep⟩
  simp at hk1
  refine ⟨_, M.cell 1 (c := [_, _, _, _]) rfl rfl, SplitK.of (fun hk2 => ?_) (fun hk2 => ?_)⟩
  · simp at hk2
    refine ⟨_, _, _, _, _, _, _, _, M.cells 2 (c := [_, _, _, _]) rfl, _, M.cell 1 (c := [_, _, _, _]) rfl rfl, ?_⟩
    refine (swap_24 w3 s h3 hb hfz).mono ?_
    rintro e w4 ⟨a2, l2, c2, a3, l3, c3, rfl, hr, hK⟩
    refine ⟨_, _, _, _, _, _, _, _, _, rfl, ?_⟩
    refine (M.callFr hK hr).stK 0 (c := [_, _, _, _]) rfl (by simp) rfl fun w5 M5 => ?_
    have e1 : d.act k s keep fuse = d.swap s := by simp [Dk.act, hk2]
    have e2 : d.actE k s keep fuse = d.swapE s := by simp [Dk.actE, hk2]
    rw [e1, e2]
    exact ⟨_, _, _, _, _, _, _, _, M5.cells 0 (c := [_, _, _, _]) rfl, _, _, _, _, _, _, rfl, M5.now.2, M5.keep⟩
  simp at hk2
  refine ⟨_, _, _, _, _, _, _, _, M.cells 2 (c := [_, _, _, _]) rfl, _, M.cell 1 (c := [_, _, _, _]) rfl rfl, _, M.cell 1 (c := [_, _, _, _]) rfl rfl, ?_⟩
  refine (crash_21 w3 keep fuse h3 hb).mono ?_
  rintro e w4 ⟨a2, l2, c2, a3, l3, c3, rfl, hr, hK⟩
  refine ⟨_, _, _, _, _, _, _, _, rfl, ?_⟩
  refine (M.callFr hK hr).stK 0 (c := [_, _, _, _]) rfl (by simp) rfl fun w5 M5 => ?_
  have e1 : d.act k s keep fuse = d.crash keep fuse := by simp [Dk.act, hk, hk1, hk2]
  have e2 : d.actE k s keep fuse = 0 := by simp [Dk.actE, hk, hk1, hk2]
  rw [e1, e2]
  exact ⟨_, _, _, _, _, _, _, _, M5.cells 0 (c := [_, _, _, _]) rfl, _, _, _, _, _, _, rfl, M5.now.2, M5.keep⟩

/-- Are records so few, and so short? -/
def fewB (xs : List ByteArray) : Bool := decide (xs.length ≤ 520) && (xs.take 521).all fun s => decide (s.size ≤ 100)

theorem few_8 (w : World) {a : Option Addr} {l c : Nat} {xs : List ByteArray} (h : StrsAt w a l xs) :
    Calls Try.prog 8 #[.slice a l c] w (fun e w' => ∃ r : Bool, e = .returned (.bool r) ∧ (r = true → xs.length ≤ 520 ∧ ∀ s ∈ xs, s.size ≤ 100) ∧ Keep [] w w') := by
  refine (F8_calls _ _ _ w (fun v w' => ∃ r : Bool, v = .bool r ∧ (r = true → xs.length ≤ 520 ∧ ∀ s ∈ xs, s.size ≤ 100) ∧ Keep [] w w') ?_).mono (fun e w' ⟨v, he, r, hv, h⟩ => ⟨r, by rw [he, hv], h⟩)
  have e1 := h.1
  refine ⟨fun n vs w1 => ∃ k : Nat, vs = [.int .i64 (k : Int)] ∧ k + n = 522 ∧ k ≤ xs.length ∧ (∀ s ∈ xs.take k, s.size ≤ 100) ∧ Keep [] w w1, ⟨522, 0, rfl, by omega, by omega, by simp, Keep.refl _ _⟩, ?_⟩
  rintro n vs w1 ⟨k, rfl, hk, hkl, hall, hK⟩
  refine ⟨k, rfl, fun _ K hKK => ?_⟩
  have stop : (¬ (k < xs.length) ∨ ¬ k ≤ 520) → K [.bool false] w1 := by
    intro hs
    refine hKK _ _ fun _ => ⟨_, rfl, ?_, hK⟩
    intro hr
    simp at hr
    have : xs.length ≤ 520 := by omega
    refine ⟨this, ?_⟩
    rw [List.take_of_length_le (by omega)] at hall
    exact hall
  refine SplitK.of (fun hh => ?_) (fun hh => ?_)
  · simp at hh
    by_cases h5 : k ≤ 520
    case neg =>
      have : leI (k : Int) 520 = false := by simp; omega
      rw [this]
      exact stop (.inr h5)
    have : leI (k : Int) 520 = true := by simp; omega
    rw [this]
    refine hKK _ _ fun _ => ?_
    have hkx : k < xs.length := by omega
    obtain ⟨p, hp, hpc⟩ := h.get hkx
    refine ⟨by omega, by simp; omega, SomeK.of p hp ⟨_, by rw [addA_int]; exact hK.cell hpc (by simp), ?_⟩⟩
    refine SplitK.of (fun hs => ?_) (fun hs => ?_)
    · exact ⟨false, rfl, by simp, hK⟩
    · simp at hs
      refine ⟨n - 1, by omega, k + 1, by rw [addI_one (by omega)], by omega, by omega, ?_, hK⟩
      intro s hm
      rw [List.take_succ_eq_append_getElem hkx] at hm
      rcases List.mem_append.1 hm with hm | hm
      · exact hall s hm
      · simp at hm; subst hm; omega
  · simp at hh
    exact stop (.inl (by omega))

end Go.Proofs.Ytcjlilddhhnikaa
