/-
  A part of the proof: RE.
-/
import Derived.Test.YtgecpbplbkpdlaaSxRD
namespace Go.Proofs.Ytgecpbplbkpdlaa
open Go Go.Sx
set_option maxRecDepth 100000

/-- The world in which a reader begins: what it tells, whether it could, and itself. -/
def readW (s : ByteArray) (w : World) : World := ((w.alloc (.cells #[.string ⟨#[]⟩] 9)).alloc (.cells #[.bool false] 4)).alloc (.cells #[.string s] 131)

theorem keep_set (w : World) (b : Nat) (v : Value) : Keep [b] w (w.setCell ⟨b, 0, none⟩ v) :=
  ⟨rfl, rfl, rfl, by simp, fun k hk hn => setCell_other (p := ⟨b, 0, none⟩) (by simpa using hn)⟩
theorem keep_sets (w : World) (a b : Nat) (x y : Value) : Keep [a, b] w ((w.setCell ⟨a, 0, none⟩ x).setCell ⟨b, 0, none⟩ y) :=
  ((keep_set w a x).mono fun i hi => .inl (by simp at hi; simp [hi])).trans (keep_set _ b y) fun i hi => .inl (by simp at hi; simp [hi])
theorem keep_two (w : World) (a b : Nat) (x y : Value) (o : Obj) : Keep [a, b] w (((w.setCell ⟨a, 0, none⟩ x).setCell ⟨b, 0, none⟩ y).alloc o) := (keep_sets w a b x y).trans0 (Keep.alloc _ _)
theorem keep_two' (w : World) (a b : Nat) (x y : Value) (o : Obj) : Keep [a, b] w (((w.alloc o).setCell ⟨a, 0, none⟩ x).setCell ⟨b, 0, none⟩ y) := ((Keep.alloc w o).mono (by simp)).trans (keep_sets _ a b x y) fun i hi => .inl hi
theorem two_0' {W : World} {p q : Addr} {u x v : Value} (h : W.cell? p = some u) (hpq : p ≠ q) : ((W.setCell p x).setCell q v).cell? p = some x := by
  rw [World.cell?_setCell_other (h := fun e => hpq e.symm)]; exact World.cell?_setCell_same _ _ _ h
theorem two_1' {W : World} {p q : Addr} {u x v : Value} (h : W.cell? q = some u) : ((W.setCell p x).setCell q v).cell? q = some v := by
  obtain ⟨u', hu⟩ := cell_setCell_some W p q x ⟨u, h⟩
  exact World.cell?_setCell_same _ _ _ hu
theorem two_0 {W : World} {p q : Addr} {u x v : Value} {o : Obj} (h : W.cell? p = some u) (hpq : p ≠ q) : (((W.setCell p x).setCell q v).alloc o).cell? p = some x := (Keep.alloc _ o).cell (two_0' h hpq) (by simp)
theorem two_1 {W : World} {p q : Addr} {u x v : Value} {o : Obj} (h : W.cell? q = some u) : (((W.setCell p x).setCell q v).alloc o).cell? q = some v := (Keep.alloc _ o).cell (two_1' h) (by simp)
theorem readW_0 (s : ByteArray) (w : World) : (readW s w).heap[w.heap.size]? = some (.cells #[.string ⟨#[]⟩] 9 (0, 0)) := by
  show (((w.heap.push _).push _).push _)[w.heap.size]? = _
  rw [Array.getElem?_push, if_neg (by simp only [Array.size_push]; omega), Array.getElem?_push, if_neg (by simp only [Array.size_push]; omega), Array.getElem?_push, if_pos rfl]
theorem readW_1 (s : ByteArray) (w : World) : (readW s w).heap[w.heap.size + 1]? = some (.cells #[.bool false] 4 (0, 0)) := by
  show (((w.heap.push _).push _).push _)[w.heap.size + 1]? = _
  rw [Array.getElem?_push, if_neg (by simp only [Array.size_push]; omega), Array.getElem?_push, if_pos (by simp only [Array.size_push])]

theorem w_read (s : ByteArray) (g : FuncId) (hen : ∀ args w, (callFunc g args).run Try.prog w = .ok (.enter g args) w) (cap : Value) (w : World) (ids : List Nat) (hids : ∀ i ∈ ids, i < w.heap.size ∨ w.heap.size + 2 ≤ i) (G : Bool → World → Prop)
    (h : Calls Try.prog g #[.pointer (some ⟨w.heap.size + 2, 0, none⟩), cap] (readW s w) fun e w' => Keep ids (readW s w) w' ∧ ((e = .returned (.tuple #[]) ∧ (∃ t, w'.cell? ⟨w.heap.size + 2, 0, none⟩ = some (.string t)) ∧ G true w') ∨ (e = .panicked [oddP false] ∧ G false w')))
    (hG : ∀ ok w' w'', G ok w' → Keep [w.heap.size, w.heap.size + 1] w' w'' → G ok w'') :
    Calls Try.prog 71 #[.string s, .func (.func g) #[] #[cap]] w fun e w' => ∃ ok t, e = .returned (.tuple #[.string t, .bool ok]) ∧ G ok w' ∧ Keep ids w w' := by
  have hmf : ∀ (fn : Fn) (first cap : Array Value) (w : World), (Instr.makeFunc fn first cap).run Try.prog w = .ok (.func fn first cap) w := fun _ _ _ _ => rfl
  go_enter_defers Try.func71, Try.ntmps71
  go_wp2
  refine h.mono ?_
  rintro e w' ⟨hk, hcase⟩
  have n0 : w'.heap[w.heap.size]? = some (.cells #[.string ⟨#[]⟩] 9 (0, 0)) := by
    rw [hk.block _ (by simp [readW]; omega) (fun hm => by rcases hids _ hm with h | h <;> omega)]
    exact readW_0 s w
  have n1 : w'.heap[w.heap.size + 1]? = some (.cells #[.bool false] 4 (0, 0)) := by
    rw [hk.block _ (by simp [readW]) (fun hm => by rcases hids _ hm with h | h <;> omega)]
    exact readW_1 s w
  have c0 : w'.cell? ⟨w.heap.size, 0, none⟩ = some (.string ⟨#[]⟩) := cell_of_block n0 rfl
  have c1 : w'.cell? ⟨w.heap.size + 1, 0, none⟩ = some (.bool false) := cell_of_block n1 rfl
  have z0 : w'.frozen? ⟨w.heap.size, 0, none⟩ = false := frozen_of_block n0 (by simp)
  have z1 : w'.frozen? ⟨w.heap.size + 1, 0, none⟩ = false := frozen_of_block n1 (by simp)
  have kw : Keep ids w (readW s w) := ⟨rfl, rfl, rfl, by simp [readW]; omega, fun k hk' _ => by
    show (((w.heap.push _).push _).push _)[k]? = _
    simp only [Array.getElem?_push, Array.size_push]
    rw [if_neg (by omega), if_neg (by omega), if_neg (by omega)]⟩
  have K0 : Keep ids w w' := kw.trans hk fun i hi => .inl hi
  rcases hcase with ⟨rfl, ⟨t, ht⟩, hg⟩ | ⟨rfl, hg⟩
  · have z1' : (w'.setCell ⟨w.heap.size, 0, none⟩ (.string t)).frozen? ⟨w.heap.size + 1, 0, none⟩ = false := by rw [frozen_setCell]; exact z1
    have c1' : (w'.setCell ⟨w.heap.size, 0, none⟩ (.string t)).cell? ⟨w.heap.size + 1, 0, none⟩ = some (.bool false) := by
      rw [World.cell?_setCell_other (h := by simp)]; exact c1
    go_wp2
    refine leaves_cons (f := 79) (args := #[.pointer (some ⟨w.heap.size, 0, none⟩), .pointer (some ⟨w.heap.size + 1, 0, none⟩)]) (by simp) (by simp [go_sem]) ?_
    refine (catch_idle _ _ _).mono ?_
    rintro e u' w'' ⟨rfl, rfl, rfl⟩
    simp only [Leaves, settle]
    have kk := keep_two w' w.heap.size (w.heap.size + 1) (.string t) (.bool true) (.cells #[] 138 (0, 0))
    have r0 := two_0 (W := w') (v := .bool true) (o := .cells #[] 138 (0, 0)) c0 (show (⟨w.heap.size, 0, none⟩ : Addr) ≠ ⟨w.heap.size + 1, 0, none⟩ by simp) (x := .string t)
    have r1 := two_1 (W := w') (x := .string t) (o := .cells #[] 138 (0, 0)) (p := ⟨w.heap.size, 0, none⟩) (q := ⟨w.heap.size + 1, 0, none⟩) (v := .bool true) c1
    generalize (((w'.setCell ⟨w.heap.size, 0, none⟩ (.string t)).setCell ⟨w.heap.size + 1, 0, none⟩ (.bool true)).alloc (.cells #[] 138 (0, 0))) = W at *
    refine ⟨.tuple #[.string t, .bool true], by simp [results, Try.results71, go_sem, r0, r1], true, t, rfl, hG _ _ _ hg kk, K0.trans kk fun i hi => .inr ?_⟩
    simp at hi; omega
  · refine leaves_cons (f := 79) (args := #[.pointer (some ⟨w.heap.size, 0, none⟩), .pointer (some ⟨w.heap.size + 1, 0, none⟩)]) (by simp) (by simp [go_sem]) ?_
    have ka := Keep.alloc w' (.cells #[] 138 (0, 0))
    have d0 : (w'.alloc (.cells #[] 138 (0, 0))).cell? ⟨w.heap.size, 0, none⟩ = some (.string ⟨#[]⟩) := ka.cell c0 (by simp)
    have d1 : (w'.alloc (.cells #[] 138 (0, 0))).cell? ⟨w.heap.size + 1, 0, none⟩ = some (.bool false) := ka.cell c1 (by simp)
    have n0' : (w'.alloc (.cells #[] 138 (0, 0))).heap[w.heap.size]? = _ := (ka.block _ (block_lt c0) (by simp)).trans n0
    have n1' : (w'.alloc (.cells #[] 138 (0, 0))).heap[w.heap.size + 1]? = _ := (ka.block _ (block_lt c1) (by simp)).trans n1
    refine (catch_odd ⟨w.heap.size, 0, none⟩ ⟨w.heap.size + 1, 0, none⟩ [] _ d0 (frozen_of_block n0' (by simp)) d1 (frozen_of_block n1' (by simp)) (by simp)).mono ?_
    rintro e u' w'' ⟨rfl, rfl, rfl⟩
    simp only [Leaves, settle, oddP, List.dropWhile]
    have kk := keep_two' w' w.heap.size (w.heap.size + 1) (.string ⟨#[]⟩) (.bool false) (.cells #[] 138 (0, 0))
    have r0 := two_0' (W := w'.alloc (.cells #[] 138 (0, 0))) (v := .bool false) d0 (show (⟨w.heap.size, 0, none⟩ : Addr) ≠ ⟨w.heap.size + 1, 0, none⟩ by simp) (x := .string ⟨#[]⟩)
    have r1 := two_1' (W := w'.alloc (.cells #[] 138 (0, 0))) (x := .string ⟨#[]⟩) (p := ⟨w.heap.size, 0, none⟩) (q := ⟨w.heap.size + 1, 0, none⟩) (v := .bool false) d1
    generalize (((w'.alloc (.cells #[] 138 (0, 0))).setCell ⟨w.heap.size, 0, none⟩ (.string ⟨#[]⟩)).setCell ⟨w.heap.size + 1, 0, none⟩ (.bool false)) = W at *
    refine ⟨.tuple #[.string ⟨#[]⟩, .bool false], by simp [results, Try.results71, go_sem, r0, r1], false, _, rfl, hG _ _ _ hg kk, K0.trans kk fun i hi => .inr ?_⟩
    simp at hi; omega
end Go.Proofs.Ytgecpbplbkpdlaa
