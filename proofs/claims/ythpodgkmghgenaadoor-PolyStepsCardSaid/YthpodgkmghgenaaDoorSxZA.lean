/-
  A part of the proof: ZA.
-/
import Derived.Test.YthpodgkmghgenaaDoorSxYI
import Derived.Test.YthpodgkmghgenaaDoorSxDigits
import Derived.Test.YthpodgkmghgenaaDoorSxLoads
namespace Go.Proofs.YthpodgkmghgenaaDoor
open Go Go.Sx Go.Oct Go.Poly
set_option linter.unusedVariables false

def i64s (l : List Nat) : List Value := l.map fun (n : Nat) => Value.int .i64 (n : Int)
theorem i64s_length (l : List Nat) : (i64s l).length = l.length := by simp [i64s]
theorem i64s_at {l : List Nat} {j : Nat} (hj : j < l.length) : (i64s l)[j]? = some (.int .i64 ((l.getD j 0 : Nat) : Int)) := by
  simp [i64s, List.getD_eq_getElem?_getD, List.getElem?_eq_getElem hj]
theorem i64s_snoc (l : List Nat) (x : Nat) : i64s l ++ [.int .i64 (x : Int)] = i64s (l ++ [x]) := by simp [i64s]
theorem row_at {w : World} {a : Option Addr} {l : Nat} {xs : List Nat} (h : VsAt w a l (i64s xs)) {j : Nat} (hj : j < xs.length) :
    ∃ p, a = some p ∧ w.cell? (addA p (mulN (intN (j : Int)) 1)) = some (.int .i64 ((xs.getD j 0 : Nat) : Int)) := by
  obtain ⟨p, hp, hc⟩ := h.ptr (by rw [i64s_length]; omega)
  exact ⟨p, hp, by rw [addA_int]; exact hc j _ (i64s_at hj)⟩

theorem x_at (w : World) {a : Option Addr} {l c : Nat} {xs : List Nat} (h : VsAt w a l (i64s xs)) (i : Nat) : Calls Tryd.prog 39 #[.slice a l c, .int .i64 i] w (Ret w (.int .i64 ((xs.getD i 0 : Nat) : Int))) := by
  refine calls_ret (F39_calls _ _ _ _ _ _ ?_)
  have hl : l = xs.length := by have := h.1; rwa [i64s_length] at this
  intro K hK
  refine SplitK.t (by simp) (hK _ _ fun _ => SplitK.of (fun hb => ?_) (fun hb => ?_))
  · simp at hb
    have hb : i < xs.length := by omega
    obtain ⟨p, hp, hc⟩ := row_at h hb
    exact ⟨by omega, by simp; omega, SomeK.of p hp ⟨_, hc, rfl, Keep.refl _ _⟩⟩
  · simp at hb
    have hb : xs.length ≤ i := by omega
    refine ⟨?_, Keep.refl _ _⟩
    rw [List.getD_eq_getElem?_getD, List.getElem?_eq_none hb]; rfl

theorem x_carried (w : World) {a : Option Addr} {l c : Nat} {xs : List Nat} (h : VsAt w a l (i64s xs)) (hx : ∀ x ∈ xs, x ≤ 1099511627776) (n : Nat) (hn : n ≤ 1000) : Calls Tryd.prog 27 #[.slice a l c, .int .i64 n] w (RetV w (i64s (digs (D xs) n))) := by
  refine calls_retV (F27_calls _ _ _ _ _ _ ?_)
  refine ⟨fun m vs W => ∃ (i : Nat) (opt : List (Nat × Obj)) (a : Option Addr) (l c : Nat), vs = [.slice a l c, .int .i64 ((D (xs.take i) / 256 ^ i : Nat) : Int), .int .i64 i] ∧ i + m = n ∧ OwnM opt 3 a l c (i64s (digs (D xs) i)) ∧ Mem w [] (opt ++ []) (fun _ => True) W,
    ⟨n, 0, [], none, 0, 0, by simp [D], by omega, OwnM.nil, Mem.start w⟩, ?_⟩
  rintro m vs W ⟨i, opt, a1, l1, c1, rfl, hi, ho, M⟩
  refine ⟨_, _, _, _, _, rfl, fun _ => SplitK.of (fun hlt => ?_) (fun hlt => ?_)⟩
  · simp at hlt
    have hin : i < n := by omega
    refine CallK.ret (x_at W (h.keep0 M.keep) i) fun w2 k => ⟨_, rfl, by decide, ?_⟩
    have M := M.call k
    have hcb : D (xs.take i) / 256 ^ i ≤ 1099511627776 := Nat.div_le_of_le_mul (by rw [Nat.mul_comm]; exact D_le hx i)
    have hgb : xs.getD i 0 ≤ 1099511627776 := by
      rw [List.getD_eq_getElem?_getD]
      cases hi : xs[i]? with
      | none => simp
      | some x => simpa using hx x (List.mem_of_getElem? hi)
    obtain ⟨s1, s2⟩ := carry_step xs i
    have ea : addI .i64 ((D (xs.take i) / 256 ^ i : Nat) : Int) ((xs.getD i 0 : Nat) : Int) = ((D (xs.take i) / 256 ^ i + xs.getD i 0 : Nat) : Int) := addI_nat _ _ (by omega)
    have er : remI ((D (xs.take i) / 256 ^ i + xs.getD i 0 : Nat) : Int) 256 = ((D xs / 256 ^ i % 256 : Nat) : Int) := by rw [← s1]; exact remI_nat _ 256
    have eq : quoI .i64 ((D (xs.take i) / 256 ^ i + xs.getD i 0 : Nat) : Int) 256 = ((D (xs.take (i + 1)) / 256 ^ (i + 1) : Nat) : Int) := by rw [← s2]; exact quoI_nat _ 256 (by omega)
    rw [ea, er, eq]
    refine M.newK fun b w3 M => ⟨_, M.old1, ne1, ?_⟩
    refine Mem.appK M.tail ho rfl rfl (by rw [i64s_length, digs_length]; omega) (by rw [i64s_length, digs_length]; omega) ?_
    intro a' l' c' opt' w' ho' M' hl
    refine ⟨by decide, m - 1, by omega, i + 1, opt', a', l', c', by rw [addI_one (by omega)], by omega, ?_, M'⟩
    rw [i64s_snoc, ← digs_succ] at ho'
    exact ho'
  · simp at hlt
    have : i = n := by omega
    subst this
    exact ⟨_, _, _, rfl, OwnM.freshV ho M, M.keep⟩

theorem x_text (w : World) {a : Option Addr} {l c : Nat} (v n : Nat) (hn : n ≤ 1000) (h : VsAt w a l (i64s (digs v n))) : Calls Tryd.prog 25 #[.slice a l c] w (Ret w (.string (bs (lowL v n)))) := by
  refine calls_ret (F25_calls _ _ _ _ _ ?_)
  have hl : l = n := by have := h.1; rwa [i64s_length, digs_length] at this
  refine ⟨fun m vs W => ∃ i : Nat, vs = [.string (bs (lowL v i)), .int .i64 i] ∧ i + m = n ∧ Keep [] w W, ⟨n, 0, rfl, by omega, Keep.refl _ _⟩, ?_⟩
  rintro m vs W ⟨i, rfl, hi, k⟩
  refine ⟨_, _, rfl, fun _ => SplitK.of (fun hlt => ?_) (fun hlt => ?_)⟩
  · simp at hlt
    have hin : i < n := by omega
    obtain ⟨p, hp, hc⟩ := row_at (h.keep0 k) (j := i) (by rw [digs_length]; exact hin)
    rw [digs_getD, if_pos hin] at hc
    refine ⟨by omega, by simp; omega, SomeK.of p hp ⟨_, hc, ?_⟩⟩
    refine (Mem.start W).newK fun b w2 M => ?_
    rw [wrapI_u8, Nat.mod_mod, byteV_ofNat] at M
    refine ⟨[UInt8.ofNat (v / 256 ^ i)], M.bytes 0 (T := 5) (fr := (0, 0)) rfl rfl, by simp; omega, m - 1, by omega, i + 1, ?_, by omega, k.trans0 M.keep⟩
    rw [catS_bs, ← lowL_succ, addI_one (by omega)]
  · simp at hlt
    have : i = n := by omega
    subst this
    exact ⟨rfl, k⟩

end Go.Proofs.YthpodgkmghgenaaDoor
