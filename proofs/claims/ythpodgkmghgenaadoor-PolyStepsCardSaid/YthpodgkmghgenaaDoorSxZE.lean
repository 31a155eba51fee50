/-
  A part of the proof: ZE.
-/
import Derived.Test.YthpodgkmghgenaaDoorSxZD
namespace Go.Proofs.YthpodgkmghgenaaDoor
open Go Go.Sx Go.Oct Go.Poly
set_option linter.unusedVariables false

theorem num_lt (s : List UInt8) : num s < 256 ^ 17 :=
  Nat.lt_of_lt_of_le (valL_lt _) (Nat.pow_le_pow_right (by decide) (by rw [List.length_take]; omega))
theorem digs_le (v n : Nat) : ∀ x ∈ digs v n, x ≤ 1099511627776 := fun x hx => by have := digs_lt v n x hx; omega

/-- Two rows of digits, summed one by one. -/
theorem sum_row {w : World} {a a1 : Option Addr} {l l1 : Nat} {A B : Nat} {i N : Nat} (hi : i < N) (hx : VsAt w a l (i64s (digs A N))) (hy : VsAt w a1 l1 (i64s (digs B N))) :
    (∃ p, a = some p ∧ w.cell? (addA p (mulN (intN (i : Int)) 1)) = some (.int .i64 ((A / 256 ^ i % 256 : Nat) : Int))) ∧
      ∃ p, a1 = some p ∧ w.cell? (addA p (mulN (intN (i : Int)) 1)) = some (.int .i64 ((B / 256 ^ i % 256 : Nat) : Int)) := by
  obtain ⟨p, hp, hc⟩ := row_at hx (j := i) (by rw [digs_length]; exact hi)
  obtain ⟨p', hp', hc'⟩ := row_at hy (j := i) (by rw [digs_length]; exact hi)
  rw [digs_getD, if_pos hi] at hc hc'
  exact ⟨⟨p, hp, hc⟩, p', hp', hc'⟩
theorem row_all {S : World → Prop} {a : Option Addr} {l : Nat} {A N i : Nat} (hi : i < N) {w : World} (hw : S w) (hS : ∀ w, S w → VsAt w a l (i64s (digs A N))) :
    ∃ p, a = some p ∧ ∀ w, S w → w.cell? (addA p (mulN (intN (i : Int)) 1)) = some (.int .i64 ((A / 256 ^ i % 256 : Nat) : Int)) := by
  obtain ⟨p, hp, _⟩ := row_at (hS w hw) (j := i) (by rw [digs_length]; exact hi)
  refine ⟨p, hp, fun w' h => ?_⟩
  obtain ⟨p', hp', hc'⟩ := row_at (hS w' h) (j := i) (by rw [digs_length]; exact hi)
  rw [hp] at hp'; cases hp'
  rw [digs_getD, if_pos hi] at hc'
  exact hc'
theorem len_digs {w : World} {a : Option Addr} {l : Nat} {A N : Nat} (h : VsAt w a l (i64s (digs A N))) : l = N := by
  have := h.1; rwa [i64s_length, digs_length] at this

theorem x_Plus (w : World) (s t : List UInt8) (hs : s.length ≤ 1000000) (ht : t.length ≤ 1000000) : Calls Tryd.prog 10 #[.string (bs s), .string (bs t)] w (Ret w (.string (bs (lowL ((num s + num t) % PP) 17)))) := by
  refine calls_ret (F10_calls _ _ _ _ ?_)
  refine CallK.retV (x_digits w s hs) fun a l c w1 hf k1 => ⟨_, _, _, rfl, ?_⟩
  refine CallK.retV (x_digits w1 t ht) fun a1 l1 c1 w2 hf1 k2 => ⟨_, _, _, rfl, ?_⟩
  have hx := hf.now.keep0 k2
  have hy := hf1.now
  have hl := len_digs hx
  have hl1 := len_digs hy
  subst hl; subst hl1
  have M : Mem w2 [] [] (fun W => VsAt W a 17 (i64s (digs (num s) 17)) ∧ VsAt W a1 17 (i64s (digs (num t) 17))) w2 := Mem.startF w2 (fun W k => ⟨hx.keep0 k, hy.keep0 k⟩)
  have hA := num_lt s
  have hB := num_lt t
  generalize num s = A at *
  generalize num t = B at *
  refine ⟨fun m vs W => ∃ (i : Nat) (opt : List (Nat × Obj)) (a2 : Option Addr) (l2 c2 : Nat), vs = [.slice a2 l2 c2, .int .i64 i] ∧ i + m = 17 ∧ OwnM opt 3 a2 l2 c2 (i64s (sumL A B i)) ∧ Mem w2 [] (opt ++ []) (fun W => VsAt W a 17 (i64s (digs A 17)) ∧ VsAt W a1 17 (i64s (digs B 17))) W,
    ⟨17, 0, [], none, 0, 0, rfl, by omega, OwnM.nil, M⟩, ?_⟩
  clear M
  rintro m vs W ⟨i, opt, a2, l2, c2, rfl, hi, ho, M⟩
  refine ⟨_, _, _, _, rfl, fun _ => SplitK.of (fun hlt => ?_) (fun hlt => ?_)⟩
  · simp at hlt
    have hi17 : i < 17 := by omega
    intro K hK
    rintro w3 rfl
    have M := M.drew
    refine ⟨fun W => VsAt W a 17 (i64s (digs A 17)) ∧ VsAt W a1 17 (i64s (digs B 17)), M.now, ?_⟩
    obtain ⟨p, hp, hc⟩ := row_all (S := fun W => VsAt W a 17 (i64s (digs A 17)) ∧ VsAt W a1 17 (i64s (digs B 17))) hi17 M.now (fun _ h => h.1)
    obtain ⟨p', hp', hc'⟩ := row_all (S := fun W => VsAt W a 17 (i64s (digs A 17)) ∧ VsAt W a1 17 (i64s (digs B 17))) hi17 M.now (fun _ h => h.2)
    refine ⟨by omega, by simp; omega, SomeK.of p hp ⟨_, hc, by omega, by simp; omega, SomeK.of p' hp' ⟨_, hc', ?_⟩⟩⟩
    have b1 := Nat.mod_lt (A / 256 ^ i) (show 0 < 256 by decide)
    have b2 := Nat.mod_lt (B / 256 ^ i) (show 0 < 256 by decide)
    rw [addI_nat _ _ (by omega)]
    refine M.newK fun b w4 M => ⟨M.now, _, M.old1, ne1, ?_⟩
    refine Mem.appK M.tail ho rfl rfl (by rw [i64s_length, sumL_length]; omega) (by rw [i64s_length, sumL_length]; omega) ?_
    intro a' l' c' opt' w' ho' M' hl
    rw [i64s_snoc, ← sumL_succ] at ho'
    exact ⟨M'.now, hK _ _ _ _ fun _ => ⟨m - 1, by omega, i + 1, opt', a', l', c', by rw [addI_one (by omega)], by omega, ho', M'⟩⟩
  · simp at hlt
    obtain rfl : i = 17 := by omega
    refine CallK.retV (x_carried W (ho.vsAt M) (sumL_le A B 17) 18 (by decide)) fun a3 l3 c3 w3 hf3 k3 => ⟨_, _, _, rfl, ?_⟩
    rw [D_sumL, Nat.mod_eq_of_lt hA, Nat.mod_eq_of_lt hB] at hf3
    refine CallK.retV (x_left w3 (A + B) 18 (Nat.lt_of_lt_of_le (Nat.add_lt_add hA hB) (by decide)) (by decide) (by decide) hf3.now) fun a4 l4 c4 w4 hf4 k4 => ⟨_, _, _, rfl, ?_⟩
    refine CallK.ret (x_text w4 _ 17 (by decide) hf4.now) fun w5 k5 => ⟨_, rfl, rfl, ?_⟩
    exact k1.trans0 k2 |>.trans0 M.keep |>.trans0 k3 |>.trans0 k4 |>.trans0 k5

theorem x_Times (w : World) (s t : List UInt8) (hs : s.length ≤ 1000000) (ht : t.length ≤ 1000000) : Calls Tryd.prog 11 #[.string (bs s), .string (bs t)] w (Ret w (.string (bs (lowL (num s * num t % PP) 17)))) := by
  refine calls_ret (F11_calls _ _ _ _ ?_)
  refine CallK.retV (x_digits w s hs) fun a l c w1 hf k1 => ⟨_, _, _, rfl, ?_⟩
  refine CallK.retV (x_digits w1 t ht) fun a1 l1 c1 w2 hf1 k2 => ⟨_, _, _, rfl, ?_⟩
  have hx := hf.now.keep0 k2
  have hy := hf1.now
  have hl := len_digs hx
  have hl1 := len_digs hy
  subst hl; subst hl1
  have M : Mem w2 [] [] (fun W => VsAt W a 17 (i64s (digs (num s) 17)) ∧ VsAt W a1 17 (i64s (digs (num t) 17))) w2 := Mem.startF w2 (fun W k => ⟨hx.keep0 k, hy.keep0 k⟩)
  have hA := num_lt s
  have hB := num_lt t
  generalize num s = A at *
  generalize num t = B at *
  refine ⟨by decide, by decide, by decide, by decide, ?_⟩
  rintro b w3 rfl rfl
  have M := M.alloc (.cells (i64s (List.replicate 34 0)).toArray 3 (0, 0))
  refine ⟨fun m vs W => ∃ (i : Nat) (V : List Nat), vs = [.int .i64 i] ∧ i + m = 17 ∧ V.length = 34 ∧ (∀ x ∈ V, x ≤ i * 1105425) ∧ D V = D ((digs A 17).take i) * B ∧
      Mem w2 [] [(w2.heap.size, .cells (i64s V).toArray 3 (0, 0))] (fun W => VsAt W a 17 (i64s (digs A 17)) ∧ VsAt W a1 17 (i64s (digs B 17))) W,
    ⟨17, 0, List.replicate 34 0, rfl, rfl, rfl, by simp, by rw [D_zeros]; simp [D], M⟩, ?_⟩
  clear M
  rintro m vs W ⟨i, V, rfl, hi, hV, hb, hD, M⟩
  refine ⟨_, rfl, fun _ => SplitK.of (fun hlt => ?_) (fun hlt => ?_)⟩
  · simp at hlt
    have hi17 : i < 17 := by omega
    refine ⟨fun m' vs W => ∃ (k : Nat) (V' : List Nat), vs = [.int .i64 k] ∧ k + m' = 17 ∧ V'.length = 34 ∧ (∀ x ∈ V', x ≤ i * 1105425 + k * 65025) ∧ D V' = D ((digs A 17).take i) * B + A / 256 ^ i % 256 * 256 ^ i * D ((digs B 17).take k) ∧
      Mem w2 [] [(w2.heap.size, .cells (i64s V').toArray 3 (0, 0))] (fun W => VsAt W a 17 (i64s (digs A 17)) ∧ VsAt W a1 17 (i64s (digs B 17))) W,
      ⟨17, 0, V, rfl, rfl, hV, by simpa using hb, by rw [hD]; simp [D], M⟩, ?_⟩
    clear M hV hb hD V
    rintro m' vs W ⟨k, V, rfl, hk, hV, hb, hD, M⟩
    refine ⟨_, rfl, fun _ => SplitK.of (fun hlt2 => ?_) (fun hlt2 => ?_)⟩
    · simp at hlt2
      have hk17 : k < 17 := by omega
      rintro w3 rfl
      have M := M.drew
      have eik : addI .i64 (i : Int) (k : Int) = ((i + k : Nat) : Int) := addI_nat i k (by omega)
      rw [eik]
      refine ⟨fun W => VsAt W a 17 (i64s (digs A 17)) ∧ VsAt W a1 17 (i64s (digs B 17)) ∧ CellsAt W ⟨w2.heap.size, 0, none⟩ (i64s V), ⟨M.now.1, M.now.2, M.cells 0 (c := i64s V) rfl⟩, by omega, by simp; omega, ?_⟩
      refine ⟨((V.getD (i + k) 0 : Nat) : Int), fun w' h => ?_, ?_⟩
      · rw [addA_int]; exact h.2.2 (i + k) _ (i64s_at (by omega))
      obtain ⟨p, hp, hc⟩ := row_all (S := fun W => VsAt W a 17 (i64s (digs A 17)) ∧ VsAt W a1 17 (i64s (digs B 17)) ∧ CellsAt W ⟨w2.heap.size, 0, none⟩ (i64s V)) hi17 ⟨M.now.1, M.now.2, M.cells 0 (c := i64s V) rfl⟩ (fun _ h => h.1)
      obtain ⟨p', hp', hc'⟩ := row_all (S := fun W => VsAt W a 17 (i64s (digs A 17)) ∧ VsAt W a1 17 (i64s (digs B 17)) ∧ CellsAt W ⟨w2.heap.size, 0, none⟩ (i64s V)) hk17 ⟨M.now.1, M.now.2, M.cells 0 (c := i64s V) rfl⟩ (fun _ h => h.2.1)
      refine ⟨by omega, by simp; omega, SomeK.of p hp ⟨_, hc, by omega, by simp; omega, SomeK.of p' hp' ⟨_, hc', by omega, by simp; omega, ?_⟩⟩⟩
      have b1 := Nat.mod_lt (A / 256 ^ i) (show 0 < 256 by decide)
      have b2 := Nat.mod_lt (B / 256 ^ k) (show 0 < 256 by decide)
      have b3 : V.getD (i + k) 0 ≤ i * 1105425 + k * 65025 := by
        rw [List.getD_eq_getElem?_getD, List.getElem?_eq_getElem (by omega), Option.getD_some]
        exact hb _ (List.getElem_mem _)
      have b4 : A / 256 ^ i % 256 * (B / 256 ^ k % 256) ≤ 255 * 255 := Nat.mul_le_mul (by omega) (by omega)
      have hy : (digs B 17).getD k 0 = B / 256 ^ k % 256 := by rw [digs_getD, if_pos hk17]
      obtain ⟨d1, d2⟩ := D_prod (x := A / 256 ^ i % 256) (k := k) (i := i) hV (by omega) hD hb b1 (by rw [hy]; exact b2)
      rw [hy] at d1 d2
      rw [mulI_nat _ _ (by omega), addI_nat _ _ (by omega)]
      rw [addA_int, addr_add, Nat.zero_add]
      refine M.stK 0 (c := i64s V) rfl (by rw [i64s_length]; simp; omega) rfl fun w4 M => ?_
      have es : spliceL (i64s V) (i + k) [.int .i64 ((V.getD (i + k) 0 + A / 256 ^ i % 256 * (B / 256 ^ k % 256) : Nat) : Int)] = i64s (V.set (i + k) (V.getD (i + k) 0 + A / 256 ^ i % 256 * (B / 256 ^ k % 256))) := by
        rw [← i64s_set]; rfl
      rw [es] at M
      refine ⟨m' - 1, by omega, k + 1, _, by rw [addI_one (by omega)], by omega, by rw [List.length_set]; exact hV, fun x hx => ?_, d1, M⟩
      rw [Nat.add_one_mul, ← Nat.add_assoc]
      exact d2 x hx
    · simp at hlt2
      obtain rfl : k = 17 := by omega
      refine ⟨m - 1, by omega, i + 1, V, by rw [addI_one (by omega)], by omega, hV, fun x hx => ?_, ?_, M⟩
      · have := hb x hx; omega
      · have eB : D ((digs B 17).take 17) = B := by
          rw [List.take_of_length_le (by rw [digs_length]; exact Nat.le_refl _), D_digs, Nat.mod_eq_of_lt hB]
        rw [hD, eB, D_take, digs_getD, if_pos hi17, Nat.add_mul]
  · simp at hlt
    obtain rfl : i = 17 := by omega
    have eA : D V = A * B := by
      rw [hD, List.take_of_length_le (by rw [digs_length]; exact Nat.le_refl _), D_digs, Nat.mod_eq_of_lt hA]
    have hv : VsAt W (some ⟨w2.heap.size, 0, none⟩) 34 (i64s V) := ⟨by rw [i64s_length, hV], .inr ⟨_, rfl, M.cells 0 rfl⟩⟩
    refine CallK.retV (x_carried W hv (fun x hx => by have := hb x hx; omega) 36 (by decide)) fun a3 l3 c3 w3 hf3 k3 => ⟨_, _, _, rfl, ?_⟩
    rw [eA] at hf3
    have hAB : A * B < 256 ^ 36 := by
      have h1 := Nat.mul_lt_mul'' hA hB
      rw [← Nat.pow_add] at h1
      exact Nat.lt_of_lt_of_le h1 (Nat.pow_le_pow_right (Nat.le_of_ble_eq_true rfl) (Nat.le_of_ble_eq_true rfl))
    refine CallK.retV (x_left w3 (A * B) 36 hAB (by decide) (by decide) hf3.now) fun a4 l4 c4 w4 hf4 k4 => ⟨_, _, _, rfl, ?_⟩
    refine CallK.ret (x_text w4 _ 17 (by decide) hf4.now) fun w5 k5 => ⟨_, rfl, rfl, ?_⟩
    exact k1.trans0 k2 |>.trans0 M.keep |>.trans0 k3 |>.trans0 k4 |>.trans0 k5

end Go.Proofs.YthpodgkmghgenaaDoor
