/-
  A part of the proof: SA.
-/
import Derived.Test.YtlegohnjbkgclaaDoorSxOC
import Derived.Test.YtlegohnjbkgclaaDoorSxTS
import Derived.Test.YtlegohnjbkgclaaDoorSxSha
import Derived.Test.YtlegohnjbkgclaaDoorSxLoads
namespace Go.Proofs.YtlegohnjbkgclaaDoor
open Go Go.Sx Go.Oct Go.Sha
set_option linter.unusedVariables false

/-- The package's two tables, as they are laid. -/
structure Laid (w : World) : Prop where
  begin' : CellsAt w ⟨0, 0, none⟩ (u32s H0.l)
  ks : CellsAt w ⟨1, 0, none⟩ (u32s KS)
  low : 2 ≤ w.heap.size
theorem Laid.keep {w w' : World} (h : Laid w) {ids : List Nat} (hk : Keep ids w w') (h0 : 0 ∉ ids) (h1 : 1 ∉ ids) : Laid w' :=
  ⟨h.begin'.keep hk h0, h.ks.keep hk h1, Nat.le_trans h.low hk.size⟩
theorem Laid.keep0 {w w' : World} (h : Laid w) (hk : Keep [] w w') : Laid w' := h.keep hk (by simp) (by simp)
theorem Laid.mem {w : World} (h : Laid w) : Mem w [] [] Laid w := Mem.startF w fun w' hk => h.keep0 hk

theorem s_right (w : World) (x n : Nat) (hx : x < 4294967296) (hn : n ≤ 32) : Calls Tryd.prog 68 #[.int .u32 x, .int .i64 n] w (Ret w (.int .u32 (rotr n x : Nat))) := by
  refine calls_ret (F68_calls _ _ _ _ ?_)
  unfold F68
  rw [subI_i64 (by omega) (by omega), Int.zero_sub]
  refine CallK.ret (o_Rot w x _ hx) fun w1 h1 => ⟨_, rfl, ?_, h1⟩
  rw [rolI_rotr hx hn]

theorem x_right (w : World) (x n : Nat) (hx : x < 4294967296) (hn : n ≤ 32) : Calls Tryd.prog 60 #[.int .u32 x, .int .i64 n] w (Ret w (.int .u32 (rotr n x : Nat))) := by
  refine calls_ret (F60_calls _ _ _ _ ?_)
  unfold F60
  rw [subI_i64 (by omega) (by omega)]
  refine CallK.ret (x_Rol w x _ hx) fun w1 h1 => ⟨_, rfl, ?_, h1⟩
  rw [rolI_rotr' hx hn]

/-- The next number of a block. -/
def nx (a b c d : Nat) : Nat := (a + s0 b + c + s1 d) % 4294967296
theorem longL_succ (m : List Nat) (k : Nat) : longL m (k + 1) = longL m k ++ [nx ((longL m k).getD k 0) ((longL m k).getD (k + 1) 0) ((longL m k).getD (k + 9) 0) ((longL m k).getD (k + 14) 0)] := rfl
theorem getD_last (l : List Nat) (x n : Nat) (h : l.length = n) : (l ++ [x]).getD n 0 = x := by
  subst h; simp
theorem nx_congr {a b c d a' b' c' d' : Nat} (ha : a = a') (hb : b = b') (hc : c = c') (hd : d = d') : nx a b c d = nx a' b' c' d' := by subst ha hb hc hd; rfl
theorem long_at (m : List Nat) (hm : m.length = 16) (N : Nat) {i : Nat} (h : 16 ≤ i) (hN : i < 16 + N) :
    (longL m N).getD i 0 = nx ((longL m N).getD (i - 16) 0) ((longL m N).getD (i - 15) 0) ((longL m N).getD (i - 7) 0) ((longL m N).getD (i - 2) 0) := by
  obtain ⟨k, rfl⟩ := Nat.exists_eq_add_of_le h
  have p : ∀ j t, t < 16 + j → j ≤ N → (longL m N).getD t 0 = (longL m j).getD t 0 := by
    intro j t ht hj
    have := longL_prefix m j (N - j) t (by rw [hm]; exact ht)
    rwa [show j + (N - j) = N from by omega] at this
  rw [p (k + 1) _ (by omega) (by omega), longL_succ, getD_last _ _ _ (by rw [longL_length, hm])]
  refine nx_congr ?_ ?_ ?_ ?_
  · rw [show 16 + k - 16 = k from by omega, p k k (by omega) (by omega)]
  · rw [show 16 + k - 15 = k + 1 from by omega, p k (k + 1) (by omega) (by omega)]
  · rw [show 16 + k - 7 = k + 9 from by omega, p k (k + 9) (by omega) (by omega)]
  · rw [show 16 + k - 2 = k + 14 from by omega, p k (k + 14) (by omega) (by omega)]
theorem nx_eq (a b c d : Nat) : (((a + s0 b) % 4294967296 + c) % 4294967296 + s1 d) % 4294967296 = nx a b c d := by
  unfold nx; omega
theorem long_first (m : List Nat) (hm : m.length = 16) (N : Nat) {i : Nat} (h : i < 16) : (longL m N).getD i 0 = m.getD i 0 := by
  have := longL_prefix m 0 N i (by rw [hm]; omega)
  rwa [Nat.zero_add] at this

/-- The last sixteen numbers, in a ring. -/
def Ring (W : List Nat) (i : Nat) (arr : List Nat) : Prop := arr.length = 16 ∧ ∀ t, t < max i 16 → i ≤ t + 16 → arr.getD (t % 16) 0 = W.getD t 0
theorem getD_set (l : List Nat) (i j x : Nat) (hi : i < l.length) : (l.set i x).getD j 0 = if i = j then x else l.getD j 0 := by
  simp only [List.getD_eq_getElem?_getD, List.getElem?_set]
  split
  · rename_i h; subst h; simp
  · rfl
theorem Ring.next {W arr : List Nat} {i : Nat} (h : Ring W i arr) (hi : 16 ≤ i) (x : Nat) (hx : x = W.getD i 0) : Ring W (i + 1) (arr.set (i % 16) x) := by
  refine ⟨by simp [h.1], fun t ht hit => ?_⟩
  have hm := Nat.mod_lt i (show 0 < 16 by decide)
  rw [getD_set _ _ _ _ (by rw [h.1]; exact hm)]
  by_cases e : t = i
  · subst e; simp [hx]
  · rw [if_neg (by omega)]
    exact h.2 t (by omega) (by omega)
theorem Ring.same {W arr : List Nat} {i : Nat} (h : Ring W i arr) (hi : i < 16) : Ring W (i + 1) arr := ⟨h.1, fun t ht hit => h.2 t (by omega) (by omega)⟩
theorem Ring.at {W arr : List Nat} {i : Nat} (h : Ring W i arr) (hW : ∀ x ∈ W, x < 4294967296) {j : Nat} (hj : j < 16) (h16 : 16 ≤ i) : arr.getD j 0 < 4294967296 := by
  have : ∃ t, t < i ∧ i ≤ t + 16 ∧ t % 16 = j := by
    by_cases hc : j < i % 16
    · exact ⟨i - i % 16 + j, by omega, by omega, by omega⟩
    · exact ⟨i - i % 16 + j - 16, by omega, by omega, by omega⟩
  obtain ⟨t, h1, h2, h3⟩ := this
  rw [← h3, h.2 t (by omega) h2]
  exact getD_lt hW t

theorem Ring.old {W arr : List Nat} {i : Nat} (h : Ring W i arr) (h16 : 16 ≤ i) (c d : Nat) (hc : c < 16) (hd : d + c = 16) : arr.getD ((i + c) % 16) 0 = W.getD (i - d) 0 := by
  rw [← h.2 (i - d) (by omega) (by omega), show (i + c) % 16 = (i - d) % 16 by omega]
theorem rem16 (i c : Nat) (hi : i < 1000) (hc : c < 1000) : remI (addI .i64 (i : Int) (c : Int)) 16 = (((i + c) % 16 : Nat) : Int) := by
  rw [addI_nat _ _ (by omega)]
  exact remI_nat _ 16
theorem rem16' (i : Nat) : remI (i : Int) 16 = ((i % 16 : Nat) : Int) := remI_nat _ 16
theorem set_same (l : List Nat) (i x : Nat) (hi : i < l.length) : (l.set i x).getD i 0 = x := by rw [getD_set _ _ _ _ hi, if_pos rfl]
theorem set_other (l : List Nat) (i j x : Nat) (hi : i < l.length) (h : i ≠ j) : (l.set i x).getD j 0 = l.getD j 0 := by rw [getD_set _ _ _ _ hi, if_neg h]

theorem part_len (p v : List Nat) (n i : Nat) (hp : p.length = n) (hv : v.length = n) (hi : i ≤ n) : (p.take i ++ v.drop i).length = n := by
  rw [List.length_append, List.length_take, List.length_drop, hp, hv, Nat.min_eq_left hi]; omega
theorem part_at (p v : List Nat) (n i : Nat) (hp : p.length = n) (hv : v.length = n) (hi : i < n) : (p.take i ++ v.drop i).getD i 0 = v.getD i 0 := by
  have hl : (p.take i).length = i := by rw [List.length_take, hp, Nat.min_eq_left (by omega)]
  rw [List.getD_eq_getElem?_getD, List.getElem?_append_right (by omega), hl, Nat.sub_self, List.getElem?_drop, Nat.add_zero, ← List.getD_eq_getElem?_getD]
theorem part_set (p v : List Nat) (n i x : Nat) (hp : p.length = n) (hv : v.length = n) (hi : i < n) (hx : p.getD i 0 = x) : (p.take i ++ v.drop i).set i x = p.take (i + 1) ++ v.drop (i + 1) := by
  have hl : (p.take i).length = i := by rw [List.length_take, hp, Nat.min_eq_left (by omega)]
  have hx' : p[i]'(by omega) = x := by rw [← hx, List.getD_eq_getElem?_getD, List.getElem?_eq_getElem (by omega), Option.getD_some]
  rw [List.set_append_right _ _ (by omega), hl, Nat.sub_self, List.drop_eq_getElem_cons (show i < v.length by omega), List.set_cons_zero, List.take_succ_eq_append_getElem (show i < p.length by omega), hx', List.append_assoc]
  rfl
theorem plus_at (h v : St) (j : Nat) (hj : j < 8) : (h.plus v).l.getD j 0 = (v.l.getD j 0 + h.l.getD j 0) % 4294967296 := by
  rw [Nat.add_comm]
  match j, hj with
  | 0, _ => rfl
  | 1, _ => rfl
  | 2, _ => rfl
  | 3, _ => rfl
  | 4, _ => rfl
  | 5, _ => rfl
  | 6, _ => rfl
  | 7, _ => rfl

theorem notI_u32 (x : Nat) (hx : x < 4294967296) : notI .u32 (x : Int) = ((x ^^^ 4294967295 : Nat) : Int) := by
  have h1 := xorI_u32 4294967295 x (by decide) hx
  have h2 : notI .u32 (x : Int) = xorI .u32 ((4294967295 : Nat) : Int) (x : Int) := rfl
  rw [h2, h1, Nat.xor_comm]

theorem rounds_succ (w : List Nat) (i : Nat) (v : St) : rounds w (i + 1) v = round (rounds w i v) (KS.getD i 0) (w.getD i 0) := rfl
theorem KS_lt : ∀ x ∈ KS, x < 4294967296 := by decide +kernel


/-! ### One round's sums -/
theorem l0 (v : St) : v.l.getD 0 0 = v.a := rfl
theorem l1 (v : St) : v.l.getD 1 0 = v.b := rfl
theorem l2 (v : St) : v.l.getD 2 0 = v.c := rfl
theorem l3 (v : St) : v.l.getD 3 0 = v.d := rfl
theorem l4 (v : St) : v.l.getD 4 0 = v.e := rfl
theorem l5 (v : St) : v.l.getD 5 0 = v.f := rfl
theorem l6 (v : St) : v.l.getD 6 0 = v.g := rfl
theorem l7 (v : St) : v.l.getD 7 0 = v.h := rfl
theorem l_len (v : St) : v.l.length = 8 := rfl
theorem rot3 (x a b c : Nat) (hx : x < 4294967296) (ha : a ≤ 32) (hb : b ≤ 32) (hc : c ≤ 32) : xorI .u32 (xorI .u32 ((rotr a x : Nat) : Int) ((rotr b x : Nat) : Int)) ((rotr c x : Nat) : Int) = ((rotr a x ^^^ rotr b x ^^^ rotr c x : Nat) : Int) := by
  rw [xorI_u32 _ _ (rotr_lt hx ha) (rotr_lt hx hb), xorI_u32 _ _ (xor_lt (rotr_lt hx ha) (rotr_lt hx hb)) (rotr_lt hx hc)]
theorem eS1 (x : Nat) (hx : x < 4294967296) : xorI .u32 (xorI .u32 ((rotr 6 x : Nat) : Int) ((rotr 11 x : Nat) : Int)) ((rotr 25 x : Nat) : Int) = ((S1 x : Nat) : Int) := rot3 x 6 11 25 hx (by decide) (by decide) (by decide)
theorem eS0 (x : Nat) (hx : x < 4294967296) : xorI .u32 (xorI .u32 ((rotr 2 x : Nat) : Int) ((rotr 13 x : Nat) : Int)) ((rotr 22 x : Nat) : Int) = ((S0 x : Nat) : Int) := rot3 x 2 13 22 hx (by decide) (by decide) (by decide)
theorem eCh (e f g : Nat) (he : e < 4294967296) (hf : f < 4294967296) (hg : g < 4294967296) : orI .u32 (andI .u32 (e : Int) (f : Int)) (andI .u32 (notI .u32 (e : Int)) (g : Int)) = ((ch e f g : Nat) : Int) := by
  rw [notI_u32 _ he, andI_u32 _ _ he hf, andI_u32 _ _ (xor_lt he (by decide)) hg, orI_u32 _ _ (and_lt hf) (and_lt hg), ch_or he]
theorem eMaj (a b c : Nat) (ha : a < 4294967296) (hb : b < 4294967296) (hc : c < 4294967296) : orI .u32 (orI .u32 (andI .u32 (a : Int) (b : Int)) (andI .u32 (a : Int) (c : Int))) (andI .u32 (b : Int) (c : Int)) = ((maj a b c : Nat) : Int) := by
  rw [andI_u32 _ _ ha hb, andI_u32 _ _ ha hc, andI_u32 _ _ hb hc, orI_u32 _ _ (and_lt hb) (and_lt hc), orI_u32 _ _ (or_lt (and_lt hb) (and_lt hc)) (and_lt hc), maj_or]
theorem eT (h k w s c : Nat) : addI .u32 (addI .u32 (addI .u32 (addI .u32 (h : Int) (k : Int)) (w : Int)) (s : Int)) (c : Int) = (((h + s + c + k + w) % 4294967296 : Nat) : Int) := by
  rw [addI_u32, addI_u32, addI_u32, addI_u32]
  congr 1
  omega
theorem eU (t s m : Nat) : addI .u32 (t : Int) (addI .u32 (s : Int) (m : Int)) = (((t + (s + m) % 4294967296) % 4294967296 : Nat) : Int) := by
  rw [addI_u32, addI_u32]
theorem sig2 (x a b c : Nat) (hx : x < 4294967296) (ha : a ≤ 32) (hb : b ≤ 32) : xorI .u32 (xorI .u32 ((rotr a x : Nat) : Int) ((rotr b x : Nat) : Int)) (shrI .u32 (x : Int) (c : Int)) = ((rotr a x ^^^ rotr b x ^^^ (x / 2 ^ c) : Nat) : Int) := by
  rw [shrI_u32 x c hx, xorI_u32 _ _ (rotr_lt hx ha) (rotr_lt hx hb), xorI_u32 _ _ (xor_lt (rotr_lt hx ha) (rotr_lt hx hb)) (Nat.lt_of_le_of_lt (Nat.div_le_self _ _) hx)]
theorem es0 (x : Nat) (hx : x < 4294967296) : xorI .u32 (xorI .u32 ((rotr 7 x : Nat) : Int) ((rotr 18 x : Nat) : Int)) (shrI .u32 (x : Int) 3) = ((s0 x : Nat) : Int) := sig2 x 7 18 3 hx (by decide) (by decide)
theorem es1 (x : Nat) (hx : x < 4294967296) : xorI .u32 (xorI .u32 ((rotr 17 x : Nat) : Int) ((rotr 19 x : Nat) : Int)) (shrI .u32 (x : Int) 10) = ((s1 x : Nat) : Int) := sig2 x 17 19 10 hx (by decide) (by decide)
theorem round_l (v : St) (k w t : Nat) (ht : (v.h + S1 v.e + ch v.e v.f v.g + k + w) % 4294967296 = t) :
    (([v.a, v.a, v.b, v.c, v.d, v.e, v.f, v.g].set 4 ((v.d + t) % 4294967296)).set 0 ((t + (S0 v.a + maj v.a v.b v.c) % 4294967296) % 4294967296)) = (round v k w).l := by
  subst ht; rfl
theorem ldA' {b N : Nat} {vs : List Nat} {S : World → Prop} {i : Int} {k : Int → Prop} (j x : Nat) (hx : vs.getD j 0 = x) (hi : i = (j : Int)) (hS : ∀ w, S w → CellsAt w ⟨b, 0, none⟩ (u32s vs)) (hN : vs.length = N) (hj : j < N) (hk : k (x : Int)) :
    (0 : Int) ≤ i ∧ i < natI N ∧ ∃ n : Int, (∀ w, S w → w.cell? (addA ⟨b, 0, none⟩ (mulN (intN i) 1)) = some (.int .u32 n)) ∧ k n := by
  subst hx; exact ldA j hi hS hN hj hk
theorem ldW' {b N : Nat} {vs : List Nat} {w : World} {i : Int} {k : Int → Prop} (j x : Nat) (hx : vs.getD j 0 = x) (hi : i = (j : Int)) (hS : CellsAt w ⟨b, 0, none⟩ (u32s vs)) (hN : vs.length = N) (hj : j < N) (hk : k (x : Int)) :
    (0 : Int) ≤ i ∧ i < natI N ∧ ∃ n : Int, w.cell? (addA ⟨b, 0, none⟩ (mulN (intN i) 1)) = some (.int .u32 n) ∧ k n := by
  subst hx; exact ldW j hi hS hN hj hk

end Go.Proofs.YtlegohnjbkgclaaDoor
