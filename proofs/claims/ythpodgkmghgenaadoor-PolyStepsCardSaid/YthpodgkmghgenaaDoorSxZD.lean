/-
  A part of the proof: ZD.
-/
import Derived.Test.YthpodgkmghgenaaDoorSxZC
import Derived.Test.YthpodgkmghgenaaDoorSxLeft
namespace Go.Proofs.YthpodgkmghgenaaDoor
open Go Go.Sx Go.Oct Go.Poly
set_option linter.unusedVariables false

/-- A cell of an own row is written. -/
theorem OwnM.st {w0 w : World} {lo : List Nat} {m opt : List (Nat × Obj)} {F : World → Prop} (M : Mem w0 lo (opt ++ m) F w) {T : TypeId} {a : Option Addr} {l c : Nat} {vs : List Value} (ho : OwnM opt T a l c vs)
    (j : Nat) {v : Value} {k : World → Prop} (hj : j < vs.length) (hv : isCell v = true)
    (h : ∀ opt' w1, OwnM opt' T a l c (vs.set j v) → Mem w0 lo (opt' ++ m) F w1 → k w1) : SomeK a fun p => StK w (addA p (mulN (intN (j : Int)) 1)) [v] k := by
  rcases ho with ⟨_, _, _, _, rfl⟩ | ⟨b, rest, rfl, rfl, rfl, rfl, hcb⟩
  · simp at hj
  · show StK w (addA ⟨b, 0, none⟩ (mulN (intN (j : Int)) 1)) [v] k
    rw [addA_int, addr_add, Nat.zero_add]
    refine M.stK 0 rfl (by simp; omega) (by simp [hv]) fun w1 M1 => ?_
    refine h [(b, .cells ((vs.set j v) ++ rest).toArray T (0, 0))] w1 (.inr ⟨b, rest, rfl, rfl, by simp, by simp, hcb⟩) ?_
    have e : spliceL (vs ++ rest) j [v] = vs.set j v ++ rest := by
      show (vs ++ rest).set j v = _
      rw [List.set_append_left _ _ hj]
    rw [e] at M1
    exact M1
theorem i64s_set (l : List Nat) (j x : Nat) : (i64s l).set j (.int .i64 (x : Int)) = i64s (l.set j x) := by simp [i64s, List.map_set]

/-- A row that a call makes and hands back, of its own. -/
def RetO (T : TypeId) (w : World) (vs : List Value) (e : Ending) (w' : World) : Prop := ∃ a l c opt, e = .returned (.slice a l c) ∧ OwnM opt T a l c vs ∧ Mem w [] (opt ++ []) (fun _ => True) w'

theorem calls_retO {P : Program} {f : FuncId} {args : Array Value} {T : TypeId} {w : World} {vs : List Value}
    (h : Calls P f args w fun e w' => ∃ v, e = .returned v ∧ ∃ a l c opt, v = .slice a l c ∧ OwnM opt T a l c vs ∧ Mem w [] (opt ++ []) (fun _ => True) w') : Calls P f args w (RetO T w vs) :=
  h.mono fun e w' ⟨v, he, a, l, c, opt, hv, h⟩ => ⟨a, l, c, opt, by rw [he, hv], h⟩

theorem x_carriedO (w : World) {a : Option Addr} {l c : Nat} {xs : List Nat} (h : VsAt w a l (i64s xs)) (hx : ∀ x ∈ xs, x ≤ 1099511627776) (n : Nat) (hn : n ≤ 1000) : Calls Tryd.prog 27 #[.slice a l c, .int .i64 n] w (RetO 3 w (i64s (digs (D xs) n))) := by
  refine calls_retO (F27_calls _ _ _ _ _ _ ?_)
  refine ⟨fun m vs W => ∃ (i : Nat) (opt : List (Nat × Obj)) (a : Option Addr) (l c : Nat), vs = [.slice a l c, .int .i64 ((D (xs.take i) / 256 ^ i : Nat) : Int), .int .i64 i] ∧ i + m = n ∧ OwnM opt 3 a l c (i64s (digs (D xs) i)) ∧ Mem w [] (opt ++ []) (fun _ => True) W,
    ⟨n, 0, [], none, 0, 0, by simp [D], by omega, OwnM.nil, Mem.start w⟩, ?_⟩
  rintro m vs W ⟨i, opt, a1, l1, c1, rfl, hi, ho, M⟩
  refine ⟨_, _, _, _, _, rfl, fun _ => SplitK.of (fun hlt => ?_) (fun hlt => ?_)⟩
  · simp at hlt
    have hin : i < n := by omega
    refine CallK.ret (x_at W (h.keep0 M.keep) i) fun w2 k => ⟨_, rfl, by decide, ?_⟩
    have M := M.call k
    have hcb : D (xs.take i) / 256 ^ i ≤ 1099511627776 := Nat.div_le_of_le_mul (by rw [Nat.mul_comm]; exact D_le hx i)
    have hgb : xs.getD i 0 ≤ 1099511627776 := by
      rw [List.getD_eq_getElem?_getD]
      cases hi : xs[i]? with
      | none => simp
      | some x => simpa using hx x (List.mem_of_getElem? hi)
    obtain ⟨s1, s2⟩ := carry_step xs i
    have ea : addI .i64 ((D (xs.take i) / 256 ^ i : Nat) : Int) ((xs.getD i 0 : Nat) : Int) = ((D (xs.take i) / 256 ^ i + xs.getD i 0 : Nat) : Int) := addI_nat _ _ (by omega)
    have er : remI ((D (xs.take i) / 256 ^ i + xs.getD i 0 : Nat) : Int) 256 = ((D xs / 256 ^ i % 256 : Nat) : Int) := by rw [← s1]; exact remI_nat _ 256
    have eq : quoI .i64 ((D (xs.take i) / 256 ^ i + xs.getD i 0 : Nat) : Int) 256 = ((D (xs.take (i + 1)) / 256 ^ (i + 1) : Nat) : Int) := by rw [← s2]; exact quoI_nat _ 256 (by omega)
    rw [ea, er, eq]
    refine M.newK fun b w3 M => ⟨_, M.old1, ne1, ?_⟩
    refine Mem.appK M.tail ho rfl rfl (by rw [i64s_length, digs_length]; omega) (by rw [i64s_length, digs_length]; omega) ?_
    intro a' l' c' opt' w' ho' M' hl
    refine ⟨by decide, m - 1, by omega, i + 1, opt', a', l', c', by rw [addI_one (by omega)], by omega, ?_, M'⟩
    rw [i64s_snoc, ← digs_succ] at ho'
    exact ho'
  · simp at hlt
    have : i = n := by omega
    subst this
    exact ⟨_, _, _, _, rfl, ho, M⟩

theorem x_less (w : World) {a : Option Addr} {l c : Nat} (V : Nat) (hV : V < T130) (h : VsAt w a l (i64s (digs V 17))) : Calls Tryd.prog 37 #[.slice a l c] w (Ret w (.bool (decide (V < PP)))) := by
  refine calls_ret (F37_calls _ _ _ _ _ ?_)
  have hl : l = 17 := by have := h.1; rwa [i64s_length, digs_length] at this
  subst hl
  have h16 := top_le hV
  refine ⟨fun m vs W => ∃ (i : Nat), vs = [.int .i64 ((i + 1 : Nat) : Int)] ∧ i + m = 15 ∧ (∀ j, j < i → V / 256 ^ (j + 1) % 256 = 255) ∧ Keep [] w W, ⟨15, 0, rfl, by omega, by simp, Keep.refl _ _⟩, ?_⟩
  rintro m vs W ⟨i, rfl, hi, hall, k⟩
  have h := h.keep0 k
  obtain ⟨p, hp, hc16⟩ := row_at h (j := 16) (by rw [digs_length]; decide)
  rw [digs_getD, if_pos (by decide)] at hc16
  refine ⟨_, rfl, fun _ => SplitK.of (fun hlt => ?_) (fun hlt => ?_)⟩
  · simp at hlt
    have hi15 : i < 15 := by omega
    obtain ⟨p', hp', hc⟩ := row_at h (j := i + 1) (by rw [digs_length]; omega)
    rw [digs_getD, if_pos (by omega)] at hc
    refine ⟨by omega, by simp; omega, SomeK.of p' hp' ⟨_, hc, SplitK.of (fun hn => ?_) (fun hn => ?_)⟩⟩
    · have hn' : V / 256 ^ (i + 1) % 256 ≠ 255 := by
        simp only [notB_t, eqI_f] at hn
        intro e; exact hn (by rw [e]; rfl)
      have hlt := less_pp hV hi15 hn'
      refine ⟨by decide, by decide, SomeK.of p hp ⟨_, hc16, ?_, k⟩⟩
      have : leI ((V / 256 ^ 16 % 256 : Nat) : Int) 3 = true := by rw [leI_t]; omega
      rw [this, decide_eq_true hlt]
    · have hn' : V / 256 ^ (i + 1) % 256 = 255 := by
        simp only [notB_f, eqI_t] at hn
        omega
      refine ⟨m - 1, by omega, i + 1, by rw [addI_one (by omega)], by omega, ?_, k⟩
      intro j hj
      rcases Nat.lt_or_ge j i with h1 | h1
      · exact hall j h1
      · obtain rfl : j = i := by omega
        exact hn'
  · simp at hlt
    obtain rfl : i = 15 := by omega
    have hla := less_all hV hall
    obtain ⟨p0, hp0, hc0⟩ := row_at h (j := 0) (by rw [digs_length]; decide)
    rw [digs_getD, if_pos (by decide), Nat.pow_zero, Nat.div_one] at hc0
    generalize V / 256 ^ 16 % 256 = x at *
    refine ⟨by decide, by decide, SomeK.of p hp ⟨_, hc16, SplitK.of (fun h3 => ?_) (fun h3 => ?_)⟩⟩
    · simp at h3
      refine ⟨?_, k⟩
      rw [decide_eq_true (hla ▸ .inl (by omega))]
    · simp at h3
      refine ⟨by decide, by decide, SomeK.of p hp ⟨_, hc16, SplitK.of (fun h4 => ?_) (fun h4 => ?_)⟩⟩
      · rw [eqI_t] at h4
        refine ⟨by decide, by decide, SomeK.of p0 hp0 ⟨_, hc0, ?_, k⟩⟩
        rw [show ltI ((V % 256 : Nat) : Int) 251 = decide (V % 256 < 251) from ltI_nat _ 251]
        congr 1
        rw [decide_eq_decide, hla]
        constructor
        · intro h; exact .inr ⟨by omega, h⟩
        · rintro (h | h)
          · omega
          · exact h.2
      · rw [eqI_f] at h4
        refine ⟨?_, k⟩
        rw [decide_eq_false (by rw [hla]; omega)]

theorem x_minus (w : World) {a : Option Addr} {l c : Nat} (V : Nat) (h : VsAt w a l (i64s (digs V 17))) : Calls Tryd.prog 38 #[.slice a l c] w (RetV w (i64s (digs ((V % 256 ^ 17 + 5) % T130) 17))) := by
  refine calls_retV (F38_calls _ _ _ _ _ ?_)
  have hl : l = 17 := by have := h.1; rwa [i64s_length, digs_length] at this
  subst hl
  refine ⟨_, h.old.1, h.old.2, ?_⟩
  refine Mem.appK (m := []) (opt := []) (Mem.start w) OwnM.nil (by rw [i64s_length, digs_length]) (by simp [i64s, isCell]) (by decide) (by decide) ?_
  intro a1 l1 c1 opt w1 ho M hl1
  rw [List.nil_append] at ho
  have hl1 : l1 = 17 := hl1
  subst hl1
  obtain ⟨p, hp, hc⟩ := row_at (ho.vsAt M) (j := 0) (by rw [digs_length]; decide)
  refine ⟨by decide, by decide, SomeK.of p hp ⟨_, hc, by decide, by decide, ?_⟩⟩
  have e5 : addI .i64 (((digs V 17).getD 0 0 : Nat) : Int) 5 = (((digs V 17).getD 0 0 + 5 : Nat) : Int) := addI_nat _ 5 (by rw [digs_getD, if_pos (by decide)]; have := Nat.mod_lt (V / 256 ^ 0) (show 0 < 256 by decide); omega)
  rw [e5]
  refine OwnM.st M ho 0 (by rw [i64s_length, digs_length]; decide) rfl fun opt1 w2 ho M => ?_
  rw [i64s_set] at ho
  have hb : ∀ x ∈ (digs V 17).set 0 ((digs V 17).getD 0 0 + 5), x ≤ 1099511627776 := by
    intro x hx
    rcases List.mem_or_eq_of_mem_set hx with h1 | rfl
    · have := digs_lt V 17 x h1; omega
    · rw [digs_getD, if_pos (by decide)]; have := Nat.mod_lt (V / 256 ^ 0) (show 0 < 256 by decide); omega
  refine (x_carriedO w2 (ho.vsAt M) hb 17 (by decide)).mono ?_
  rintro e w3 ⟨a2, l2, c2, opt2, rfl, ho2, M2⟩
  refine ⟨_, _, _, rfl, ?_⟩
  have hd : D ((digs V 17).set 0 ((digs V 17).getD 0 0 + 5)) = V % 256 ^ 17 + 5 := by
    rw [D_set _ 0 5 (by rw [digs_length]; decide), D_digs]
  rw [hd] at ho2
  generalize V % 256 ^ 17 + 5 = W at ho2
  have hl2 : l2 = 17 := by have := (ho2.vsAt M2).1; rwa [i64s_length, digs_length] at this
  subst hl2
  obtain ⟨p2, hp2, hc2⟩ := row_at (ho2.vsAt M2) (j := 16) (by rw [digs_length]; decide)
  refine ⟨by decide, by decide, SomeK.of p2 hp2 ⟨_, hc2, by decide, by decide, by decide, ?_⟩⟩
  rw [digs_getD, if_pos (by decide)]
  have e4 : remI ((W / 256 ^ 16 % 256 : Nat) : Int) 4 = ((W / 256 ^ 16 % 256 % 4 : Nat) : Int) := remI_nat _ 4
  rw [e4]
  have K2 : Keep [] w w2 := M.keep
  refine OwnM.st M2 ho2 16 (by rw [i64s_length, digs_length]; decide) rfl fun opt3 w4 ho M4 => ?_
  rw [i64s_set, digs_top] at ho
  exact ⟨_, _, _, rfl, (ho.freshV M4).mono K2.size, K2.trans0 M4.keep⟩

def iterF (V : Nat) : Nat → Nat
  | 0 => V
  | i + 1 => F5 (iterF V i)
theorem F5_self (V : Nat) : F5 V ≤ V := by
  unfold F5 T130; omega
theorem iterF_le (V : Nat) : ∀ i, iterF V i ≤ V
  | 0 => Nat.le_refl _
  | i + 1 => Nat.le_trans (F5_self _) (iterF_le V i)

theorem x_left (w : World) {a : Option Addr} {l c : Nat} (V n : Nat) (hV : V < 256 ^ n) (h1 : 17 ≤ n) (h2 : n ≤ 36) (h : VsAt w a l (i64s (digs V n))) : Calls Tryd.prog 26 #[.slice a l c] w (RetV w (i64s (digs (V % PP) 17))) := by
  refine calls_retV (F26_calls _ _ _ _ _ ?_)
  have hl : l = n := by have := h.1; rwa [i64s_length, digs_length] at this
  subst hl
  have e2 : addI .i64 (natI l) 2 = ((l + 2 : Nat) : Int) := addI_nat l 2 (by omega)
  unfold F26
  rw [e2]
  refine ⟨fun m vs W => ∃ (i n0 : Nat) (a : Option Addr) (l c : Nat), vs = [.slice a l c, .int .i64 i] ∧ i + m = 4 ∧ iterF V i < 256 ^ n0 ∧ VsAt W a l (i64s (digs (iterF V i) n0)) ∧ Keep [] w W, ⟨4, 0, l, a, l, c, rfl, rfl, hV, h, Keep.refl _ _⟩, ?_⟩
  rintro m vs W ⟨i, n0, a, l1, c, rfl, hi, hb, h, k⟩
  refine ⟨_, _, _, _, rfl, fun _ => SplitK.of (fun hlt => ?_) (fun hlt => ?_)⟩
  · simp at hlt
    refine CallK.retV (x_five W (iterF V i) n0 (l + 2) hb (by omega) h) fun a1 l2 c1 w2 hf k2 => ⟨_, _, _, rfl, ?_⟩
    refine ⟨m - 1, by omega, i + 1, l + 2, a1, l2, c1, by rw [addI_one (by omega)], by omega, ?_, hf.now, k.trans0 k2⟩
    refine Nat.lt_of_le_of_lt (iterF_le V (i + 1)) (Nat.lt_of_lt_of_le hV (Nat.pow_le_pow_right (by decide) (by omega)))
  · simp at hlt
    obtain rfl : i = 4 := by omega
    have h4 : iterF V 4 < T130 := F5_four (Nat.lt_of_lt_of_le hV (Nat.pow_le_pow_right (by decide) h2))
    have hm : iterF V 4 % PP = V % PP := F5_four_mod V
    generalize iterF V 4 = U at *
    have hx : ∀ x ∈ digs U n0, x ≤ 1099511627776 := fun x hx => by have := digs_lt U n0 x hx; omega
    refine CallK.retV (x_carried W h hx 17 (by decide)) fun a1 l2 c1 w2 hf k2 => ⟨_, _, _, rfl, ?_⟩
    rw [D_digs, Nat.mod_eq_of_lt hb] at hf
    intro K hK
    refine CallK.ret (x_less w2 U h4 hf.now) fun w3 k3 => ⟨_, rfl, SplitK.of (fun hn => ?_) (fun hn => ?_)⟩
    · simp only [notB_t, decide_eq_false_iff_not, Nat.not_lt] at hn
      refine CallK.retV (x_minus w3 U (hf.now.keep0 k3)) fun a2 l3 c2 w4 hf2 k4 => ⟨_, _, _, rfl, hK _ _ _ _ fun _ => ⟨_, _, _, rfl, ?_, k.trans0 k2 |>.trans0 k3 |>.trans0 k4⟩⟩
      rw [Nat.mod_eq_of_lt (show U < 256 ^ 17 from Nat.lt_of_lt_of_le h4 (by decide)), minus_pp h4 hn, hm] at hf2
      exact hf2.mono (Nat.le_trans k.size (Nat.le_trans k2.size k3.size))
    · simp only [notB_f, decide_eq_true_eq] at hn
      have e : V % PP = U := by rw [← hm, Nat.mod_eq_of_lt hn]
      refine hK _ _ _ _ fun _ => ⟨_, _, _, rfl, ?_, k.trans0 k2 |>.trans0 k3⟩
      rw [e]
      exact (hf.keep0 k3).mono k.size

end Go.Proofs.YthpodgkmghgenaaDoor
