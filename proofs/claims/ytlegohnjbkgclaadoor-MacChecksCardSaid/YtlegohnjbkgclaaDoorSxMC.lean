/-
  A part of the proof: MC.
-/
import Derived.Test.YtlegohnjbkgclaaDoorSxMB
namespace Go.Proofs.YtlegohnjbkgclaaDoor
open Go Go.Sx Go.Oct Go.Sha Go.Mac
set_option linter.unusedVariables false

theorem catX3 (a b c : List UInt8) : catX [bs a, bs b, bs c] = a ++ b ++ c := by simp [catX, bs]
theorem wrapU8 (n : Nat) (h : n < 256) : wrapI .u8 (n : Int) = (n : Int) := by rw [wrapI_u8, Nat.mod_eq_of_lt h]
theorem expand_of (key info : List UInt8) (n : Nat) (i : Nat) (h : n ≤ 32 * i) (h2 : n ≤ 8160) : (expL key info i).take n = expand key info n := by
  rw [expand, if_neg (by omega), Int.toNat_natCast]
  have e : i = (n + 31) / 32 + (i - (n + 31) / 32) := by omega
  rw [e, expL_prefix _ _ _ _ _ (by omega)]

theorem x_Expand (w : World) (key info : List UInt8) (n : Int) (hk : key.length ≤ 100000) (hi : info.length ≤ 100000) : Calls Tryd.prog 36 #[.string (bs key), .string (bs info), .int .i64 n] w (Ret w (.tuple #[.string (bs (expand key info n)), .int .i64 (expandE n)])) := by
  refine calls_ret (F36_calls _ _ _ _ _ ?_)
  intro K hK
  have bad : (n < 0 ∨ 8160 < n) → K [.bool true] w := fun h => hK _ _ fun _ => SplitK.t rfl ⟨by rw [expand, expandE, if_pos h, if_pos h]; rfl, Keep.refl _ _⟩
  refine SplitK.of (fun h => bad (.inl (by simpa using h))) (fun h => ?_)
  simp at h
  by_cases hb : 8160 < n
  · have e : ltI 8160 n = true := by simpa using hb
    rw [e]; exact bad (.inr hb)
  have e : ltI 8160 n = false := by simp; omega
  rw [e]
  obtain ⟨n, rfl⟩ := Int.eq_ofNat_of_zero_le h
  refine hK _ _ fun _ => SplitK.f rfl ?_
  refine ⟨fun m vs w1 => ∃ i : Nat, vs = [.string (bs (expL key info i)), .string (bs (lastL key info i)), .int .i64 ((i + 1 : Nat) : Int)] ∧ i + m = 255 ∧ Keep [] w w1, ⟨255, 0, rfl, by omega, Keep.refl _ _⟩, ?_⟩
  rintro m vs w1 ⟨i, rfl, him, k1⟩
  have hel := expL_length key info i
  have hll := lastL_le key info i
  refine ⟨_, _, _, rfl, fun _ => SplitK.of (fun hlt => ?_) (fun hlt => ?_)⟩
  · simp [hel] at hlt
    refine ⟨by simp; omega, ?_⟩
    refine (Mem.start w1).newK fun b w2 M => ?_
    rw [wrapU8 _ (by omega)] at M
    have e2 : ((i + 1 : Nat) : Int) = (((i + 1) % 256 : Nat) : Int) := by rw [Nat.mod_eq_of_lt (by omega)]
    rw [e2, byteV_ofNat] at M
    refine ⟨[UInt8.ofNat (i + 1)], M.bytes 0 (T := 5) (fr := (0, 0)) rfl rfl, by rw [catS_bs]; simp; omega, ?_⟩
    rw [catS_bs, catS_bs]
    refine CallK.ret (x_Of w2 key _ (by omega) (by simp; omega)) fun w3 k3 => ⟨_, rfl, ?_⟩
    rw [catS_bs]
    refine ⟨by rw [sizeS_bs, sizeS_bs, hel, hmacL_length, addN_eq]; omega, m - 1, by omega, i + 1, ?_, by omega, (k1.trans0 M.keep).trans0 k3⟩
    have : addI .i64 ((i + 1 : Nat) : Int) 1 = ((i + 1 + 1 : Nat) : Int) := addI_nat _ 1 (by omega)
    rw [this]
    rfl
  · simp [hel] at hlt
    refine ⟨by omega, by simp [hel]; omega, ?_, k1⟩
    rw [cutS_bs, expandE, if_neg (by omega)]
    simp only [intN_eq, Int.toNat_natCast, List.drop_zero]
    rw [expand_of key info n i (by omega) (by omega)]

theorem m_Expand (w : World) (hw : Laid w) (key info : List UInt8) (n : Int) (hk : key.length ≤ 100000) (hi : info.length ≤ 100000) : Calls Tryd.prog 35 #[.string (bs key), .string (bs info), .int .i64 n] w (Ret w (.tuple #[.string (bs (expand key info n)), .int .i64 (expandE n)])) := by
  refine calls_ret (F35_calls _ _ _ _ _ ?_)
  refine hw.mem.newK fun b w1 M K hK => ?_
  have bad : (n < 0 ∨ 8160 < n) → K [.bool true] w1 := fun h => hK _ _ fun _ => SplitK.t rfl ⟨by rw [expand, expandE, if_pos h, if_pos h]; rfl, M.keep⟩
  refine ⟨n, M.cell 0 (c := [.int .i64 n]) (off := 0) rfl rfl, SplitK.of (fun h => bad (.inl (by simpa using h))) (fun h => ?_)⟩
  simp at h
  refine ⟨n, M.cell 0 (c := [.int .i64 n]) (off := 0) rfl rfl, ?_⟩
  by_cases hb : 8160 < n
  · have e : ltI 8160 n = true := by simpa using hb
    rw [e]; exact bad (.inr hb)
  have e : ltI 8160 n = false := by simp; omega
  rw [e]
  clear bad e
  obtain ⟨n, rfl⟩ := Int.eq_ofNat_of_zero_le h
  refine hK _ _ fun _ => SplitK.f rfl ?_
  clear hK K
  refine M.newK fun b2 w3 M K1 hK1 => ?_
  refine Calls.mono (F53_calls (bs key) (bs info) w3 (fun v w' => ∃ bk bi, v = .func (.func 70) #[] #[sptr bk, sptr bi] ∧ Mem w [] ((bi, boxO info) :: (bk, boxO key) :: (b2, bcell (.pointer none) none 0 0) :: (b, .cells [.int .i64 (n : Int)].toArray 3 (0, 0)) :: []) Laid w') ?_) ?_
  · exact M.newK fun bk w4 M => M.newK fun bi w5 M => ⟨bk, bi, rfl, M⟩
  rintro e w4 ⟨v, rfl, bk, bi, rfl, M⟩
  refine ⟨_, rfl, ?_⟩
  intro D l rec w5 hD hl hw5 hround
  have M := M.enterE hD hl hw5
  have M : Mem w [] ([(l, rec .ready none), (D, .deferred (some [])), (bi, boxO info), (bk, boxO key), (b, .cells [.int .i64 (n : Int)].toArray 3 (0, 0))] ++ (b2, bcell (.pointer none) none 0 0) :: []) Laid w5 :=
    M.perm (by
      refine List.Perm.cons _ (List.Perm.cons _ (List.Perm.cons _ (List.Perm.cons _ ?_)))
      exact List.Perm.swap _ _ _)
  refine FnK.fn rfl ?_
  -- what stands behind the parts
  refine Calls.mono (F70_calls (.func (.yield l) #[] #[]) (some ⟨bk, 0, none⟩) (some ⟨bi, 0, none⟩) w5 (fun v w' => ∃ (i : Nat) (j : Option Code) (p : Value) (a : Option Addr) (l' c : Nat) (opt : List (Nat × Obj)), (j = none ∨ j = some (.exit 0)) ∧ n ≤ 32 * i ∧ (p = .pointer none ∨ p = bptr b2) ∧ OwnM opt 5 a l' c (byteVs (expL key info i)) ∧
      Mem w [] ([(l, rec (stOf j) j), (D, .deferred (some [])), (bi, boxO info), (bk, boxO key), (b, .cells [.int .i64 (n : Int)].toArray 3 (0, 0))] ++ (b2, bcell p a l' c) :: opt) Laid w') ?_) ?_
  · refine ⟨fun m vs W => ∃ (i : Nat) (p : Value) (a : Option Addr) (l' c : Nat) (opt : List (Nat × Obj)), vs = [.string (bs (lastL key info i)), .int .i64 ((i + 1 : Nat) : Int)] ∧ i + m = 255 ∧ (p = .pointer none ∨ p = bptr b2) ∧ OwnM opt 5 a l' c (byteVs (expL key info i)) ∧
        Mem w [] ([(l, rec .ready none), (D, .deferred (some [])), (bi, boxO info), (bk, boxO key), (b, .cells [.int .i64 (n : Int)].toArray 3 (0, 0))] ++ (b2, bcell p a l' c) :: opt) Laid W, ⟨255, 0, .pointer none, none, 0, 0, [], rfl, by omega, .inl rfl, OwnM.nil, M⟩, ?_⟩
    clear M
    rintro m vs W ⟨i, p, a, l', c, opt, rfl, him, hp, ho, M⟩
    have hel := expL_length key info i
    have hll := lastL_le key info i
    have eb : leI ((i + 1 : Nat) : Int) 255 = decide (i + 1 ≤ 255) := leI_nat _ 255
    refine ⟨_, _, rfl, fun _ => ?_⟩
    rw [eb]
    clear eb
    by_cases hlt : i + 1 ≤ 255
    · refine SplitK.t (decide_eq_true hlt) ?_
      refine ⟨_, M.cell 3 (c := [.string (bs key)]) (off := 0) rfl rfl, _, M.cell 2 (c := [.string (bs info)]) (off := 0) rfl rfl, ?_⟩
      refine M.newK fun b4 w6 M => ?_
      rw [wrapU8 _ (by omega)] at M
      have e2 : ((i + 1 : Nat) : Int) = (((i + 1) % 256 : Nat) : Int) := by rw [Nat.mod_eq_of_lt (by omega)]
      rw [e2, byteV_ofNat] at M
      refine ⟨[UInt8.ofNat (i + 1)], M.bytes 0 (T := 5) (fr := (0, 0)) rfl rfl, ?_⟩
      refine M.newK fun b5 w7 M => ?_
      have hof := m_of w7 M.now key (by omega) (c := 3) (strs1 (xs := [bs (lastL key info i), bs info, bs [UInt8.ofNat (i + 1)]]) M) (by rw [catX3]; simp; omega) (by simp)
      rw [catX3] at hof
      have M := M.tail.tail
      refine CallK.ret hof fun w8 k8 => ⟨_, rfl, ?_⟩
      have M := M.call k8
      have el : hmacL key (lastL key info i ++ info ++ [UInt8.ofNat (i + 1)]) = lastL key info (i + 1) := rfl
      rw [el]
      refine FnK.yield (hround _ _ _ (M.hget 0 rfl) ⟨M.hget 0 rfl, ?_⟩)
      rintro w9 rfl
      have M := M.put 0 (rec .busy none) rfl
      have M : Mem w [] ([(l, rec .busy none), (D, .deferred (some [])), (bi, boxO info), (bk, boxO key), (b, .cells [.int .i64 (n : Int)].toArray 3 (0, 0))] ++ (b2, bcell p a l' c) :: opt) Laid _ := M
      rintro w10 rfl
      have M := M.drew
      refine ⟨fun W' => W'.cell? ⟨b, 0, none⟩ = some (.int .i64 (n : Int)), M.cell 4 (c := [.int .i64 (n : Int)]) (off := 0) rfl rfl, _, fun _ h => h, ?_⟩
      -- how much there is
      have hlen : Calls Tryd.prog 54 #[bptr b2] (w8.putObj l (rec .busy none)).drew (Ret (w8.putObj l (rec .busy none)).drew (.int .i64 ((32 * i : Nat) : Int))) := by
        refine calls_ret (F54_calls _ _ _ ?_)
        refine ⟨a, l', c, M.cell 5 (c := [p, .slice a l' c]) (off := 0 + 1) rfl rfl, ?_, Keep.refl _ _⟩
        have := ho.len
        rw [this]; simp [byteVs, hel]
      refine CallK.ret hlen fun w11 k11 => ⟨_, rfl, ?_⟩
      have M := M.call k11
      refine ⟨M.cell 4 (c := [.int .i64 (n : Int)]) (off := 0) rfl rfl, SplitK.of (fun hge => ?_) (fun hge => ?_)⟩
      · have hge : n ≤ 32 * i := by simp [leI] at hge; omega
        refine ⟨M.hget 0 rfl, ?_⟩
        rintro w12 rfl
        have M := M.put 0 (rec .done (some (.exit 0))) rfl
        exact ⟨false, rfl, i, some (.exit 0), p, a, l', c, opt, .inr rfl, hge, hp, ho, M⟩
      · have M := M.perm (List.perm_append_comm)
        refine b_Write M hp ho (by rw [lastL_length]; omega) ?_
        intro a2 l2 c2 opt2 w12 ho2 M
        refine ⟨_, _, rfl, ?_⟩
        have M : Mem w [] ([(l, rec .busy none), (D, .deferred (some [])), (bi, boxO info), (bk, boxO key), (b, .cells [.int .i64 (n : Int)].toArray 3 (0, 0))] ++ (b2, bcell (bptr b2) a2 l2 c2) :: opt2) Laid w12 := M.perm (List.perm_append_comm (l₁ := (b2, bcell (bptr b2) a2 l2 c2) :: opt2))
        refine ⟨M.hget 0 rfl, ?_⟩
        rintro w13 rfl
        have M := M.put 0 (rec .ready none) rfl
        refine ⟨true, rfl, m - 1, by omega, i + 1, bptr b2, a2, l2, c2, opt2, ?_, by omega, .inr rfl, ho2, M⟩
        have : addI .i64 ((i + 1 : Nat) : Int) 1 = ((i + 1 + 1 : Nat) : Int) := addI_nat _ 1 (by omega)
        rw [this]
    · refine SplitK.f (decide_eq_false hlt) ?_
      exact ⟨i, none, p, a, l', c, opt, .inl rfl, by omega, hp, ho, M⟩
  · rintro e w6 ⟨v, rfl, i, j, p, a, l', c, opt, hj, hni, hp, ho, M⟩
    refine ⟨_, rfl, j, M.hget 0 rfl, ?_⟩
    rintro w7 rfl
    have M := M.put 0 (rec .exhausted j) rfl
    have go : K1 [] [Deferred.mk (Target.collected D) #[]] (w6.putObj l (rec .exhausted j)) := by
      refine hK1 _ _ fun _ => ?_
      rintro w8 rfl
      have M := M.drew
      have hbc := M.cell 4 (c := [.int .i64 (n : Int)]) (off := 0) rfl rfl
      have hDh := M.hget 1 rfl
      have hbh := M.hget 4 rfl
      have hnd := M.nd
      have hDf := M.fresh (D, .deferred (some [])) (by simp)
      refine ⟨fun W' => W'.cell? ⟨b, 0, none⟩ = some (.int .i64 (n : Int)), hbc, _, fun _ h => h, ?_⟩
      have M : Mem w [] ([(l, rec .exhausted j), (D, .deferred (some [])), (bi, boxO info), (bk, boxO key), (b, .cells [.int .i64 (n : Int)].toArray 3 (0, 0))] ++ (b2, bcell p a l' c) :: opt) Laid _ := M
      have M := M.perm (List.perm_append_comm)
      have hne : D ≠ b2 ∧ b ≠ b2 := by
        simp at hnd
        exact ⟨fun e => hnd.2.1.2.2.2.1 e, fun e => hnd.2.2.2.2.1.1 e⟩
      refine b_StringO M hp ho fun w9 k9 hoth => ⟨_, rfl, ?_, by omega, ?_, ?_, ?_⟩
      · have := hoth b _ hbh hne.2 (by intro c fz h; cases h)
        exact cell_of_block this rfl
      · simp [expL_length]; omega
      · exact hoth D _ hDh hne.1 (by intro c fz h; cases h)
      · rintro w10 rfl
        refine ⟨?_, ?_⟩
        · rw [cutS_bs, expandE, if_neg (by omega)]
          simp only [intN_eq, Int.toNat_natCast, List.drop_zero]
          rw [expand_of key info n i hni (by omega)]
        · exact k9.trans (keep_put w9 D _) (fun x hx => by
            simp at hx; subst hx
            rcases hDf with h | h
            · exact .inr h
            · cases h)
    rcases hj with rfl | rfl
    · exact go
    · exact go

theorem m_Derive (w : World) (hw : Laid w) (key : List UInt8) (n : Int) {a : Option Addr} {l c : Nat} {xs : List ByteArray} (h : StrsAt w a l xs) (hk : key.length ≤ 100000) (hx : ∀ x ∈ xs, x.size ≤ 200) (hl : xs.length ≤ 10) :
    Calls Tryd.prog 38 #[.string (bs key), .int .i64 n, .slice a l c] w (Ret w (.tuple #[.string (bs (expand key (infoL xs) n)), .int .i64 (expandE n)])) := by
  refine calls_ret (F38_calls _ _ _ _ _ _ _ ?_)
  have hle := infoL_le xs 200 hx
  have hle2 : (200 + 4) * xs.length ≤ 204 * 10 := Nat.mul_le_mul (Nat.le_refl _) (by omega)
  refine CallK.ret (m_Info w h (fun x hx' => by have := hx x hx'; omega) (by omega)) fun w1 k1 => ⟨_, rfl, ?_⟩
  have M := hw.mem.call k1
  exact CallK.ret (m_Expand w1 M.now key _ n hk (by omega)) fun w2 k2 => ⟨_, _, rfl, rfl, k1.trans0 k2⟩

end Go.Proofs.YtlegohnjbkgclaaDoor
