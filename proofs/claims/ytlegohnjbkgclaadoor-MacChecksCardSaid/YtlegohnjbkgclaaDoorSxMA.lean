/-
  A part of the proof: MA.
-/
import Derived.Test.YtlegohnjbkgclaaDoorSxSL
import Derived.Test.YtlegohnjbkgclaaDoorSxTM
import Derived.Test.YtlegohnjbkgclaaDoorSxMac
namespace Go.Proofs.YtlegohnjbkgclaaDoor
open Go Go.Sx Go.Oct Go.Sha Go.Mac
set_option linter.unusedVariables false

def inner (key : List UInt8) : List UInt8 := turnL (padK key) 54
theorem s_Rep64 (w : World) (b : UInt8) : Calls Tryd.prog 46 #[.string (bs [b]), .int .i64 64] w (Ret w (.string (bs (List.replicate 64 b)))) := by
  have := s_Repeat w [b] 64 (by simp) (by decide)
  rwa [repeatL_one] at this

section
variable {w0 w : World} {lo : List Nat} {m : List (Nat × Obj)} {F : World → Prop}
def boxO (s : List UInt8) : Obj := .cells (List.toArray [.string (bs s)]) 9 (0, 0)

theorem m_begin (hF : ∀ w, F w → Laid w) (M : Mem w0 lo m F w) {key : List UInt8} (hk : key.length ≤ 1000000) {R : Ending → World → Prop}
    (h : ∀ a b w', Mem w0 lo ((a, stO (inner key)) :: (b, boxO (padK key)) :: m) F w' → R (.returned (.tuple (List.toArray [sptr a, .func (.func 80) #[] #[sptr b]]))) w') :
    CallK Tryd.prog 69 #[.string (bs key)] w R := by
  refine Calls.mono (F69_calls (bs key) w (fun v w' => R (.returned v) w') ?_) (fun e w' ⟨v, he, hr⟩ => by rw [he]; exact hr)
  refine M.newK fun b w1 M K hK => ?_
  have hkl := keyL_length key
  have hpk := padK_length key
  have go : ∀ w2, Mem w0 lo ((b, boxO (keyL key)) :: m) F w2 → K [] w2 := by
    intro w2 M
    refine hK _ fun _ => ?_
    rintro w3 rfl
    have M := M.drew
    refine ⟨fun W' => Keep [] w2.drew W', Keep.refl _ _, _, fun w4 k4 => (M.call k4).cell 0 (c := [.string (bs (keyL key))]) (off := 0) rfl rfl, _, fun w4 k4 => (M.call k4).cell 0 (c := [.string (bs (keyL key))]) (off := 0) rfl rfl, ?_⟩
    have e1 : subI .i64 64 (natI (sizeS (bs (keyL key)))) = ((64 - (keyL key).length : Nat) : Int) := by
      rw [sizeS_bs, natI_eq]; exact subI_nat 64 _ hkl (by decide)
    rw [e1]
    refine CallK.ret (s_Repeat _ [0] _ (by simp; omega) (by omega)) fun w4 k4 => ⟨_, rfl, k4, ?_⟩
    have M := M.call k4
    rw [repeatL_zeros, catS_bs]
    refine ⟨by simp [zerosB]; omega, ?_⟩
    refine M.stK 0 (off := 0) (c := [.string (bs (keyL key))]) rfl (by simp) rfl fun w5 M => ?_
    have M : Mem w0 lo ((b, boxO (padK key)) :: m) F w5 := M
    refine s_New hF M fun a w6 M => ⟨_, rfl, ?_⟩
    rintro w7 rfl
    have M := M.drew
    refine ⟨fun W' => W'.cell? ⟨b, 0, none⟩ = some (.string (bs (padK key))), M.cell 1 (c := [.string (bs (padK key))]) (off := 0) rfl rfl, _, fun _ h => h, ?_⟩
    refine CallK.ret (s_Rep64 _ 54) fun w8 k8 => ⟨_, rfl, ?_⟩
    have M := M.call k8
    refine ⟨M.cell 1 (c := [.string (bs (padK key))]) (off := 0) rfl rfl, ?_⟩
    refine CallK.ret (o_Xor w8 _ _ (by omega)) fun w9 k9 => ⟨_, rfl, ?_⟩
    have M := M.call k9
    have e2 : xorL (padK key) (List.replicate 64 54) = inner key := by rw [← hpk, xorL_rep]; rfl
    rw [e2]
    refine s_Write hF M (by rw [inner, turnL_length, hpk]; decide) fun w10 M => ⟨rfl, ?_⟩
    rw [List.nil_append] at M
    refine ⟨M.cell 1 (c := [.string (bs (padK key))]) (off := 0) rfl rfl, ?_⟩
    exact h a b w10 M
  refine ⟨_, M.cell 0 (c := [.string (bs key)]) (off := 0) rfl rfl, SplitK.of (fun hl => ?_) (fun hl => ?_)⟩
  · simp at hl
    refine ⟨_, M.cell 0 (c := [.string (bs key)]) (off := 0) rfl rfl, ?_⟩
    refine CallK.ret (s_SumOf w1 (hF _ M.now) key (by omega)) fun w2 k2 => ⟨_, rfl, ?_⟩
    have M := M.call k2
    refine M.stK 0 (off := 0) (c := [.string (bs key)]) rfl (by simp) rfl fun w3 M => ?_
    have e : keyL key = sumL key := by rw [keyL, if_pos (by omega)]
    refine go w3 ?_
    rw [e]
    exact M
  · simp at hl
    have e : keyL key = key := by rw [keyL, if_neg (by omega)]
    refine go w1 ?_
    rw [e]
    exact M
end

theorem m_end (w : World) (hw : Laid w) (a b : Nat) (t K : List UInt8) (hc : CellsAt w ⟨a, 0, none⟩ (stT t)) (hb : w.cell? ⟨b, 0, none⟩ = some (.string (bs K))) (hK : K.length = 64) (ht : t.length ≤ 1000000) :
    Calls Tryd.prog 80 #[sptr a, sptr b] w (Ret w (.string (bs (sumL (turnL K 92 ++ sumL t))))) := by
  refine calls_ret (F80_calls _ _ _ _ ?_)
  rintro w1 rfl
  have M := (hw.mem.addF (G := fun w' => CellsAt w' ⟨a, 0, none⟩ (stT t) ∧ w'.cell? ⟨b, 0, none⟩ = some (.string (bs K))) (fun w' hk => ⟨hc.keep hk (by simp), hk.cell hb (by simp)⟩)).drew
  refine ⟨fun W' => W'.cell? ⟨b, 0, none⟩ = some (.string (bs K)), M.now.2.2, _, fun _ h => h, ?_⟩
  refine CallK.ret (s_Rep64 _ 92) fun w2 k2 => ⟨_, rfl, ?_⟩
  have M := M.call k2
  refine ⟨M.now.2.2, CallK.ret (o_Xor w2 _ _ (by omega)) fun w3 k3 => ⟨_, rfl, ?_⟩⟩
  have M := M.call k3
  have e2 : xorL K (List.replicate 64 92) = turnL K 92 := by rw [← hK, xorL_rep]
  rw [e2]
  refine CallK.ret (s_Sum w3 M.now.1 a t M.now.2.1 ht) fun w4 k4 => ⟨_, rfl, ?_⟩
  have M := M.call k4
  refine ⟨M.now.2.2, ?_⟩
  rw [catS_bs]
  have hl : (turnL K 92 ++ sumL t).length = 96 := by rw [List.length_append, turnL_length, hK, sumL_length]
  refine ⟨by rw [sizeS_bs, sizeS_bs, turnL_length, sumL_length, hK]; decide, ?_⟩
  refine CallK.ret (s_SumOf w4 M.now.1 _ (by rw [hl]; decide)) fun w5 k5 => ⟨_, rfl, ?_⟩
  have M := M.call k5
  exact ⟨M.now.2.2, rfl, M.keep⟩

theorem m_of (w : World) (hw : Laid w) (key : List UInt8) (hk : key.length ≤ 1000000) {a : Option Addr} {l c : Nat} {xs : List ByteArray} (hx : StrsAt w a l xs) (ht : (catX xs).length ≤ 900000) (hl9 : xs.length ≤ 1000000) :
    Calls Tryd.prog 51 #[.string (bs key), .slice a l c] w (Ret w (.string (bs (hmacL key (catX xs))))) := by
  refine calls_ret (F51_calls _ _ _ _ _ _ ?_)
  have M := hw.mem.addF (G := fun w' => StrsAt w' a l xs) (fun w' hk => hx.keep0 hk)
  have hil : (inner key).length = 64 := by rw [inner, turnL_length, padK_length]
  have hxl : l = xs.length := hx.1
  refine m_begin (fun _ h => h.1) M hk fun x b w1 M => ⟨_, _, rfl, ?_⟩
  refine ⟨fun n vs w2 => ∃ k : Nat, vs = [.int .i64 k] ∧ k + n = xs.length ∧ Mem w [] [(x, stO (inner key ++ catX (xs.take k))), (b, boxO (padK key))] (fun w' => Laid w' ∧ StrsAt w' a l xs) w2, ⟨xs.length, 0, rfl, by omega, by simpa [catX] using M⟩, ?_⟩
  clear M
  rintro n vs w2 ⟨k, rfl, hkn, M⟩
  have hle := catX_le xs k
  refine ⟨_, rfl, fun _ => SplitK.of (fun hlt => ?_) (fun hlt => ?_)⟩
  · simp at hlt
    obtain ⟨q, hq, hcell⟩ := M.now.2.get (k := k) (by omega)
    have hs1 := catX_take xs k (by omega)
    have hle1 := catX_le xs (k + 1)
    obtain ⟨s, hs⟩ := bs_surj (xs[k]'(by omega))
    rw [hs] at hcell hs1
    subst hq
    have e1 : addA q (mulN (intN (k : Int)) 1) = q.add k := addA_int q k
    refine ⟨by omega, by simp; omega, bs s, by rw [e1]; exact hcell, ?_⟩
    have hs1 : catX (xs.take (k + 1)) = catX (xs.take k) ++ s := by rw [hs1]; simp [bs]
    rw [hs1, List.length_append] at hle1
    refine s_Write (fun _ h => h.1) M (by rw [List.length_append, hil]; omega) fun w3 M => ⟨rfl, n - 1, by omega, k + 1, by rw [addI_one (by omega)], by omega, ?_⟩
    rw [hs1, ← List.append_assoc]
    exact M
  · simp at hlt
    have e : k = xs.length := by omega
    subst e
    rw [List.take_length] at M
    refine FnK.fn rfl ?_
    refine CallK.ret (m_end w2 M.now.1 x b _ (padK key) (M.cells 0 (c := stT (inner key ++ catX xs)) rfl) (M.cell 1 (c := [.string (bs (padK key))]) (off := 0) rfl rfl) (padK_length key) (by rw [List.length_append, hil]; omega)) fun w3 k3 => ⟨_, rfl, rfl, (M.call k3).keep⟩

theorem strs1 {w0 w : World} {lo : List Nat} {m : List (Nat × Obj)} {F : World → Prop} {b : Nat} {T : TypeId} {xs : List ByteArray} (M : Mem w0 lo ((b, .cells (xs.map Value.string).toArray T (0, 0)) :: m) F w) : StrsAt w (some ⟨b, 0, none⟩) xs.length xs :=
  ⟨rfl, .inr ⟨_, rfl, M.cells 0 rfl⟩⟩

theorem catX_one (s : List UInt8) : catX [bs s] = s := by simp [catX, bs]

theorem m_Of (w : World) (hw : Laid w) (key s : List UInt8) (hk : key.length ≤ 900000) (hs : s.length ≤ 900000) : Calls Tryd.prog 31 #[.string (bs key), .string (bs s)] w (Ret w (.string (bs (hmacL key s)))) := by
  refine calls_ret (F31_calls _ _ _ _ ?_)
  refine hw.mem.newK fun b w1 M => ?_
  have h := m_of w1 M.now key (by omega) (c := 1) (strs1 (xs := [bs s]) M) (by rw [catX_one]; omega) (by simp)
  rw [catX_one] at h
  exact CallK.ret h fun w2 k2 => ⟨_, rfl, rfl, (M.call k2).keep⟩
theorem m_Extract (w : World) (hw : Laid w) (key s : List UInt8) (hk : key.length ≤ 900000) (hs : s.length ≤ 900000) : Calls Tryd.prog 32 #[.string (bs key), .string (bs s)] w (Ret w (.string (bs (hmacL key s)))) := by
  refine calls_ret (F32_calls _ _ _ _ ?_)
  refine hw.mem.newK fun b w1 M => ?_
  have h := m_of w1 M.now key (by omega) (c := 1) (strs1 (xs := [bs s]) M) (by rw [catX_one]; omega) (by simp)
  rw [catX_one] at h
  exact CallK.ret h fun w2 k2 => ⟨_, rfl, rfl, (M.call k2).keep⟩
theorem m_Check (w : World) (hw : Laid w) (key s t : List UInt8) (hk : key.length ≤ 900000) (hs : s.length ≤ 900000) : Calls Tryd.prog 33 #[.string (bs key), .string (bs s), .string (bs t)] w (Ret w (.bool (decide (hmacL key s = t)))) := by
  refine calls_ret (F33_calls _ _ _ _ _ ?_)
  refine hw.mem.newK fun b w1 M => ?_
  have h := m_of w1 M.now key (by omega) (c := 1) (strs1 (xs := [bs s]) M) (by rw [catX_one]; omega) (by simp)
  rw [catX_one] at h
  refine CallK.ret h fun w2 k2 => ⟨_, rfl, ?_⟩
  exact CallK.ret (o_Equal w2 _ t (by rw [hmacL_length]; decide)) fun w3 k3 => ⟨_, rfl, rfl, ((M.call k2).call k3).keep⟩

/-! ### The reference -/
theorem x_turned (w : World) (s : List UInt8) (b : UInt8) (hs : s.length ≤ 1000000) : Calls Tryd.prog 50 #[.string (bs s), .int .u8 ((b.toNat : Nat) : Int)] w (Ret w (.string (bs (turnL s b)))) := by
  refine calls_ret (F50_calls _ _ _ _ ?_)
  refine (Mem.start w).bytesOfK fun bk rest w1 M => ?_
  refine ⟨fun n vs w2 => ∃ k : Nat, vs = [.int .i64 k] ∧ k + n = s.length ∧ Mem w [] [(bk, .cells (byteVs (turnL (s.take k) b ++ s.drop k) ++ rest).toArray 5 (s.length + rest.length, s.length + rest.length + 1))] (fun _ => True) w2, ⟨s.length, 0, rfl, by omega, by simpa [turnL] using M⟩, ?_⟩
  clear M
  rintro n vs w2 ⟨k, rfl, hk, M⟩
  refine ⟨_, rfl, fun _ => SplitK.of (fun hlt => ?_) (fun hlt => ?_)⟩
  · simp at hlt
    have hlen : (turnL (s.take k) b ++ s.drop k).length = s.length := by rw [List.length_append, turnL_length, List.length_take, List.length_drop]; omega
    have htl : (turnL (s.take k) b).length = k := by rw [turnL_length, List.length_take]; omega
    have hg : (byteVs (turnL (s.take k) b ++ s.drop k) ++ rest)[0 + k]? = some (byteV s[k]) := by
      rw [Nat.zero_add, List.getElem?_append_left (by simp [byteVs]; omega), byteVs, List.getElem?_map, List.getElem?_append_right (by omega), htl, Nat.sub_self, List.getElem?_drop, Nat.add_zero, List.getElem?_eq_getElem hlt]; rfl
    rw [addA_int, addr_add]
    refine ⟨by omega, by simp; omega, _, M.cell 0 (c := byteVs (turnL (s.take k) b ++ s.drop k) ++ rest) (off := 0 + k) rfl hg, by omega, by simp; omega, ?_⟩
    rw [xorI_u8]
    refine M.stKf 0 (c := byteVs (turnL (s.take k) b ++ s.drop k) ++ rest) rfl (by simp [byteVs]; omega) (by intro j h1 h2; simp at h2; simp; omega) rfl fun w3 M => ?_
    refine ⟨n - 1, by omega, k + 1, by rw [addI_one (by omega)], by omega, ?_⟩
    have e : spliceL (byteVs (turnL (s.take k) b ++ s.drop k) ++ rest) (0 + k) [Value.int .u8 (((s[k] ^^^ b).toNat : Nat) : Int)] = byteVs (turnL (s.take (k + 1)) b ++ s.drop (k + 1)) ++ rest := by
      show (byteVs (turnL (s.take k) b ++ s.drop k) ++ rest).set (0 + k) (byteV (s[k] ^^^ b)) = _
      rw [Nat.zero_add, List.set_append_left _ _ (by simp [byteVs]; omega)]
      congr 1
      rw [byteVs, ← List.map_set, List.set_append_right _ _ (by omega), htl, Nat.sub_self, List.drop_eq_getElem_cons hlt, List.set_cons_zero, List.take_succ_eq_append_getElem hlt]
      simp only [byteVs, turnL, List.map_append, List.map_cons, List.map_nil, List.append_assoc, List.singleton_append]
    rw [e] at M
    exact M
  · simp at hlt
    have : k = s.length := by omega
    subst this
    rw [List.take_length, List.drop_length, List.append_nil] at M
    refine ⟨turnL s b, ⟨by rw [turnL_length, sizeS_bs], M.cellsFrom 0 rfl fun j v hv => ?_⟩, rfl, M.keep⟩
    rw [Nat.zero_add, List.getElem?_append_left (by simpa [byteVs] using (List.getElem?_eq_some_iff.1 hv).1)]
    exact hv

theorem x_Of (w : World) (key s : List UInt8) (hk : key.length ≤ 900000) (hs : s.length ≤ 900000) : Calls Tryd.prog 30 #[.string (bs key), .string (bs s)] w (Ret w (.string (bs (hmacL key s)))) := by
  refine calls_ret (F30_calls _ _ _ _ ?_)
  intro K hK
  have hkl := keyL_length key
  have hpl := padK_length key
  have go : ∀ w1, Keep [] w w1 → K [.string (bs (keyL key))] w1 := by
    intro w1 k1
    refine hK _ _ fun _ => ?_
    refine ⟨fun n vs w2 => ∃ k : Nat, vs = [.string (bs (keyL key ++ zerosB k))] ∧ (keyL key).length + k + n = 64 ∧ Keep [] w w2, ⟨64 - (keyL key).length, 0, by simp [zerosB], by omega, k1⟩, ?_⟩
    rintro n vs w2 ⟨k, rfl, hk, k2⟩
    refine ⟨_, rfl, fun _ => SplitK.of (fun hlt => ?_) (fun hlt => ?_)⟩
    · simp [zerosB] at hlt
      refine (Mem.start w2).newK fun b w3 M => ⟨[0], M.bytes 0 (T := 5) (fr := (0, 0)) rfl rfl, by simp [zerosB]; omega, n - 1, by omega, k + 1, ?_, by omega, k2.trans0 M.keep⟩
      rw [catS_bs]
      simp [zerosB, List.replicate_succ']
    · simp [zerosB] at hlt
      have e : keyL key ++ zerosB k = padK key := by rw [padK]; congr 2; omega
      rw [e]
      have ht := turnL_length (padK key)
      refine CallK.ret (x_turned w2 (padK key) 92 (by omega)) fun w3 k3 => ⟨_, rfl, ?_⟩
      refine CallK.ret (x_turned w3 (padK key) 54 (by omega)) fun w4 k4 => ⟨_, rfl, ?_⟩
      rw [catS_bs]
      refine ⟨by rw [sizeS_bs, sizeS_bs, ht, addN_eq]; omega, ?_⟩
      refine CallK.ret (x_Sum w4 _ (by rw [List.length_append, ht]; omega)) fun w5 k5 => ⟨_, rfl, ?_⟩
      rw [catS_bs]
      refine ⟨by rw [sizeS_bs, sizeS_bs, ht, sumL_length, addN_eq]; omega, ?_⟩
      refine CallK.ret (x_Sum w5 _ (by rw [List.length_append, ht, sumL_length]; omega)) fun w6 k6 => ⟨_, rfl, rfl, (((k2.trans0 k3).trans0 k4).trans0 k5).trans0 k6⟩
  refine SplitK.of (fun h => ?_) (fun h => ?_)
  · simp at h
    refine CallK.ret (x_Sum w key (by omega)) fun w1 k1 => ⟨_, rfl, ?_⟩
    have e : keyL key = sumL key := by rw [keyL, if_pos (by omega)]
    rw [← e]
    exact go _ k1
  · simp at h
    have e : keyL key = key := by rw [keyL, if_neg (by omega)]
    have := go w (Keep.refl _ _)
    rw [e] at this
    exact this

end Go.Proofs.YtlegohnjbkgclaaDoor
