/-
  A part of the proof: ML.
-/
import Derived.Test.YtlegohnjbkgclaaDoorSxMC
import Derived.Test.YtlegohnjbkgclaaDoorSxTML
import Derived.Test.YtlegohnjbkgclaaDoorSxJefe
namespace Go.Proofs.YtlegohnjbkgclaaDoor
open Go Go.Sx Go.Oct Go.Sha Go.Mac
set_option linter.unusedVariables false

theorem jefe_bs : ByteArray.mk (List.toArray [74, 101, 102, 101]) = bs JEFE := rfl
theorem what_bs : ByteArray.mk (List.toArray [119, 104, 97, 116, 32, 100, 111, 32, 121, 97, 32, 119, 97, 110, 116, 32, 102, 111, 114, 32, 110, 111, 116, 104, 105, 110, 103, 63]) = bs WHAT := rfl
theorem ab_l : ∀ x ∈ [bs [97], bs [98]], x.size ≤ 200 := by
  intro x hx
  simp at hx
  rcases hx with rfl | rfl <;> decide

theorem m_CheckT (w : World) (hw : Laid w) (key s : List UInt8) (hk : key.length ≤ 900000) (hs : s.length ≤ 900000) : Calls Tryd.prog 33 #[.string (bs key), .string (bs s), .string (bs (hmacL key s))] w (Ret w (.bool true)) := by
  have h := m_Check w hw key s (hmacL key s) hk hs
  rwa [decide_eq_true rfl] at h
theorem m_CheckF (w : World) (hw : Laid w) (key s t : List UInt8) (hk : key.length ≤ 900000) (hs : s.length ≤ 900000) (hn : hmacL key s ≠ t) : Calls Tryd.prog 33 #[.string (bs key), .string (bs s), .string (bs t)] w (Ret w (.bool false)) := by
  have h := m_Check w hw key s t hk hs
  rwa [decide_eq_false hn] at h

theorem works_03 (w : World) (hw : Laid w) : Calls Tryd.prog 29 #[] w (Ret w (.bool true)) := by
  refine calls_ret (F29_calls _ _ ?_)
  unfold F29
  rw [jefe_bs, what_bs, lit_bs [], lit_bs [107, 101, 121]]
  refine CallK.ret (m_Of w hw JEFE WHAT (by decide) (by decide)) fun w1 k => ⟨_, rfl, ?_⟩
  have M := hw.mem.call k
  refine M.newK fun b w2 M => ?_
  refine CallK.ret (m_Derive w2 M.now [107, 101, 121] 40 (c := 2) (strs1 (xs := [bs [97], bs [98]]) M) (by decide) ab_l (by decide)) fun w3 k => ⟨_, _, rfl, ?_⟩
  have M := M.tail.call (w' := w3) k
  refine CallK.ret (m_Expand w3 M.now [107, 101, 121] [] (-1) (by decide) (by decide)) fun w4 k => ⟨_, _, rfl, ?_⟩
  have M := M.call k
  refine M.newK fun b1 w5 M => ?_
  refine CallK.ret (m_Info w5 (c := 2) (strs1 (xs := [bs [97], bs [98]]) M) (fun x hx => by have := ab_l x hx; omega) (by decide)) fun w6 k => ⟨_, rfl, ?_⟩
  have M := M.tail.call (w' := w6) k
  refine CallK.ret (m_Expand w6 M.now [107, 101, 121] (infoL [bs [97], bs [98]]) 40 (by decide) (by decide)) fun w7 k => ⟨_, _, rfl, ?_⟩
  have M := M.call k
  refine CallK.ret (s_Hex w7 _ (by rw [hmacL_length]; decide)) fun w8 k => ⟨_, rfl, SplitK.t (by rw [jefe_hex]; exact eqS_refl HEXJ) ?_⟩
  have M := M.call k
  refine CallK.ret (m_CheckT w8 M.now JEFE WHAT (by decide) (by decide)) fun w9 k => ⟨_, rfl, SplitK.t rfl ?_⟩
  have M := M.call k
  refine CallK.ret (m_CheckF w9 M.now JEFE [] _ (by decide) (by decide) jefe_ne) fun w10 k => ⟨_, rfl, SplitK.t rfl ?_⟩
  have M := M.call k
  refine CallK.ret (m_Extract w10 M.now JEFE [] (by decide) (by decide)) fun w11 k => ⟨_, rfl, ?_⟩
  have M := M.call k
  refine CallK.ret (m_Of w11 M.now JEFE [] (by decide) (by decide)) fun w12 k => ⟨_, rfl, SplitK.t (eqS_refl _) ?_⟩
  have M := M.call k
  have hl := expand_length [107, 101, 121] (infoL [bs [97], bs [98]]) 40 (by decide) (by decide)
  refine SplitK.t (by rw [sizeS_bs, hl]; rfl) (SplitK.t rfl (SplitK.t rfl (SplitK.t (eqS_refl _) ⟨rfl, M.keep⟩)))

theorem eqB_comm (a b : List UInt8) : eqB (decide (a = b)) (decide (b = a)) = true := by
  by_cases h : a = b
  · subst h; simp
  · have : ¬ b = a := fun e => h e.symm
    simp [h, this]

theorem of_03 (w : World) (key s tag : List UInt8) (hw : Laid w) : Calls Tryd.prog 9 #[.string (bs key), .string (bs s), .string (bs tag)] w (Ret w (.bool true)) := by
  refine calls_ret (F9_calls _ _ _ _ _ ?_)
  refine CallK.ret (works_03 w hw) fun w1 k1 => ⟨_, rfl, SplitK.f rfl fun K hK => ?_⟩
  have out : K [.bool true] w1 := hK _ _ fun _ => SplitK.t rfl ⟨rfl, k1⟩
  refine SplitK.of (fun h => out) fun hk => SplitK.of (fun h => out) fun hs => ?_
  refine hK _ _ fun _ => SplitK.of (fun h => ⟨rfl, k1⟩) fun ht => ?_
  simp at hk hs ht
  have M := hw.mem.call k1
  refine CallK.ret (x_Of w1 key s (by omega) (by omega)) fun w2 k => ⟨_, rfl, SplitK.t rfl ?_⟩
  have M := M.call k
  refine CallK.ret (m_Of w2 M.now key s (by omega) (by omega)) fun w3 k => ⟨_, rfl, SplitK.t (eqS_refl _) ?_⟩
  have M := M.call k
  refine CallK.ret (m_Extract w3 M.now key s (by omega) (by omega)) fun w4 k => ⟨_, rfl, SplitK.t (eqS_refl _) ?_⟩
  have M := M.call k
  refine CallK.ret (m_Check w4 M.now key s tag (by omega) (by omega)) fun w5 k => ⟨_, rfl, SplitK.t ?_ ?_⟩
  · rw [eqS_bs]; exact eqB_comm _ _
  have M := M.call k
  refine CallK.ret (m_Check w5 M.now key s _ (by omega) (by omega)) fun w6 k => ⟨_, rfl, congrArg Value.bool (decide_eq_true rfl), (M.call k).keep⟩

theorem expands_03 (w : World) (key info : List UInt8) (n : Int) {a : Option Addr} {l c : Nat} {xs : List ByteArray} (h : StrsAt w a l xs) (hw : Laid w) : Calls Tryd.prog 10 #[.string (bs key), .string (bs info), .slice a l c, .int .i64 n] w (Ret w (.bool true)) := by
  refine calls_ret (F10_calls _ _ _ _ _ _ _ _ ?_)
  refine CallK.ret (works_03 w hw) fun w1 k1 => ⟨_, rfl, SplitK.f rfl ?_⟩
  refine CallK.ret (m_few w1 (h.keep0 k1)) fun w2 k2 => ⟨_, rfl, fun K hK => ?_⟩
  have k12 := k1.trans0 k2
  have out : K [.bool true] w2 := hK _ _ fun _ => SplitK.t rfl ⟨rfl, k12⟩
  refine SplitK.of (fun h => out) fun hf => SplitK.of (fun h => out) fun hk => SplitK.of (fun h => out) fun hi => ?_
  have hf : fewB xs = true := by simpa using hf
  obtain ⟨hl, hx⟩ := fewB_t hf
  simp at hk hi
  have go : K [.bool false] w2 := by
    refine hK _ _ fun _ => SplitK.f rfl ?_
    have M := (hw.mem.addF (G := fun w' => StrsAt w' a l xs) (fun w' hk => h.keep0 hk)).call k12
    have hle := infoL_le xs 200 hx
    have hle2 : (200 + 4) * xs.length ≤ 204 * 10 := Nat.mul_le_mul (Nat.le_refl _) (by omega)
    refine CallK.ret (m_Expand w2 M.now.1 key info n (by omega) (by omega)) fun w3 k => ⟨_, _, rfl, ?_⟩
    have M := M.call k
    refine CallK.ret (x_Expand w3 key info n (by omega) (by omega)) fun w4 k => ⟨_, _, rfl, ?_⟩
    have M := M.call k
    refine CallK.ret (x_Info w4 M.now.2 (fun x hx' => by have := hx x hx'; omega) (by omega)) fun w5 k => ⟨_, rfl, ?_⟩
    have M := M.call k
    refine CallK.ret (m_Derive w5 M.now.1 key n M.now.2 (by omega) hx hl) fun w6 k => ⟨_, _, rfl, ?_⟩
    have M := M.call k
    refine CallK.ret (x_Expand w6 key _ n (by omega) (by omega)) fun w7 k => ⟨_, _, rfl, SplitK.t rfl (SplitK.t (eqS_refl _) (SplitK.t (by simp) ?_))⟩
    have M := M.call k
    refine CallK.ret (m_Info w7 M.now.2 (fun x hx' => by have := hx x hx'; omega) (by omega)) fun w8 k => ⟨_, rfl, SplitK.t (eqS_refl _) (SplitK.t (eqS_refl _) ⟨by simp, (M.call k).keep⟩)⟩
  refine SplitK.of (fun h => ?_) (fun h => go)
  cases hb : leI n 8160
  · exact go
  · exact out

theorem begins_03 (w : World) (key info : List UInt8) (n m : Int) (hw : Laid w) : Calls Tryd.prog 11 #[.string (bs key), .string (bs info), .int .i64 n, .int .i64 m] w (Ret w (.bool true)) := by
  refine calls_ret (F11_calls _ _ _ _ _ _ ?_)
  refine CallK.ret (works_03 w hw) fun w1 k1 => ⟨_, rfl, SplitK.f rfl fun K hK => ?_⟩
  have out : K [.bool true] w1 := hK _ _ fun _ => SplitK.t rfl ⟨rfl, k1⟩
  refine SplitK.of (fun h => out) fun hk => SplitK.of (fun h => out) fun hi => SplitK.of (fun h => out) fun hn => SplitK.of (fun h => out) fun hm => ?_
  refine hK _ _ fun _ => SplitK.of (fun h => ⟨rfl, k1⟩) fun hm4 => ?_
  simp at hk hi hn hm hm4
  have M := hw.mem.call k1
  have e1 : expandE n = 0 := by rw [expandE, if_neg (by omega)]
  have e2 : expandE m = 0 := by rw [expandE, if_neg (by omega)]
  have l1 := expand_length key info n (by omega) (by omega)
  have l2 := expand_length key info m (by omega) (by omega)
  refine CallK.ret (m_Expand w1 M.now key info n (by omega) (by omega)) fun w2 k => ⟨_, _, rfl, ?_⟩
  have M := M.call k
  refine CallK.ret (m_Expand w2 M.now key info m (by omega) (by omega)) fun w3 k => ⟨_, _, rfl, SplitK.t rfl ?_⟩
  have M := M.call k
  refine SplitK.t (by rw [e1]; rfl) (SplitK.t (by rw [e2]; rfl) (SplitK.t (by rw [sizeS_bs, l1]; simp; omega) (SplitK.t (by rw [sizeS_bs, l2]; simp; omega) ⟨hn, by rw [sizeS_bs, l2]; simp; omega, ?_, M.keep⟩)))
  rw [cutS_bs]
  simp only [intN_eq, List.drop_zero]
  rw [expand_begins key info n m hn (by omega) (by omega), eqS_refl]

theorem infos_03 (w : World) {a a' : Option Addr} {l c l' c' : Nat} {xs ys : List ByteArray} (h : StrsAt w a l xs) (h' : StrsAt w a' l' ys) (hw : Laid w) : Calls Tryd.prog 12 #[.slice a l c, .slice a' l' c'] w (Ret w (.bool true)) := by
  refine calls_ret (F12_calls _ _ _ _ _ _ _ _ ?_)
  refine CallK.ret (works_03 w hw) fun w1 k1 => ⟨_, rfl, SplitK.f rfl fun K hK => ?_⟩
  refine CallK.ret (m_few w1 (h.keep0 k1)) fun w2 k2 => ⟨_, rfl, ?_⟩
  have k12 := k1.trans0 k2
  refine SplitK.of (fun hf => ?_) (fun hf => hK _ _ fun _ => SplitK.t rfl ⟨rfl, k12⟩)
  refine CallK.ret (m_few w2 (h'.keep0 k12)) fun w3 k3 => ⟨_, rfl, hK _ _ fun _ => ?_⟩
  have k13 := k12.trans0 k3
  refine SplitK.of (fun hf' => ⟨rfl, k13⟩) (fun hf' => ?_)
  have hf' : fewB ys = true := by simpa using hf'
  obtain ⟨hl, hx⟩ := fewB_t hf
  obtain ⟨hl', hx'⟩ := fewB_t hf'
  refine CallK.ret (x_Texts w3 (h.keep0 k13) (h'.keep0 k13) (by omega)) fun w4 k4 => ⟨_, rfl, SplitK.t rfl ?_⟩
  have k14 := k13.trans0 k4
  refine CallK.ret (m_Info w4 (h.keep0 k14) (fun x hx1 => by have := hx x hx1; omega) (by omega)) fun w5 k5 => ⟨_, rfl, ?_⟩
  have k15 := k14.trans0 k5
  refine CallK.ret (m_Info w5 (h'.keep0 k15) (fun x hx1 => by have := hx' x hx1; omega) (by omega)) fun w6 k6 => ⟨_, rfl, ?_, k15.trans0 k6⟩
  rw [eqS_bs]
  by_cases he : xs = ys
  · subst he; simp
  · have : infoL xs ≠ infoL ys := fun hi => he (infoL_inj xs ys (fun x hx1 => by have := hx x hx1; omega) (fun x hx1 => by have := hx' x hx1; omega) hi)
    simp [he, this]

theorem keys_03 (w : World) (key s : List UInt8) (n : Nat) (hn : n < 256) (hw : Laid w) : Calls Tryd.prog 13 #[.string (bs key), .string (bs s), .int .u8 n] w (Ret w (.bool true)) := by
  refine calls_ret (F13_calls _ _ _ _ _ ?_)
  refine CallK.ret (works_03 w hw) fun w1 k1 => ⟨_, rfl, SplitK.f rfl fun K hK => ?_⟩
  have out : K [.bool true] w1 := hK _ _ fun _ => SplitK.t rfl ⟨rfl, k1⟩
  refine SplitK.of (fun h => out) fun hk => ?_
  refine hK _ _ fun _ => SplitK.of (fun h => ⟨rfl, k1⟩) fun hs => ?_
  simp at hk hs
  have M := hw.mem.call k1
  refine CallK.ret (m_Of w1 M.now key s (by omega) (by omega)) fun w2 k => ⟨_, rfl, ?_⟩
  have M := M.call k
  refine SplitK.of (fun hl => ?_) (fun hl => ?_)
  · simp at hl
    refine SplitK.t rfl (CallK.ret (s_SumOf w2 M.now key (by omega)) fun w3 k => ⟨_, rfl, ?_⟩)
    have M := M.call k
    have e : hmacL (sumL key) s = hmacL key s := by rw [hmacL, hmacL, padK_sum key (by omega)]
    refine CallK.ret (m_Of w3 M.now _ s (by rw [sumL_length]; decide) (by omega)) fun w4 k => ⟨_, rfl, ?_, (M.call k).keep⟩
    rw [e, eqS_refl]
  · simp at hl
    refine ⟨fun m vs w3 => ∃ (i : Nat) (key' : List UInt8), vs = [.string (bs key'), .int .i64 i] ∧ i + m = 65 ∧ key'.length ≤ 64 ∧ padK key' = padK key ∧ Mem w [] [] Laid w3, ⟨65, 0, key, rfl, by omega, by omega, rfl, M⟩, ?_⟩
    clear M
    rintro m vs w3 ⟨i, key', rfl, him, hkl, hpk, M⟩
    refine ⟨_, _, rfl, fun _ K1 hK1 => ?_⟩
    have fin : K1 [.bool false] w3 := by
      refine hK1 _ _ fun _ => SplitK.f rfl (SplitK.t rfl ?_)
      have e : hmacL key' s = hmacL key s := by rw [hmacL, hmacL, hpk]
      refine CallK.ret (m_Of w3 M.now _ s (by omega) (by omega)) fun w4 k => ⟨_, rfl, ?_⟩
      rw [e]
      exact SplitK.t (eqS_refl _) ⟨by rw [sizeS_bs, hmacL_length]; rfl, (M.call k).keep⟩
    have e65 : remI (wrapI .i64 (n : Int)) 65 = ((n % 65 : Nat) : Int) := by
      rw [wrapI_i64 _ (by omega)]; exact remI_nat _ 65
    rw [e65]
    refine ⟨by decide, SplitK.of (fun hlt => ?_) (fun hlt => fin)⟩
    simp at hlt
    cases hb : ltI (natI (sizeS (bs key'))) 64
    · exact fin
    · have hb : key'.length < 64 := by simp at hb; omega
      refine hK1 _ _ fun _ => SplitK.t rfl ?_
      refine M.newK fun b w4 M => ⟨[0], M.bytes 0 (T := 5) (fr := (0, 0)) rfl rfl, by simp; omega, m - 1, by omega, i + 1, key' ++ [0], ?_, by omega, by simp; omega, ?_, M.tail⟩
      · rw [catS_bs, addI_one (by omega)]
      · rw [padK_zero key' hb, hpk]

theorem checks_03 (w : World) (key s : List UInt8) (at' : Nat) (by' : Nat) (hat : at' < 256) (hby : by' < 256) (hw : Laid w) : Calls Tryd.prog 14 #[.string (bs key), .string (bs s), .int .u8 at', .int .u8 by'] w (Ret w (.bool true)) := by
  refine calls_ret (F14_calls _ _ _ _ _ _ ?_)
  refine CallK.ret (works_03 w hw) fun w1 k1 => ⟨_, rfl, SplitK.f rfl fun K hK => ?_⟩
  have out : K [.bool true] w1 := hK _ _ fun _ => SplitK.t rfl ⟨rfl, k1⟩
  refine SplitK.of (fun h => out) fun hk => ?_
  refine hK _ _ fun _ => SplitK.of (fun h => ⟨rfl, k1⟩) fun hs => ?_
  simp at hk hs
  have M := hw.mem.call k1
  refine CallK.ret (m_Of w1 M.now key s (by omega) (by omega)) fun w2 k => ⟨_, rfl, ?_⟩
  have M := M.call k
  have hl := hmacL_length key s
  generalize ht : hmacL key s = t at hl
  refine SplitK.f (by rw [sizeS_bs, hl]; rfl) ?_
  obtain ⟨b, rfl⟩ : ∃ b : UInt8, by' = b.toNat := ⟨UInt8.ofNat by', by simp; omega⟩
  refine M.bytesOfK fun bk rest w3 M => ?_
  have e32 : remI (wrapI .i64 (at' : Int)) 32 = ((at' % 32 : Nat) : Int) := by
    rw [wrapI_i64 _ (by omega)]; exact remI_nat _ 32
  rw [e32]
  have hm := Nat.mod_lt at' (show 0 < 32 by decide)
  generalize at' % 32 = i at hm
  have hi : i < t.length := by omega
  have hg : (byteVs t ++ rest)[0 + i]? = some (byteV t[i]) := by
    rw [Nat.zero_add, List.getElem?_append_left (by simp [byteVs]; omega), byteVs, List.getElem?_map, List.getElem?_eq_getElem hi]; rfl
  rw [addA_int, addr_add]
  refine ⟨by decide, by decide, by omega, by simp; omega, _, M.cell 0 (c := byteVs t ++ rest) (off := 0 + i) rfl hg, by omega, by simp; omega, ?_⟩
  rw [xorI_u8]
  refine M.stKf 0 (c := byteVs t ++ rest) rfl (by simp [byteVs]; omega) (by intro j h1 h2; simp at h2; simp; omega) rfl fun w4 M => SplitK.t rfl ?_
  have e : spliceL (byteVs t ++ rest) (0 + i) [Value.int .u8 (((t[i] ^^^ b).toNat : Nat) : Int)] = byteVs (t.set i (t[i] ^^^ b)) ++ rest := by
    show (byteVs t ++ rest).set (0 + i) (byteV (t[i] ^^^ b)) = _
    rw [Nat.zero_add, List.set_append_left _ _ (by simp [byteVs]; omega), byteVs, byteVs, List.map_set]
  rw [e] at M
  refine ⟨t.set i (t[i] ^^^ b), ⟨by simp, M.cellsFrom 0 rfl fun j v hv => ?_⟩, ?_⟩
  · rw [Nat.zero_add, List.getElem?_append_left (by simpa [byteVs] using (List.getElem?_eq_some_iff.1 hv).1)]
    exact hv
  refine CallK.ret (m_Check w4 M.now key s _ (by omega) (by omega)) fun w5 k => ⟨_, rfl, SplitK.t ?_ ⟨by decide, by omega, by rw [sizeS_bs]; simp; omega, ?_⟩⟩
  · rw [ht]
    have : (t = t.set i (t[i] ^^^ b)) ↔ b = 0 := by
      constructor
      · intro h
        have h1 := congrArg (fun l => l[i]?) h
        simp only [List.getElem?_set_self hi, List.getElem?_eq_getElem hi, Option.some.injEq] at h1
        have h2 : t[i] ^^^ t[i] = t[i] ^^^ (t[i] ^^^ b) := congrArg (fun x => t[i] ^^^ x) h1
        rw [← UInt8.xor_assoc, UInt8.xor_self, UInt8.zero_xor] at h2
        exact h2.symm
      · rintro rfl
        rw [UInt8.xor_zero, List.set_getElem_self]
    have hb0 : ((b.toNat : Nat) : Int) = 0 ↔ b = 0 := by
      constructor
      · intro h; exact UInt8.toNat_inj.1 (by simpa using h)
      · rintro rfl; rfl
    by_cases hb : b = 0
    · subst hb; simp
    · have h1 : ¬ t = t.set i (t[i] ^^^ b) := fun h => hb (this.1 h)
      have h2 : eqI ((b.toNat : Nat) : Int) 0 = false := by rw [eqI_f]; exact fun h => hb (hb0.1 h)
      simp [h1, h2]
  have M := M.call k
  rw [cutS_bs]
  refine CallK.ret (m_Check w5 M.now key s _ (by omega) (by omega)) fun w6 k => ⟨_, rfl, SplitK.t ?_ ?_⟩
  · rw [ht]
    have : t ≠ t.take i := fun h => by
      have := congrArg List.length h
      simp at this
      omega
    simp [this]
  have M := M.call k
  refine M.newK fun b5 w7 M => ⟨[b], M.bytes 0 (T := 5) (fr := (0, 0)) rfl rfl, by simp; omega, ?_⟩
  rw [catS_bs]
  refine CallK.ret (m_Check w7 M.now key s _ (by omega) (by omega)) fun w8 k => ⟨_, rfl, ?_, (M.call k).keep⟩
  rw [ht]
  have : t ≠ t ++ [b] := fun h => by
    have := congrArg List.length h
    simp at this
  simp [this]

end Go.Proofs.YtlegohnjbkgclaaDoor
