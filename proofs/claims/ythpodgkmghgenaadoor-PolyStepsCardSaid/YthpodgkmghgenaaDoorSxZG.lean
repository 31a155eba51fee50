/-
  A part of the proof: ZG.
-/
import Derived.Test.YthpodgkmghgenaaDoorSxHX
import Derived.Test.YthpodgkmghgenaaDoorSxTPL
namespace Go.Proofs.YthpodgkmghgenaaDoor
open Go Go.Sx Go.Oct Go.Poly Go.Sha
set_option linter.unusedVariables false

def HEXK : List UInt8 := [56, 53, 100, 54, 98, 101, 55, 56, 53, 55, 53, 53, 54, 100, 51, 51, 55, 102, 52, 52, 53, 50, 102, 101, 52, 50, 100, 53, 48, 54, 97, 56, 48, 49, 48, 51, 56, 48, 56, 97, 102, 98, 48, 100, 98, 50, 102, 100, 52, 97, 98, 102, 102, 54, 97, 102, 52, 49, 52, 57, 102, 53, 49, 98]
def KEYK : List UInt8 := [133, 214, 190, 120, 87, 85, 109, 51, 127, 68, 82, 254, 66, 213, 6, 168, 1, 3, 128, 138, 251, 13, 178, 253, 74, 191, 246, 175, 65, 73, 245, 27]
def GROUP : List UInt8 := [67, 114, 121, 112, 116, 111, 103, 114, 97, 112, 104, 105, 99, 32, 70, 111, 114, 117, 109, 32, 82, 101, 115, 101, 97, 114, 99, 104, 32, 71, 114, 111, 117, 112]
def TAGK : List UInt8 := [168, 6, 29, 193, 48, 81, 54, 198, 194, 43, 139, 175, 12, 1, 39, 169]
def HEXT : List UInt8 := [97, 56, 48, 54, 49, 100, 99, 49, 51, 48, 53, 49, 51, 54, 99, 54, 99, 50, 50, 98, 56, 98, 97, 102, 48, 99, 48, 49, 50, 55, 97, 57]
theorem hexk : unhexL HEXK = KEYK := by decide +kernel
theorem tagk : tagL KEYK GROUP = TAGK := by decide +kernel
theorem hext : hexL TAGK = HEXT := by decide +kernel
theorem tagk_hex : hexL (tagL (unhexL HEXK) GROUP) = HEXT := by rw [hexk, tagk, hext]
theorem one17 : fillL [1] 17 = txt (num [1] * num [1]) := by decide +kernel
theorem one17' : fillL [1] 17 = txt (num [] + num [1]) := by decide +kernel

theorem x_Texts (w : World) {a a' : Option Addr} {l c l' c' : Nat} {xs ys : List ByteArray} (h : StrsAt w a l xs) (h' : StrsAt w a' l' ys) (hl : xs.length ≤ 1000000) : Calls Tryd.prog 17 #[.slice a l c, .slice a' l' c'] w (Ret w (.bool (decide (xs = ys)))) := by
  refine calls_ret (F17_calls _ _ _ _ _ _ _ _ ?_)
  have hxl : l = xs.length := h.1
  have hyl : l' = ys.length := h'.1
  refine SplitK.of (fun hn => ?_) (fun hn => ?_)
  · simp only [natI_eq, notB_t, eqI_f] at hn
    have : xs ≠ ys := fun e => hn (by rw [hxl, hyl, e])
    exact ⟨by simp [this], Keep.refl _ _⟩
  · simp only [natI_eq, notB_f, eqI_t] at hn
    have hll : xs.length = ys.length := by omega
    refine ⟨fun n vs w2 => ∃ k : Nat, vs = [.int .i64 k] ∧ k + n = xs.length ∧ xs.take k = ys.take k ∧ Keep [] w w2, ⟨xs.length, 0, rfl, by omega, rfl, Keep.refl _ _⟩, ?_⟩
    rintro n vs w2 ⟨k, rfl, hk, ht, hK⟩
    refine ⟨_, rfl, fun _ => SplitK.of (fun hlt => ?_) (fun hlt => ?_)⟩
    · simp at hlt
      have hkx : k < xs.length := by omega
      have hky : k < ys.length := by omega
      rintro w3 rfl
      obtain ⟨q, hq, hqc⟩ := (h.keep0 hK.drew).get (k := k) hkx
      obtain ⟨q', hq', hqc'⟩ := (h'.keep0 hK.drew).get (k := k) hky
      have e1 : ∀ q : Addr, addA q (mulN (intN (k : Int)) 1) = q.add k := fun q => addA_int q k
      refine ⟨fun W' => W'.cell? (q.add k) = some (.string xs[k]) ∧ W'.cell? (q'.add k) = some (.string ys[k]), ⟨hqc, hqc'⟩, by omega, by simp; omega, SomeK.of q hq ⟨_, fun w' hw => by rw [e1]; exact hw.1, by omega, by simp; omega, SomeK.of q' hq' ⟨_, fun w' hw => by rw [e1]; exact hw.2, ?_⟩⟩⟩
      refine SplitK.of (fun he => ?_) (fun he => ?_)
      · obtain ⟨s, hs⟩ := bs_surj xs[k]
        obtain ⟨t, hs'⟩ := bs_surj ys[k]
        rw [hs, hs', eqS_bs] at he
        simp at he
        have : xs ≠ ys := fun e => by
          subst e
          rw [hs] at hs'
          have := congrArg (fun x => x.data.toList) hs'
          simp [bs] at this
          exact he this
        exact ⟨by simp [this], hK.drew⟩
      · obtain ⟨s, hs⟩ := bs_surj xs[k]
        obtain ⟨t, hs'⟩ := bs_surj ys[k]
        rw [hs, hs', eqS_bs] at he
        simp at he
        subst he
        refine ⟨n - 1, by omega, k + 1, by rw [addI_one (by omega)], by omega, ?_, hK.drew⟩
        rw [List.take_succ_eq_append_getElem hkx, List.take_succ_eq_append_getElem hky, ht, hs, hs']
    · simp at hlt
      have : k = xs.length := by omega
      subst this
      rw [List.take_length, hll, List.take_length] at ht
      exact ⟨by simp [ht], hK⟩

theorem eqS_refl (s : List UInt8) : eqS (bs s) (bs s) = true := by rw [eqS_bs]; simp

theorem works_05 (w : World) (hw : LaidP w) : Calls Tryd.prog 9 #[] w (Ret w (.bool true)) := by
  refine calls_ret (F9_calls _ _ ?_)
  unfold F9
  rw [show ByteArray.mk (List.toArray [56, 53, 100, 54, 98, 101, 55, 56, 53, 55, 53, 53, 54, 100, 51, 51, 55, 102, 52, 52, 53, 50, 102, 101, 52, 50, 100, 53, 48, 54, 97, 56, 48, 49, 48, 51, 56, 48, 56, 97, 102, 98, 48, 100, 98, 50, 102, 100, 52, 97, 98, 102, 102, 54, 97, 102, 52, 49, 52, 57, 102, 53, 49, 98]) = bs HEXK from rfl, show ByteArray.mk (List.toArray [67, 114, 121, 112, 116, 111, 103, 114, 97, 112, 104, 105, 99, 32, 70, 111, 114, 117, 109, 32, 82, 101, 115, 101, 97, 114, 99, 104, 32, 71, 114, 111, 117, 112]) = bs GROUP from rfl, lit_bs [], lit_bs [97], lit_bs [1]]
  have M := hw.mem
  refine CallK.ret (s_Unhex w HEXK (by decide)) fun w1 k => ⟨_, _, rfl, ?_⟩
  have M := M.call k
  refine CallK.ret (p_Tag w1 M.now (unhexL HEXK) GROUP (by decide) (by rw [hexk]; decide)) fun w2 k => ⟨_, _, rfl, ?_⟩
  have M := M.call k
  refine CallK.ret (p_Tag w2 M.now [] [97] (by decide) (by decide)) fun w3 k => ⟨_, _, rfl, ?_⟩
  have M := M.call k
  refine CallK.ret (o_Fill w3 [1] 17 (by decide) (by decide)) fun w4 k => ⟨_, rfl, ?_⟩
  have M := M.call k
  refine CallK.ret (s_Hex w4 _ (by rw [hexk, tagk]; decide)) fun w5 k => ⟨_, rfl, ?_⟩
  have M := M.call k
  rw [tagk_hex]
  refine SplitK.t (eqS_refl _) (SplitK.t (by rw [hexk]; rfl) (SplitK.t rfl ?_))
  refine CallK.ret (p_Times w5 M.now [1] [1] (by decide) (by decide)) fun w6 k => ⟨_, rfl, SplitK.t (by rw [← one17]; exact eqS_refl _) ?_⟩
  have M := M.call k
  refine CallK.ret (p_Plus w6 M.now [] [1] (by decide) (by decide)) fun w7 k => ⟨_, rfl, SplitK.t (by rw [← one17']; exact eqS_refl _) ?_⟩
  have M := M.call k
  rw [lit_bs [48, 49, 50, 51, 52, 53, 54, 55, 56, 57, 97, 98, 99, 100, 101, 102], lit_bs [48, 49, 50, 51, 52, 53, 54, 55, 56, 57, 97, 98, 99, 100, 101, 102, 103]]
  refine CallK.ret (p_Clamp w7 [48, 49, 50, 51, 52, 53, 54, 55, 56, 57, 97, 98, 99, 100, 101, 102] (by decide)) fun w8 k => ⟨_, rfl, SplitK.t rfl ?_⟩
  have M := M.call k
  refine CallK.ret (p_Clamp w8 [] (by decide)) fun w9 k => ⟨_, rfl, SplitK.t (eqS_refl _) ?_⟩
  have M := M.call k
  refine CallK.retV (p_Parts w9 [48, 49, 50, 51, 52, 53, 54, 55, 56, 57, 97, 98, 99, 100, 101, 102, 103] (by decide)) fun a l c w10 hf k => ⟨_, _, _, rfl, ?_, (M.call k).keep⟩
  have h := hf.now.1
  subst h
  rfl

/-- Bounds that a law asks about. -/
theorem numbers_05 (w : World) (a b : List UInt8) (hw : LaidP w) : Calls Tryd.prog 3 #[.string (bs a), .string (bs b)] w (Ret w (.bool true)) := by
  refine calls_ret (F3_calls _ _ _ _ ?_)
  refine CallK.ret (works_05 w hw) fun w1 k1 => ⟨_, rfl, SplitK.f rfl fun K hK => ?_⟩
  refine SplitK.of (fun h => hK _ _ fun _ => SplitK.t rfl ⟨rfl, k1⟩) fun ha => hK _ _ fun _ => SplitK.of (fun h => ⟨rfl, k1⟩) fun hb => ?_
  simp at ha hb
  have M := hw.mem.call k1
  refine CallK.ret (x_Plus w1 a b (by omega) (by omega)) fun w2 k => ⟨_, rfl, ?_⟩
  have M := M.call k
  refine CallK.ret (x_Times w2 a b (by omega) (by omega)) fun w3 k => ⟨_, rfl, SplitK.t rfl ?_⟩
  have M := M.call k
  refine CallK.ret (p_Plus w3 M.now a b (by omega) (by omega)) fun w4 k => ⟨_, rfl, SplitK.t (eqS_refl _) ?_⟩
  have M := M.call k
  refine CallK.ret (p_Times w4 M.now a b (by omega) (by omega)) fun w5 k => ⟨_, rfl, congrArg Value.bool (eqS_refl _), (M.call k).keep⟩

theorem parts_strs {w : World} {a : Option Addr} {l k : Nat} {s : List UInt8} (h : VsAt w a l (partsV s k)) : StrsAt w a l ((List.range k).map fun i => bs (partAt s i)) := by
  have e : partsV s k = ((List.range k).map fun i => bs (partAt s i)).map Value.string := by simp [partsV]
  rw [e] at h
  exact ⟨by simpa using h.1, h.2⟩
theorem tags_05 (w : World) (key s r : List UInt8) (hw : LaidP w) : Calls Tryd.prog 4 #[.string (bs key), .string (bs s), .string (bs r)] w (Ret w (.bool true)) := by
  refine calls_ret (F4_calls _ _ _ _ _ ?_)
  refine CallK.ret (works_05 w hw) fun w1 k1 => ⟨_, rfl, SplitK.f rfl fun K hK => ?_⟩
  have out : K [.bool true] w1 := hK _ _ fun _ => SplitK.t rfl ⟨rfl, k1⟩
  refine SplitK.of (fun h => out) fun ha => SplitK.of (fun h => out) fun hb => hK _ _ fun _ => SplitK.of (fun h => ⟨rfl, k1⟩) fun hc => ?_
  simp at ha hb hc
  have M := hw.mem.call k1
  refine CallK.ret (p_Tag w1 M.now key s (by omega) (by omega)) fun w2 k => ⟨_, _, rfl, ?_⟩
  have M := M.call k
  refine CallK.ret (x_Tag w2 key s (by omega) (by omega)) fun w3 k => ⟨_, _, rfl, ?_⟩
  have M := M.call k
  refine CallK.ret (x_Clamp w3 r (by omega)) fun w4 k => ⟨_, rfl, ?_⟩
  have M := M.call k
  refine CallK.retV (p_Parts w4 s (by omega)) fun a l c w5 hf k => ⟨_, _, _, rfl, ?_⟩
  have M := M.call k
  refine CallK.retV (x_Parts w5 s (by omega)) fun a1 l1 c1 w6 hf1 k => ⟨_, _, _, rfl, ?_⟩
  have M := M.call k
  refine CallK.ret (x_Texts w6 (parts_strs (hf.now.keep0 k)) (parts_strs hf1.now) (by simp [partCnt]; omega)) fun w7 k => ⟨_, rfl, SplitK.t rfl (SplitK.t (eqS_refl _) (SplitK.t (by simp) ?_))⟩
  have M := M.call k
  refine CallK.ret (p_Clamp w7 r (by omega)) fun w8 k => ⟨_, rfl, SplitK.t (eqS_refl _) ⟨congrArg Value.bool (decide_eq_true rfl), (M.call k).keep⟩⟩

end Go.Proofs.YthpodgkmghgenaaDoor
