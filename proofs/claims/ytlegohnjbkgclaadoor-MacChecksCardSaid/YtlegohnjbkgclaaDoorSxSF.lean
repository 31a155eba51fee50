/-
  A part of the proof: SF.
-/
import Derived.Test.YtlegohnjbkgclaaDoorSxSE
namespace Go.Proofs.YtlegohnjbkgclaaDoor
open Go Go.Sx Go.Oct Go.Sha
set_option linter.unusedVariables false

theorem u32s_snoc (l : List Nat) (x : Nat) : u32s l ++ [.int .u32 (x : Int)] = u32s (l ++ [x]) := by simp [u32s, u32V]

theorem x_ks (w : World) : Calls Tryd.prog 59 #[] w (RetV w (u32s KS)) := by
  refine calls_retV (F59_calls _ _ ?_)
  refine (Mem.start w).newK fun b w1 M => ?_
  have ho : OwnM [(b, .cells (u32s KS ++ []).toArray 53 (0, 0))] 53 (some ⟨b, 0, none⟩) 64 64 (u32s KS) := .inr ⟨b, [], rfl, rfl, rfl, rfl, by decide⟩
  exact ⟨_, _, _, rfl, OwnM.freshV ho M, M.keep⟩

section
variable {w0 w : World} {lo : List Nat} {m opt : List (Nat × Obj)} {F : World → Prop}
theorem x_long (M : Mem w0 lo (opt ++ m) F w) {a : Option Addr} {l c : Nat} {v : List Nat} (ho : OwnM opt 53 a l c (u32s v)) (hv : v.length = 16) (hlt : ∀ x ∈ v, x < 4294967296) {R : Ending → World → Prop}
    (h : ∀ a' l' c' opt' w', OwnM opt' 53 a' l' c' (u32s (longL v 48)) → Mem w0 lo (opt' ++ m) F w' → R (.returned (.slice a' l' c')) w') : CallK Tryd.prog 58 #[.slice a l c] w R := by
  refine Calls.mono (F58_calls a l c w (fun v w' => R (.returned v) w') ?_) (fun e w' ⟨v, he, hr⟩ => by rw [he]; exact hr)
  refine ⟨fun n vs W => ∃ (k : Nat) (opt : List (Nat × Obj)) (a : Option Addr) (l c : Nat), vs = [.slice a l c, .int .i64 ((16 + k : Nat) : Int)] ∧ k + n = 48 ∧ OwnM opt 53 a l c (u32s (longL v k)) ∧ Mem w0 lo (opt ++ m) F W, ⟨48, 0, opt, a, l, c, rfl, rfl, ho, M⟩, ?_⟩
  rintro n vs W ⟨k, opt, a, l, c, rfl, hk, ho, M⟩
  refine ⟨_, _, _, _, rfl, fun _ => SplitK.of (fun h1 => ?_) (fun h1 => ?_)⟩
  · simp at h1
    have hl : (longL v k).length = 16 + k := by rw [longL_length, hv]
    have hll : (longL v k).length = l := by rw [ho.len, u32s_length]
    obtain ⟨p, hp, hS⟩ := ho.ptr (by rw [u32s_length]; omega)
    have hlt' := longL_lt hlt k
    intro K hK
    have i15 : subI .i64 ((16 + k : Nat) : Int) 15 = ((k + 1 : Nat) : Int) := by
      rw [show k + 1 = 16 + k - 15 by omega]; exact subI_nat _ 15 (by omega) (by omega)
    have i2 : subI .i64 ((16 + k : Nat) : Int) 2 = ((k + 14 : Nat) : Int) := by
      rw [show k + 14 = 16 + k - 2 by omega]; exact subI_nat _ 2 (by omega) (by omega)
    have i16 : subI .i64 ((16 + k : Nat) : Int) 16 = ((k : Nat) : Int) := by
      have := subI_nat (16 + k) 16 (by omega) (by omega)
      rwa [show 16 + k - 16 = k by omega] at this
    have i7 : subI .i64 ((16 + k : Nat) : Int) 7 = ((k + 9 : Nat) : Int) := by
      rw [show k + 9 = 16 + k - 7 by omega]; exact subI_nat _ 7 (by omega) (by omega)
    have hx := getD_lt hlt' (k + 1)
    have hy := getD_lt hlt' (k + 14)
    refine ldRW (k + 1) i15 hp (hS M) hll (by omega) ?_
    refine ldRW (k + 14) i2 hp (hS M) hll (by omega) ?_
    refine CallK.ret (x_right _ _ 7 hx (by decide)) fun w1 k1 => ⟨_, rfl, ?_⟩
    refine CallK.ret (x_right _ _ 18 hx (by decide)) fun w2 k2 => ⟨_, rfl, by decide, ?_⟩
    refine CallK.ret (x_right _ _ 17 hy (by decide)) fun w3 k3 => ⟨_, rfl, ?_⟩
    refine CallK.ret (x_right _ _ 19 hy (by decide)) fun w4 k4 => ⟨_, rfl, by decide, ?_⟩
    have M := (((M.call k1).call k2).call k3).call k4
    rintro w5 rfl
    have M := M.drew
    refine ⟨fun W' => CellsAt W' p (u32s (longL v k)), hS M, ?_⟩
    refine ldR k i16 hp (fun _ h => h) hll (by omega) ?_
    refine ldR (k + 9) i7 hp (fun _ h => h) hll (by omega) ?_
    rw [es0 _ hx, es1 _ hy, addI_u32, addI_u32, addI_u32, nx_eq]
    refine M.newK fun b w6 M => ⟨hS M.tail, _, M.old1, ne1, ?_⟩
    refine Mem.appK' M.tail ho rfl rfl (by rw [u32s_length]; omega) (by rw [u32s_length]; omega) ?_
    intro a' l' c' opt' w' ho' M' hl' hold
    refine ⟨hold p hp, hK _ _ _ _ fun _ => ⟨n - 1, by omega, k + 1, opt', a', l', c', ?_, by omega, ?_, M'⟩⟩
    · have : addI .i64 ((16 + k : Nat) : Int) 1 = ((16 + (k + 1) : Nat) : Int) := addI_nat _ 1 (by omega)
      rw [this]
    · rw [u32s_snoc, ← longL_succ] at ho'
      exact ho'
  · simp at h1
    obtain rfl : k = 48 := by omega
    exact h _ _ _ _ _ ho M
end

theorem eChx (e f g : Nat) (he : e < 4294967296) (hf : f < 4294967296) (hg : g < 4294967296) : xorI .u32 (andI .u32 (e : Int) (f : Int)) (andI .u32 (xorI .u32 (e : Int) 4294967295) (g : Int)) = ((ch e f g : Nat) : Int) := by
  have := xorI_u32 e 4294967295 he (by decide)
  rw [show ((4294967295 : Nat) : Int) = 4294967295 from rfl] at this
  rw [this, andI_u32 _ _ he hf, andI_u32 _ _ (xor_lt he (by decide)) hg, xorI_u32 _ _ (and_lt hf) (and_lt hg)]; rfl
theorem eMajx (a b c : Nat) (ha : a < 4294967296) (hb : b < 4294967296) (hc : c < 4294967296) : xorI .u32 (xorI .u32 (andI .u32 (a : Int) (b : Int)) (andI .u32 (a : Int) (c : Int))) (andI .u32 (b : Int) (c : Int)) = ((maj a b c : Nat) : Int) := by
  rw [andI_u32 _ _ ha hb, andI_u32 _ _ ha hc, andI_u32 _ _ hb hc, xorI_u32 _ _ (and_lt hb) (and_lt hc), xorI_u32 _ _ (xor_lt (and_lt hb) (and_lt hc)) (and_lt hc)]; rfl
theorem eTx (h k w s c : Nat) : addI .u32 (addI .u32 (addI .u32 (addI .u32 (h : Int) (s : Int)) (c : Int)) (k : Int)) (w : Int) = (((h + s + c + k + w) % 4294967296 : Nat) : Int) := by
  rw [addI_u32, addI_u32, addI_u32, addI_u32]
  congr 1
  omega
theorem round_u (v : St) (k w t : Nat) (ht : (v.h + S1 v.e + ch v.e v.f v.g + k + w) % 4294967296 = t) :
    u32s [(t + (S0 v.a + maj v.a v.b v.c) % 4294967296) % 4294967296, v.a, v.b, v.c, (v.d + t) % 4294967296, v.e, v.f, v.g] = u32s (round v k w).l := by
  subst ht; rfl
theorem vsat_at {w : World} {a : Option Addr} {l : Nat} {vs : List Value} {p : Addr} (h : VsAt w a l vs) (hv : 0 < vs.length) (hp : a = some p) : CellsAt w p vs := by
  obtain ⟨q, hq, hc⟩ := h.ptr hv
  rw [hq] at hp; cases hp; exact hc

end Go.Proofs.YtlegohnjbkgclaaDoor
