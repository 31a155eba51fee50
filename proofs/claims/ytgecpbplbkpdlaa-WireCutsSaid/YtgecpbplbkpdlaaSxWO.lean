/-
  A part of the proof: WO.
-/
import Derived.Test.YtgecpbplbkpdlaaSxWN
namespace Go.Proofs.Ytgecpbplbkpdlaa
open Go Go.Sx Go.Oct Go.Wire
set_option linter.unusedVariables false

theorem ownFrR {w0 w : World} {m opt : List (Nat × Obj)} {F : World → Prop} (M : Mem w0 [] (opt ++ m) F w) {T : TypeId} {sz : Nat} {a : Option Addr} {l c : Nat} {vs : List Value}
    (ho : OwnR opt T sz a l c vs) : Mem w0 [] m (fun w => F w ∧ Fresh w0.heap.size w fun w => RsAt w sz a l vs) w := by
  have hs := OwnR.rsAt ho M
  refine Mem.addF (M.sub (List.sublist_append_right _ _)) fun w' hk => ?_
  intro ids w'' hi hk2
  refine ⟨ho.len, ?_⟩
  rcases ho with ⟨rfl, rfl, rfl, rfl, h⟩ | ⟨b, rest, rfl, rfl, hl, _, hcb⟩
  · exact .inl h
  · have hnd := M.nd
    simp only [List.cons_append, List.nil_append, List.map_cons, List.nodup_cons] at hnd
    have hb := M.fresh (b, _) (List.mem_append_left _ (List.mem_singleton.2 rfl))
    rcases hs.2 with h | ⟨p, hp, hc⟩
    · exact .inl h
    · cases hp
      refine .inr ⟨_, rfl, (hc.keep hk hnd.1).keep hk2 fun hm => ?_⟩
      have := hi _ hm
      rcases hb with h | h
      · simp at this h; omega
      · cases h

def wF (s : List UInt8) : Int := ((readB (s.take 4) : Nat) : Int)
def xF (s : List UInt8) : Int := ((readB s % 1000000 : Nat) : Int)
def xG (s : List UInt8) : Int := ((readB s % 8589934592 : Nat) : Int)
theorem wF_big (n : Nat) (h : n ≤ 1073741824) : wF (bigL n 4) = n := by
  unfold wF
  rw [List.take_of_length_le (by rw [bigL_length]; omega), readB_bigL (by decide)]
  omega
theorem xF_big (n : Nat) (h : n ≤ 200) : xF (bigL n 4) = n := by
  unfold xF
  rw [readB_bigL (by decide)]
  omega
theorem xG_big (n : Nat) (h : n ≤ 1073741824) : xG (bigL n 4) = n := by
  unfold xG
  rw [readB_bigL (by decide)]
  omega
theorem readB_le4 (s : List UInt8) (h : s.length ≤ 4) : readB s < 4294967296 := by
  have aux : ∀ (l : List UInt8), readB l < 256 ^ l.length ∨ 18446744073709551616 ≤ 256 ^ l.length := by
    intro l
    by_cases hl : 8 ≤ l.length
    · exact .inr (Nat.le_trans (by decide : 18446744073709551616 ≤ 256 ^ 8) (Nat.pow_le_pow_right (by decide) hl))
    · left
      unfold readB
      refine Nat.lt_of_le_of_lt (Nat.mod_le _ _) ?_
      have := valL_lt l.reverse
      rwa [List.length_reverse] at this
  have h4 : 256 ^ s.length ≤ 256 ^ 4 := Nat.pow_le_pow_right (by decide) h
  have e4 : (256 : Nat) ^ 4 = 4294967296 := by decide
  rcases aux s with h1 | h1 <;> omega

theorem w_first (w : World) (s : List UInt8) (hs : s.length ≤ 1000000) : Calls Try.prog 60 #[.string (bs s)] w (Ret w (.int .i64 (first s))) := by
  refine calls_ret (F60_calls _ _ _ ?_)
  refine SplitK.of (fun h => ?_) (fun h => ?_)
  · simp only [sizeS_bs, natI_eq, notB_t, eqI_f] at h
    refine ⟨?_, Keep.refl _ _⟩
    match s, h with
    | [], _ => rfl
    | [z], h => exact absurd rfl h
    | _ :: _ :: _, _ => rfl
  · simp only [sizeS_bs, natI_eq, notB_f, eqI_t] at h
    match s, h with
    | [z], _ =>
      refine ⟨by decide, byteAt (l := [z]) (i := 0) (by simp) ⟨?_, Keep.refl _ _⟩⟩
      show Value.int .i64 (wrapI .i64 (byteI z)) = _
      rw [byteI_eq, wrapI_i64 _ (by have := z.toNat_lt; omega)]
      rfl
theorem w_small (w : World) (s : List UInt8) (hs : s.length ≤ 1000000) : Calls Try.prog 62 #[.string (bs s)] w (Ret w (.int .i64 (wF s))) := by
  refine calls_ret (F62_calls _ _ _ ?_)
  have em : minI (natI (sizeS (bs s))) 4 = ((min s.length 4 : Nat) : Int) := by rw [sizeS_bs, natI_eq]; exact minI_nat s.length 4
  unfold F62
  rw [em, cutS_bs, sizeS_bs, natI_eq]
  have et : ((s.take (intN ((min s.length 4 : Nat) : Int))).drop 0) = s.take 4 := by
    rw [List.drop_zero, intN_eq, Int.toNat_natCast]
    by_cases h : s.length ≤ 4
    · rw [List.take_of_length_le (by omega), List.take_of_length_le h]
    · rw [Nat.min_eq_right (by omega)]
  rw [et]
  have hl : (s.take 4).length ≤ 4 := by rw [List.length_take]; omega
  refine ⟨by omega, by omega, CallK.ret (o_ReadBig w (s.take 4) (by omega)) fun w1 k1 => ⟨_, rfl, ?_, k1⟩⟩
  rw [wrapI_i64 _ (by have := readB_le4 _ hl; omega)]
  rfl

theorem pairs_len (f : List UInt8 → Int) : ∀ l, (joinL (toksT (pairs f l))).length ≤ 3 * (joinL l).length
  | [] => by simp [pairs, toksT, joinL]
  | [_] => by simp [pairs, toksT, joinL]
  | a :: b :: r => by
    have ih := pairs_len f r
    have e : toksT (pairs f (a :: b :: r)) = a :: big4 (f b) :: toksT (pairs f r) := by rw [pairs]; simp [toksT, tokT]
    have h1 := (encB_len (big4 (f b))).2
    have h2 := encB_len a
    have h3 := encB_len b
    rw [big4_len] at h1
    rw [e]
    simp only [joinL, List.length_cons, List.length_append]
    omega
theorem joinOps_of {b : List UInt8} {l : List OpV} (h : getOps b = some l) : joinL (opsT l) = b := (putOps_some (getOps_some h)).symm
theorem reqOf_S (f : List UInt8 → Int) (t : List (List UInt8)) (h : (joinL t).length ≤ 90000) : ReqS (reqOf f t) := by
  cases t with
  | nil => exact ⟨by simp [reqOf, opsT, joinL], by simp [reqOf], by simp [reqOf, toksT, joinL]⟩
  | cons k l =>
    have hl : (joinL l).length ≤ 90000 := by simp only [joinL, List.length_cons, List.length_append] at h; omega
    have hh : (l.headD []).length ≤ 90000 := by
      cases l with
      | nil => simp
      | cons x r =>
        have := (encB_len x).1
        simp only [joinL, List.length_cons, List.length_append] at hl
        show x.length ≤ _
        omega
    refine ⟨?_, ?_, ?_⟩
    · show (joinL (opsT (if _ then _ else _))).length ≤ _
      split
      · cases hg : getOps (l.headD []) with
        | none => simp [opsT, joinL]
        | some ops =>
          rw [Option.getD_some, joinOps_of hg]; omega
      · simp [opsT, joinL]
    · show (if _ then _ else _ : List UInt8).length ≤ _
      split
      · omega
      · simp
    · show (joinL (toksT (if _ then _ else _))).length ≤ _
      split
      · have := pairs_len f l; omega
      · simp [toksT, joinL]

/-- A request is handed back. -/
def RetReq (w : World) (r : ReqV) (e : Ending) (w' : World) : Prop := Keep [] w w' ∧ ∃ a l c a' l' c', e = .returned (.agg (reqC r a l c a' l' c').toArray) ∧ Fresh w.heap.size w' (fun w => ReqAt w r a l a' l')
def noneC : List Value := [.int .i64 0, .slice none 0 0, .string (bs []), .slice none 0 0]
theorem pairs_short (f : List UInt8 → Int) (l : List (List UInt8)) (h : l.length ≤ 1) : pairs f l = [] := by
  match l, h with
  | [], _ => rfl
  | [_], _ => rfl
theorem toksC_snoc (ts : List TokV) (o : TokV) : toksC ts ++ tokC o = toksC (ts ++ [o]) := by simp [toksC]

theorem w_request (w : World) {a : Option Addr} {l c : Nat} {t : List (List UInt8)} (h : VsAt w a l (strs t)) (hlc : l ≤ c) (hs : (joinL t).length ≤ 50000) :
    Calls Try.prog 37 #[.slice a l c] w (RetReq w (reqOf wF t)) := by
  refine Calls.mono (F37_calls a l c w (fun v w' => RetReq w (reqOf wF t) (.returned v) w') ?_) (fun e w' ⟨v, he, h⟩ => by rw [he]; exact h)
  have hl := strs_len h
  subst hl
  have hcnt := splitL_cnt (splitL_joinL t)
  have htl := splitL_len (splitL_joinL t)
  have M : Mem w [] [] (fun W => VsAt W a t.length (strs t)) w := Mem.startF w fun w' k => h.keep0 k
  refine M.newK fun b w1 M => ?_
  have M : Mem w [] [(b, .cells noneC.toArray 25 (0, 0))] (fun W => VsAt W a t.length (strs t)) w1 := M
  refine SplitK.of (fun h0 => ?_) (fun h0 => ?_)
  · simp only [natI_eq, eqI_t] at h0
    obtain rfl : t = [] := List.eq_nil_of_length_eq_zero (by omega)
    refine M.stK 0 (c := noneC) rfl (by simp [noneC]) rfl fun w2 M => ?_
    refine ⟨_, _, _, _, _, _, _, _, M.cells 0 (c := reqC ⟨-1, [], [], []⟩ none 0 0 none 0 0) rfl, M.keep, none, 0, 0, none, 0, 0, rfl, ?_⟩
    exact Fresh.always fun w' => ⟨RsAt.nil, RsAt.nil⟩
  · simp only [natI_eq, eqI_f] at h0
    match t, h, h0, hs, hlc, hcnt, htl, M with
    | x0 :: tl, h, h0, hs, hlc, hcnt, htl, M =>
    have hx0 : x0.length ≤ 1000000 := by have := htl x0 (List.mem_cons_self ..); omega
    obtain ⟨p, hp, hpc⟩ := str_at M.now (k := 0) (by simp)
    refine ⟨by decide, by rw [natI_eq, List.length_cons]; omega, SomeK.of p hp ⟨_, hpc, CallK.ret (w_first w1 x0 hx0) fun w2 k2 => ⟨_, rfl, ?_⟩⟩⟩
    have M := M.call k2
    refine M.newK fun b1 w3 M => M.stK 0 (c := [.int .i64 0, .slice none 0 0, .string ⟨#[]⟩, .slice none 0 0]) rfl (by simp) rfl fun w4 M => ⟨by decide, by rw [natI_eq, List.length_cons]; omega, ?_⟩
    have M : Mem w [] [(b1, .cells (reqC ⟨first x0, [], [], []⟩ none 0 0 none 0 0).toArray 25 (0, 0)), (b, .cells noneC.toArray 25 (0, 0))] (fun W => VsAt W a (x0 :: tl).length (strs (x0 :: tl))) w4 := M
    have el : subN (x0 :: tl).length (intN 1) = tl.length := by rw [subN_eq, List.length_cons]; show tl.length + 1 - 1 = _; omega
    rw [el]
    intro K hK
    -- the end
    have fin : ∀ {r : ReqV} {a1 : Option Addr} {l1 c1 : Nat} {a2 : Option Addr} {l2 c2 : Nat} {F : World → Prop} {W : World}, r = reqOf wF (x0 :: tl) → Mem w [] [(b1, .cells (reqC r a1 l1 c1 a2 l2 c2).toArray 25 (0, 0)), (b, .cells noneC.toArray 25 (0, 0))] (fun W => F W ∧ Fresh w.heap.size W (fun w => ReqAt w r a1 l1 a2 l2)) W → K [] W := by
      intro r a1 l1 c1 a2 l2 c2 F W hr M
      refine hK _ fun _ => ⟨_, _, _, _, _, _, _, _, M.cells 0 (c := reqC r a1 l1 c1 a2 l2 c2) rfl, M.stK 1 (c := noneC) rfl (by simp [noneC]) rfl fun w5 M => ⟨_, _, _, _, _, _, _, _, M.cells 1 (c := reqC r a1 l1 c1 a2 l2 c2) rfl, M.keep, a1, l1, c1, a2, l2, c2, by rw [hr]; rfl, ?_⟩⟩
      rw [← hr]; exact M.now.2
    have hptr : tl.length = 0 ∨ cutA a c (intN 1) 1 = some (p.add 1) := by
      by_cases h1 : tl.length = 0
      · exact .inl h1
      · right
        show cutA a c 1 1 = _
        rw [hp, cutA, if_neg (by simp only [List.length_cons] at hlc; omega)]
        rfl
    have hat : ∀ {W' : World}, VsAt W' a (x0 :: tl).length (strs (x0 :: tl)) → ∀ (j : Nat), CellsAt W' (p.add (1 + j)) (strs (tl.drop j)) ∨ tl.length ≤ j := by
      intro W' hv' j
      by_cases hj : j < tl.length
      · left
        have := VsAt.dropAt hv' hp (1 + j) (by simp only [List.length_cons]; omega)
        rwa [Nat.add_comm 1 j, List.drop_succ_cons, Nat.add_comm j 1] at this
      · right; omega
    have ck : ∀ {F : World → Prop} {m : List (Nat × Obj)} {k : Int} {W : World}, Mem w [] ((b1, .cells (reqC ⟨k, [], [], []⟩ none 0 0 none 0 0).toArray 25 (0, 0)) :: m) F W → W.cell? (addA ⟨b1, 0, none⟩ 0) = some (.int .i64 k) := fun M => M.cellA 0 (c := reqC ⟨_, [], [], []⟩ none 0 0 none 0 0) rfl rfl
    intro K1 hK1
    -- no batch
    have next : ¬ (first x0 = 0 ∧ tl.length = 1) → K1 [.bool false] w4 := by
      intro hn0
      refine hK1 _ _ fun _ => SplitK.f rfl fun K2 hK2 => ?_
      have next2 : ¬ (first x0 = 1 ∧ tl.length = 1) → K2 [.bool false] w4 := by
        intro hn1
        refine hK2 _ _ fun _ => SplitK.f rfl ⟨_, ck M, SplitK.of (fun h2 => ?_) (fun h2 => ?_)⟩
        · rw [eqI_t] at h2
          rw [h2] at M
          refine ⟨fun n vs W => ∃ (k : Nat) (ts : List TokV) (opt : List (Nat × Obj)) (a1 : Option Addr) (l1 c1 : Nat) (a2 : Option Addr) (c2 : Nat),
            vs = [.slice a2 (tl.length - 2 * k) c2] ∧ 2 * k + n = tl.length ∧ tl.length - 2 * k ≤ c2 ∧ ts.length = k ∧ pairs wF tl = ts ++ pairs wF (tl.drop (2 * k)) ∧
            (tl.length = 2 * k ∨ a2 = some (p.add (1 + 2 * k))) ∧ OwnR opt 66 2 a1 l1 c1 (toksC ts) ∧
            Mem w [] (opt ++ [(b1, .cells (reqC ⟨2, [], [], ts⟩ none 0 0 a1 l1 c1).toArray 25 (0, 0)), (b, .cells noneC.toArray 25 (0, 0))]) (fun W => VsAt W a (x0 :: tl).length (strs (x0 :: tl))) W,
            ⟨tl.length, 0, [], [], none, 0, 0, _, _, rfl, by omega, ?_, rfl, rfl, ?_, OwnR.nil, M⟩, ?_⟩
          · show tl.length - 0 ≤ subN c 1
            rw [subN_eq]; simp only [List.length_cons] at hlc; omega
          · rcases hptr with h | h
            · exact .inl (by omega)
            · exact .inr h
          clear M
          rintro n vs W ⟨k, ts, opt, a1, l1, c1, a2, c2, rfl, hk, hc2, htk, hpr, hpt, ho, M⟩
          refine ⟨_, _, _, rfl, fun _ => SplitK.of (fun hlt => ?_) (fun hlt => ?_)⟩
          · rw [ltI_t, natI_eq] at hlt
            have hp2 := hpt.resolve_left (by omega)
            intro K3 hK3
            rintro w8 rfl
            have M := M.drew
            have hdl : (tl.drop (2 * k)).length = tl.length - 2 * k := by rw [List.length_drop]
            match hd : tl.drop (2 * k), hdl with
            | y0 :: y1 :: rest, hdl =>
            have hy : ∀ {W'}, VsAt W' a (x0 :: tl).length (strs (x0 :: tl)) → ∀ (j : Nat) (x : List UInt8), (tl.drop (2 * k))[j]? = some x → W'.cell? (addA (p.add (1 + 2 * k)) (mulN (intN (j : Int)) 1)) = some (.string (bs x)) := by
              intro W' hv' j x hx
              rw [addA_int]
              have hc := (hat hv' (2 * k)).resolve_right (by omega)
              exact hc j _ (by rw [strs, List.getElem?_map, hx]; rfl)
            have g0 : (tl.drop (2 * k))[0]? = some y0 := by rw [hd]; rfl
            have g1 : (tl.drop (2 * k))[1]? = some y1 := by rw [hd]; rfl
            have hy1 : y1.length ≤ 1000000 := by
              have h1 : y1 ∈ tl := List.mem_of_mem_drop (i := 2 * k) (by rw [hd]; simp)
              have := htl y1 (List.mem_cons_of_mem _ h1); omega
            have hS : ∀ {W' : World} {opt : List (Nat × Obj)}, Mem w [] (opt ++ [(b1, .cells (reqC ⟨2, [], [], ts⟩ none 0 0 a1 l1 c1).toArray 25 (0, 0)), (b, .cells noneC.toArray 25 (0, 0))]) (fun W => VsAt W a (x0 :: tl).length (strs (x0 :: tl))) W' → CellsAt W' ⟨b1, 0, none⟩ (reqC ⟨2, [], [], ts⟩ none 0 0 a1 l1 c1) ∧ VsAt W' a (x0 :: tl).length (strs (x0 :: tl)) := fun M => ⟨(M.perm List.perm_append_comm).cells 0 rfl, M.now⟩
            refine ⟨fun W' => CellsAt W' ⟨b1, 0, none⟩ (reqC ⟨2, [], [], ts⟩ none 0 0 a1 l1 c1) ∧ VsAt W' a (x0 :: tl).length (strs (x0 :: tl)), hS M, a1, l1, c1, fun w' hw => ?_, by decide, by rw [natI_eq]; omega, SomeK.of _ hp2 ⟨_, fun w' hw => hy hw.2 0 _ g0, by decide, by rw [natI_eq]; omega, SomeK.of _ hp2 ⟨_, fun w' hw => hy hw.2 1 _ g1, ?_⟩⟩⟩
            · have := hw.1 3 _ rfl
              rw [addr_add] at this
              rw [addA_mk]; exact this
            refine CallK.ret (w_small _ y1 hy1) fun w9 k9 => ⟨_, rfl, ?_⟩
            have M := M.call k9
            refine ⟨hS M, M.newK fun b4 w10 M => ⟨hS (opt := _ :: opt) M, tokC ⟨y0, wF y1⟩, ⟨rfl, M.cells 0 (c := tokC ⟨y0, wF y1⟩) rfl⟩, (fun h => by cases h), ?_⟩⟩
            have hl1 : l1 = k := by have := ho.len; rw [toksC_len, htk] at this; omega
            simp only [List.length_cons] at hcnt hdl
            refine Mem.appR M.tail ho (by decide) rfl rfl rfl (by omega) (by omega) ?_
            intro a3 l3 c3 opt3 w11 ho3 M4 hl3
            refine ⟨hS M4, ?_⟩
            have M5 := M4.perm List.perm_append_comm
            refine M5.stA 0 (c := reqC ⟨2, [], [], ts⟩ none 0 0 a1 l1 c1) rfl (by simp [reqC]) rfl fun w12 M6 => hK3 _ fun _ => ⟨by decide, by rw [natI_eq]; omega, n - 2, by omega, k + 1, ts ++ [⟨y0, wF y1⟩], opt3, a3, l3, c3, cutA a2 c2 (intN 2) 1, subN c2 (intN 2), ?_, by omega, ?_, by simp [htk], ?_, ?_, ?_, ?_⟩
            · have e3 : tl.length - 2 * (k + 1) = subN (tl.length - 2 * k) 2 := by simp only [subN_eq]; omega
              rw [e3]; rfl
            · show _ ≤ subN c2 2
              simp only [subN_eq]; omega
            · have hd3 : tl.drop (2 * (k + 1)) = rest := by
                rw [show 2 * (k + 1) = 2 * k + 2 by omega, ← List.drop_drop, hd]; rfl
              rw [hpr, hd, hd3, pairs, List.append_assoc]; rfl
            · by_cases h0 : tl.length = 2 * (k + 1)
              · exact .inl h0
              · refine .inr ?_
                show cutA a2 c2 2 1 = _
                rw [hp2, cutA, if_neg (by omega)]
                show some ((p.add (1 + 2 * k)).add (2 * 1)) = _
                rw [add_add, show 1 + 2 * k + 2 * 1 = 1 + 2 * (k + 1) by omega]
            · rw [← toksC_snoc]; exact ho3
            · exact Mem.perm (show Mem w [] ([(b1, .cells (reqC ⟨2, [], [], ts ++ [⟨y0, wF y1⟩]⟩ none 0 0 a3 l3 c3).toArray 25 (0, 0)), (b, .cells noneC.toArray 25 (0, 0))] ++ opt3) _ w12 from M6) List.perm_append_comm
            | [], hdl => simp at hdl; omega
            | [_], hdl => simp at hdl; omega
          · rw [ltI_f, natI_eq] at hlt
            have hps : pairs wF (tl.drop (2 * k)) = [] := pairs_short _ _ (by rw [List.length_drop]; omega)
            rw [hps, List.append_nil] at hpr
            refine fin (F := fun W => VsAt W a (x0 :: tl).length (strs (x0 :: tl))) ?_ ((ownFrR M ho).imp fun w' hw => ⟨hw.1, ?_⟩)
            · show _ = ReqV.mk _ _ _ _
              rw [h2, if_neg (by omega), if_neg (by omega), if_pos rfl, hpr]
            · have hl1 : l1 = k := by have := ho.len; rw [toksC_len, htk] at this; omega
              exact (Fresh.always fun w' => RsAt.nil).and hw.2 |>.imp fun w' h => ⟨h.1, h.2⟩
        · rw [eqI_f] at h2
          refine fin (F := fun W => VsAt W a (x0 :: tl).length (strs (x0 :: tl))) ?_ (M.imp fun w' hw => ⟨hw, Fresh.always fun w' => ⟨RsAt.nil, RsAt.nil⟩⟩)
          show _ = ReqV.mk _ _ _ _
          rw [if_neg hn0, if_neg hn1, if_neg h2]
      refine ⟨_, ck M, SplitK.of (fun h1 => ?_) (fun h1 => ?_)⟩
      · rw [eqI_t] at h1
        by_cases ht : tl.length = 1
        · have e : eqI (natI tl.length) 1 = true := by rw [eqI_t, natI_eq]; omega
          rw [e]
          obtain ⟨x1, rfl⟩ := List.length_eq_one_iff.1 ht
          have hc1 : w4.cell? (addA (p.add 1) (mulN (intN 0) 1)) = some (.string (bs x1)) := by
            have := ((hat M.now 0).resolve_right (by simp)) 0 _ rfl
            exact this
          refine hK2 _ _ fun _ => SplitK.t rfl ⟨by decide, by rw [natI_eq]; simp, SomeK.of _ (hptr.resolve_left (by simp)) ⟨_, hc1, ?_⟩⟩
          refine M.stA 0 (c := reqC ⟨first x0, [], [], []⟩ none 0 0 none 0 0) rfl (by simp [reqC]) rfl fun w5 M => ?_
          refine fin (r := ⟨first x0, [], x1, []⟩) (F := fun W => VsAt W a (x0 :: [x1]).length (strs (x0 :: [x1]))) ?_ (Mem.imp (show Mem w [] [(b1, .cells (reqC ⟨first x0, [], x1, []⟩ none 0 0 none 0 0).toArray 25 (0, 0)), (b, .cells noneC.toArray 25 (0, 0))] _ w5 from M) fun w' hw => ⟨hw, Fresh.always fun w' => ⟨RsAt.nil, RsAt.nil⟩⟩)
          show _ = ReqV.mk _ _ _ _
          rw [h1, if_neg (by omega), if_pos ⟨rfl, rfl⟩, if_neg (by omega)]; rfl
        · have e : eqI (natI tl.length) 1 = false := by rw [eqI_f, natI_eq]; omega
          rw [e]
          exact next2 (fun h => ht h.2)
      · rw [eqI_f] at h1
        exact next2 (fun h => h1 h.1)
    refine ⟨_, ck M, SplitK.of (fun h1 => ?_) (fun h1 => ?_)⟩
    · rw [eqI_t] at h1
      by_cases ht : tl.length = 1
      · have e : eqI (natI tl.length) 1 = true := by rw [eqI_t, natI_eq]; omega
        rw [e]
        obtain ⟨x1, rfl⟩ := List.length_eq_one_iff.1 ht
        have hc1 : w4.cell? (addA (p.add 1) (mulN (intN 0) 1)) = some (.string (bs x1)) := by
          have := ((hat M.now 0).resolve_right (by simp)) 0 _ rfl
          exact this
        have hx1 : x1.length ≤ 300000 := by have := htl x1 (by simp); omega
        refine hK1 _ _ fun _ => SplitK.t rfl ⟨by decide, by rw [natI_eq]; simp, SomeK.of _ (hptr.resolve_left (by simp)) ⟨_, hc1, ?_⟩⟩
        refine (w_Get w4 x1 hx1).mono ?_
        rintro e5 w5 ⟨k5, hres⟩
        cases hg : getOps x1 with
        | none =>
          rw [hg] at hres
          refine ⟨_, _, _, _, hres, ?_⟩
          refine (M.call k5).stA 0 (c := reqC ⟨first x0, [], [], []⟩ none 0 0 none 0 0) rfl (by simp [reqC]) rfl fun w6 M => ?_
          refine fin (r := ⟨first x0, [], [], []⟩) (F := fun W => VsAt W a (x0 :: [x1]).length (strs (x0 :: [x1]))) ?_ (Mem.imp (show Mem w [] [(b1, .cells (reqC ⟨first x0, [], [], []⟩ none 0 0 none 0 0).toArray 25 (0, 0)), (b, .cells noneC.toArray 25 (0, 0))] _ w6 from M) fun w' hw => ⟨hw, Fresh.always fun w' => ⟨RsAt.nil, RsAt.nil⟩⟩)
          show _ = ReqV.mk _ _ _ _
          rw [h1, if_pos ⟨rfl, rfl⟩, if_neg (by omega), if_neg (by omega)]
          simp [hg]
        | some ops =>
          rw [hg] at hres
          obtain ⟨a5, l5, c5, he5, hf5⟩ := hres
          refine ⟨_, _, _, _, he5, ?_⟩
          refine (M.callFr k5 hf5).stA 0 (c := reqC ⟨first x0, [], [], []⟩ none 0 0 none 0 0) rfl (by simp [reqC]) rfl fun w6 M => ?_
          refine fin (r := ⟨first x0, ops, [], []⟩) (F := fun W => VsAt W a (x0 :: [x1]).length (strs (x0 :: [x1]))) ?_ (Mem.imp (show Mem w [] [(b1, .cells (reqC ⟨first x0, ops, [], []⟩ a5 l5 c5 none 0 0).toArray 25 (0, 0)), (b, .cells noneC.toArray 25 (0, 0))] _ w6 from M) fun w' hw => ⟨hw.1, hw.2.imp fun w' h => ⟨h, RsAt.nil⟩⟩)
          show _ = ReqV.mk _ _ _ _
          rw [h1, if_pos ⟨rfl, rfl⟩, if_neg (by omega), if_neg (by omega)]
          simp [hg]
      · have e : eqI (natI tl.length) 1 = false := by rw [eqI_f, natI_eq]; omega
        rw [e]
        exact next (fun h => ht h.2)
    · rw [eqI_f] at h1
      exact next (fun h => h1 h.1)

end Go.Proofs.Ytgecpbplbkpdlaa
