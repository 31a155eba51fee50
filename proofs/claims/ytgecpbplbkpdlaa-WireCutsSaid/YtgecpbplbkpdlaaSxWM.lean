/-
  A part of the proof: WM.
-/
import Derived.Test.YtgecpbplbkpdlaaSxWL
namespace Go.Proofs.Ytgecpbplbkpdlaa
open Go Go.Sx Go.Oct Go.Wire
set_option linter.unusedVariables false

theorem toksT_take (l : List TokV) (k : Nat) (hk : k < l.length) : toksT (l.take (k + 1)) = toksT (l.take k) ++ tokT l[k] := by
  rw [toksT, toksT, List.take_succ_eq_append_getElem hk, List.map_append, List.flatten_append]; simp
/-- What putting a request hands back. -/
def putV (o : Option (List UInt8)) : Value := match o with
  | some b => .tuple #[.string (bs b), .int .i64 0]
  | none => .tuple #[.string (bs []), .int .i64 1]
/-- Nothing that its kind has not. -/
structure OnlyP (r : ReqV) : Prop where
  lo : 0 ≤ r.kind
  hi : r.kind ≤ 3
  ops : r.kind ≠ 0 → r.ops = []
  label : r.kind ≠ 1 → r.label = []
  toks : r.kind ≠ 2 → r.toks = []
theorem FitsP.only {r : ReqV} (h : FitsP r) : OnlyP r := by
  obtain ⟨g1, g2, g3, g4⟩ := h
  exact ⟨by omega, by omega, g1, g2, g3⟩
def reqX (r : ReqV) (b : List UInt8) : List (List UInt8) := [[UInt8.ofNat r.kind.toNat]] ++ (if r.kind = 0 then [b] else []) ++ (if r.kind = 1 then [r.label] else [])
theorem putReq_ok {r : ReqV} (h : OnlyP r) {b : List UInt8} (h0 : r.kind = 0 → putOps r.ops = some b) (h1 : r.kind = 1 → 1 ≤ r.label.length ∧ r.label.length ≤ 64) (h2 : r.kind = 2 → 1 ≤ r.toks.length ∧ r.toks.length ≤ 40 ∧ ¬ ∃ t ∈ r.toks, BadTok t) :
    putReq r = some (joinL (reqX r b ++ toksT r.toks)) := by
  obtain ⟨lo, hi, g1, g2, g3⟩ := h
  unfold putReq reqX
  by_cases k0 : r.kind = 0
  · rw [if_pos k0, if_pos ⟨g2 (by omega), g3 (by omega)⟩, h0 k0, if_pos k0, if_neg (by omega), g3 (by omega), k0]; rfl
  · by_cases k1 : r.kind = 1
    · rw [if_neg k0, if_pos k1, if_pos ⟨g1 k0, g3 (by omega), h1 k1⟩, if_neg k0, if_pos k1, g3 (by omega), k1]; rfl
    · by_cases k2 : r.kind = 2
      · rw [if_neg k0, if_neg k1, if_pos k2, if_pos ⟨g1 k0, g2 k1, h2 k2⟩, if_neg k0, if_neg k1, k2]; rfl
      · have k3 : r.kind = 3 := by omega
        rw [if_neg k0, if_neg k1, if_neg k2, if_pos k3, if_pos ⟨g1 k0, g2 k1, g3 k2⟩, if_neg k0, if_neg k1, g3 k2, k3]; rfl
theorem putReq_no0 {r : ReqV} (h0 : r.kind = 0) (h : putOps r.ops = none) : putReq r = none := by
  unfold putReq
  rw [if_pos h0, h]
  split <;> rfl
theorem FitsP.label1 {r : ReqV} (h : FitsP r) (h1 : r.kind = 1) : 1 ≤ r.label.length ∧ r.label.length ≤ 64 := by
  obtain ⟨_, _, _, g⟩ := h
  rcases g with h | h | h | h <;> omega
theorem FitsP.toks2 {r : ReqV} (h : FitsP r) (h2 : r.kind = 2) : 1 ≤ r.toks.length ∧ r.toks.length ≤ 40 ∧ ¬ ∃ t ∈ r.toks, BadTok t := by
  obtain ⟨_, _, _, g⟩ := h
  rcases g with h | h | h | h
  · omega
  · omega
  · exact h.2
  · omega
theorem join1_len (x : List UInt8) : (joinL [x]).length ≤ 2 * x.length + 3 := by
  have := (encB_len x).2
  simp [joinL]; omega
theorem reqX_len {r : ReqV} (hs : ReqS r) {b : List UInt8} (hb : r.kind = 0 → b.length ≤ 1000000) : (joinL (reqX r b ++ toksT r.toks)).length ≤ 3000000 := by
  have h1 := join1_len [UInt8.ofNat r.kind.toNat]
  have h2 := join1_len b
  have h3 := join1_len r.label
  have := hs.label
  have := hs.toks
  unfold reqX
  rw [joinL_append, joinL_append, joinL_append, List.length_append, List.length_append, List.length_append]
  simp only [List.length_cons, List.length_nil] at h1
  by_cases k0 : r.kind = 0
  · have := hb k0
    rw [if_pos k0, if_neg (by omega)]
    simp only [joinL, List.length_nil] at *; omega
  · rw [if_neg k0]
    by_cases k1 : r.kind = 1
    · rw [if_pos k1]; simp only [joinL, List.length_nil] at *; omega
    · rw [if_neg k1]; simp only [joinL, List.length_nil] at *; omega
theorem u64_of (n : Int) (h : 0 ≤ n) (h2 : n ≤ 1073741824) : wrapI .u64 n = ((n.toNat : Nat) : Int) := by
  rw [wrapI_u64i]; omega

theorem w_joined (w : World) {a : Option Addr} {l c : Nat} {xs : List (List UInt8)} (h : VsAt w a l (strs xs)) (hx : (joinL xs).length ≤ 10000000) : Calls Try.prog 30 #[.slice a l c] w (Ret w (.string (bs (joinL xs)))) :=
  calls_ret (F30_calls _ _ _ _ _ (CallK.ret (w_Join w h hx) fun w1 k1 => ⟨_, rfl, rfl, k1⟩))

theorem strs_add (xs ys : List (List UInt8)) : strs xs ++ strs ys = strs (xs ++ ys) := by simp [strs]
theorem own1 {b : Nat} {x : List UInt8} : OwnM [(b, .cells (List.toArray [.string (bs x)]) 9 (0, 0))] 9 (some ⟨b, 0, none⟩) 1 1 (strs [x]) := .inr ⟨b, [], rfl, rfl, rfl, rfl, by simp⟩

theorem w_PutRequest (w : World) (r : ReqV) {a : Option Addr} {l c : Nat} {a' : Option Addr} {l' c' : Nat} (h : ReqAt w r a l a' l') (hs : ReqS r) :
    Calls Try.prog 10 #[.agg (reqC r a l c a' l' c').toArray] w (Ret w (putV (putReq r))) := by
  refine calls_ret (F10_calls r.kind a l c (bs r.label) a' l' c' w _ ?_)
  have hol := ops_len h.ops
  have htl := toks_len h.toks
  have htn := hs.toksN
  have M : Mem w [] [] (fun W => ReqAt W r a l a' l') w := Mem.startF w fun w' k => h.keep0 k
  refine M.newK fun b w1 M => ?_
  refine ⟨_, _, _, _, _, _, _, _, M.cells 0 (c := reqC r a l c a' l' c') rfl, ?_⟩
  refine (w_reqFits w1 r M.now hs).mono ?_
  rintro e w2 ⟨bb, rfl, hb, k2⟩
  refine ⟨bb, rfl, SplitK.of (fun hn => ?_) (fun hn => ?_)⟩
  · simp only [notB_t] at hn
    have : ¬ FitsP r := fun hf => by rw [hb.2 hf] at hn; cases hn
    exact ⟨by rw [putReq_not this]; rfl, M.keep.trans0 k2⟩
  · simp only [notB_f] at hn
    have hf := hb.1 hn
    have ho := hf.only
    have M := M.call k2
    obtain ⟨kn, hkn⟩ : ∃ kn : Nat, r.kind = (kn : Int) := ⟨r.kind.toNat, by have := ho.lo; omega⟩
    have hkn3 : kn ≤ 3 := by have := ho.hi; omega
    have ck : w2.cell? (addA ⟨b, 0, none⟩ 0) = some (.int .i64 (kn : Int)) := by rw [← hkn]; exact M.cellA 0 (c := reqC r a l c a' l' c') rfl rfl
    refine ⟨_, ck, CallK.ret (w_number w2 kn (by omega)) fun w3 k3 => ⟨_, rfl, ?_⟩⟩
    have M := M.call k3
    refine M.newK fun b2 w4 M => ?_
    have M : Mem w [] ([(b2, .cells (List.toArray [.string (bs [UInt8.ofNat kn])]) 9 (0, 0))] ++ [(b, .cells (reqC r a l c a' l' c').toArray 25 (0, 0))]) (fun W => ReqAt W r a l a' l') w4 := M
    intro K hK
    -- the end
    have fin : ∀ {xs : List (List UInt8)} {opt : List (Nat × Obj)} {a1 : Option Addr} {l1 c1 : Nat} {W : World}, OwnM opt 9 a1 l1 c1 (strs xs) → Mem w [] (opt ++ [(b, .cells (reqC r a l c a' l' c').toArray 25 (0, 0))]) (fun W => ReqAt W r a l a' l') W →
        putReq r = some (joinL xs) → (joinL xs).length ≤ 10000000 → K [.slice a1 l1 c1] W := by
      intro xs opt a1 l1 c1 W ho M hp hl
      refine hK _ _ _ _ fun _ => CallK.ret (w_joined W (ho.vsAt M) hl) fun w5 k5 => ⟨_, rfl, ?_, M.keep.trans0 k5⟩
      rw [hp]; rfl
    have ck4 : w4.cell? (addA ⟨b, 0, none⟩ 0) = some (.int .i64 (kn : Int)) := by rw [← hkn]; exact M.cellA 1 (c := reqC r a l c a' l' c') rfl rfl
    refine ⟨_, ck4, ?_⟩
    intro K1 hK1
    -- the tokens
    have loop : ∀ {xs : List (List UInt8)} {opt : List (Nat × Obj)} {a1 : Option Addr} {l1 c1 : Nat} {W : World}, OwnM opt 9 a1 l1 c1 (strs xs) → Mem w [] (opt ++ [(b, .cells (reqC r a l c a' l' c').toArray 25 (0, 0))]) (fun W => ReqAt W r a l a' l') W →
        xs.length ≤ 2 → xs = reqX r [] → r.kind ≠ 0 → K1 [.slice a1 l1 c1] W := by
      intro xs opt a1 l1 c1 W ho1 M hxl hxe hne
      have ct : W.cell? (addA ⟨b, 0, none⟩ 3) = some (.slice a' l' c') := by
        have M := M.perm List.perm_append_comm
        exact M.cellA 0 (c := reqC r a l c a' l' c') rfl rfl
      refine hK1 _ _ _ _ fun _ => ⟨_, _, _, ct, fun n vs W => ∃ (k : Nat) (opt : List (Nat × Obj)) (a2 : Option Addr) (l2 c2 : Nat), vs = [.slice a2 l2 c2, .int .i64 k] ∧ k + n = r.toks.length ∧ OwnM opt 9 a2 l2 c2 (strs (xs ++ toksT (r.toks.take k))) ∧ Mem w [] (opt ++ [(b, .cells (reqC r a l c a' l' c').toArray 25 (0, 0))]) (fun W => ReqAt W r a l a' l') W,
        ⟨r.toks.length, 0, opt, a1, l1, c1, rfl, by omega, by simpa [toksT] using ho1, M⟩, ?_⟩
      clear M ho1 ct
      rintro n vs W ⟨k, opt, a2, l2, c2, rfl, hk, ho1, M⟩
      refine ⟨_, _, _, _, rfl, fun _ => SplitK.of (fun hlt => ?_) (fun hlt => ?_)⟩
      · simp only [natI_eq, ltI_t, htl] at hlt
        have hkl : k < r.toks.length := by omega
        have hk2 : r.kind = 2 := Decidable.byContradiction fun hne2 => by rw [ho.toks hne2] at hkl; simp at hkl
        have hnb : ¬ BadTok r.toks[k] := fun hb => (hf.toks2 hk2).2.2 ⟨_, List.getElem_mem hkl, hb⟩
        obtain ⟨p, hp, hc⟩ := tok_at M.now.toks hkl
        intro K2 hK2
        refine ⟨by omega, by rw [natI_eq]; omega, SomeK.of p hp ⟨_, _, hc, ?_⟩⟩
        refine M.newK fun b3 w6 M => M.stK 0 (c := [.string ⟨#[]⟩, .int .i64 0]) rfl (by simp) rfl fun w7 M => ?_
        have M : Mem w [] ((b3, .cells (tokC r.toks[k]).toArray 66 (0, 0)) :: (opt ++ [(b, .cells (reqC r a l c a' l' c').toArray 25 (0, 0))])) (fun W => ReqAt W r a l a' l') w7 := M
        rintro w8 rfl
        have M := M.drew
        have hn0 : 1 ≤ r.toks[k].n ∧ r.toks[k].n ≤ 200 := by unfold BadTok at hnb; omega
        refine ⟨fun W' => CellsAt W' ⟨b3, 0, none⟩ (tokC r.toks[k]), M.cells 0 (c := tokC r.toks[k]) rfl, bs r.toks[k].key, fun w' hw => ?_, r.toks[k].n, fun w' hw => ?_, M.cells 0 (c := tokC r.toks[k]) rfl, ?_⟩
        · exact hw 0 _ rfl
        · have := hw 1 _ rfl
          rw [addr_add] at this
          rw [addA_mk]; exact this
        rw [u64_of _ (by omega) (by omega)]
        refine CallK.ret (o_Big _ r.toks[k].n.toNat 4 (by omega)) fun w9 k9 => ⟨_, rfl, ?_⟩
        have M := M.call k9
        refine ⟨M.cells 0 (c := tokC r.toks[k]) rfl, ?_⟩
        refine M.newK fun b4 w10 M => ⟨M.cells 1 (c := tokC r.toks[k]) rfl, strs (tokT r.toks[k]), ⟨rfl, M.cells 0 (c := strs (tokT r.toks[k])) rfl⟩, (fun h => by cases h), ?_⟩
        have M3 := M.tail.perm List.perm_middle.symm
        have hle : (strs (xs ++ toksT (r.toks.take k))).length ≤ 2 + 2 * r.toks.length := by
          rw [strs_length, List.length_append, toksT_length, List.length_take]; omega
        refine Mem.appK M3 ho1 rfl rfl (by omega) (by omega) ?_
        intro a3 l3 c3 opt3 w11 ho3 M4 hl3
        have M5 := M4.perm List.perm_middle
        refine ⟨M5.cells 0 (c := tokC r.toks[k]) rfl, hK2 _ _ _ _ fun _ => ⟨n - 1, by omega, k + 1, opt3, a3, l3, c3, by rw [addI_one (by omega)], by omega, ?_, M5.tail⟩⟩
        rw [toksT_take _ _ hkl, ← List.append_assoc, ← strs_add]; exact ho3
      · simp only [natI_eq, ltI_f, htl] at hlt
        obtain rfl : k = r.toks.length := by omega
        rw [List.take_length] at ho1
        refine fin ho1 M ?_ ?_
        · rw [hxe]; exact putReq_ok ho (fun h => absurd h hne) hf.label1 hf.toks2
        · rw [hxe]; have := reqX_len hs (b := []) (fun _ => by simp); omega
    refine SplitK.of (fun h0 => ?_) (fun h0 => SplitK.of (fun h1 => ?_) (fun h1 => SplitK.of (fun h2 => ?_) (fun h2 => ?_)))
    · rw [eqI_t] at h0
      have h0 : r.kind = 0 := by omega
      refine ⟨_, _, _, M.cellA 1 (c := reqC r a l c a' l' c') rfl rfl, CallK.ret (w_Put w4 M.now.ops (by have := hs.ops; omega)) fun w5 k5 => ?_⟩
      have M := M.call k5
      cases hp : putOps r.ops with
      | none =>
        refine ⟨bs [], 1, by rw [putOpsV, hp], SplitK.t rfl ⟨?_, M.keep⟩⟩
        rw [putReq_no0 h0 hp]; rfl
      | some d =>
        refine ⟨bs d, 0, by rw [putOpsV, hp], SplitK.f rfl ?_⟩
        refine M.newK fun b3 w6 M => ⟨_, M.old1, ne1, ?_⟩
        refine Mem.appK M.tail own1 rfl rfl (by simp [strs]) (by simp [strs]) ?_
        intro a3 l3 c3 opt3 w7 ho3 M4 hl3
        have hd := putOps_some hp
        refine fin (xs := reqX r d ++ toksT r.toks) ?_ M4 (putReq_ok ho (fun _ => hp) hf.label1 hf.toks2) ?_
        · have e : reqX r d ++ toksT r.toks = [[UInt8.ofNat kn]] ++ [d] := by
            unfold reqX
            rw [if_pos h0, if_neg (by omega), ho.toks (by omega), hkn]; rfl
          rw [e, ← strs_add]; exact ho3
        · have := reqX_len hs (b := d) (fun _ => by have := hs.ops; rw [hd]; omega)
          omega
    · rw [eqI_f] at h0
      rw [eqI_t] at h1
      have h1 : r.kind = 1 := by omega
      refine ⟨_, M.cellA 1 (c := reqC r a l c a' l' c') rfl rfl, M.newK fun b3 w6 M => ⟨_, M.old1, ne1, ?_⟩⟩
      refine Mem.appK M.tail own1 rfl rfl (by simp [strs]) (by simp [strs]) ?_
      intro a3 l3 c3 opt3 w7 ho3 M4 hl3
      refine loop (xs := [[UInt8.ofNat kn]] ++ [r.label]) ho3 M4 (by simp) ?_ (by omega)
      unfold reqX
      rw [if_neg (by omega), if_pos h1, hkn]; rfl
    · rw [eqI_f] at h0 h1
      refine loop (xs := [[UInt8.ofNat kn]]) own1 M (by simp) ?_ (by omega)
      unfold reqX
      rw [if_neg (by omega), if_neg (by omega), hkn]; rfl
    · rw [eqI_f] at h0 h1 h2
      have e : reqX r [] ++ toksT r.toks = [[UInt8.ofNat kn]] := by
        unfold reqX
        rw [if_neg (by omega), if_neg (by omega), ho.toks (by omega), hkn]; rfl
      refine fin (xs := reqX r [] ++ toksT r.toks) ?_ M (putReq_ok ho (fun h => by omega) hf.label1 hf.toks2) ?_
      · rw [e]; exact own1
      · have := reqX_len hs (b := []) (fun _ => by simp); omega

end Go.Proofs.Ytgecpbplbkpdlaa
