/-
  A part of the proof: WN.
-/
import Derived.Test.YtgecpbplbkpdlaaSxWM
namespace Go.Proofs.Ytgecpbplbkpdlaa
open Go Go.Sx Go.Oct Go.Wire
set_option linter.unusedVariables false

theorem x_tokens (w : World) {a : Option Addr} {l c : Nat} {ts : List TokV} (h : RsAt w 2 a l (toksC ts)) (hl : ts.length ≤ 1000000) :
    Calls Try.prog 32 #[.slice a l c] w (Ret w (.bool (decide (1 ≤ ts.length ∧ ts.length ≤ 40 ∧ ¬ ∃ t ∈ ts, BadTok t)))) := by
  refine calls_ret (F32_calls _ _ _ _ _ ?_)
  have hlen := toks_len h
  subst hlen
  refine ⟨fun n vs W => ∃ k : Nat, vs = [.int .i64 k] ∧ k + n = ts.length ∧ (∀ o ∈ ts.take k, ¬ BadTok o) ∧ W = w, ⟨ts.length, 0, rfl, by omega, by simp, rfl⟩, ?_⟩
  rintro n vs W ⟨k, rfl, hk, hno, rfl⟩
  refine ⟨_, rfl, fun _ => SplitK.of (fun hlt => ?_) (fun hlt => ?_)⟩
  · simp only [natI_eq, ltI_t] at hlt
    have hko : k < ts.length := by omega
    obtain ⟨p, hp, hc⟩ := tok_at h hko
    have c0 : W.cell? (addA (addA p (mulN (intN (k : Int)) 2)) 0) = some (.string (bs ts[k].key)) := hc 0 _ rfl
    have c1 : W.cell? (addA (addA p (mulN (intN (k : Int)) 2)) 1) = some (.int .i64 ts[k].n) := hc 1 _ rfl
    intro K hK
    have yes : BadTok ts[k] → K [.bool true] W := fun hb => hK _ _ fun _ => SplitK.t rfl ⟨by
      rw [decide_eq_false]
      rintro ⟨_, _, h⟩
      exact h ⟨_, List.getElem_mem hko, hb⟩, Keep.refl _ _⟩
    have hk1 : 0 ≤ (k : Int) := by omega
    have hk2 : (k : Int) < natI ts.length := by rw [natI_eq]; omega
    refine ⟨hk1, hk2, SomeK.of p hp ⟨_, c0, SplitK.of (fun h1 => yes ?_) (fun h1 => ⟨hk1, hk2, SomeK.of p hp ⟨_, c0, SplitK.of (fun h2 => yes ?_) (fun h2 => ⟨hk1, hk2, SomeK.of p hp ⟨_, c1, SplitK.of (fun h3 => yes ?_) (fun h3 => ⟨hk1, hk2, SomeK.of p hp ⟨_, c1, ?_⟩⟩)⟩⟩)⟩⟩)⟩⟩
    · simp only [sizeS_bs, natI_eq, ltI_t] at h1; unfold BadTok; omega
    · simp only [sizeS_bs, natI_eq, ltI_t] at h2; unfold BadTok; omega
    · rw [ltI_t] at h3; unfold BadTok; omega
    · simp only [sizeS_bs, natI_eq, ltI_f] at h1 h2
      rw [ltI_f] at h3
      cases h4 : ltI 200 ts[k].n with
      | true => rw [ltI_t] at h4; exact yes (by unfold BadTok; omega)
      | false =>
        rw [ltI_f] at h4
        refine hK _ _ fun _ => SplitK.f rfl ⟨n - 1, by omega, k + 1, by rw [addI_one (by omega)], by omega, ?_, rfl⟩
        intro o hm
        rw [List.take_succ_eq_append_getElem hko] at hm
        rcases List.mem_append.1 hm with h5 | h5
        · exact hno o h5
        · rw [List.mem_singleton.1 h5]; unfold BadTok; omega
  · simp only [natI_eq, ltI_f] at hlt
    obtain rfl : k = ts.length := by omega
    rw [List.take_length] at hno
    have hnb : ¬ ∃ t ∈ ts, BadTok t := fun ⟨o, ho, hb⟩ => hno o ho hb
    refine SplitK.of (fun h1 => ?_) (fun h1 => ?_)
    · rw [leI_t, natI_eq] at h1
      refine ⟨?_, Keep.refl _ _⟩
      congr 1
      rw [Bool.eq_iff_iff, leI_t, natI_eq, decide_eq_true_eq]
      constructor
      · intro h; exact ⟨by omega, by omega, hnb⟩
      · intro h; omega
    · rw [leI_f, natI_eq] at h1
      exact ⟨by rw [decide_eq_false]; rintro ⟨h, _⟩; omega, Keep.refl _ _⟩

theorem x_PutRequest (w : World) (r : ReqV) {a : Option Addr} {l c : Nat} {a' : Option Addr} {l' c' : Nat} (h : ReqAt w r a l a' l') (hs : ReqS r) :
    Calls Try.prog 11 #[.agg (reqC r a l c a' l' c').toArray] w (Ret w (putV (putReq r))) := by
  refine calls_ret (F11_calls r.kind a l c (bs r.label) a' l' c' w _ ?_)
  have hol := ops_len h.ops
  have htl := toks_len h.toks
  have htn := hs.toksN
  have M : Mem w [] [] (fun W => ReqAt W r a l a' l') w := Mem.startF w fun w' k => h.keep0 k
  refine M.newK fun b w1 M => ?_
  have M : Mem w [] [(b, .cells (reqC r a l c a' l' c').toArray 35 (0, 0))] (fun W => ReqAt W r a l a' l') w1 := M
  have c0 : w1.cell? (addA ⟨b, 0, none⟩ 0) = some (.int .i64 r.kind) := M.cellA 0 (c := reqC r a l c a' l' c') rfl rfl
  have c1 : w1.cell? (addA ⟨b, 0, none⟩ 1) = some (.slice a l c) := M.cellA 0 (c := reqC r a l c a' l' c') rfl rfl
  have c2 : w1.cell? (addA ⟨b, 0, none⟩ 2) = some (.string (bs r.label)) := M.cellA 0 (c := reqC r a l c a' l' c') rfl rfl
  have c3 : w1.cell? (addA ⟨b, 0, none⟩ 3) = some (.slice a' l' c') := M.cellA 0 (c := reqC r a l c a' l' c') rfl rfl
  have out : ∀ W, ¬ FitsP r → Keep [] w W → (Value.tuple #[.string (bs []), .int .i64 1] = putV (putReq r) ∧ Keep [] w W) := fun W hn k => ⟨by rw [putReq_not hn]; rfl, k⟩
  intro K hK
  have bad : ¬ OnlyP r → K [.bool true] w1 := fun hn => hK _ _ fun _ => SplitK.t rfl (out _ (fun h => hn h.only) M.keep)
  have good : OnlyP r → K [.bool false] w1 := by
    intro ho
    refine hK _ _ fun _ => SplitK.f rfl ?_
    obtain ⟨kn, hkn⟩ : ∃ kn : Nat, r.kind = (kn : Int) := ⟨r.kind.toNat, by have := ho.lo; omega⟩
    have hku : UInt8.ofNat r.kind.toNat = UInt8.ofNat kn := by rw [hkn]; rfl
    refine ⟨_, c0, M.newK fun bu w2 M => ?_⟩
    rw [hkn, wrapI_u8, byteV_ofNat] at M
    refine ⟨[UInt8.ofNat kn], M.bytes 0 (T := 5) (fr := (0, 0)) rfl rfl, ?_⟩
    have M := M.tail
    refine M.newK fun b2 w4 M => ?_
    have M : Mem w [] ([(b2, .cells (List.toArray [.string (bs [UInt8.ofNat kn])]) 9 (0, 0))] ++ [(b, .cells (reqC r a l c a' l' c').toArray 35 (0, 0))]) (fun W => ReqAt W r a l a' l') w4 := by
      have e := M
      rw [← hkn] at *
      exact M
    have cA : ∀ {opt : List (Nat × Obj)} {W : World}, Mem w [] (opt ++ [(b, .cells (reqC r a l c a' l' c').toArray 35 (0, 0))]) (fun W => ReqAt W r a l a' l') W → ∀ (off : Nat) (v : Value), (reqC r a l c a' l' c')[off]? = some v → W.cell? (addA ⟨b, 0, none⟩ off) = some v := by
      intro opt W M off v hv
      have M := M.perm List.perm_append_comm
      exact M.cellA 0 (c := reqC r a l c a' l' c') rfl hv
    intro K1 hK1
    -- after the batch
    have next : ∀ {d : List UInt8} {opt : List (Nat × Obj)} {a1 : Option Addr} {l1 c1 : Nat} {W : World}, (r.kind = 0 → putOps r.ops = some d) → OwnM opt 9 a1 l1 c1 (strs ([[UInt8.ofNat kn]] ++ (if r.kind = 0 then [d] else []))) → Mem w [] (opt ++ [(b, .cells (reqC r a l c a' l' c').toArray 35 (0, 0))]) (fun W => ReqAt W r a l a' l') W → K1 [.slice a1 l1 c1] W := by
      intro d opt a1 l1 c1 W hd ho1 M
      refine hK1 _ _ _ _ fun _ K2 hK2 => ?_
      -- after the label
      have next2 : ∀ {opt : List (Nat × Obj)} {a1 : Option Addr} {l1 c1 : Nat} {W : World}, (r.kind = 1 → 1 ≤ r.label.length ∧ r.label.length ≤ 64) → OwnM opt 9 a1 l1 c1 (strs (reqX r d)) → Mem w [] (opt ++ [(b, .cells (reqC r a l c a' l' c').toArray 35 (0, 0))]) (fun W => ReqAt W r a l a' l') W → K2 [.slice a1 l1 c1] W := by
        intro opt a1 l1 c1 W hlab ho1 M
        refine hK2 _ _ _ _ fun _ K3 hK3 => ?_
        have last : ∀ {W : World}, (r.kind = 2 → 1 ≤ r.toks.length ∧ r.toks.length ≤ 40 ∧ ¬ ∃ t ∈ r.toks, BadTok t) → Mem w [] (opt ++ [(b, .cells (reqC r a l c a' l' c').toArray 35 (0, 0))]) (fun W => ReqAt W r a l a' l') W → K3 [.bool false] W := by
          intro W ht2 M
          refine hK3 _ _ fun _ => SplitK.f rfl ⟨fun n vs W => ∃ (k : Nat) (opt : List (Nat × Obj)) (a2 : Option Addr) (l2 c2 : Nat), vs = [.slice a2 l2 c2, .int .i64 k] ∧ k + n = r.toks.length ∧ OwnM opt 9 a2 l2 c2 (strs (reqX r d ++ toksT (r.toks.take k))) ∧ Mem w [] (opt ++ [(b, .cells (reqC r a l c a' l' c').toArray 35 (0, 0))]) (fun W => ReqAt W r a l a' l') W,
            ⟨r.toks.length, 0, opt, a1, l1, c1, rfl, by omega, by simpa [toksT] using ho1, M⟩, ?_⟩
          clear M ho1
          rintro n vs W ⟨k, opt, a2, l2, c2, rfl, hk, ho1, M⟩
          refine ⟨_, _, _, _, rfl, fun _ => ⟨_, _, _, cA M 3 _ rfl, SplitK.of (fun hlt => ?_) (fun hlt => ?_)⟩⟩
          · simp only [natI_eq, ltI_t, htl] at hlt
            have hkl : k < r.toks.length := by omega
            have hk2 : r.kind = 2 := Decidable.byContradiction fun hne2 => by rw [ho.toks hne2] at hkl; simp at hkl
            have hnb : ¬ BadTok r.toks[k] := fun hb => (ht2 hk2).2.2 ⟨_, List.getElem_mem hkl, hb⟩
            have hn0 : 1 ≤ r.toks[k].n ∧ r.toks[k].n ≤ 200 := by unfold BadTok at hnb; omega
            intro K4 hK4
            rintro w8 rfl
            have M := M.drew
            have hS : ∀ {W' : World} {opt : List (Nat × Obj)}, Mem w [] (opt ++ [(b, .cells (reqC r a l c a' l' c').toArray 35 (0, 0))]) (fun W => ReqAt W r a l a' l') W' → CellsAt W' ⟨b, 0, none⟩ (reqC r a l c a' l' c') ∧ ReqAt W' r a l a' l' := fun M => ⟨(M.perm List.perm_append_comm).cells 0 rfl, M.now⟩
            have hS3 : ∀ {W' : World}, CellsAt W' ⟨b, 0, none⟩ (reqC r a l c a' l' c') → W'.cell? (addA ⟨b, 0, none⟩ 3) = some (.slice a' l' c') := by
              intro W' hw
              have := hw 3 _ rfl
              rw [addr_add] at this
              rw [addA_mk]; exact this
            obtain ⟨p, hp, _⟩ := tok_at M.now.toks hkl
            have hT : ∀ {W' : World}, ReqAt W' r a l a' l' → CellsAt W' (addA p (mulN (intN (k : Int)) 2)) (tokC r.toks[k]) := by
              intro W' hw
              obtain ⟨q, hq, hc⟩ := tok_at hw.toks hkl
              rw [hp] at hq; cases hq; exact hc
            have hk1 : 0 ≤ (k : Int) := by omega
            have hk2' : (k : Int) < natI l' := by rw [natI_eq]; omega
            refine ⟨fun W' => CellsAt W' ⟨b, 0, none⟩ (reqC r a l c a' l' c') ∧ ReqAt W' r a l a' l', hS M, _, _, _, fun w' hw => hS3 hw.1, hk1, hk2', SomeK.of p hp ⟨_, fun w' hw => hT hw.2 0 _ rfl, _, _, _, fun w' hw => hS3 hw.1, hk1, hk2', SomeK.of p hp ⟨r.toks[k].n, fun w' hw => hT hw.2 1 _ rfl, hS M, ?_⟩⟩⟩
            rw [u64_of _ (by omega) (by omega)]
            refine CallK.ret (x_Big _ r.toks[k].n.toNat 4 (by omega)) fun w9 k9 => ⟨_, rfl, ?_⟩
            have M := M.call k9
            refine ⟨hS M, M.newK fun b4 w10 M => ⟨hS (opt := _ :: opt) M, strs (tokT r.toks[k]), ⟨rfl, M.cells 0 (c := strs (tokT r.toks[k])) rfl⟩, (fun h => by cases h), ?_⟩⟩
            have hle : (strs (reqX r d ++ toksT (r.toks.take k))).length ≤ 3 + 2 * r.toks.length := by
              rw [strs_length, List.length_append, toksT_length, List.length_take]
              have : (reqX r d).length ≤ 3 := by unfold reqX; split <;> split <;> simp
              omega
            refine Mem.appK M.tail ho1 rfl rfl (by omega) (by omega) ?_
            intro a3 l3 c3 opt3 w11 ho3 M4 hl3
            refine ⟨hS M4, hK4 _ _ _ _ fun _ => ⟨n - 1, by omega, k + 1, opt3, a3, l3, c3, by rw [addI_one (by omega)], by omega, ?_, M4⟩⟩
            rw [toksT_take _ _ hkl, ← List.append_assoc, ← strs_add]; exact ho3
          · simp only [natI_eq, ltI_f, htl] at hlt
            obtain rfl : k = r.toks.length := by omega
            rw [List.take_length] at ho1
            have hp := putReq_ok ho hd hlab ht2
            refine CallK.ret (x_Join12 W (ho1.vsAt M) ?_) fun w5 k5 => ⟨_, rfl, ?_, M.keep.trans0 k5⟩
            · have := reqX_len hs (b := d) (fun h0 => by have := hs.ops; have := putOps_some (hd h0); rw [this]; omega)
              omega
            · rw [hp]; rfl
        refine ⟨_, cA M 0 _ rfl, SplitK.of (fun h2 => ?_) (fun h2 => ?_)⟩
        · rw [eqI_t] at h2
          refine ⟨_, _, _, cA M 3 _ rfl, CallK.ret (x_tokens W M.now.toks (by omega)) fun w5 k5 => ⟨_, rfl, ?_⟩⟩
          by_cases ht : 1 ≤ r.toks.length ∧ r.toks.length ≤ 40 ∧ ¬ ∃ t ∈ r.toks, BadTok t
          · rw [decide_eq_true ht]
            exact last (fun _ => ht) (M.call k5)
          · rw [decide_eq_false ht]
            exact hK3 _ _ fun _ => SplitK.t rfl (out _ (fun h => ht (h.toks2 h2)) (M.keep.trans0 k5))
        · rw [eqI_f] at h2
          exact last (fun h => absurd h h2) M
      refine ⟨_, cA M 0 _ rfl, SplitK.of (fun h1 => ?_) (fun h1 => ?_)⟩
      · rw [eqI_t] at h1
        intro K3 hK3
        have no : ¬ (1 ≤ r.label.length ∧ r.label.length ≤ 64) → K3 [.bool true] W := fun hn => hK3 _ _ fun _ => SplitK.t rfl (out _ (fun h => hn (h.label1 h1)) M.keep)
        have yes : (1 ≤ r.label.length ∧ r.label.length ≤ 64) → K3 [.bool false] W := by
          intro hy
          refine hK3 _ _ fun _ => SplitK.f rfl ⟨_, cA M 2 _ rfl, M.newK fun b3 w6 M => ⟨_, M.old1, ne1, ?_⟩⟩
          refine Mem.appK M.tail ho1 rfl rfl (by rw [strs_length]; split <;> simp) (by rw [strs_length]; split <;> simp) ?_
          intro a3 l3 c3 opt3 w7 ho3 M4 hl3
          refine next2 (fun _ => hy) ?_ M4
          unfold reqX
          rw [if_pos h1, ← strs_add, hku]; exact ho3
        refine ⟨_, cA M 2 _ rfl, SplitK.of (fun h2 => no ?_) (fun h2 => ⟨_, cA M 2 _ rfl, ?_⟩)⟩
        · simp only [sizeS_bs, natI_eq, ltI_t] at h2; omega
        · simp only [sizeS_bs, natI_eq, ltI_f] at h2
          by_cases h4 : r.label.length ≤ 64
          · have e : ltI 64 (natI (sizeS (bs r.label))) = false := by rw [ltI_f, sizeS_bs, natI_eq]; omega
            rw [e]; exact yes (by omega)
          · have e : ltI 64 (natI (sizeS (bs r.label))) = true := by rw [ltI_t, sizeS_bs, natI_eq]; omega
            rw [e]; exact no (by omega)
      · rw [eqI_f] at h1
        refine next2 (fun h => absurd h h1) ?_ M
        unfold reqX
        rw [if_neg h1, List.append_nil, hku]; exact ho1
    refine ⟨_, cA M 0 _ rfl, SplitK.of (fun h0 => ?_) (fun h0 => ?_)⟩
    · rw [eqI_t] at h0
      refine ⟨_, _, _, cA M 1 _ rfl, CallK.ret (x_Put w4 M.now.ops (by have := hs.ops; omega)) fun w5 k5 => ?_⟩
      have M := M.call k5
      cases hp : putOps r.ops with
      | none =>
        refine ⟨bs [], 1, by rw [putOpsV, hp], SplitK.t rfl ⟨?_, M.keep⟩⟩
        rw [putReq_no0 h0 hp]; rfl
      | some d =>
        refine ⟨bs d, 0, by rw [putOpsV, hp], SplitK.f rfl ?_⟩
        refine M.newK fun b3 w6 M => ⟨_, M.old1, ne1, ?_⟩
        refine Mem.appK M.tail own1 rfl rfl (by simp [strs]) (by simp [strs]) ?_
        intro a3 l3 c3 opt3 w7 ho3 M4 hl3
        refine next (d := d) (fun _ => hp) ?_ M4
        rw [if_pos h0, ← strs_add]; exact ho3
    · rw [eqI_f] at h0
      refine next (d := []) (fun h => absurd h h0) ?_ M
      rw [if_neg h0]; exact own1
  have fin : ∀ (t : Bool), (0 ≤ r.kind ∧ r.kind ≤ 3 ∧ (r.kind ≠ 0 → r.ops = []) ∧ (r.kind ≠ 1 → r.label = [])) → (t = true ↔ (r.kind ≠ 2 ∧ r.toks ≠ [])) → K [.bool t] w1 := by
    rintro t ⟨g1, g2, g3, g4⟩ ht
    cases t with
    | true => exact bad fun ho => (ht.1 rfl).2 (ho.toks (ht.1 rfl).1)
    | false =>
      refine good ⟨g1, g2, g3, g4, fun h => ?_⟩
      exact Decidable.byContradiction fun hn => by have := ht.2 ⟨h, hn⟩; cases this
  have eO : ltI 0 (natI l) = true → r.ops ≠ [] := by
    rw [ltI_t, natI_eq, hol]; intro h e; rw [e] at h; simp at h
  have eO' : ltI 0 (natI l) = false → r.ops = [] := by
    rw [ltI_f, natI_eq, hol]; intro h; exact List.eq_nil_of_length_eq_zero (by omega)
  have eT : (ltI 0 (natI l') = true) ↔ r.toks ≠ [] := by
    rw [ltI_t, natI_eq, htl]
    constructor
    · intro h e; rw [e] at h; simp at h
    · intro h
      have : r.toks.length ≠ 0 := fun e => h (List.eq_nil_of_length_eq_zero e)
      omega
  have tail : ∀ (g : 0 ≤ r.kind ∧ r.kind ≤ 3 ∧ (r.kind ≠ 0 → r.ops = []) ∧ (r.kind ≠ 1 → r.label = [])), ∃ n4, w1.cell? (addA ⟨b, 0, none⟩ 0) = some (.int .i64 n4) ∧ SplitK (notB (eqI n4 2)) (∃ a1 l1 c1, w1.cell? (addA ⟨b, 0, none⟩ 3) = some (.slice a1 l1 c1) ∧ K [.bool (ltI 0 (natI l1))] w1) (K [.bool false] w1) := by
    intro g
    refine ⟨_, c0, SplitK.of (fun h => ⟨_, _, _, c3, fin _ g ?_⟩) (fun h => fin _ g ?_)⟩
    · simp only [notB_t, eqI_f] at h
      rw [eT]
      exact ⟨fun h2 => ⟨h, h2⟩, fun h2 => h2.2⟩
    · simp only [notB_f, eqI_t] at h
      simp [h]
  have tail2 : ∀ (g : 0 ≤ r.kind ∧ r.kind ≤ 3 ∧ (r.kind ≠ 0 → r.ops = [])), ∃ n3, w1.cell? (addA ⟨b, 0, none⟩ 0) = some (.int .i64 n3) ∧ SplitK (notB (eqI n3 1)) (∃ s, w1.cell? (addA ⟨b, 0, none⟩ 2) = some (.string s) ∧ SplitK (notB (eqS s ⟨List.toArray []⟩)) (K [.bool true] w1) (∃ n4, w1.cell? (addA ⟨b, 0, none⟩ 0) = some (.int .i64 n4) ∧ SplitK (notB (eqI n4 2)) (∃ a1 l1 c1, w1.cell? (addA ⟨b, 0, none⟩ 3) = some (.slice a1 l1 c1) ∧ K [.bool (ltI 0 (natI l1))] w1) (K [.bool false] w1)))
      (∃ n4, w1.cell? (addA ⟨b, 0, none⟩ 0) = some (.int .i64 n4) ∧ SplitK (notB (eqI n4 2)) (∃ a1 l1 c1, w1.cell? (addA ⟨b, 0, none⟩ 3) = some (.slice a1 l1 c1) ∧ K [.bool (ltI 0 (natI l1))] w1) (K [.bool false] w1)) := by
    rintro ⟨g1, g2, g3⟩
    refine ⟨_, c0, SplitK.of (fun h => ⟨_, c2, ?_⟩) (fun h => tail ⟨g1, g2, g3, fun hn => ?_⟩)⟩
    · simp only [notB_t, eqI_f] at h
      rw [lit_bs [], eqS_bs]
      refine SplitK.of (fun h5 => bad fun ho => ?_) (fun h5 => tail ⟨g1, g2, g3, fun _ => ?_⟩)
      · simp only [notB_t, decide_eq_false_iff_not] at h5
        exact h5 (ho.label h)
      · simpa using h5
    · simp only [notB_f, eqI_t] at h
      exact absurd h hn
  refine ⟨_, c0, SplitK.of (fun h1 => bad fun ho => ?_) (fun h1 => ⟨_, c0, SplitK.of (fun h2 => bad fun ho => ?_) (fun h2 => ⟨_, c0, SplitK.of (fun h3 => ⟨_, _, _, c1, SplitK.of (fun h4 => bad fun ho => ?_) (fun h4 => ?_)⟩) (fun h3 => ?_)⟩)⟩)⟩
  · rw [ltI_t] at h1; have := ho.lo; omega
  · rw [ltI_t] at h2; have := ho.hi; omega
  · simp only [notB_t, eqI_f] at h3
    exact eO h4 (ho.ops h3)
  · rw [ltI_f] at h1 h2
    exact tail2 ⟨by omega, by omega, fun _ => eO' h4⟩
  · rw [ltI_f] at h1 h2
    simp only [notB_f, eqI_t] at h3
    exact tail2 ⟨by omega, by omega, fun h => absurd h3 h⟩

end Go.Proofs.Ytgecpbplbkpdlaa
