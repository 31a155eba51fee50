/-
  A part of the proof: WT.
-/
import Derived.Test.YtgecpbplbkpdlaaSxWS
namespace Go.Proofs.Ytgecpbplbkpdlaa
open Go Go.Sx Go.Oct Go.Wire
set_option linter.unusedVariables false

instance : DecidableEq ReqV := fun a b => decidable_of_iff (a.kind = b.kind ∧ a.ops = b.ops ∧ a.label = b.label ∧ a.toks = b.toks) (by
  cases a; cases b; simp)
instance : DecidableEq RepV := fun a b => decidable_of_iff (a.err = b.err ∧ a.boxes = b.boxes ∧ a.head = b.head ∧ a.n = b.n) (by
  cases a; cases b; simp)
theorem req_ne {r q : ReqV} (h : r.kind ≠ q.kind ∨ r.ops ≠ q.ops ∨ r.label ≠ q.label ∨ r.toks ≠ q.toks) : r ≠ q := by
  rintro rfl
  rcases h with h | h | h | h <;> exact h rfl
theorem req_eq {r q : ReqV} (h1 : r.kind = q.kind) (h2 : r.ops = q.ops) (h3 : r.label = q.label) (h4 : r.toks = q.toks) : r = q := by
  cases r; cases q; simp only at h1 h2 h3 h4; subst h1 h2 h3 h4; rfl
theorem rep_ne {r q : RepV} (h : r.err ≠ q.err ∨ r.boxes ≠ q.boxes ∨ r.head ≠ q.head ∨ r.n ≠ q.n) : r ≠ q := by
  rintro rfl
  rcases h with h | h | h | h <;> exact h rfl
theorem rep_eq {r q : RepV} (h1 : r.err = q.err) (h2 : r.boxes = q.boxes) (h3 : r.head = q.head) (h4 : r.n = q.n) : r = q := by
  cases r; cases q; simp only at h1 h2 h3 h4; subst h1 h2 h3 h4; rfl

theorem w_SameRequest (w : World) (r q : ReqV) {a : Option Addr} {l c : Nat} {a' : Option Addr} {l' c' : Nat} {d : Option Addr} {m e : Nat} {d' : Option Addr} {m' e' : Nat} (h : ReqAt w r a l a' l') (h2 : ReqAt w q d m d' m') (hs : r.ops.length ≤ 1000000) (hs2 : r.toks.length ≤ 1000000) :
    Calls Try.prog 16 #[.agg (reqC r a l c a' l' c').toArray, .agg (reqC q d m e d' m' e').toArray] w (Ret w (.bool (decide (r = q)))) := by
  refine calls_ret (F16_calls r.kind a l c (bs r.label) a' l' c' q.kind d m e (bs q.label) d' m' e' w _ ?_)
  have M : Mem w [] [] (fun W => ReqAt W r a l a' l' ∧ ReqAt W q d m d' m') w := Mem.startF w fun w' k => ⟨h.keep0 k, h2.keep0 k⟩
  refine M.newK fun b w1 M => M.newK fun b1 w2 M => ?_
  have M : Mem w [] [(b1, .cells (reqC q d m e d' m' e').toArray 25 (0, 0)), (b, .cells (reqC r a l c a' l' c').toArray 25 (0, 0))] (fun W => ReqAt W r a l a' l' ∧ ReqAt W q d m d' m') w2 := M
  have no : ∀ {W : World}, r ≠ q → Keep [] w W → (Value.bool false = .bool (decide (r = q)) ∧ Keep [] w W) := fun hn k => ⟨by rw [decide_eq_false hn], k⟩
  refine ⟨_, M.cellA 1 (c := reqC r a l c a' l' c') rfl rfl, _, M.cellA 0 (c := reqC q d m e d' m' e') rfl rfl, SplitK.of (fun h1 => ⟨_, M.cellA 1 (c := reqC r a l c a' l' c') rfl rfl, _, M.cellA 0 (c := reqC q d m e d' m' e') rfl rfl, ?_⟩) (fun h1 => no ?_ M.keep)⟩
  · rw [eqI_t] at h1
    rw [eqS_bs]
    refine SplitK.of (fun h3 => ⟨_, _, _, M.cellA 1 (c := reqC r a l c a' l' c') rfl rfl, _, _, _, M.cellA 0 (c := reqC q d m e d' m' e') rfl rfl, ?_⟩) (fun h3 => no ?_ M.keep)
    · have h3 := of_decide_eq_true h3
      refine CallK.ret (w_eqOps w2 M.now.1.ops M.now.2.ops hs) fun w3 k3 => ⟨_, rfl, SplitK.of (fun h4 => ?_) (fun h4 => no ?_ (M.keep.trans0 k3))⟩
      · have h4 := of_decide_eq_true h4
        have M := M.call k3
        refine ⟨_, _, _, M.cellA 1 (c := reqC r a l c a' l' c') rfl rfl, _, _, _, M.cellA 0 (c := reqC q d m e d' m' e') rfl rfl, ?_⟩
        refine CallK.ret (w_eqToks w3 M.now.1.toks M.now.2.toks hs2) fun w4 k4 => ⟨_, rfl, ?_, M.keep.trans0 k4⟩
        congr 1
        rw [decide_eq_decide]
        exact ⟨fun h5 => req_eq h1 h4 h3 h5, fun h5 => by rw [h5]⟩
      · exact req_ne (.inr (.inl (of_decide_eq_false h4)))
    · exact req_ne (.inr (.inr (.inl (of_decide_eq_false h3))))
  · rw [eqI_f] at h1; exact req_ne (.inl h1)

theorem x_SameRequest (w : World) (r q : ReqV) {a : Option Addr} {l c : Nat} {a' : Option Addr} {l' c' : Nat} {d : Option Addr} {m e : Nat} {d' : Option Addr} {m' e' : Nat} (h : ReqAt w r a l a' l') (h2 : ReqAt w q d m d' m') (hs : r.ops.length ≤ 1000000) (hs2 : r.toks.length ≤ 1000000) :
    Calls Try.prog 15 #[.agg (reqC r a l c a' l' c').toArray, .agg (reqC q d m e d' m' e').toArray] w (Ret w (.bool (decide (r = q)))) := by
  refine calls_ret (F15_calls r.kind a l c (bs r.label) a' l' c' q.kind d m e (bs q.label) d' m' e' w _ ?_)
  have htl := toks_len h.toks
  have htl2 := toks_len h2.toks
  have M : Mem w [] [] (fun W => ReqAt W r a l a' l' ∧ ReqAt W q d m d' m') w := Mem.startF w fun w' k => ⟨h.keep0 k, h2.keep0 k⟩
  refine M.newK fun b w1 M => M.newK fun b1 w2 M => ?_
  have M : Mem w [] [(b1, .cells (reqC q d m e d' m' e').toArray 35 (0, 0)), (b, .cells (reqC r a l c a' l' c').toArray 35 (0, 0))] (fun W => ReqAt W r a l a' l' ∧ ReqAt W q d m d' m') w2 := M
  have no : ∀ {W : World}, r ≠ q → Keep [] w W → (Value.bool false = .bool (decide (r = q)) ∧ Keep [] w W) := fun hn k => ⟨by rw [decide_eq_false hn], k⟩
  intro K hK
  have bad : r ≠ q → K [.bool true] w2 := fun hn => hK _ _ fun _ => SplitK.t rfl (no hn M.keep)
  refine ⟨_, M.cellA 1 (c := reqC r a l c a' l' c') rfl rfl, _, M.cellA 0 (c := reqC q d m e d' m' e') rfl rfl, SplitK.of (fun h1 => bad ?_) (fun h1 => ⟨_, M.cellA 1 (c := reqC r a l c a' l' c') rfl rfl, _, M.cellA 0 (c := reqC q d m e d' m' e') rfl rfl, ?_⟩)⟩
  · simp only [notB_t, eqI_f] at h1; exact req_ne (.inl h1)
  simp only [notB_f, eqI_t] at h1
  rw [eqS_bs]
  refine SplitK.of (fun h3 => bad ?_) (fun h3 => ⟨_, _, _, M.cellA 1 (c := reqC r a l c a' l' c') rfl rfl, _, _, _, M.cellA 0 (c := reqC q d m e d' m' e') rfl rfl, SplitK.of (fun h4 => bad ?_) (fun h4 => ?_)⟩)
  · simp only [notB_t, decide_eq_false_iff_not] at h3; exact req_ne (.inr (.inr (.inl h3)))
  · simp only [notB_t, natI_eq, eqI_f] at h4
    refine req_ne (.inr (.inr (.inr fun h => ?_)))
    rw [htl, htl2, h] at h4; exact h4 rfl
  simp only [notB_f, decide_eq_true_eq] at h3
  simp only [notB_f, natI_eq, eqI_t] at h4
  have hll : r.toks.length = q.toks.length := by omega
  refine ⟨_, _, _, M.cellA 1 (c := reqC r a l c a' l' c') rfl rfl, _, _, _, M.cellA 0 (c := reqC q d m e d' m' e') rfl rfl, ?_⟩
  refine CallK.ret (x_SameOps w2 M.now.1.ops M.now.2.ops hs) fun w3 k3 => ⟨_, rfl, ?_⟩
  have M := M.call k3
  refine hK _ _ fun _ => SplitK.of (fun h5 => no ?_ M.keep) (fun h5 => ?_)
  · simp only [notB_t, decide_eq_false_iff_not] at h5; exact req_ne (.inr (.inl h5))
  simp only [notB_f, decide_eq_true_eq] at h5
  refine ⟨fun n vs W => ∃ k : Nat, vs = [.int .i64 k] ∧ k + n = r.toks.length ∧ r.toks.take k = q.toks.take k ∧ Mem w [] [(b1, .cells (reqC q d m e d' m' e').toArray 35 (0, 0)), (b, .cells (reqC r a l c a' l' c').toArray 35 (0, 0))] (fun W => ReqAt W r a l a' l' ∧ ReqAt W q d m d' m') W, ⟨r.toks.length, 0, rfl, by omega, rfl, M⟩, ?_⟩
  clear M
  rintro n vs W ⟨k, rfl, hk, ht, M⟩
  refine ⟨_, rfl, fun _ => ⟨_, _, _, M.cellA 1 (c := reqC r a l c a' l' c') rfl rfl, SplitK.of (fun hlt => ?_) (fun hlt => ?_)⟩⟩
  · simp only [natI_eq, ltI_t, htl] at hlt
    have hkx : k < r.toks.length := by omega
    have hky : k < q.toks.length := by omega
    obtain ⟨he, hne⟩ := same_rows hll hkx ht
    rintro w5 rfl
    have M := M.drew
    obtain ⟨p, hp, hpc⟩ := tok_at M.now.1.toks hkx
    obtain ⟨p', hp', hpc'⟩ := tok_at M.now.2.toks hky
    refine ⟨fun W' => W' = W.drew, rfl, _, _, _, fun w' hw => by rw [hw]; exact M.cellA 1 (c := reqC r a l c a' l' c') rfl rfl, by omega, by rw [natI_eq]; omega, SomeK.of p hp ⟨_, _, fun w' hw => by rw [hw]; exact hpc, _, _, _, fun w' hw => by rw [hw]; exact M.cellA 0 (c := reqC q d m e d' m' e') rfl rfl, by omega, by rw [natI_eq]; omega, SomeK.of p' hp' ⟨_, _, fun w' hw => by rw [hw]; exact hpc', ?_⟩⟩⟩
    rw [tok_eqB]
    refine SplitK.of (fun hb => ?_) (fun hb => ?_)
    · simp only [notB_t, decide_eq_false_iff_not] at hb
      exact no (req_ne (.inr (.inr (.inr (hne hb))))) M.keep
    · simp only [notB_f, decide_eq_true_eq] at hb
      exact ⟨n - 1, by omega, k + 1, by rw [addI_one (by omega)], by omega, he hb, M⟩
  · simp only [natI_eq, ltI_f, htl] at hlt
    obtain rfl : k = r.toks.length := by omega
    rw [List.take_length, hll, List.take_length] at ht
    exact ⟨by rw [decide_eq_true (req_eq h1 h5 h3 ht)], M.keep⟩

theorem w_SameReply (w : World) (r q : RepV) {a : Option Addr} {l c : Nat} {d : Option Addr} {m e : Nat} (h : VsAt w a l (strs r.boxes)) (h2 : VsAt w d m (strs q.boxes)) (hs : r.boxes.length ≤ 1000000) :
    Calls Try.prog 24 #[.agg (repC r a l c).toArray, .agg (repC q d m e).toArray] w (Ret w (.bool (decide (r = q)))) := by
  refine calls_ret (F24_calls r.err a l c (bs r.head) r.n q.err d m e (bs q.head) q.n w _ ?_)
  have M : Mem w [] [] (fun W => VsAt W a l (strs r.boxes) ∧ VsAt W d m (strs q.boxes)) w := Mem.startF w fun w' k => ⟨h.keep0 k, h2.keep0 k⟩
  refine M.newK fun b w1 M => M.newK fun b1 w2 M => ?_
  have M : Mem w [] [(b1, .cells (repC q d m e).toArray 46 (0, 0)), (b, .cells (repC r a l c).toArray 46 (0, 0))] (fun W => VsAt W a l (strs r.boxes) ∧ VsAt W d m (strs q.boxes)) w2 := M
  have no : ∀ {W : World}, r ≠ q → Keep [] w W → (Value.bool false = .bool (decide (r = q)) ∧ Keep [] w W) := fun hn k => ⟨by rw [decide_eq_false hn], k⟩
  refine ⟨_, M.cellA 1 (c := repC r a l c) rfl rfl, _, M.cellA 0 (c := repC q d m e) rfl rfl, SplitK.of (fun h1 => ⟨_, M.cellA 1 (c := repC r a l c) rfl rfl, _, M.cellA 0 (c := repC q d m e) rfl rfl, ?_⟩) (fun h1 => no ?_ M.keep)⟩
  · rw [eqI_t] at h1
    rw [eqS_bs]
    refine SplitK.of (fun h3 => ⟨_, M.cellA 1 (c := repC r a l c) rfl rfl, _, M.cellA 0 (c := repC q d m e) rfl rfl, SplitK.of (fun h4 => ?_) (fun h4 => no ?_ M.keep)⟩) (fun h3 => no ?_ M.keep)
    · have h3 := of_decide_eq_true h3
      rw [eqI_t] at h4
      refine ⟨_, _, _, M.cellA 1 (c := repC r a l c) rfl rfl, _, _, _, M.cellA 0 (c := repC q d m e) rfl rfl, ?_⟩
      refine CallK.ret (w_eqStrs w2 M.now.1 M.now.2 hs) fun w4 k4 => ⟨_, rfl, ?_, M.keep.trans0 k4⟩
      congr 1
      rw [decide_eq_decide]
      exact ⟨fun h5 => rep_eq h1 h5 h3 h4, fun h5 => by rw [h5]⟩
    · rw [eqI_f] at h4; exact rep_ne (.inr (.inr (.inr h4)))
    · exact rep_ne (.inr (.inr (.inl (of_decide_eq_false h3))))
  · rw [eqI_f] at h1; exact rep_ne (.inl h1)

theorem x_SameReply (w : World) (r q : RepV) {a : Option Addr} {l c : Nat} {d : Option Addr} {m e : Nat} (h : VsAt w a l (strs r.boxes)) (h2 : VsAt w d m (strs q.boxes)) (hs : r.boxes.length ≤ 1000000) :
    Calls Try.prog 23 #[.agg (repC r a l c).toArray, .agg (repC q d m e).toArray] w (Ret w (.bool (decide (r = q)))) := by
  refine calls_ret (F23_calls r.err a l c (bs r.head) r.n q.err d m e (bs q.head) q.n w _ ?_)
  have M : Mem w [] [] (fun W => VsAt W a l (strs r.boxes) ∧ VsAt W d m (strs q.boxes)) w := Mem.startF w fun w' k => ⟨h.keep0 k, h2.keep0 k⟩
  refine M.newK fun b w1 M => M.newK fun b1 w2 M => ?_
  have M : Mem w [] [(b1, .cells (repC q d m e).toArray 50 (0, 0)), (b, .cells (repC r a l c).toArray 50 (0, 0))] (fun W => VsAt W a l (strs r.boxes) ∧ VsAt W d m (strs q.boxes)) w2 := M
  have no : ∀ {W : World}, r ≠ q → Keep [] w W → (Value.bool false = .bool (decide (r = q)) ∧ Keep [] w W) := fun hn k => ⟨by rw [decide_eq_false hn], k⟩
  refine ⟨_, M.cellA 1 (c := repC r a l c) rfl rfl, _, M.cellA 0 (c := repC q d m e) rfl rfl, SplitK.of (fun h1 => ⟨_, M.cellA 1 (c := repC r a l c) rfl rfl, _, M.cellA 0 (c := repC q d m e) rfl rfl, ?_⟩) (fun h1 => no ?_ M.keep)⟩
  · rw [eqI_t] at h1
    rw [eqS_bs]
    refine SplitK.of (fun h3 => ⟨_, M.cellA 1 (c := repC r a l c) rfl rfl, _, M.cellA 0 (c := repC q d m e) rfl rfl, SplitK.of (fun h4 => ?_) (fun h4 => no ?_ M.keep)⟩) (fun h3 => no ?_ M.keep)
    · have h3 := of_decide_eq_true h3
      rw [eqI_t] at h4
      refine ⟨_, _, _, M.cellA 1 (c := repC r a l c) rfl rfl, _, _, _, M.cellA 0 (c := repC q d m e) rfl rfl, ?_⟩
      refine CallK.ret (x_Strs w2 M.now.1 M.now.2 hs) fun w4 k4 => ⟨_, rfl, ?_, M.keep.trans0 k4⟩
      congr 1
      rw [decide_eq_decide]
      exact ⟨fun h5 => rep_eq h1 h5 h3 h4, fun h5 => by rw [h5]⟩
    · rw [eqI_f] at h4; exact rep_ne (.inr (.inr (.inr h4)))
    · exact rep_ne (.inr (.inr (.inl (of_decide_eq_false h3))))
  · rw [eqI_f] at h1; exact rep_ne (.inl h1)

theorem x_OfReply (w : World) (r : RepV) {a : Option Addr} {l c : Nat} : Calls Try.prog 20 #[.agg (repC r a l c).toArray] w (Ret w (.agg (repC r a l c).toArray)) := by
  refine calls_ret (F20_calls r.err a l c (bs r.head) r.n w _ ?_)
  refine (Mem.start w).newK fun b w1 M => M.newK fun b1 w2 M => ?_
  refine ⟨_, M.cellA 1 (c := repC r a l c) rfl rfl, _, _, _, M.cellA 1 (c := repC r a l c) rfl rfl, _, M.cellA 1 (c := repC r a l c) rfl rfl, _, M.cellA 1 (c := repC r a l c) rfl rfl, ?_⟩
  exact M.stK 0 (c := noneR) rfl (by simp [noneR]) rfl fun w3 M => ⟨_, _, _, _, _, _, M.cells 0 (c := repC r a l c) rfl, rfl, M.keep⟩

def RetRecs (w : World) (sz : Nat) (vs : List Value) (e : Ending) (w' : World) : Prop := Keep [] w w' ∧ ∃ a l c, e = .returned (.slice a l c) ∧ Fresh w.heap.size w' (fun w => RsAt w sz a l vs)
theorem opsC_take (ops : List OpV) (k : Nat) (hk : k < ops.length) : opsC (ops.take k) ++ opC ops[k] = opsC (ops.take (k + 1)) := by
  rw [List.take_succ_eq_append_getElem hk, ← opsC_snoc]
theorem x_Ops (w : World) {a : Option Addr} {l c : Nat} {ops : List OpV} (h : RsAt w 3 a l (opsC ops)) (hs : ops.length ≤ 1000000) : Calls Try.prog 35 #[.slice a l c] w (RetRecs w 3 (opsC ops)) := by
  refine Calls.mono (F35_calls a l c w (fun v w' => RetRecs w 3 (opsC ops) (.returned v) w') ?_) (fun e w' ⟨v, he, h⟩ => by rw [he]; exact h)
  have hlen := ops_len h
  subst hlen
  have M : Mem w [] [] (fun W => RsAt W 3 a ops.length (opsC ops)) w := Mem.startF w fun w' k => h.keep0 k
  refine ⟨fun n vs W => ∃ (k : Nat) (opt : List (Nat × Obj)) (a2 : Option Addr) (l2 c2 : Nat), vs = [.slice a2 l2 c2, .int .i64 k] ∧ k + n = ops.length ∧ OwnR opt 100 3 a2 l2 c2 (opsC (ops.take k)) ∧ Mem w [] (opt ++ []) (fun W => RsAt W 3 a ops.length (opsC ops)) W, ⟨ops.length, 0, [], none, 0, 0, rfl, by omega, OwnR.nil, M⟩, ?_⟩
  clear M
  rintro n vs W ⟨k, opt, a2, l2, c2, rfl, hk, ho, M⟩
  refine ⟨_, _, _, _, rfl, fun _ => SplitK.of (fun hlt => ?_) (fun hlt => ?_)⟩
  · simp only [natI_eq, ltI_t] at hlt
    have hkl : k < ops.length := by omega
    intro K hK
    rintro w2 rfl
    have M := M.drew
    obtain ⟨p, hp, hc⟩ := op_at M.now hkl
    have hcc : ∀ {W' : World}, RsAt W' 3 a ops.length (opsC ops) → CellsAt W' (addA p (mulN (intN (k : Int)) 3)) (opC ops[k]) := by
      intro W' hw
      obtain ⟨q, hq, hc⟩ := op_at hw hkl
      rw [hp] at hq; cases hq; exact hc
    have h1 : 0 ≤ (k : Int) := by omega
    have h2 : (k : Int) < natI ops.length := by rw [natI_eq]; omega
    have hl2 : l2 = k := by
      have := ho.len
      have e3 : (opsC (ops.take k)).length = (ops.take k).length * 3 := opsC_len _
      rw [e3, List.length_take] at this; omega
    refine ⟨fun W' => RsAt W' 3 a ops.length (opsC ops), M.now, h1, h2, SomeK.of p hp ⟨_, fun w' hw => hcc hw 0 _ rfl, h1, h2, SomeK.of p hp ⟨_, fun w' hw => hcc hw 1 _ rfl, h1, h2, SomeK.of p hp ⟨_, fun w' hw => hcc hw 2 _ rfl, ?_⟩⟩⟩⟩
    refine M.newK fun b w3 M => ⟨M.now, opC ops[k], ⟨rfl, M.cells 0 (c := opC ops[k]) rfl⟩, (fun h => by cases h), ?_⟩
    refine Mem.appR M.tail ho (by decide) rfl rfl rfl (by omega) (by omega) ?_
    intro a3 l3 c3 opt3 w4 ho3 M3 hl3
    refine ⟨M3.now, hK _ _ _ _ fun _ => ⟨n - 1, by omega, k + 1, opt3, a3, l3, c3, by rw [addI_one (by omega)], by omega, ?_, M3⟩⟩
    rw [← opsC_take _ _ hkl]; exact ho3
  · simp only [natI_eq, ltI_f] at hlt
    obtain rfl : k = ops.length := by omega
    rw [List.take_length] at ho
    exact ⟨M.keep, _, _, _, rfl, ho.freshR M⟩

theorem toksC_take (ts : List TokV) (k : Nat) (hk : k < ts.length) : toksC (ts.take k) ++ tokC ts[k] = toksC (ts.take (k + 1)) := by
  rw [List.take_succ_eq_append_getElem hk, ← toksC_snoc]

theorem x_Of (w : World) (r : ReqV) {a : Option Addr} {l c : Nat} {a' : Option Addr} {l' c' : Nat} (h : ReqAt w r a l a' l') (hs : r.ops.length ≤ 1000000) (hs2 : r.toks.length ≤ 1000000) :
    Calls Try.prog 12 #[.agg (reqC r a l c a' l' c').toArray] w (RetReq w r) := by
  refine Calls.mono (F12_calls r.kind a l c (bs r.label) a' l' c' w (fun v w' => RetReq w r (.returned v) w') ?_) (fun e w' ⟨v, he, h⟩ => by rw [he]; exact h)
  have htl := toks_len h.toks
  have M : Mem w [] [] (fun W => ReqAt W r a l a' l') w := Mem.startF w fun w' k => h.keep0 k
  refine M.newK fun b w1 M => ?_
  have M : Mem w [] [] (fun W => ReqAt W r a l a' l' ∧ CellsAt W ⟨b, 0, none⟩ (reqC r a l c a' l' c')) w1 := by
    have hc := M.cells 0 (c := reqC r a l c a' l' c') rfl
    exact Mem.addF M.tail fun w' hk => hc.keep hk (by simp)
  have hat : ∀ {W' : World}, CellsAt W' ⟨b, 0, none⟩ (reqC r a l c a' l' c') → ∀ (off : Nat) (v : Value), (reqC r a l c a' l' c')[off]? = some v → W'.cell? (addA ⟨b, 0, none⟩ off) = some v := by
    intro W' hw off v hv
    have := hw off v hv
    rw [addr_add] at this
    rw [addA_mk]; exact this
  refine M.newK fun b1 w2 M => ?_
  have M : Mem w [] [(b1, .cells noneC.toArray 35 (0, 0))] (fun W => ReqAt W r a l a' l' ∧ CellsAt W ⟨b, 0, none⟩ (reqC r a l c a' l' c')) w2 := M
  intro K hK
  rintro w3 rfl
  have M := M.drew
  -- behind the head
  have next : ∀ {b2 : Nat} {a1 : Option Addr} {l1 c1 : Nat} {W : World}, Mem w [] [(b2, .cells (reqC ⟨r.kind, r.ops, r.label, []⟩ a1 l1 c1 none 0 0).toArray 35 (0, 0)), (b1, .cells noneC.toArray 35 (0, 0))] (fun W => (ReqAt W r a l a' l' ∧ CellsAt W ⟨b, 0, none⟩ (reqC r a l c a' l' c')) ∧ Fresh w.heap.size W (fun w => RsAt w 3 a1 l1 (opsC r.ops))) W → K [.pointer (some ⟨b2, 0, none⟩)] W := by
    intro b2 a1 l1 c1 W M
    refine hK _ _ fun _ => ⟨fun n vs W => ∃ (k : Nat) (opt : List (Nat × Obj)) (a2 : Option Addr) (l2 c2 : Nat), vs = [.int .i64 k] ∧ k + n = r.toks.length ∧ OwnR opt 76 2 a2 l2 c2 (toksC (r.toks.take k)) ∧
      Mem w [] (opt ++ [(b2, .cells (reqC r a1 l1 c1 a2 l2 c2).toArray 35 (0, 0)), (b1, .cells noneC.toArray 35 (0, 0))]) (fun W => (ReqAt W r a l a' l' ∧ CellsAt W ⟨b, 0, none⟩ (reqC r a l c a' l' c')) ∧ Fresh w.heap.size W (fun w => RsAt w 3 a1 l1 (opsC r.ops))) W,
      ⟨r.toks.length, 0, [], none, 0, 0, rfl, by omega, OwnR.nil, M⟩, ?_⟩
    clear M
    rintro n vs W ⟨k, opt, a2, l2, c2, rfl, hk, ho, M⟩
    refine ⟨_, rfl, fun _ => ⟨_, _, _, hat M.now.1.2 3 _ rfl, SplitK.of (fun hlt => ?_) (fun hlt => ?_)⟩⟩
    · simp only [natI_eq, ltI_t, htl] at hlt
      have hkl : k < r.toks.length := by omega
      intro K1 hK1
      rintro w8 rfl
      have M := M.drew
      obtain ⟨p, hp, _⟩ := tok_at M.now.1.1.toks hkl
      have hcc : ∀ {W' : World}, ReqAt W' r a l a' l' → CellsAt W' (addA p (mulN (intN (k : Int)) 2)) (tokC r.toks[k]) := by
        intro W' hw
        obtain ⟨q, hq, hc⟩ := tok_at hw.toks hkl
        rw [hp] at hq; cases hq; exact hc
      have hS8 : ∀ {W' : World} {opt : List (Nat × Obj)}, Mem w [] (opt ++ [(b2, .cells (reqC r a1 l1 c1 a2 l2 c2).toArray 35 (0, 0)), (b1, .cells noneC.toArray 35 (0, 0))]) (fun W => (ReqAt W r a l a' l' ∧ CellsAt W ⟨b, 0, none⟩ (reqC r a l c a' l' c')) ∧ Fresh w.heap.size W (fun w => RsAt w 3 a1 l1 (opsC r.ops))) W' →
          CellsAt W' ⟨b2, 0, none⟩ (reqC r a1 l1 c1 a2 l2 c2) ∧ ReqAt W' r a l a' l' ∧ CellsAt W' ⟨b, 0, none⟩ (reqC r a l c a' l' c') := fun M => ⟨(M.perm List.perm_append_comm).cells 0 rfl, M.now.1⟩
      have h1 : 0 ≤ (k : Int) := by omega
      have h2 : (k : Int) < natI l' := by rw [natI_eq]; omega
      have hl2 : l2 = k := by have := ho.len; rw [toksC_len, List.length_take] at this; omega
      refine ⟨fun W' => CellsAt W' ⟨b2, 0, none⟩ (reqC r a1 l1 c1 a2 l2 c2) ∧ ReqAt W' r a l a' l' ∧ CellsAt W' ⟨b, 0, none⟩ (reqC r a l c a' l' c'), hS8 M, SomeK.of _ rfl ⟨a2, l2, c2, fun w' hw => ?_, _, _, _, fun w' hw => hat hw.2.2 3 _ rfl, h1, h2, SomeK.of p hp ⟨_, fun w' hw => hcc hw.2.1 0 _ rfl, _, _, _, fun w' hw => hat hw.2.2 3 _ rfl, h1, h2, SomeK.of p hp ⟨_, fun w' hw => hcc hw.2.1 1 _ rfl, ?_⟩⟩⟩⟩
      · have := hw.1 3 _ rfl
        rw [addr_add] at this
        rw [addA_mk]; exact this
      refine M.newK fun b4 w10 M => ⟨hS8 (opt := _ :: opt) M, tokC r.toks[k], ⟨rfl, M.cells 0 (c := tokC r.toks[k]) rfl⟩, (fun h => by cases h), ?_⟩
      refine Mem.appR M.tail ho (by decide) rfl rfl rfl (by omega) (by omega) ?_
      intro a3 l3 c3 opt3 w11 ho3 M4 hl3
      refine ⟨hS8 M4, SomeK.of _ rfl ?_⟩
      have M5 := M4.perm List.perm_append_comm
      refine M5.stA 0 (c := reqC r a1 l1 c1 a2 l2 c2) rfl (by simp [reqC]) rfl fun w12 M6 => hK1 _ fun _ => ⟨n - 1, by omega, k + 1, opt3, a3, l3, c3, by rw [addI_one (by omega)], by omega, ?_, ?_⟩
      · rw [← toksC_take _ _ hkl]; exact ho3
      · exact Mem.perm (show Mem w [] ([(b2, .cells (reqC r a1 l1 c1 a3 l3 c3).toArray 35 (0, 0)), (b1, .cells noneC.toArray 35 (0, 0))] ++ opt3) _ w12 from M6) List.perm_append_comm
    · simp only [natI_eq, ltI_f, htl] at hlt
      obtain rfl : k = r.toks.length := by omega
      rw [List.take_length] at ho
      have M := (ownFrR M ho).imp (G := fun W => Fresh w.heap.size W (fun w => ReqAt w r a1 l1 a2 l2)) fun w' hw => (hw.1.2.and hw.2).imp fun W h => ⟨h.1, h.2⟩
      refine SomeK.of _ rfl ⟨_, _, _, _, _, _, _, _, M.cells 0 (c := reqC r a1 l1 c1 a2 l2 c2) rfl, M.stK 1 (c := noneC) rfl (by simp [noneC]) rfl fun w5 M => ⟨_, _, _, _, _, _, _, _, M.cells 1 (c := reqC r a1 l1 c1 a2 l2 c2) rfl, M.keep, a1, l1, c1, a2, l2, c2, rfl, M.now⟩⟩
  refine ⟨fun W => ReqAt W r a l a' l' ∧ CellsAt W ⟨b, 0, none⟩ (reqC r a l c a' l' c'), M.now, r.kind, fun w' hw => hat hw.2 0 _ rfl, a, l, c, fun w' hw => hat hw.2 1 _ rfl, bs r.label, fun w' hw => hat hw.2 2 _ rfl, ?_, ?_⟩
  · refine (x_Ops _ (c := c) M.now.1.ops hs).mono ?_
    rintro e4 w4 ⟨k4, a1, l1, c1, he4, hf4⟩
    have M := M.callFr k4 hf4
    refine ⟨_, _, _, he4, M.now.1, M.newK fun b2 w5 M => ⟨M.now.1, M.stK 0 (c := noneC) rfl (by simp [noneC]) rfl fun w6 M => next M⟩⟩
  · refine M.newK fun b2 w4 M => ⟨M.now, ?_⟩
    refine (x_Ops w4 (c := c) M.now.1.ops hs).mono ?_
    rintro e4 w5 ⟨k4, a1, l1, c1, he4, hf4⟩
    have M := M.callFr k4 hf4
    exact ⟨_, _, _, he4, M.now.1, M.stK 0 (c := noneC) rfl (by simp [noneC]) rfl fun w6 M => next M⟩

end Go.Proofs.Ytgecpbplbkpdlaa
