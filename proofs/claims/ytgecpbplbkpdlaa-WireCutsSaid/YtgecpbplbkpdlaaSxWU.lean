/-
  A part of the proof: WU.
-/
import Derived.Test.YtgecpbplbkpdlaaSxWT
namespace Go.Proofs.Ytgecpbplbkpdlaa
open Go Go.Sx Go.Oct Go.Wire
set_option linter.unusedVariables false

structure FewO (ops : List OpV) : Prop where
  n : ops.length ≤ 20
  each : ∀ o ∈ ops, o.label.length ≤ 80 ∧ o.box.length ≤ 200
structure FewR (r : ReqV) : Prop where
  ops : FewO r.ops
  n : r.toks.length ≤ 45
  keys : ∀ t ∈ r.toks, t.key.length ≤ 80
  label : r.label.length ≤ 80
structure LittleR (r : RepV) : Prop where
  n : r.boxes.length ≤ 30
  each : ∀ x ∈ r.boxes, x.length ≤ 200
  head : r.head.length ≤ 80

theorem opsT_few : ∀ (l : List OpV), (∀ o ∈ l, o.label.length ≤ 80 ∧ o.box.length ≤ 200) → (joinL (opsT l)).length ≤ 571 * l.length
  | [], _ => by simp [opsT, joinL]
  | o :: r, h => by
    have ih := opsT_few r fun x hx => h x (List.mem_cons_of_mem _ hx)
    obtain ⟨h1, h2⟩ := h o (List.mem_cons_self ..)
    have e : opsT (o :: r) = [UInt8.ofNat o.kind.toNat] :: o.label :: o.box :: opsT r := by simp [opsT, opT]
    have a1 := (encB_len [UInt8.ofNat o.kind.toNat]).2
    have a2 := (encB_len o.label).2
    have a3 := (encB_len o.box).2
    rw [e]
    simp only [joinL, List.length_cons, List.length_append, List.length_nil] at *
    omega
theorem toksT_few : ∀ (l : List TokV), (∀ t ∈ l, t.key.length ≤ 80) → (joinL (toksT l)).length ≤ 174 * l.length
  | [], _ => by simp [toksT, joinL]
  | o :: r, h => by
    have ih := toksT_few r fun x hx => h x (List.mem_cons_of_mem _ hx)
    have h1 := h o (List.mem_cons_self ..)
    have e : toksT (o :: r) = o.key :: big4 o.n :: toksT r := by simp [toksT, tokT]
    have a1 := (encB_len o.key).2
    have a2 := (encB_len (big4 o.n)).2
    rw [big4_len] at a2
    rw [e]
    simp only [joinL, List.length_cons, List.length_append] at *
    omega
theorem join_few : ∀ (l : List (List UInt8)), (∀ x ∈ l, x.length ≤ 200) → (joinL l).length ≤ 403 * l.length
  | [], _ => by simp [joinL]
  | x :: r, h => by
    have ih := join_few r fun x hx => h x (List.mem_cons_of_mem _ hx)
    have h1 := h x (List.mem_cons_self ..)
    have a1 := (encB_len x).2
    simp only [joinL, List.length_cons, List.length_append] at *
    omega
theorem FewR.small {r : ReqV} (h : FewR r) : ReqS r := by
  refine ⟨?_, ?_, ?_⟩
  · have := opsT_few r.ops h.ops.each; have := h.ops.n; omega
  · have := h.label; omega
  · have := toksT_few r.toks h.keys; have := h.n; omega
theorem LittleR.small {r : RepV} (h : LittleR r) : RepS r := by
  refine ⟨?_, ?_⟩
  · have := join_few r.boxes h.each; have := h.n; omega
  · have := h.head; omega
theorem putReq_few {r : ReqV} {b : List UInt8} (h : FewR r) (hb : putReq r = some b) : b.length ≤ 50000 := by
  have hF : FitsP r := Classical.byContradiction fun hn => by rw [putReq_not hn] at hb; cases hb
  have h1 := opsT_few r.ops h.ops.each
  have h2 := h.ops.n
  have h3 := toksT_few r.toks h.keys
  have h4 := h.n
  have h5 := h.label
  rcases putReq_fits hF with ⟨_, hp⟩ | ⟨hk, hp⟩
  · rw [hb] at hp
    cases hq : putOps r.ops with
    | none => rw [hq] at hp; cases hp
    | some c =>
      rw [hq] at hp
      have hp := Option.some.inj hp
      have hc := putOps_some hq
      have a1 := join1_len c
      rw [hp]
      show (joinL ([[0]] ++ [c])).length ≤ _
      rw [joinL_append, List.length_append]
      have a2 : (joinL [[(0 : UInt8)]]).length = 5 := by decide
      rw [hc] at *
      omega
  · rw [hb] at hp
    have hp := Option.some.inj hp
    rw [hp, joinL_append, joinL_append, List.length_append, List.length_append]
    have a1 := join1_len [UInt8.ofNat r.kind.toNat]
    simp only [List.length_cons, List.length_nil] at a1
    have a2 : (joinL (if r.kind = 1 then [r.label] else [])).length ≤ 163 := by
      split
      · have := join1_len r.label; omega
      · simp [joinL]
    omega
theorem putRep_few {r : RepV} {b : List UInt8} (h : LittleR r) (hb : putRep r = some b) : b.length ≤ 50000 := by
  obtain ⟨hp, _⟩ := putRep_texts hb
  have h1 := join_few r.boxes h.each
  have h2 := h.n
  have h3 := h.head
  have e : ([128] :: [UInt8.ofNat r.err.toNat] :: r.head :: big4 r.n :: r.boxes) = [[128]] ++ ([[UInt8.ofNat r.err.toNat]] ++ ([r.head] ++ ([big4 r.n] ++ r.boxes))) := rfl
  have a1 := join1_len [UInt8.ofNat r.err.toNat]
  have a2 := join1_len r.head
  have a3 := join1_len (big4 r.n)
  have a4 := join1_len [128]
  rw [big4_len] at a3
  simp only [List.length_cons, List.length_nil] at a1 a4
  rw [hp, e]
  simp only [joinL_append, List.length_append]
  omega

/-- An answer that, if it is yes, tells something. -/
def RetIf (w : World) (p : Prop) (e : Ending) (w' : World) : Prop := ∃ b, e = .returned (.bool b) ∧ (b = true → p) ∧ Keep [] w w'

theorem x_FewOps (w : World) {a : Option Addr} {l c : Nat} {ops : List OpV} (h : RsAt w 3 a l (opsC ops)) : Calls Try.prog 25 #[.slice a l c] w (RetIf w (FewO ops)) := by
  refine Calls.mono (F25_calls a l c w (fun v w' => ∃ b, v = .bool b ∧ (b = true → FewO ops) ∧ Keep [] w w') ?_) (fun e w' ⟨v, he, b, hv, h⟩ => ⟨b, by rw [he, hv], h⟩)
  have hlen := ops_len h
  subst hlen
  refine ⟨fun n vs W => ∃ k : Nat, vs = [.int .i64 k] ∧ k + n = ops.length ∧ k ≤ 21 ∧ (∀ o ∈ ops.take k, o.label.length ≤ 80 ∧ o.box.length ≤ 200) ∧ Keep [] w W, ⟨ops.length, 0, rfl, by omega, by omega, by simp, Keep.refl _ _⟩, ?_⟩
  rintro n vs W ⟨k, rfl, hk, hk21, hno, kk⟩
  refine ⟨_, rfl, fun _ K hK => ?_⟩
  have out : ops.length ≤ k ∨ 20 < k → K [.bool false] W := by
    intro hd
    refine hK _ _ fun _ => SplitK.f rfl ⟨_, rfl, fun hb => ?_, kk⟩
    rw [leI_t, natI_eq] at hb
    have hkl : k = ops.length := by omega
    rw [hkl, List.take_length] at hno
    exact ⟨by omega, hno⟩
  refine SplitK.of (fun hlt => ?_) (fun hlt => ?_)
  · simp only [natI_eq, ltI_t] at hlt
    have hkl : k < ops.length := by omega
    by_cases h20 : k ≤ 20
    · have e : leI (k : Int) 20 = true := by rw [leI_t]; omega
      rw [e]
      refine hK _ _ fun _ => SplitK.t rfl fun K1 hK1 => ?_
      obtain ⟨p, hp, hc⟩ := op_at (h.keep0 kk) hkl
      have c1 : W.cell? (addA (addA p (mulN (intN (k : Int)) 3)) 1) = some (.string (bs ops[k].label)) := hc 1 _ rfl
      have c2 : W.cell? (addA (addA p (mulN (intN (k : Int)) 3)) 2) = some (.string (bs ops[k].box)) := hc 2 _ rfl
      have g1 : 0 ≤ (k : Int) := by omega
      have g2 : (k : Int) < natI ops.length := by rw [natI_eq]; omega
      have no : K1 [.bool true] W := hK1 _ _ fun _ => SplitK.t rfl ⟨_, rfl, (fun h => by cases h), kk⟩
      refine ⟨g1, g2, SomeK.of p hp ⟨_, c1, SplitK.of (fun h1 => no) (fun h1 => ⟨g1, g2, SomeK.of p hp ⟨_, c2, ?_⟩⟩)⟩⟩
      simp only [sizeS_bs, natI_eq, ltI_f] at h1
      cases h2 : ltI 200 (natI (sizeS (bs ops[k].box))) with
      | true => exact no
      | false =>
        simp only [sizeS_bs, natI_eq, ltI_f] at h2
        refine hK1 _ _ fun _ => SplitK.f rfl ⟨n - 1, by omega, k + 1, by rw [addI_one (by omega)], by omega, by omega, ?_, kk⟩
        intro o hm
        rw [List.take_succ_eq_append_getElem hkl] at hm
        rcases List.mem_append.1 hm with h3 | h3
        · exact hno o h3
        · rw [List.mem_singleton.1 h3]; omega
    · have e : leI (k : Int) 20 = false := by rw [leI_f]; omega
      rw [e]; exact out (.inr (by omega))
  · simp only [natI_eq, ltI_f] at hlt
    exact out (.inl (by omega))

theorem x_few (w : World) (r : ReqV) {a : Option Addr} {l c : Nat} {a' : Option Addr} {l' c' : Nat} (h : ReqAt w r a l a' l') :
    Calls Try.prog 9 #[.agg (reqC r a l c a' l' c').toArray] w (RetIf w (FewR r)) := by
  refine Calls.mono (F9_calls r.kind a l c (bs r.label) a' l' c' w (fun v w' => ∃ b, v = .bool b ∧ (b = true → FewR r) ∧ Keep [] w w') ?_) (fun e w' ⟨v, he, b, hv, h⟩ => ⟨b, by rw [he, hv], h⟩)
  have htl := toks_len h.toks
  have M : Mem w [] [] (fun W => ReqAt W r a l a' l') w := Mem.startF w fun w' k => h.keep0 k
  refine M.newK fun b w1 M => ?_
  have M : Mem w [] [(b, .cells (reqC r a l c a' l' c').toArray 25 (0, 0))] (fun W => ReqAt W r a l a' l') w1 := M
  refine ⟨fun n vs W => ∃ k : Nat, vs = [.int .i64 k] ∧ k + n = r.toks.length ∧ k ≤ 46 ∧ (∀ o ∈ r.toks.take k, o.key.length ≤ 80) ∧ Mem w [] [(b, .cells (reqC r a l c a' l' c').toArray 25 (0, 0))] (fun W => ReqAt W r a l a' l') W, ⟨r.toks.length, 0, rfl, by omega, by omega, by simp, M⟩, ?_⟩
  clear M
  rintro n vs W ⟨k, rfl, hk, hk46, hno, M⟩
  refine ⟨_, rfl, fun _ K hK => ?_⟩
  have cc : ∀ {W : World}, Mem w [] [(b, .cells (reqC r a l c a' l' c').toArray 25 (0, 0))] (fun W => ReqAt W r a l a' l') W → ∀ (off : Nat) (v : Value), (reqC r a l c a' l' c')[off]? = some v → W.cell? (addA ⟨b, 0, none⟩ off) = some v := fun M off v hv => M.cellA 0 (c := reqC r a l c a' l' c') rfl hv
  have out : r.toks.length ≤ k ∨ 45 < k → K [.bool false] W := by
    intro hd
    refine hK _ _ fun _ => SplitK.f rfl ⟨_, _, _, cc M 1 _ rfl, ?_⟩
    refine (x_FewOps W (c := c) M.now.ops).mono ?_
    rintro e2 w2 ⟨b2, rfl, hb2, k2⟩
    have M := M.call k2
    refine ⟨b2, rfl, SplitK.of (fun h2 => ⟨_, _, _, cc M 3 _ rfl, SplitK.of (fun h3 => ⟨_, cc M 2 _ rfl, _, rfl, fun h4 => ?_, M.keep⟩) (fun h3 => ⟨_, rfl, (fun h => by cases h), M.keep⟩)⟩) (fun h2 => ⟨_, rfl, (fun h => by cases h), M.keep⟩)⟩
    rw [leI_t, natI_eq] at h3
    rw [leI_t, sizeS_bs, natI_eq] at h4
    have hkl : k = r.toks.length := by omega
    rw [hkl, List.take_length] at hno
    exact ⟨hb2 h2, by omega, hno, by omega⟩
  refine ⟨_, _, _, cc M 3 _ rfl, SplitK.of (fun hlt => ?_) (fun hlt => ?_)⟩
  · simp only [natI_eq, ltI_t] at hlt
    have hkl : k < r.toks.length := by omega
    by_cases h45 : k ≤ 45
    · have e : leI (k : Int) 45 = true := by rw [leI_t]; omega
      rw [e]
      obtain ⟨p, hp, hc⟩ := tok_at M.now.toks hkl
      have c1 : W.cell? (addA (addA p (mulN (intN (k : Int)) 2)) 0) = some (.string (bs r.toks[k].key)) := hc 0 _ rfl
      refine hK _ _ fun _ => SplitK.t rfl ⟨_, _, _, cc M 3 _ rfl, by omega, by rw [natI_eq]; omega, SomeK.of p hp ⟨_, c1, SplitK.of (fun h1 => ⟨_, rfl, (fun h => by cases h), M.keep⟩) (fun h1 => ?_)⟩⟩
      simp only [sizeS_bs, natI_eq, ltI_f] at h1
      refine ⟨n - 1, by omega, k + 1, by rw [addI_one (by omega)], by omega, by omega, ?_, M⟩
      intro o hm
      rw [List.take_succ_eq_append_getElem hkl] at hm
      rcases List.mem_append.1 hm with h3 | h3
      · exact hno o h3
      · rw [List.mem_singleton.1 h3]; omega
    · have e : leI (k : Int) 45 = false := by rw [leI_f]; omega
      rw [e]; exact out (.inr (by omega))
  · simp only [natI_eq, ltI_f] at hlt
    exact out (.inl (by omega))

theorem x_little (w : World) (r : RepV) {a : Option Addr} {l c : Nat} (h : VsAt w a l (strs r.boxes)) :
    Calls Try.prog 17 #[.agg (repC r a l c).toArray] w (RetIf w (LittleR r)) := by
  refine Calls.mono (F17_calls r.err a l c (bs r.head) r.n w (fun v w' => ∃ b, v = .bool b ∧ (b = true → LittleR r) ∧ Keep [] w w') ?_) (fun e w' ⟨v, he, b, hv, h⟩ => ⟨b, by rw [he, hv], h⟩)
  have hl := strs_len h
  subst hl
  have M : Mem w [] [] (fun W => VsAt W a r.boxes.length (strs r.boxes)) w := Mem.startF w fun w' k => h.keep0 k
  refine M.newK fun b w1 M => ?_
  have M : Mem w [] [(b, .cells (repC r a r.boxes.length c).toArray 46 (0, 0))] (fun W => VsAt W a r.boxes.length (strs r.boxes)) w1 := M
  refine ⟨fun n vs W => ∃ k : Nat, vs = [.int .i64 k] ∧ k + n = r.boxes.length ∧ k ≤ 31 ∧ (∀ x ∈ r.boxes.take k, x.length ≤ 200) ∧ Mem w [] [(b, .cells (repC r a r.boxes.length c).toArray 46 (0, 0))] (fun W => VsAt W a r.boxes.length (strs r.boxes)) W, ⟨r.boxes.length, 0, rfl, by omega, by omega, by simp, M⟩, ?_⟩
  clear M
  rintro n vs W ⟨k, rfl, hk, hk31, hno, M⟩
  refine ⟨_, rfl, fun _ K hK => ?_⟩
  have cc : ∀ (off : Nat) (v : Value), (repC r a r.boxes.length c)[off]? = some v → W.cell? (addA ⟨b, 0, none⟩ off) = some v := fun off v hv => M.cellA 0 (c := repC r a r.boxes.length c) rfl hv
  have out : r.boxes.length ≤ k ∨ 30 < k → K [.bool false] W := by
    intro hd
    refine hK _ _ fun _ => SplitK.f rfl ⟨_, _, _, cc 1 _ rfl, SplitK.of (fun h3 => ⟨_, cc 2 _ rfl, _, rfl, fun h4 => ?_, M.keep⟩) (fun h3 => ⟨_, rfl, (fun h => by cases h), M.keep⟩)⟩
    rw [leI_t, natI_eq] at h3
    rw [leI_t, sizeS_bs, natI_eq] at h4
    have hkl : k = r.boxes.length := by omega
    rw [hkl, List.take_length] at hno
    exact ⟨by omega, hno, by omega⟩
  refine ⟨_, _, _, cc 1 _ rfl, SplitK.of (fun hlt => ?_) (fun hlt => ?_)⟩
  · simp only [natI_eq, ltI_t] at hlt
    have hkl : k < r.boxes.length := by omega
    by_cases h30 : k ≤ 30
    · have e : leI (k : Int) 30 = true := by rw [leI_t]; omega
      rw [e]
      obtain ⟨p, hp, hc⟩ := str_at M.now hkl
      refine hK _ _ fun _ => SplitK.t rfl ⟨_, _, _, cc 1 _ rfl, by omega, by rw [natI_eq]; omega, SomeK.of p hp ⟨_, hc, SplitK.of (fun h1 => ⟨_, rfl, (fun h => by cases h), M.keep⟩) (fun h1 => ?_)⟩⟩
      simp only [sizeS_bs, natI_eq, ltI_f] at h1
      refine ⟨n - 1, by omega, k + 1, by rw [addI_one (by omega)], by omega, by omega, ?_, M⟩
      intro o hm
      rw [List.take_succ_eq_append_getElem hkl] at hm
      rcases List.mem_append.1 hm with h3 | h3
      · exact hno o h3
      · rw [List.mem_singleton.1 h3]; omega
    · have e : leI (k : Int) 30 = false := by rw [leI_f]; omega
      rw [e]; exact out (.inr (by omega))
  · simp only [natI_eq, ltI_f] at hlt
    exact out (.inl (by omega))

end Go.Proofs.Ytgecpbplbkpdlaa
