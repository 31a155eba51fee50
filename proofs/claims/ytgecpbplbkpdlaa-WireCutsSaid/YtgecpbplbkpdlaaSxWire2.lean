/-
  Ops, requests and replies as texts, in plain words; no program.
-/
import Derived.Test.YtgecpbplbkpdlaaSxWire
namespace Go.Wire
open Go Go.Sx Go.Oct
set_option linter.unusedVariables false

structure OpV where
  kind : Int
  label : List UInt8
  box : List UInt8
instance : DecidableEq OpV := fun a b => decidable_of_iff (a.kind = b.kind ∧ a.label = b.label ∧ a.box = b.box) (by
  cases a; cases b; simp)
def opT (o : OpV) : List (List UInt8) := [[UInt8.ofNat o.kind.toNat], o.label, o.box]
def opsT (l : List OpV) : List (List UInt8) := (l.map opT).flatten
def OddP (o : OpV) : Prop := o.kind < 0 ∨ 3 < o.kind ∨ o.label.length < 1 ∨ 64 < o.label.length ∨ 8192 < o.box.length ∨ (o.kind = 1 ∨ o.kind = 3) ∧ o.box ≠ []
instance (o : OpV) : Decidable (OddP o) := by unfold OddP; exact inferInstance
def putOps (l : List OpV) : Option (List UInt8) := if l.length < 1 ∨ 400 < l.length ∨ ∃ o ∈ l, OddP o then none else some (joinL (opsT l))

theorem opsT_take (l : List OpV) (k : Nat) (hk : k < l.length) : opsT (l.take (k + 1)) = opsT (l.take k) ++ opT l[k] := by
  rw [opsT, opsT, List.take_succ_eq_append_getElem hk, List.map_append, List.flatten_append]
  simp
theorem opsT_length (l : List OpV) : (opsT l).length = 3 * l.length := by
  induction l with
  | nil => rfl
  | cons o r ih =>
    have : opsT (o :: r) = opT o ++ opsT r := by simp [opsT]
    rw [this, List.length_append, ih]
    simp [opT]; omega

/-- Texts as ops, three by three. -/
def grp : List (List UInt8) → List OpV
  | [z] :: a :: b :: r => ⟨z.toNat, a, b⟩ :: grp r
  | _ => []
theorem grp_cons (z : UInt8) (a b : List UInt8) (r : List (List UInt8)) : grp ([z] :: a :: b :: r) = ⟨z.toNat, a, b⟩ :: grp r := rfl
/-- What is left over. -/
def left3 : List (List UInt8) → List (List UInt8)
  | [z] :: a :: b :: r => left3 r
  | t => t
theorem grp_left : ∀ t, opsT (grp t) ++ left3 t = t
  | [z] :: a :: b :: r => by
    have ih := grp_left r
    have e : opsT (grp ([z] :: a :: b :: r)) = [[z], a, b] ++ opsT (grp r) := by
      rw [grp_cons]; simp [opsT, opT]
    rw [e, left3, List.append_assoc, ih]; rfl
  | [] => rfl
  | [_] => by simp [grp, left3, opsT]
  | [_, _] => by simp [grp, left3, opsT]
  | [] :: _ :: _ :: _ => by simp [grp, left3, opsT]
  | (_ :: _ :: _) :: _ :: _ :: _ => by simp [grp, left3, opsT]
def getOps (b : List UInt8) : Option (List OpV) :=
  match splitL b with
  | none => none
  | some t => if putOps (grp t) = some b then some (grp t) else none
theorem putOps_some {l : List OpV} {b : List UInt8} (h : putOps l = some b) : b = joinL (opsT l) := by
  unfold putOps at h
  split at h
  · cases h
  · exact (Option.some.inj h).symm
theorem getOps_texts {b : List UInt8} {t : List (List UInt8)} (h : splitL b = some t) (h2 : putOps (grp t) = some b) : opsT (grp t) = t ∧ left3 t = [] := by
  have h3 := putOps_some h2
  have h4 := joinL_splitL h
  have h5 : opsT (grp t) = t := joinL_inj (by rw [← h3, h4])
  refine ⟨h5, ?_⟩
  have := grp_left t
  rw [h5] at this
  have hl := congrArg List.length this
  rw [List.length_append] at hl
  exact List.eq_nil_of_length_eq_zero (by omega)
theorem putOps_kind {l : List OpV} {b : List UInt8} (h : putOps l = some b) : ∀ o ∈ l, 0 ≤ o.kind ∧ o.kind ≤ 3 := by
  intro o ho
  unfold putOps at h
  split at h
  · cases h
  · rename_i hn
    have : ¬ OddP o := fun h => hn (.inr (.inr ⟨o, ho, h⟩))
    unfold OddP at this
    omega
/-- What is put is got again. -/
theorem grp_opsT : ∀ (l : List OpV), (∀ o ∈ l, 0 ≤ o.kind ∧ o.kind ≤ 3) → grp (opsT l) = l
  | [], _ => rfl
  | o :: r, h => by
    have ih := grp_opsT r (fun x hx => h x (List.mem_cons_of_mem _ hx))
    obtain ⟨h1, h2⟩ := h o (List.mem_cons_self ..)
    have e : opsT (o :: r) = [UInt8.ofNat o.kind.toNat] :: o.label :: o.box :: opsT r := by simp [opsT, opT]
    rw [e, grp_cons, ih]
    congr 1
    obtain ⟨k, a, b⟩ := o
    simp only at h1 h2 ⊢
    congr 1
    rw [UInt8.toNat_ofNat']
    omega
theorem getOps_put {l : List OpV} {b : List UInt8} (h : putOps l = some b) : getOps b = some l := by
  have hb := putOps_some h
  unfold getOps
  rw [hb, splitL_joinL]
  have hg := grp_opsT l (putOps_kind h)
  simp only [hg]
  rw [← hb, if_pos h]
theorem getOps_some {b : List UInt8} {l : List OpV} (h : getOps b = some l) : putOps l = some b := by
  unfold getOps at h
  split at h
  · cases h
  · split at h
    · rename_i hp
      cases h
      exact hp
    · cases h

/-! ### Requests -/
structure TokV where
  key : List UInt8
  n : Int
instance : DecidableEq TokV := fun a b => decidable_of_iff (a.key = b.key ∧ a.n = b.n) (by
  cases a; cases b; simp)
def big4 (n : Int) : List UInt8 := bigL n.toNat 4
def tokT (t : TokV) : List (List UInt8) := [t.key, big4 t.n]
def toksT (l : List TokV) : List (List UInt8) := (l.map tokT).flatten
def BadTok (t : TokV) : Prop := t.key.length < 1 ∨ 64 < t.key.length ∨ t.n < 1 ∨ 200 < t.n
instance (t : TokV) : Decidable (BadTok t) := by unfold BadTok; exact inferInstance
structure ReqV where
  kind : Int
  ops : List OpV
  label : List UInt8
  toks : List TokV
def putReq (r : ReqV) : Option (List UInt8) :=
  if r.kind = 0 then (if r.label = [] ∧ r.toks = [] then (putOps r.ops).map fun b => joinL [[0], b] else none)
  else if r.kind = 1 then (if r.ops = [] ∧ r.toks = [] ∧ 1 ≤ r.label.length ∧ r.label.length ≤ 64 then some (joinL [[1], r.label]) else none)
  else if r.kind = 2 then (if r.ops = [] ∧ r.label = [] ∧ 1 ≤ r.toks.length ∧ r.toks.length ≤ 40 ∧ ¬ ∃ t ∈ r.toks, BadTok t then some (joinL ([2] :: toksT r.toks)) else none)
  else if r.kind = 3 then (if r.ops = [] ∧ r.label = [] ∧ r.toks = [] then some (joinL [[3]]) else none)
  else none
/-- A text's first byte, if it has just one. -/
def first (s : List UInt8) : Int := match s with | [z] => z.toNat | _ => -1
def pairs (f : List UInt8 → Int) : List (List UInt8) → List TokV
  | a :: b :: r => ⟨a, f b⟩ :: pairs f r
  | _ => []
def noReq : ReqV := ⟨0, [], [], []⟩
def reqOf (f : List UInt8 → Int) (t : List (List UInt8)) : ReqV :=
  match t with
  | [] => ⟨-1, [], [], []⟩
  | k :: l => ⟨first k, if first k = 0 ∧ l.length = 1 then (getOps (l.headD [])).getD [] else [], if first k = 1 ∧ l.length = 1 then l.headD [] else [], if first k = 2 then pairs f l else []⟩
def getReq (f : List UInt8 → Int) (b : List UInt8) : Option ReqV :=
  match splitL b with
  | none => none
  | some t => if putReq (reqOf f t) = some b then some (reqOf f t) else none
theorem big4_len (n : Int) : (big4 n).length = 4 := by simp [big4, bigL]
theorem pairs_toksT (f : List UInt8 → Int) (hf : ∀ n : Nat, n ≤ 200 → f (bigL n 4) = n) : ∀ (l : List TokV), (¬ ∃ t ∈ l, BadTok t) → pairs f (toksT l) = l
  | [], _ => rfl
  | t :: r, h => by
    have ih := pairs_toksT f hf r (fun ⟨x, hx, hb⟩ => h ⟨x, List.mem_cons_of_mem _ hx, hb⟩)
    have hb : ¬ BadTok t := fun hb => h ⟨t, List.mem_cons_self .., hb⟩
    have e : toksT (t :: r) = t.key :: big4 t.n :: toksT r := by simp [toksT, tokT]
    rw [e, pairs, ih]
    congr 1
    obtain ⟨k, n⟩ := t
    simp only [BadTok] at hb
    simp only [big4]
    congr 1
    rw [hf _ (by omega)]
    omega
/-- The texts of a request. -/
def reqT (r : ReqV) (b : List UInt8) : List (List UInt8) :=
  if r.kind = 0 then [[0], b] else if r.kind = 1 then [[1], r.label] else if r.kind = 2 then [2] :: toksT r.toks else [[3]]
theorem putReq_texts {r : ReqV} {b : List UInt8} (h : putReq r = some b) : ∃ c, (r.kind = 0 → putOps r.ops = some c) ∧ b = joinL (reqT r c) ∧ 0 ≤ r.kind ∧ r.kind ≤ 3 := by
  unfold putReq at h
  unfold reqT
  by_cases h0 : r.kind = 0
  · rw [if_pos h0] at h
    split at h
    · cases hp : putOps r.ops with
      | none => rw [hp] at h; cases h
      | some c => rw [hp] at h; cases h; exact ⟨c, fun _ => rfl, by rw [if_pos h0], by omega, by omega⟩
    · cases h
  · rw [if_neg h0] at h
    refine ⟨[], fun h => absurd h h0, ?_⟩
    by_cases h1 : r.kind = 1
    · rw [if_pos h1] at h
      split at h
      · cases h; exact ⟨by rw [if_neg h0, if_pos h1], by omega, by omega⟩
      · cases h
    · rw [if_neg h1] at h
      by_cases h2 : r.kind = 2
      · rw [if_pos h2] at h
        split at h
        · cases h; exact ⟨by rw [if_neg h0, if_neg h1, if_pos h2], by omega, by omega⟩
        · cases h
      · rw [if_neg h2] at h
        split at h
        · split at h
          · cases h; exact ⟨by rw [if_neg h0, if_neg h1, if_neg h2], by omega, by omega⟩
          · cases h
        · cases h
/-- What is put is got again. -/
theorem reqOf_put {f : List UInt8 → Int} (hf : ∀ n : Nat, n ≤ 200 → f (bigL n 4) = n) {r : ReqV} {b : List UInt8} {t : List (List UInt8)} (h : putReq r = some b) (ht : b = joinL t) : reqOf f t = r := by
  obtain ⟨k, ops, label, toks⟩ := r
  unfold putReq at h
  simp only at h
  by_cases h0 : k = 0
  · rw [if_pos h0] at h
    split at h
    · rename_i hc
      obtain ⟨rfl, rfl⟩ := hc
      subst h0
      cases hp : putOps ops with
      | none => rw [hp] at h; cases h
      | some c =>
        rw [hp] at h
        have h := Option.some.inj h
        rw [ht] at h
        rw [← joinL_inj h]
        simp [reqOf, first, getOps_put hp]
    · cases h
  · rw [if_neg h0] at h
    by_cases h1 : k = 1
    · rw [if_pos h1] at h
      split at h
      · rename_i hc
        obtain ⟨rfl, rfl, _, _⟩ := hc
        subst h1
        have h := Option.some.inj h
        rw [ht] at h
        rw [← joinL_inj h]
        simp [reqOf, first]
      · cases h
    · rw [if_neg h1] at h
      by_cases h2 : k = 2
      · rw [if_pos h2] at h
        split at h
        · rename_i hc
          obtain ⟨rfl, rfl, _, _, hb⟩ := hc
          subst h2
          have h := Option.some.inj h
          rw [ht] at h
          rw [← joinL_inj h]
          have := pairs_toksT f hf toks hb
          simp [reqOf, first, this]
        · cases h
      · rw [if_neg h2] at h
        split at h
        · rename_i h3
          split at h
          · rename_i hc
            obtain ⟨rfl, rfl, rfl⟩ := hc
            subst h3
            have h := Option.some.inj h
            rw [ht] at h
            rw [← joinL_inj h]
            simp [reqOf, first]
          · cases h
        · cases h
theorem getReq_put {f : List UInt8 → Int} (hf : ∀ n : Nat, n ≤ 200 → f (bigL n 4) = n) {r : ReqV} {b : List UInt8} (h : putReq r = some b) : getReq f b = some r := by
  obtain ⟨c, _, hb, _⟩ := putReq_texts h
  unfold getReq
  rw [hb, splitL_joinL]
  have h1 := reqOf_put hf h hb
  simp only [h1]
  rw [← hb, if_pos h]
theorem getReq_some {f : List UInt8 → Int} {b : List UInt8} {r : ReqV} (h : getReq f b = some r) : putReq r = some b := by
  unfold getReq at h
  split at h
  · cases h
  · split at h
    · rename_i hp
      cases h
      exact hp
    · cases h
theorem getReq_any {f g : List UInt8 → Int} (hf : ∀ n : Nat, n ≤ 200 → f (bigL n 4) = n) (hg : ∀ n : Nat, n ≤ 200 → g (bigL n 4) = n) (b : List UInt8) : getReq f b = getReq g b := by
  cases h : getReq f b with
  | some r => rw [getReq_put hg (getReq_some h)]
  | none =>
    cases h2 : getReq g b with
    | some r => rw [getReq_put hf (getReq_some h2)] at h; cases h
    | none => rfl

/-! ### Replies -/
structure RepV where
  err : Int
  boxes : List (List UInt8)
  head : List UInt8
  n : Int
def putRep (r : RepV) : Option (List UInt8) :=
  if r.err < 0 ∨ 255 < r.err ∨ (r.err ≠ 0 ∧ 0 < r.boxes.length) ∨ r.head.length ≠ 32 ∨ r.n < 0 ∨ 1073741824 < r.n ∨ 800 < r.boxes.length ∨ (∃ x ∈ r.boxes, 8192 < x.length) then none
  else some (joinL ([128] :: [UInt8.ofNat r.err.toNat] :: r.head :: big4 r.n :: r.boxes))
def noRep : RepV := ⟨0, [], [], 0⟩
def repOf (f : List UInt8 → Int) (t : List (List UInt8)) : RepV :=
  match t with
  | _ :: e :: h :: n :: l => ⟨first e, l, h, f n⟩
  | _ => noRep
def getRep (f : List UInt8 → Int) (b : List UInt8) : Option RepV :=
  match splitL b with
  | none => none
  | some t => if putRep (repOf f t) = some b then some (repOf f t) else none
theorem putRep_texts {r : RepV} {b : List UInt8} (h : putRep r = some b) : b = joinL ([128] :: [UInt8.ofNat r.err.toNat] :: r.head :: big4 r.n :: r.boxes) ∧ 0 ≤ r.err ∧ r.err ≤ 255 ∧ 0 ≤ r.n ∧ r.n ≤ 1073741824 := by
  unfold putRep at h
  split at h
  · cases h
  · cases h; exact ⟨rfl, by omega, by omega, by omega, by omega⟩
theorem repOf_put {f : List UInt8 → Int} (hf : ∀ n : Nat, n ≤ 1073741824 → f (bigL n 4) = n) {r : RepV} {b : List UInt8} {t : List (List UInt8)} (h : putRep r = some b) (ht : b = joinL t) : repOf f t = r := by
  obtain ⟨hb, h1, h2, h3, h4⟩ := putRep_texts h
  rw [ht] at hb
  rw [joinL_inj hb]
  obtain ⟨e, l, hd, n⟩ := r
  simp only at h1 h2 h3 h4
  have e1 : ((UInt8.ofNat e.toNat).toNat : Int) = e := by rw [UInt8.toNat_ofNat']; omega
  have e2 : f (big4 n) = n := by rw [big4, hf _ (by omega)]; omega
  simp only [repOf, first, e1, e2]
theorem getRep_put {f : List UInt8 → Int} (hf : ∀ n : Nat, n ≤ 1073741824 → f (bigL n 4) = n) {r : RepV} {b : List UInt8} (h : putRep r = some b) : getRep f b = some r := by
  obtain ⟨hb, _⟩ := putRep_texts h
  unfold getRep
  have h1 := repOf_put hf h hb
  rw [hb, splitL_joinL]
  simp only [h1]
  rw [← hb, if_pos h]
theorem getRep_some {f : List UInt8 → Int} {b : List UInt8} {r : RepV} (h : getRep f b = some r) : putRep r = some b := by
  unfold getRep at h
  split at h
  · cases h
  · split at h
    · rename_i hp
      cases h
      exact hp
    · cases h
theorem getRep_any {f g : List UInt8 → Int} (hf : ∀ n : Nat, n ≤ 1073741824 → f (bigL n 4) = n) (hg : ∀ n : Nat, n ≤ 1073741824 → g (bigL n 4) = n) (b : List UInt8) : getRep f b = getRep g b := by
  cases h : getRep f b with
  | some r => rw [getRep_put hg (getRep_some h)]
  | none =>
    cases h2 : getRep g b with
    | some r => rw [getRep_put hf (getRep_some h2)] at h; cases h
    | none => rfl
/-- No request is a reply. -/
theorem req_not_rep {r : ReqV} {q : RepV} {b : List UInt8} (h : putReq r = some b) : putRep q ≠ some b := by
  intro h2
  obtain ⟨c, _, hb, h0, h3⟩ := putReq_texts h
  obtain ⟨hb2, _⟩ := putRep_texts h2
  rw [hb] at hb2
  have := joinL_inj hb2
  unfold reqT at this
  split at this
  · simp at this
  · split at this
    · simp at this
    · split at this
      · simp at this
      · simp at this
end Go.Wire
