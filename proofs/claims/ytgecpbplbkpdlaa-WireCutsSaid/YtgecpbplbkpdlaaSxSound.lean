/-
  SX: the translation is sound.
-/
import Derived.Test.YtgecpbplbkpdlaaSxDefs
import Derived.Laws.Externs
import Derived.Laws.Strings
namespace Go.Sx
open Go
set_option linter.unusedVariables false
attribute [local simp] wrapI addI subI mulI quoI remI shlI shrI andI orI xorI andNotI notI minI maxI ltI leI eqI eqS eqB notB noneA catS cutS sizeS natI intN byteI subN addN mulN addA cutA minN bytesL

theorem equal_succ (T : TypeId) (x y : Value) : Op.equal T x y = Op.equalIn (9999 + 1) T x y := rfl
theorem equalIn_bool (d : Nat) {P : Program} {T : TypeId} (hu : P.underlying T = some .bool) (a b : Bool) (w : World) : (Op.equalIn (d + 1) T (.bool a) (.bool b)).run P w = .ok (a == b) w := by
  simp [Op.equalIn, run_underlying hu]
theorem equalIn_slice_nil (d : Nat) {P : Program} {T e : TypeId} (hu : P.underlying T = some (.slice e)) (a : Option Addr) (l c l' c' : Nat) (w : World) : (Op.equalIn (d + 1) T (.slice a l c) (.slice none l' c')).run P w = .ok a.isNone w := by
  cases a <;> simp [Op.equalIn, run_underlying hu]
theorem equalIn_nil_slice (d : Nat) {P : Program} {T e : TypeId} (hu : P.underlying T = some (.slice e)) (a : Option Addr) (l c l' c' : Nat) (w : World) : (Op.equalIn (d + 1) T (.slice none l c) (.slice a l' c')).run P w = .ok a.isNone w := by
  simp [Op.equalIn, run_underlying hu]
theorem equalIn_ptr_nil (d : Nat) {P : Program} {T e : TypeId} (hu : P.underlying T = some (.pointer e)) (a : Option Addr) (w : World) : (Op.equalIn (d + 1) T (.pointer a) (.pointer none)).run P w = .ok a.isNone w := by
  cases a <;> simp [Op.equalIn, run_underlying hu]
theorem equal_bool {P : Program} {T : TypeId} (hu : P.underlying T = some .bool) (a b : Bool) (w : World) : (Op.equal T (.bool a) (.bool b)).run P w = .ok (a == b) w := equalIn_bool 9999 hu a b w
theorem equal_slice_nil {P : Program} {T e : TypeId} (hu : P.underlying T = some (.slice e)) (a : Option Addr) (l c l' c' : Nat) (w : World) : (Op.equal T (.slice a l c) (.slice none l' c')).run P w = .ok a.isNone w := equalIn_slice_nil 9999 hu a l c l' c' w
theorem equal_nil_slice {P : Program} {T e : TypeId} (hu : P.underlying T = some (.slice e)) (a : Option Addr) (l c l' c' : Nat) (w : World) : (Op.equal T (.slice none l c) (.slice a l' c')).run P w = .ok a.isNone w := equalIn_nil_slice 9999 hu a l c l' c' w
theorem equal_ptr_nil {P : Program} {T e : TypeId} (hu : P.underlying T = some (.pointer e)) (a : Option Addr) (w : World) : (Op.equal T (.pointer a) (.pointer none)).run P w = .ok a.isNone w := equalIn_ptr_nil 9999 hu a w

theorem equal_agg3 {P : Program} {T e : TypeId} {i : TypeInfo} {ki : IntKind} (hu : P.underlying T = some (.array 3 e)) (he : P.underlying e = some (.int ki)) (hi : P.info? e = some i) (hs : i.size = 1) (k0 k1 k2 : IntKind) (a0 a1 a2 b0 b1 b2 : Int) (w : World) :
    (Op.equal T (.agg #[.int k0 a0, .int k1 a1, .int k2 a2]) (.agg #[.int k0 b0, .int k1 b1, .int k2 b2])).run P w = .ok (eq3I a0 a1 a2 b0 b1 b2) w := by
  rw [equal_succ, Op.equalIn]
  have hz : ∀ w, (sizeOf e).run P w = .ok 1 w := fun w => by simp [sizeOf, typeInfo, hi, hs]
  have ha : ∀ w, (isAgg e).run P w = .ok false w := fun w => by simp [isAgg, run_underlying he]
  have eI : ∀ (k : IntKind) (a b : Int) (w : World), (Op.equalIn 9999 e (.int k a) (.int k b)).run P w = .ok (a == b) w := fun k a b w => by
    rw [show (9999 : Nat) = 9998 + 1 from rfl, Op.equalIn]; simp [run_underlying he]
  simp only [Sem.run_bind, run_underlying hu, Result.andThen_ok]
  simp only [Std.Legacy.Range.forIn_eq_forIn_range', Std.Legacy.Range.size, Nat.sub_zero, Nat.add_sub_cancel, Nat.div_one, List.range'_succ, List.range'_zero, List.forIn_cons, List.forIn_nil]
  by_cases h0 : a0 = b0 <;> by_cases h1 : a1 = b1 <;> by_cases h2 : a2 = b2 <;> simp [part, hz, ha, eI, eq3I, h0, h1, h2]

theorem agg3_sound {P : Program} {T : TypeId} {xs ys : Array Value} {k : Value → Prop} {ox oy : Operand} (h : agg3K P T xs.toList ys.toList k) :
    ∃ v, k v ∧ ∀ w, (do eqGuard .eql T ox oy (.agg xs) (.agg ys); binOp .eql T (.agg xs) (.agg ys) : Sem Value).run P w = .ok v w := by
  unfold agg3K at h
  split at h
  · rename_i k0 a0 k1 a1 k2 a2 l0 b0 l1 b1 l2 b2 hx hy
    split at h
    · rename_i d0 d1 d2 hu
      have d0 := of_decide_eq_true d0
      have d1 := of_decide_eq_true d1
      have d2 := of_decide_eq_true d2
      subst d0 d1 d2
      split at h
      · rename_i ki i he hi
        split at h
        · rename_i hs
          have hs : i.size = 1 := Nat.eq_of_beq_eq_true hs
          split at h
          · rename_i hg
            have ex : xs = #[.int k0 a0, .int k1 a1, .int k2 a2] := by apply Array.ext'; simpa using hx
            have ey : ys = #[.int k0 b0, .int k1 b1, .int k2 b2] := by apply Array.ext'; simpa using hy
            subst ex ey
            refine ⟨_, h, fun w => ?_⟩
            have := equal_agg3 hu he hi hs k0 k1 k2 a0 a1 a2 b0 b1 b2 w
            simp [eqGuard, hg, binOp, go_sem]
            simp [this]
          · exact h.elim
        · exact h.elim
      · exact h.elim
    · exact h.elim
  · exact h.elim

theorem aggT_run {P : Program} {t : TypeId} {b : Bool} (h : aggT P t = some b) (w : World) : (isAgg t).run P w = .ok b w := by
  unfold aggT at h
  split at h
  · rename_i hu; cases h; simp [isAgg, run_underlying hu]
  · rename_i hu; cases h; simp [isAgg, run_underlying hu]
  · rename_i d h1 h2 hu; cases h
    cases d <;> first | exact (h1 _ rfl).elim | exact (h2 _ _ rfl).elim | simp [isAgg, run_underlying hu]
  · cases h

theorem aggT_int {P : Program} {t : TypeId} {k : IntKind} (h : P.underlying t = some (.int k)) : aggT P t = some false := by simp [aggT, h]
theorem aggT_string {P : Program} {t : TypeId} (h : P.underlying t = some .string) : aggT P t = some false := by simp [aggT, h]
theorem aggT_bool {P : Program} {t : TypeId} (h : P.underlying t = some .bool) : aggT P t = some false := by simp [aggT, h]
theorem eqField_sound {P : Program} {xs ys : Array Value} {f : Field} {k : Bool → Prop} (h : eqFieldK P xs.toList ys.toList f k) :
    ∃ b, k b ∧ f.name ≠ "_" ∧ ∃ x y, (∀ w, (part f.type xs f.offset).run P w = .ok x w) ∧ (∀ w, (part f.type ys f.offset).run P w = .ok y w) ∧ ∀ w, (Op.equalIn 9999 f.type x y).run P w = .ok b w := by
  unfold eqFieldK at h
  split at h
  · rename_i n hn hs
    have hn : f.name ≠ "_" := by simpa using hn
    unfold eqVK at h
    have pt : ∀ (cs : Array Value) (v : Value), aggT P f.type = some false → cs.toList[f.offset]? = some v → ∀ w, (part f.type cs f.offset).run P w = .ok v w := by
      intro cs v ha hv w
      have := aggT_run ha
      have hv : cs[f.offset]? = some v := by simpa using hv
      simp [part, this, hv]
    split at h
    · rename_i u kx a ky b hu hx hy
      split at h
      · rename_i hk
        have hk := of_decide_eq_true hk
        subst hk
        refine ⟨_, h, hn, _, _, pt _ _ (aggT_int hu) hx, pt _ _ (aggT_int hu) hy, fun w => ?_⟩
        rw [show (9999 : Nat) = 9998 + 1 from rfl, Op.equalIn]; simp [run_underlying hu, eqI]
      · exact h.elim
    · rename_i a b hu hx hy
      refine ⟨_, h, hn, _, _, pt _ _ (aggT_string hu) hx, pt _ _ (aggT_string hu) hy, fun w => ?_⟩
      rw [show (9999 : Nat) = 9998 + 1 from rfl, Op.equalIn]
      simp [run_underlying hu]
      rw [ByteArray.toList_eq, ByteArray.toList_eq]
      by_cases e : a = b
      · subst e
        rw [show (a == a) = (a.data == a.data) from rfl]; simp
      · rw [show (a == b) = (a.data == b.data) from rfl]; simp
    · rename_i a b hu hx hy
      refine ⟨_, h, hn, _, _, pt _ _ (aggT_bool hu) hx, pt _ _ (aggT_bool hu) hy, fun w => ?_⟩
      rw [show (9999 : Nat) = 9998 + 1 from rfl, Op.equalIn]; simp [run_underlying hu, eqB]
    · exact h.elim
  · exact h.elim

theorem eqFs_sound {P : Program} {xs ys : Array Value} : ∀ (l : List Field) {k : Bool → Prop}, eqFs P xs.toList ys.toList l k →
    ∃ b, k b ∧ ∀ w, (forIn l ((none : Option Bool), ()) (fun f __s =>
              if f.name ≠ "_" then do
                let x ← part f.type xs f.offset
                let y ← part f.type ys f.offset
                let b ← Op.equalIn 9999 f.type x y
                if (!b) = true then pure (ForInStep.done (some false, ()))
                  else pure (ForInStep.yield (none, ()))
              else pure (ForInStep.yield (none, ()))) : Sem (Option Bool × Unit)).run P w = .ok ((match b with | true => none | false => some false), ()) w
  | [], k, h => ⟨true, h, fun w => rfl⟩
  | [f], k, h => by
    obtain ⟨b, hk, hn, x, y, hx, hy, he⟩ := eqField_sound h
    refine ⟨b, hk, fun w => ?_⟩
    simp only [List.forIn_cons, List.forIn_nil, if_pos hn, Sem.run_bind, hx, hy, he, Result.andThen_ok]
    cases b <;> simp
  | f :: f2 :: r, k, h => by
    obtain ⟨b, hk, hn, x, y, hx, hy, he⟩ := eqField_sound (show eqFieldK P xs.toList ys.toList f (fun b => eqFs P xs.toList ys.toList (f2 :: r) fun c => k (andB b c)) from h)
    obtain ⟨c, hk, hr⟩ := eqFs_sound (f2 :: r) hk
    refine ⟨andB b c, hk, fun w => ?_⟩
    rw [List.forIn_cons]
    simp only [if_pos hn, Sem.run_bind, hx, hy, he, Result.andThen_ok]
    cases b
    · simp [andB]
    · simp only [Bool.not_true, Bool.false_eq_true, if_false, Sem.run_pure, Result.andThen_ok, andB, Bool.true_and]
      exact hr w

theorem equal_struct {P : Program} {T : TypeId} {fs : Array Field} (hu : P.underlying T = some (.struct fs)) (hs : P.stoodInHeld T = false) {xs ys : Array Value} {k : Bool → Prop} (h : eqFs P xs.toList ys.toList fs.toList k) :
    ∃ b, k b ∧ ∀ w, (Op.equal T (.agg xs) (.agg ys)).run P w = .ok b w := by
  obtain ⟨b, hk, hr⟩ := eqFs_sound _ h
  refine ⟨b, hk, fun w => ?_⟩
  rw [equal_succ, Op.equalIn]
  simp only [Sem.run_bind, run_underlying hu, Result.andThen_ok]
  simp only [program, Sem.run, Result.andThen_ok, hs]
  rw [← Array.forIn_toList]
  simp only [Bool.false_eq_true, if_false, Sem.run_bind]
  rw [hr w]
  cases b <;> rfl

theorem agg_sound {P : Program} {T : TypeId} {op : BinOp} {neg : Bool} {xs ys : Array Value} {k : Value → Prop} {ox oy : Operand} (hop : op = match neg with | true => .neq | false => .eql) (h : aggK P T xs.toList ys.toList neg k) :
    ∃ v, k v ∧ ∀ w, (do eqGuard op T ox oy (.agg xs) (.agg ys); binOp op T (.agg xs) (.agg ys) : Sem Value).run P w = .ok v w := by
  unfold aggK at h
  split at h
  · rename_i fs hu
    split at h
    · rename_i h1 h2
      obtain ⟨b, hk, hr⟩ := equal_struct hu h1 h
      subst hop
      cases neg
      · exact ⟨_, hk, fun w => by simp [eqGuard, h2, binOp, go_sem]; simp [hr]⟩
      · exact ⟨_, hk, fun w => by simp [eqGuard, h2, binOp, go_sem]; simp [hr]⟩
    · exact h.elim
  · cases neg
    · subst hop; exact agg3_sound h
    · exact h.elim

theorem binOp_sound {P : Program} {op : BinOp} {T : TypeId} {x y : Value} {k : Value → Prop} {ox oy : Operand} (h : arithK P op T x y k) :
    ∃ v, k v ∧ ∀ w, (do eqGuard op T ox oy x y; binOp op T x y : Sem Value).run P w = .ok v w := by
  unfold arithK at h
  split at h
  all_goals (repeat' (split at h))
  all_goals first | exact h.elim | skip
  all_goals try (exact agg_sound (ox := ox) (oy := oy) rfl h)
  all_goals try (rename_i hk; have hk' := of_decide_eq_true hk; subst hk')
  all_goals first
    | (refine ⟨_, h, fun w => ?_⟩; simp [binOp, eqGuard, Op.intArith, Op.intBits, Op.intCmp, Op.stringOp, bne, go_sem]; done)
    | (obtain ⟨h1, h2⟩ := h; refine ⟨_, h2, fun w => ?_⟩; simp [binOp, eqGuard, Op.intDiv, h1, go_sem]; done)
    | (obtain ⟨h1, h2⟩ := h; refine ⟨_, h2, fun w => ?_⟩; simp [binOp, eqGuard, Op.shift, show ¬ _ < (0:Int) from Int.not_lt.2 h1, go_sem]; done)
    | (obtain ⟨h1, h2⟩ := h; simp only [addN, sizeS] at h1; refine ⟨_, h2, fun w => ?_⟩; simp [binOp, eqGuard, Op.stringOp, IntKind.max, IntKind.signed, IntKind.bits, go_sem]; omega)
    | (refine ⟨_, h, fun w => ?_⟩; simp only [binOp, eqGuard, Sem.run_bind, Sem.run_pure, Result.andThen, equal_bool ‹P.underlying T = _›]; try rfl)
    | (refine ⟨_, h, fun w => ?_⟩; simp [binOp, eqGuard, equal_bool ‹P.underlying T = _›, go_sem]; done)
    | (refine ⟨_, h, fun w => ?_⟩; simp [binOp, eqGuard, equal_nil_slice ‹P.underlying T = _›, go_sem]; done)
    | (refine ⟨_, h, fun w => ?_⟩; simp [binOp, eqGuard, equal_slice_nil ‹P.underlying T = _›, go_sem]; done)
    | (refine ⟨_, h, fun w => ?_⟩; simp [binOp, eqGuard, equal_ptr_nil ‹P.underlying T = _›, go_sem]; done)

theorem unOp_sound {P : Program} {op : UnOp} {x : Value} {k : Value → Prop} (h : unK op x k) :
    ∃ v, k v ∧ ∀ w, (Op.unary op x).run P w = .ok v w := by
  unfold unK at h
  split at h
  all_goals first | exact h.elim | skip
  all_goals (refine ⟨_, h, fun w => ?_⟩; simp [Op.unary, Op.intArith, Op.intBits, go_sem])

theorem sizeT_some {P : Program} {t : TypeId} {n : Nat} (h : sizeT P t = some n) (w : World) : (sizeOf t).run P w = .ok n w := by
  unfold sizeT at h
  cases hi : P.info? t with
  | none => simp [hi] at h
  | some i => simp [hi] at h; simp [sizeOf, typeInfo, hi, h, go_sem]

theorem zeroT_some {P : Program} {t : TypeId} {v : Value} (h : zeroT P t = some v) (w : World) : (zeroValue t).run P w = .ok v w := by
  unfold zeroT at h
  cases hi : P.info? t with
  | none => simp [hi] at h
  | some i => simp [hi] at h; simp [zeroValue, typeInfo, hi, h, go_sem]

theorem part_sound {P : Program} {t : TypeId} {cs : Array Value} {off : Nat} {k : Value → Prop} (h : partK P t cs off k) :
    ∃ v, k v ∧ ∀ w, (part t cs off).run P w = .ok v w := by
  unfold partK at h
  split at h
  · exact h.elim
  · rename_i n hn
    have hs := sizeT_some hn
    split at h
    · rename_i ha
      have := aggT_run ha
      refine ⟨_, h, fun w => ?_⟩
      simp [part, this, hs]
    · rename_i ha
      have := aggT_run ha
      split at h
      · rename_i v hv
        refine ⟨_, h, fun w => ?_⟩
        simp [part, this, hv]
      · exact h.elim
    · exact h.elim

theorem exS_out {s : Sc} {K : Value → Prop} (h : exS s K) : ∃ v, K v := by
  cases s <;> simp only [exS] at h
  case slc => obtain ⟨a, l, c, h⟩ := h; exact ⟨_, h⟩
  all_goals (obtain ⟨a, h⟩ := h; exact ⟨_, h⟩)

theorem exL_out : ∀ {l : List Sc} {K : List Value → Prop}, exL l K → ∃ vs, vs.length = l.length ∧ K vs
  | [], K, h => ⟨[], rfl, h⟩
  | s :: r, K, h => by
    obtain ⟨v, h1⟩ := exS_out h
    obtain ⟨vs, hl, h2⟩ := exL_out h1
    exact ⟨v :: vs, by simp [hl], h2⟩

theorem exC_out {c : Cp} {K : Value → Prop} (h : exC c K) : ∃ v, K v := by
  cases c with
  | one s => exact exS_out h
  | many l => obtain ⟨vs, _, h⟩ := exL_out (l := l) h; exact ⟨_, h⟩

theorem exCs_out : ∀ {l : List Cp} {K : List Value → Prop}, exCs l K → ∃ vs, K vs
  | [], K, h => ⟨[], h⟩
  | s :: r, K, h => by
    obtain ⟨v, h1⟩ := exC_out h
    obtain ⟨vs, h2⟩ := exCs_out h1
    exact ⟨v :: vs, h2⟩

theorem exT_out {t : Ty} {K : Value → Prop} (h : exT t K) : ∃ v, K v := by
  cases t with
  | cp c => exact exC_out h
  | tup l => obtain ⟨vs, h⟩ := exCs_out (l := l) h; exact ⟨_, h⟩

theorem bound_out {v : Option Value} {d y : Nat} {k : Nat → Prop} (h : BoundK v d y k) :
    (v = none ∧ k d) ∨ (∃ kk i, v = some (.int kk i) ∧ 0 ≤ i ∧ i ≤ (y : Int) ∧ k i.toNat) := by
  unfold BoundK at h
  split at h
  · exact .inl ⟨rfl, h⟩
  · obtain ⟨h1, h2, h3⟩ := h; exact .inr ⟨_, _, rfl, h1, h2, h3⟩
  · exact h.elim

theorem sliceBound_run {P : Program} {kk : IntKind} {i : Int} {y : Nat} (h0 : 0 ≤ i) (h1 : i ≤ (y : Int)) (c : BoundsCode) (w : World) :
    (Instr.sliceBound (.int kk i) y c).run P w = .ok i.toNat w := by
  simp [Instr.sliceBound, asIntOf, h0, h1]

theorem sliceBounds_run2 {P : Program} {b : Bool} {len cap : Nat} {lo hi : Option Value} {k : Nat → Nat → Prop}
    (H : BoundK hi len cap fun h => BoundK lo 0 h fun l => k h l) : ∃ h l, k h l ∧ ∀ w, (Instr.sliceBounds b len cap lo hi none).run P w = .ok (l, h, cap) w := by
  rcases bound_out H with ⟨e, H1⟩ | ⟨kk, i, e, h0, h1, H1⟩
  · subst e
    rcases bound_out H1 with ⟨e, H2⟩ | ⟨kk, i, e, h0, h1, H2⟩
    · subst e; exact ⟨_, _, H2, fun w => by simp [Instr.sliceBounds]⟩
    · subst e; exact ⟨_, _, H2, fun w => by simp [Instr.sliceBounds, sliceBound_run h0 h1]⟩
  · subst e
    rcases bound_out H1 with ⟨e, H2⟩ | ⟨kk', i', e, h0', h1', H2⟩
    · subst e; exact ⟨_, _, H2, fun w => by simp [Instr.sliceBounds, sliceBound_run h0 h1]⟩
    · subst e; exact ⟨_, _, H2, fun w => by simp [Instr.sliceBounds, sliceBound_run h0 h1, sliceBound_run h0' h1']⟩

theorem sliceBounds_run3 {P : Program} {b : Bool} {len cap : Nat} {lo : Option Value} {hi mx : Value} {k : Nat → Nat → Nat → Prop}
    (H : BoundK (some mx) 0 cap fun m => BoundK (some hi) 0 m fun h => BoundK lo 0 h fun l => k m h l) :
    ∃ m h l, k m h l ∧ ∀ w, (Instr.sliceBounds b len cap lo (some hi) (some mx)).run P w = .ok (l, h, m) w := by
  rcases bound_out H with ⟨e, _⟩ | ⟨kk, i, e, h0, h1, H1⟩
  · cases e
  · cases e
    rcases bound_out H1 with ⟨e, _⟩ | ⟨kk', i', e, h0', h1', H2⟩
    · cases e
    · cases e
      rcases bound_out H2 with ⟨e, H3⟩ | ⟨kk'', i'', e, h0'', h1'', H3⟩
      · subst e; exact ⟨_, _, _, H3, fun w => by simp [Instr.sliceBounds, sliceBound_run h0 h1, sliceBound_run h0' h1']⟩
      · subst e; exact ⟨_, _, _, H3, fun w => by simp [Instr.sliceBounds, sliceBound_run h0 h1, sliceBound_run h0' h1', sliceBound_run h0'' h1'']⟩

theorem some_out {α : Type} {o : Option α} {k : α → Prop} (h : SomeK o k) : ∃ a, o = some a ∧ k a := by
  cases o with
  | none => exact h.elim
  | some a => exact ⟨a, rfl, h⟩

theorem split_out {b : Bool} {x y : Prop} (h : SplitK b x y) : (b = true ∧ x) ∨ (b = false ∧ y) := by
  cases b
  · exact .inr ⟨rfl, h⟩
  · exact .inl ⟨rfl, h⟩
theorem split_in {b : Bool} {x y : Prop} (hx : b = true → x) (hy : b = false → y) : SplitK b x y := by
  cases b
  · exact hy rfl
  · exact hx rfl

/-- An operation that touches no memory yields its value in every world. -/
theorem pureK_sound {P : Program} {ρ : Operand → Value} {o : Oper} {k : Value → Prop} (h : pureK P ρ o.op k) :
    ∃ v, k v ∧ ∀ w, (execOp ρ o).run P w = .ok (.value v) w := by
  obtain ⟨dst, op, T, pos, after, guard⟩ := o
  cases op <;> simp only [pureK] at h <;> first | exact h.elim | skip
  case move x => exact ⟨_, h, fun w => by simp [execOp]⟩
  case assign x => exact ⟨_, h, fun w => by simp [execOp]⟩
  case pick c x y =>
    split at h
    · rename_i b hb
      rcases split_out h with ⟨rfl, h⟩ | ⟨rfl, h⟩ <;> exact ⟨_, h, fun w => by simp [execOp, hb, asBool]⟩
    · exact h.elim
  case binOp op T x y T2 =>
    obtain ⟨v, hv, hr⟩ := binOp_sound (ox := x) (oy := y) h
    exact ⟨v, hv, fun w => by simp only [execOp]; rw [Sem.run_bind, hr]; rfl⟩
  case unOp op T x =>
    obtain ⟨v, hv, hr⟩ := unOp_sound (P := P) h
    exact ⟨v, hv, fun w => by simp [execOp, hr]⟩
  case makeFunc fn first capt => exact ⟨_, h, fun w => by simp [execOp, Instr.makeFunc]⟩
  case makeInterface T x =>
    split at h
    · exact h.elim
    · exact h.elim
    · rename_i d h1 h2
      cases hu : P.underlying T with
      | none => exact (h2 hu).elim
      | some d =>
        refine ⟨_, h, fun w => ?_⟩
        cases d <;> first | exact (h1 _ hu).elim | simp [execOp, Instr.makeInterface, run_underlying hu]
  case extract t ix =>
    split at h
    · rename_i vs hv
      split at h
      · rename_i v hi
        exact ⟨_, h, fun w => by simp [execOp, Instr.extract, hv, hi]⟩
      · exact h.elim
    · exact h.elim
  case field T x f =>
    split at h
    · rename_i fs hu
      split at h
      · rename_i fd hf
        split at h
        · rename_i cs hx
          obtain ⟨v, hv, hr⟩ := part_sound h
          exact ⟨v, hv, fun w => by simp [execOp, Instr.field, run_underlying hu, hf, hx, asAgg, hr]⟩
        · exact h.elim
      · exact h.elim
    · exact h.elim
  case fieldAddr T x f =>
    split at h
    · rename_i fs hu
      split at h
      · rename_i fd hf
        split at h
        · rename_i n hn
          split at h
          · rename_i o hx
            obtain ⟨p, rfl, h⟩ := some_out h
            exact ⟨_, h, fun w => by simp [execOp, Instr.fieldAt, run_underlying hu, hf, hx, Instr.sureAddr, fieldPlace, sizeT_some hn]⟩
          · exact h.elim
        · exact h.elim
      · exact h.elim
    · exact h.elim
  case indexAddr T x i =>
    split at h
    · rename_i kk n hi
      split at h
      · rename_i e hu
        split at h
        · rename_i sz hsz
          split at h
          · rename_i o len cap hx
            obtain ⟨h0, h1, h⟩ := h
            replace h1 : n < (len : Int) := h1
            obtain ⟨p, rfl, h⟩ := some_out h
            exact ⟨_, h, fun w => by simp [execOp, Instr.indexAt, asIntOf, run_underlying hu, hx, hi, h0, h1, sizeT_some hsz]⟩
          · exact h.elim
        · exact h.elim
      · rename_i len e hu
        split at h
        · rename_i sz hsz
          split at h
          · rename_i o hx
            obtain ⟨h0, h1, h⟩ := h
            replace h1 : n < (len : Int) := h1
            obtain ⟨p, rfl, h⟩ := some_out h
            exact ⟨_, h, fun w => by simp [execOp, Instr.indexAt, asIntOf, run_underlying hu, hx, hi, h0, h1, sizeT_some hsz, Instr.sureAddr]⟩
          · exact h.elim
        · exact h.elim
      · exact h.elim
    · exact h.elim
  case index T x i =>
    split at h
    · rename_i kk n hi
      split at h
      · rename_i hu
        split at h
        · rename_i s hx
          obtain ⟨h0, b, hb, h⟩ := h
          have hb' : s[n.toNat]? = some b := by
            have h1 : s.data[n.toNat]? = some b := by simpa using hb
            obtain ⟨hlt, e⟩ := Array.getElem?_eq_some_iff.1 h1
            exact (getElem?_pos s n.toNat hlt).trans (congrArg some e)
          exact ⟨_, h, fun w => by simp [execOp, Instr.index, asIntOf, run_underlying hu, hx, hi, h0, hb']⟩
        · exact h.elim
      · rename_i len e hu
        split at h
        · rename_i sz cs hsz hx
          split at h
          · rename_i ha
            obtain ⟨h0, h1, h⟩ := h
            replace h1 : n < (len : Int) := h1
            exact ⟨_, h, fun w => by simp [execOp, Instr.index, asIntOf, run_underlying hu, hx, hi, h0, h1, sizeT_some hsz, part, aggT_run ha]⟩
          · rename_i ha
            obtain ⟨h0, h1, h⟩ := h
            replace h1 : n < (len : Int) := h1
            obtain ⟨v, hv, h⟩ := exC_out h
            have hv' : cs[n.toNat * sz]? = some v := by simpa using hv
            exact ⟨_, h, fun w => by simp [execOp, Instr.index, asIntOf, run_underlying hu, hx, hi, h0, h1, sizeT_some hsz, part, aggT_run ha, hv']⟩
          · exact h.elim
        · exact h.elim
      · exact h.elim
    · exact h.elim
  case slice T x lo hi mx =>
    split at h
    · rename_i hu
      split at h
      · rename_i s hx
        obtain ⟨hh, ll, h, hr⟩ := sliceBounds_run2 (P := P) (b := false) (k := fun h l => k (.string (s.extract l h))) h
        replace hr : ∀ w, (Instr.sliceBounds false s.size s.size (lo.map ρ) (hi.map ρ) none).run P w = .ok (ll, hh, s.size) w := hr
        exact ⟨_, h, fun w => by simp [execOp, Instr.sliceAt, Instr.slice, run_underlying hu, hx, hr]⟩
      · exact h.elim
    · rename_i e hu
      split at h
      · rename_i sz a len cap hsz hx
        split at h
        · obtain ⟨hh, ll, h, hr⟩ := sliceBounds_run2 (P := P) (b := true) (k := fun h l => k (.slice (cutA a cap l sz) (subN h l) (subN cap l))) h
          exact ⟨_, h, fun w => by simp [execOp, Instr.sliceAt, Instr.slice, run_underlying hu, hx, hr, sizeT_some hsz]⟩
        · split at h
          · exact h.elim
          · rename_i m hi
            obtain ⟨mm, hh, ll, h, hr⟩ := sliceBounds_run3 (P := P) (b := true) (len := len) (k := fun mm h l => k (.slice (cutA a mm l sz) (subN h l) (subN mm l))) h
            exact ⟨_, h, fun w => by simp [execOp, Instr.sliceAt, Instr.slice, run_underlying hu, hx, hr, sizeT_some hsz]⟩
      · exact h.elim
    · rename_i n e hu
      split at h
      · rename_i sz o hsz hx
        split at h
        · obtain ⟨hh, ll, h, hr⟩ := sliceBounds_run2 (P := P) (b := false) (k := fun h l => SomeK o fun p => k (.slice (cutA (some p) n l sz) (subN h l) (subN n l))) h
          obtain ⟨p, rfl, h⟩ := some_out h
          exact ⟨_, h, fun w => by simp [execOp, Instr.sliceAt, run_underlying hu, hx, hr, sizeT_some hsz, Instr.sureAddr]; split <;> rfl⟩
        · exact h.elim
      · exact h.elim
    · exact h.elim
  case build T parts =>
    split at h
    · rename_i cells hc
      exact ⟨_, h, fun w => by simp only [execOp, Sem.run_bind]; rw [run_build w T _ cells (by simpa using hc)]; rfl⟩
    · exact h.elim
  case nilCheck x =>
    split at h
    · rename_i o hx
      obtain ⟨p, rfl, h⟩ := some_out h
      exact ⟨_, h, fun w => by simp [execOp, hx]⟩
    · rename_i f first capt hx
      exact ⟨_, h, fun w => by simp [execOp, hx]⟩
    · rename_i f first capt hx
      exact ⟨_, h, fun w => by simp [execOp, hx]⟩
    · exact h.elim
  case call c =>
    obtain ⟨callee, args, argTypes⟩ := c
    split at h
    · rename_i hc
      simp only at hc; subst hc
      split at h
      · rename_i t v ht hv
        obtain ⟨x, hx, rfl⟩ := Option.map_eq_some_iff.1 hv
        have ht' : argTypes[0]? = some t := ht
        have hx' : args[0]? = some x := hx
        split at h
        · rename_i s hu hv; exact ⟨_, h, fun w => by simp [execOp, resolve, invoke, builtin, Builtin.len_, ht', hx', run_underlying hu, hv, goInt]⟩
        · rename_i hu hv; exact ⟨_, h, fun w => by simp [execOp, resolve, invoke, builtin, Builtin.len_, ht', hx', run_underlying hu, hv, goInt]⟩
        · rename_i hu; exact ⟨_, h, fun w => by simp [execOp, resolve, invoke, builtin, Builtin.len_, ht', hx', run_underlying hu, goInt]⟩
        · exact h.elim
      · exact h.elim
    · rename_i hc
      simp only at hc; subst hc
      split at h
      · rename_i t v ht hv
        obtain ⟨x, hx, rfl⟩ := Option.map_eq_some_iff.1 hv
        have ht' : argTypes[0]? = some t := ht
        have hx' : args[0]? = some x := hx
        split at h
        · rename_i hu hv; exact ⟨_, h, fun w => by simp [execOp, resolve, invoke, builtin, Builtin.cap_, ht', hx', run_underlying hu, hv, goInt]⟩
        · exact h.elim
      · exact h.elim
    · rename_i hc
      simp only at hc; subst hc
      split at h
      · rename_i kx a ky b hl
        split at h
        · have hl' : args.toList.map ρ = [.int kx a, .int ky b] := hl
          exact ⟨_, h, fun w => by simp [execOp, resolve, invoke, builtin, Builtin.min_, hl', Builtin.min2]⟩
        · exact h.elim
      · exact h.elim
    · rename_i hc
      simp only at hc; subst hc
      split at h
      · rename_i kx a ky b hl
        split at h
        · have hl' : args.toList.map ρ = [.int kx a, .int ky b] := hl
          exact ⟨_, h, fun w => by simp [execOp, resolve, invoke, builtin, Builtin.max_, hl', Builtin.max2]⟩
        · exact h.elim
      · exact h.elim
    · exact h.elim

theorem loadCellsFrom_run {P : Program} {w : World} {p : Addr} : ∀ (vs : List Value) (i : Nat) (acc : Array Value), (∀ j v, vs[j]? = some v → w.cell? (p.add (i + j)) = some v) →
    (loadCellsFrom p i vs.length acc).run P w = .ok (acc ++ vs.toArray) w
  | [], i, acc, h => by simp [loadCellsFrom]
  | v :: r, i, acc, h => by
    have h0 : w.cell? (p.add i) = some v := by simpa using h 0 v rfl
    have ih := loadCellsFrom_run (P := P) (w := w) (p := p) r (i + 1) (acc.push v) (fun j u hj => by have := h (j + 1) u (by simpa using hj); rwa [show i + 1 + j = i + (j + 1) from by omega])
    simp [loadCellsFrom, load, Sem.run, h0, ih]

theorem loadCells_run {P : Program} {w : World} {p : Addr} {vs : List Value} (h : CellsAt w p vs) : (loadCells p vs.length).run P w = .ok vs.toArray w := by
  have := loadCellsFrom_run (P := P) (w := w) (p := p) vs 0 #[] (fun j v hj => by simpa using h j v hj)
  simpa [loadCells] using this

theorem frozen_setCell (w : World) (p q : Addr) (v : Value) : (w.setCell p v).frozen? q = w.frozen? q := by
  simp only [World.frozen?, World.setCell, Array.getElem?_modify]
  by_cases h : p.block = q.block
  · simp only [h, if_true]
    cases w.heap[q.block]? with
    | none => rfl
    | some o => cases o <;> rfl
  · simp only [h, if_false]

theorem cell_setCell_some (w : World) (p q : Addr) (v : Value) (h : ∃ u, w.cell? q = some u) : ∃ u, (w.setCell p v).cell? q = some u := by
  obtain ⟨u, h⟩ := h
  by_cases e : p = q
  · subst e; exact ⟨v, World.cell?_setCell_same w p v h⟩
  · exact ⟨u, by rw [World.cell?_setCell_other w p q v e]; exact h⟩

theorem storeCells_run {P : Program} {p : Addr} : ∀ (vs : List Value) (i : Nat) (w : World), vs.all isCell = true → (∀ j, j < vs.length → (∃ v, w.cell? (p.add (i + j)) = some v) ∧ w.frozen? (p.add (i + j)) = false) →
    (storeCells p vs i).run P w = .ok () (storeAll w p i vs)
  | [], i, w, _, _ => by simp [storeCells, storeAll]
  | v :: r, i, w, ha, h => by
    simp only [List.all_cons, Bool.and_eq_true] at ha
    obtain ⟨⟨u, hu⟩, hf⟩ := h 0 (Nat.succ_pos _)
    simp only [Nat.add_zero] at hu hf
    have ih := storeCells_run (P := P) (p := p) r (i + 1) (w.setCell (p.add i) v) ha.2 (fun j hj => by
      obtain ⟨hu', hf'⟩ := h (j + 1) (Nat.succ_lt_succ hj)
      rw [show i + 1 + j = i + (j + 1) from by omega, frozen_setCell]
      exact ⟨cell_setCell_some _ _ _ _ hu', hf'⟩)
    have hv : isCell v = true := ha.1
    have e : (store (p.add i) v).run P w = .ok () (w.setCell (p.add i) v) := by
      cases v <;> first | (simp [isCell] at hv; done) | simp only [store, Sem.run, hu, hf, Bool.false_eq_true, if_false]
    rw [storeCells, Sem.run_bind, e]
    exact ih

theorem cells_of_isCell {v : Value} (h : isCell v = true) : v.cells = #[v] := by cases v <;> first | rfl | simp [isCell] at h
theorem cellK_out {v : Value} {p : Prop} (h : CellK v p) : isCell v = true ∧ p := by cases v <;> first | exact ⟨rfl, h⟩ | exact h.elim

theorem new_out {w : World} {c : Array Value} {T : TypeId} {k : Nat → World → Prop} (h : NewK w c T k) : k w.heap.size (w.alloc (.cells c T (0, 0))) := h _ _ rfl rfl

theorem replicate_one (v : Value) : ∀ n : Nat, List.replicate n v = (List.replicate n [v]).flatten
  | 0 => rfl
  | n + 1 => by rw [List.replicate_succ, List.replicate_succ, List.flatten_cons, ← replicate_one v n]; rfl

theorem zerosL_eq (z : List Value) (n : Nat) : zerosL z n = (List.replicate n z).flatten := by
  unfold zerosL
  split
  · exact replicate_one _ n
  · rfl

theorem zerosL_length (z : List Value) (n : Nat) : (zerosL z n).length = n * z.length := by rw [zerosL_eq]; simp

theorem flatten_replicate_get (z : List Value) : ∀ (n i : Nat), i < n * z.length → (List.replicate n z).flatten[i]? = z[i % z.length]?
  | 0, i, h => by simp at h
  | n + 1, i, h => by
    rw [List.replicate_succ, List.flatten_cons]
    by_cases hi : i < z.length
    · rw [List.getElem?_append_left hi, Nat.mod_eq_of_lt hi]
    · rw [List.getElem?_append_right (by omega), flatten_replicate_get z n (i - z.length) (by rw [Nat.succ_mul] at h; omega)]
      rw [Nat.mod_eq_sub_mod (a := i) (by omega)]

theorem range_zeros (z : Array Value) (n : Nat) : ((Array.range (n * z.size)).map fun i => z[i % z.size]!) = (zerosL z.toList n).toArray := by
  apply Array.ext'
  apply List.ext_getElem?
  intro i
  rw [zerosL_eq]
  by_cases h : i < n * z.size
  · have hz : 0 < z.size := by
      rcases Nat.eq_zero_or_pos z.size with h0 | h0
      · rw [h0] at h; simp at h
      · exact h0
    have hm : i % z.size < z.size := Nat.mod_lt _ hz
    have h1 := flatten_replicate_get z.toList n i (by simpa using h)
    have h2 : (((Array.range (n * z.size)).map fun i => z[i % z.size]!).toList)[i]? = some z[i % z.size] := by simp [h, hm]
    rw [h2]
    show _ = (List.replicate n z.toList).flatten[i]?
    rw [h1]
    simp [hm]
  · rw [List.getElem?_eq_none (by simp; omega), List.getElem?_eq_none (by simp; omega)]

theorem builtS_run {P : Program} {t e : TypeId} {len : Nat} {parts : Array (Nat × Value)} {cells : List Value} (h : builtS P t len parts.toList = some (e, cells)) (w : World) :
    (Instr.buildSlice t len parts).run P w = .ok (.slice (some ⟨w.heap.size, 0, none⟩) len len) (w.alloc (.cells cells.toArray e (0, 0))) := by
  unfold builtS at h
  split at h <;> try (cases h; done)
  rename_i e' hu
  split at h <;> try (cases h; done)
  rename_i ie hi
  split at h <;> try (cases h; done)
  rename_i z hz
  split at h <;> try (cases h; done)
  rename_i hd
  obtain ⟨hs, hl⟩ := of_decide_eq_true hd
  obtain ⟨cs, hc, e1⟩ := Option.map_eq_some_iff.1 h
  cases e1
  have hl' : ¬ (16777216 < len * ie.size) := by omega
  have hr := range_zeros z.cells len
  have hr' : (Array.range (len * ie.size)).map (fun i => z.cells[i % z.cells.size]!) = (zerosL z.cells.toList len).toArray := by rw [← hs]; exact hr
  by_cases h0 : len * ie.size = 0
  · have hf : (#[] : Array Value) = (zerosL z.cells.toList len).toArray := by
      rw [← hr', h0]; simp
    simp [Instr.buildSlice, run_underlying hu, sizeOf, typeInfo, zeroValue, hi, hz, h0, newRow]
    rw [← hf] at hc
    have hm : Array.map (fun _ : Nat => (default : Value)) (Array.range 0) = #[] := by simp
    rw [hm]
    simp [hc]
  · simp [Instr.buildSlice, run_underlying hu, sizeOf, typeInfo, zeroValue, hi, hz, hl', h0, newRow]
    rw [hr']
    simp [hc]

theorem loadVar_agg {P : Program} {t : TypeId} {p : Addr} {w : World} {vs : List Value} (ha : aggT P t = some true) (hs : sizeT P t = some vs.length) (h : CellsAt w p vs) :
    (loadVar t p).run P w = .ok (.agg vs.toArray) w := by
  simp [loadVar, aggT_run ha, sizeT_some hs, loadCells_run h]

theorem loadVar_one {P : Program} {t : TypeId} {p : Addr} {w : World} {v : Value} (ha : aggT P t = some false) (h : w.cell? p = some v) :
    (loadVar t p).run P w = .ok v w := by
  simp [loadVar, aggT_run ha, load, Sem.run, h]

theorem storeVar_run {P : Program} {t : TypeId} {p : Addr} {w : World} {v : Value} (hs : sizeT P t = some v.cells.size) (h1 : v.cells.toList.all isCell = true) (h2 : CanSt w p v.cells.toList.length) :
    (storeVar t p v).run P w = .ok () (storeAll w p 0 v.cells.toList) := by
  have := storeCells_run (P := P) (p := p) v.cells.toList 0 w h1 (fun j hj => by simpa using h2 j hj)
  simp [storeVar, sizeT_some hs, this]

theorem exL_get {l : List Sc} {K : List Value → Prop} (h : exL l K) : ∃ vs, vs.length = l.length ∧ K vs := exL_out h

theorem firstCells_run {P : Program} {w : World} {base : Option Addr} {sz n l c : Nat} {old : List Value} (h : OldAt w base (n * sz) old) :
    (Builtin.firstCells sz n (.slice base l c)).run P w = .ok old.toArray w := by
  cases base with
  | none => cases (h : old = []); simp [Builtin.firstCells]
  | some a =>
    obtain ⟨hl, hc⟩ := h
    simp only [Builtin.firstCells]
    rw [← hl]
    exact loadCells_run hc

theorem zeroCells_eq (z : Array Value) (n : Nat) : Builtin.zeroCells z n = (zerosL z.toList n).toArray := range_zeros z n

theorem cut_append (need old : Nat) (e : TypeId) (t : Nat) : need ≤ (Question.appendCap need old e).cut t := by
  simp only [Question.cut]; omega

theorem cut_append_le (need old : Nat) (e : TypeId) (t : Nat) (h : need ≤ 4611686018427387904) : (Question.appendCap need old e).cut t ≤ 9223372036854775807 := by
  simp only [Question.cut]
  have := Nat.mod_lt t (show 0 < 2 ^ 63 - need by omega)
  omega

theorem append_run {P : Program} {T t t2 e : TypeId} {u2 : TypeDesc} {i : TypeInfo} {z : Value} {argTypes : Array TypeId} (h0 : argTypes[0]? = some t) (h1 : argTypes[1]? = some t2)
    (hu : P.underlying t = some (.slice e)) (hu2 : P.underlying t2 = some u2) (hi : P.info? e = some i) (hz : i.zero = some z) (hzs : z.cells.size = i.size)
    {w : World} {base : Option Addr} {sLen sCap n : Nat} {ys : List Value} {k : Value → World → Prop} {x : Value}
    (hx : ((∃ kk, u2 = .int kk) ∧ (∃ kk, x = .int kk (n : Int)) ∧ n ≤ 4611686018427387904 ∧ ys = zerosL z.cells.toList n) ∨
      ((∀ kk, u2 ≠ .int kk) ∧ (∀ w : World, (Builtin.lenOf x).run P w = .ok n w) ∧ ∀ w' : World, (∀ p, w'.cell? p = w.cell? p) → (Builtin.firstCells i.size n x).run P w' = .ok ys.toArray w'))
    (h : AppK w e i.size i.bytes z.cells.toList base sLen sCap ys n fun a l c w1 => k (.slice a l c) w1) :
    ∃ r w1, k r w1 ∧ (Builtin.append_ argTypes T #[.slice base sLen sCap, x]).run P w = .ok r w1 := by
  obtain ⟨hc, hb, hm, old, ho, hst, hk⟩ := h
  have hold := firstCells_run (P := P) (w := w.drew) (l := sLen) (c := sCap) (sz := i.size) (n := sLen) (base := base) (old := old) (by cases base <;> simpa [OldAt, CellsAt] using ho)
  have hb48 : ¬ (sLen + n ≤ sCap) → ¬ (281474976710656 < Builtin.nextslicecap (sLen + n) sCap * i.bytes) := fun hn => by have := growslice_fits (show sCap < sLen + n by omega) hb; omega
  have h63 : ¬ (9223372036854775807 < ((sLen : Int) + (n : Int))) := by omega
  have hz' := zeroCells_eq z.cells ((Question.appendCap (sLen + n) sCap e).cut (w.tape w.drawn (.appendCap (sLen + n) sCap e)) - (sLen + n))
  rcases hx with ⟨⟨kk, rfl⟩, ⟨kx, rfl⟩, hn, rfl⟩ | ⟨hne, hlen, hs2⟩
  · have wn : IntKind.i64.wrap (n : Int) = (n : Int) := by simp [IntKind.wrap, IntKind.signed, IntKind.bits]; omega
    have nb : ¬ (281474976710656 < (n : Int) * (i.bytes : Int)) := by
      have : n * i.bytes ≤ (sLen + n) * i.bytes := Nat.mul_le_mul_right _ (by omega)
      have : ((n * i.bytes : Nat) : Int) ≤ 140737488355328 := by omega
      simp at this; omega
    have nn : ¬ ((n : Int) < 0) := by omega
    have zz := zeroCells_eq z.cells n
    have z0 : n * i.size = 0 → (#[] : Array Value) = (zerosL z.cells.toList n).toArray := fun h => by
      rw [← zz, Builtin.zeroCells, hzs, h]; simp
    have ap : ∀ w' : World, (if n * i.size = 0 then (pure #[] : Sem (Array Value)) else (do pure (Builtin.zeroCells (← zeroValue e).cells n))).run P w' = .ok (zerosL z.cells.toList n).toArray w' := by
      intro w'
      by_cases hh : n * i.size = 0
      · rw [if_pos hh, Sem.run_pure, z0 hh]
      · rw [if_neg hh, ← zz]; simp [zeroValue, typeInfo, hi, hz]
    by_cases hfit : sLen + n ≤ sCap
    · cases base with
      | none =>
        refine ⟨_, _, hk _ _ _ _ (.room hfit), ?_⟩
        simp [Builtin.append_, h0, h1, run_underlying hu, run_underlying hu2, sizeOf, typeInfo, zeroValue, hi, hz, asInt, asIntOf, wn, nb, nn, hfit]
      | some a =>
        have hs := storeCells_run (P := P) (p := a.add (sLen * i.size)) (zerosL z.cells.toList n) 0 w hc (fun j hj => by simpa using hst a rfl hfit j hj)
        refine ⟨_, _, hk _ _ _ _ (.room hfit), ?_⟩
        by_cases hh : n * i.size = 0
        · have hnil : zerosL z.cells.toList n = [] := by simpa using (z0 hh).symm
          simp [Builtin.append_, h0, h1, run_underlying hu, run_underlying hu2, sizeOf, typeInfo, zeroValue, hi, hz, asInt, asIntOf, wn, nb, nn, hfit, hh, hnil, storeAll, storeCells]
        · simp [Builtin.append_, h0, h1, run_underlying hu, run_underlying hu2, sizeOf, typeInfo, zeroValue, hi, hz, asInt, asIntOf, wn, nb, nn, hfit, hh, zz, hs]
    · refine ⟨_, _, hk _ _ _ _ (.grows ((Question.appendCap (sLen + n) sCap e).cut (w.tape w.drawn (.appendCap (sLen + n) sCap e))) (by omega) (cut_append _ _ _ _) (cut_append_le _ _ _ _ (by omega))), ?_⟩
      simp [Builtin.append_, h0, h1, run_underlying hu, run_underlying hu2, sizeOf, typeInfo, zeroValue, hi, hz, asInt, asIntOf, wn, nb, nn, hfit, h63, hb48 hfit, Question.forced, hold, newRow]
      by_cases hh : n * i.size = 0
      · have hnil : zerosL z.cells.toList n = [] := by simpa using (z0 hh).symm
        rw [if_pos hh, hz', hnil]
        simp
      · rw [if_neg hh, hz', zz]
        simp
  · have hm : (match u2 with | .int _ => true | _ => false) = false := by cases u2 <;> first | rfl | exact absurd rfl (hne _)
    by_cases hfit : sLen + n ≤ sCap
    · cases base with
      | none =>
        refine ⟨_, _, hk _ _ _ _ (.room hfit), ?_⟩
        simp [Builtin.append_, h0, h1, run_underlying hu, run_underlying hu2, sizeOf, typeInfo, zeroValue, hi, hz, hlen, hfit, hs2 w (fun _ => rfl)]
      | some a =>
        have hs := storeCells_run (P := P) (p := a.add (sLen * i.size)) ys 0 w hc (fun j hj => by simpa using hst a rfl hfit j hj)
        refine ⟨_, _, hk _ _ _ _ (.room hfit), ?_⟩
        simp [Builtin.append_, h0, h1, run_underlying hu, run_underlying hu2, sizeOf, typeInfo, zeroValue, hi, hz, hlen, hfit, hs2 w (fun _ => rfl), hs]
    · refine ⟨_, _, hk _ _ _ _ (.grows ((Question.appendCap (sLen + n) sCap e).cut (w.tape w.drawn (.appendCap (sLen + n) sCap e))) (by omega) (cut_append _ _ _ _) (cut_append_le _ _ _ _ (by omega))), ?_⟩
      simp [Builtin.append_, h0, h1, run_underlying hu, run_underlying hu2, sizeOf, typeInfo, zeroValue, hi, hz, hlen, hfit, h63, hb48 hfit, Question.forced, hold, hs2 w.drew (fun _ => rfl), newRow]
      rw [hz']
      simp

theorem bytes_extract (s : ByteArray) : ((s.extract 0 s.size).data.map fun b => Value.int .u8 (b.toNat : Int)) = (s.data.toList.map byteV).toArray := by
  apply Array.ext'
  rw [Array.toList_map, ByteArray.data_extract]
  have : s.data.extract 0 s.size = s.data := Array.extract_size
  rw [this]
  rfl

theorem foldl_bs : ∀ (l : List UInt8) (a : ByteArray), (l.map fun b => ((b.toNat : Nat) : Int)).foldl (fun r n => r.push (UInt8.ofNat n.toNat)) a = a ++ bs l
  | [], a => by apply ByteArray.ext; simp [bs]
  | b :: r, a => by
    rw [List.map_cons, List.foldl_cons, foldl_bs r]
    apply ByteArray.ext
    simp [bs]

theorem bytesToString_run {P : Program} {w : World} {o : Option Addr} {len c : Nat} {l : List UInt8} (h : BytesAt w o len l) :
    (Conv.bytesToString (.slice o len c)).run P w = .ok (.string (bs l)) w := by
  cases o with
  | none => cases (h : l = []); rfl
  | some a =>
    obtain ⟨hl, hc⟩ := h
    have := loadCells_run (P := P) hc
    rw [List.length_map, hl] at this
    have e : l.map byteV = (l.map fun b => ((b.toNat : Nat) : Int)).map (Value.int .u8) := by simp [byteV]
    rw [e] at this
    rw [run_bytesToString w a len c _ this, foldl_bs]
    congr 2

theorem freeze_new (w : World) (c : Array Value) (T : TypeId) (n : Nat) :
    (w.alloc (.cells c T)).freeze ⟨w.heap.size, n, none⟩ 1 = w.alloc (.cells c T (n, n + 1)) := by
  simp only [World.freeze, World.alloc, Nat.one_ne_zero, if_false]
  congr 1
  apply Array.ext
  · simp
  · intro i h1 h2
    simp only [Array.getElem_modify, Array.getElem_push]
    by_cases hi : i < w.heap.size
    · have : ¬ (w.heap.size = i) := by omega
      simp [hi, this]
    · have : w.heap.size = i := by simp at h2; omega
      simp [this]

theorem stringToBytes_run {P : Program} {w : World} {src dst e : TypeId} {s : ByteArray} {u : TypeDesc} (hs : P.underlying src = some u) (hd : P.underlying dst = some (.slice e)) (he : P.underlying e = some (.int .u8))
    {k : Nat → Nat → World → Prop} (h : BytesOfK w s e k) :
    ∃ b cap w1, k b cap w1 ∧ (convert src dst (.string s)).run P w = .ok (.slice (some ⟨b, 0, none⟩) (sizeS s) cap) w1 := by
  refine ⟨_, _, _, h _ (grownCap w s.size 0 e) _ rfl (cut_append _ _ _ _) rfl, ?_⟩
  rw [Lib.run_convert_string_bytes w src dst e s hs hd he]
  congr 1
  have hc : grownCap w s.size 0 e ≥ s.size := cut_append _ _ _ _
  have hz : (Lib.bytesCells w e s).size = grownCap w s.size 0 e := by
    simp [Lib.bytesCells]
    have : s.data.size = s.size := rfl
    omega
  rw [Lib.bytesWorld, hz]
  have e1 : Lib.bytesCells w e s = ((s.data.toList.map byteV) ++ List.replicate (grownCap w s.size 0 e - s.size) (Value.int .u8 0)).toArray := by
    apply Array.ext'
    simp [Lib.bytesCells, byteV]
  rw [e1]
  exact freeze_new w.drew _ e _

theorem make_run {P : Program} {w : World} {t e : TypeId} {i : TypeInfo} {z : Value} (hu : P.underlying t = some (.slice e)) (hi : P.info? e = some i) (hz : i.zero = some z) (hzs : z.cells.size = i.size)
    {kl kc : IntKind} {l c : Int} {k : Value → World → Prop} (h : MakeK w e z.cells.toList i.bytes l c fun b w1 => k (.slice (some ⟨b, 0, none⟩) l.toNat c.toNat) w1) :
    ∃ v w1, k v w1 ∧ (Instr.makeSlice t (.int kl l) (.int kc c)).run P w = .ok v w1 := by
  obtain ⟨h0, h1, h2, h3, hk⟩ := h
  refine ⟨_, _, hk _ _ rfl rfl, ?_⟩
  have wl : IntKind.i64.wrap l = l := by simp [IntKind.wrap, IntKind.signed, IntKind.bits]; omega
  have wc : IntKind.i64.wrap c = c := by simp [IntKind.wrap, IntKind.signed, IntKind.bits]; omega
  have n1 : ¬ (c < 0) := by omega
  have n2 : ¬ (281474976710656 < (i.bytes : Int) * c) := by rw [Int.mul_comm]; omega
  have n3 : ¬ (l < 0) := by omega
  have n4 : ¬ (c < l) := by omega
  have hr := range_zeros z.cells c.toNat
  have hr' : (Array.range (c.toNat * i.size)).map (fun j => z.cells[j % z.cells.size]!) = (zerosL z.cells.toList c.toNat).toArray := by rw [← hzs]; exact hr
  by_cases hn : c.toNat * i.size = 0
  · have hf : (#[] : Array Value) = (zerosL z.cells.toList c.toNat).toArray := by
      rw [← hr', hn]; simp
    have hm : Array.map (fun _ : Nat => (default : Value)) (Array.range 0) = #[] := by simp
    simp only [Instr.makeSlice, Sem.run_bind, run_underlying hu, typeInfo, asInt, asIntOf, sizeOf]
    simp [hi, wl, wc, n1, n2, n3, n4, hn, newRow]
    rw [← hf, hm]
  · simp [Instr.makeSlice, run_underlying hu, typeInfo, hi, asInt, asIntOf, wl, wc, n1, n2, n3, n4, sizeOf, zeroValue, hz, hn, newRow]
    rw [hr']

theorem retX_out {xp : Option (List PanicEntry → World → Prop)} {t : Ty} {k : Value → World → Prop} {e : Ending} {w : World} (h : retX xp t k e w) :
    (∃ v, e = .returned v ∧ k v w) ∨ ∃ ch X, xp = some X ∧ e = .panicked ch ∧ X ch w := by
  cases xp with
  | none => exact .inl (exT_out h)
  | some X =>
    rcases h with h | ⟨ch, he, h⟩
    · exact .inl (exT_out h)
    · exact .inr ⟨ch, X, rfl, he, h⟩

theorem append_post {P : Program} {y : Bool} {xp : Option (List PanicEntry → World → Prop)} {ρ : Operand → Value} {o : Oper} {w : World} {k : Value → World → Prop} {r : Value} {w1 : World}
    (hk : k r w1) (h : (execOp ρ o).run P w = .ok (.value r) w1) : OpPost P y xp k ((execOp ρ o).run P w) := by rw [h]; exact hk

theorem fn_sound {P : Program} {y : Bool} {xp : Option (List PanicEntry → World → Prop)} {ρ : Operand → Value} {f : Operand} {args : Array Operand} {argTypes : Array TypeId} {dst : Option Tmp} {T : TypeId} {t : Ty} {pos : String} {after : Array Edge} {guard : Option (Nat × Bool)} {w : World} {k : Value → World → Prop}
    (h : FnK P y (ρ f) (args.map ρ) w (retX xp t k)) : OpPost P y xp k ((execOp ρ ⟨dst, .call ⟨.value f, args, argTypes⟩, T, pos, after, guard⟩).run P w) := by
  unfold FnK at h
  split at h
  · rename_i g first capt hf
    split at h
    · rename_i hc
      unfold callableB at hc
      split at hc
      · rename_i fn hfn
        have hc1 : (fn.name == "runtime.NumGoroutine") = false := by cases h1 : (fn.name == "runtime.NumGoroutine") <;> simp_all
        have hc2 : fn.body.isNone = false := by cases h1 : fn.body.isNone <;> simp_all
        have hr : (execOp ρ ⟨dst, .call ⟨.value f, args, argTypes⟩, T, pos, after, guard⟩).run P w = .ok (.enter g (first ++ args.map ρ ++ capt)) w := by
          simp only [execOp, resolve, Sem.run_bind]
          rw [hf]
          simp only [Deferred.ofValue, Sem.run_pure, Result.andThen, invoke, callFunc, program, Sem.run_bind, Sem.run, hfn]
          simp [hc1, hc2]
        rw [hr]
        exact h.mono fun e w' he => retX_out he
      · exact absurd hc (by decide)
    · split at h
      · obtain ⟨fn, e, v, hfn, h1, h2, h3, h4, h5, h6⟩ := h
        have hr : (execOp ρ ⟨dst, .call ⟨.value f, args, argTypes⟩, T, pos, after, guard⟩).run P w = .ok (.value v) w := by
          simp only [execOp, resolve, Sem.run_bind]
          rw [hf]
          simp only [Deferred.ofValue, Sem.run_pure, Result.andThen, invoke]
          rw [run_callFunc_extern hfn h1 h2 h3 h4, h5]
          rfl
        rw [hr]
        rcases retX_out h6 with ⟨v', hv, hk⟩ | ⟨ch, X, _, hv, _⟩
        · cases hv
          exact hk
        · cases hv
      · exact h.elim
  · rename_i l first capt hf
    split at h
    · obtain ⟨f1, tmps, assign, body, hy, hr⟩ := h
      have hr1 : (execOp ρ ⟨dst, .call ⟨.value f, args, argTypes⟩, T, pos, after, guard⟩).run P w = .ok (.round l f1 tmps assign body) w := by
        simp only [execOp, resolve, Sem.run_bind]
        rw [hf]
        simp only [Deferred.ofValue, Sem.run_pure, Result.andThen, invoke]
        exact hy
      rw [hr1]
      exact ⟨rfl, hr.mono fun e w' he => retX_out he⟩
    · exact h.elim
  · exact h.elim

theorem effK_sound {P : Program} {y : Bool} {xp : Option (List PanicEntry → World → Prop)} {ρ : Operand → Value} {o : Oper} {w : World} {k : Value → World → Prop} (h : effK P y xp ρ o.op o.type w k) :
    OpPost P y xp k ((execOp ρ o).run P w) := by
  obtain ⟨dst, op, T, pos, after, guard⟩ := o
  cases op <;> simp only [effK] at h <;> first | exact h.elim | skip
  case alloc e =>
    split at h
    · rename_i z hz ha
      refine append_post (new_out h) ?_
      simp [execOp, Instr.alloc, zeroT_some hz, newVar, newRow]
    · rename_i z hz ha
      obtain ⟨hc, h⟩ := cellK_out h
      refine append_post (new_out h) ?_
      simp [execOp, Instr.alloc, zeroT_some hz, newVar, newRow, cells_of_isCell hc]
    · exact h.elim
  case box e x =>
    split at h
    · refine append_post (new_out h) ?_
      simp [execOp, Instr.box, newVar, newRow]
    · obtain ⟨hc, h⟩ := cellK_out h
      refine append_post (new_out h) ?_
      simp [execOp, Instr.box, newVar, newRow, cells_of_isCell hc]
    · exact h.elim
  case panic x =>
    split at h
    · rename_i X
      split at h
      · rename_i Ti v hx
        have hr : (execOp ρ ⟨dst, .panic x, T, pos, after, guard⟩).run P w = .halt (.panic (.iface Ti v)) w := by
          simp only [execOp, hx, Sem.run_bind]
          rfl
        rw [hr]
        exact ⟨X, rfl, h⟩
      · exact h.elim
    · exact h.elim
  case buildSlice t len parts =>
    split at h
    · rename_i e cells hb
      refine append_post (new_out h) ?_
      have := builtS_run (P := P) (t := t) (len := len) (parts := parts.map fun p => (p.1, ρ p.2)) (e := e) (cells := cells) (by simpa using hb) w
      simp [execOp, this]
    · exact h.elim
  case load t x =>
    split at h
    · rename_i o hx
      obtain ⟨p, rfl, h⟩ := some_out h
      split at h
      · rename_i n ha hs
        split at h
        · rename_i hd
          have hd := of_decide_eq_true hd
          obtain ⟨vs, hl, hc, h⟩ := exL_out h
          refine append_post h ?_
          have := loadVar_agg (P := P) ha (by rw [hs, hl, hd]) hc
          simp [execOp, hx, Instr.loadAt, Instr.sureAddr, this]
        · exact h.elim
      · rename_i n ha hs
        obtain ⟨v, hc, h⟩ := exS_out h
        refine append_post h ?_
        simp [execOp, hx, Instr.loadAt, Instr.sureAddr, loadVar_one ha hc]
      · exact h.elim
    · exact h.elim
  case store t x v =>
    split at h
    · rename_i o hx
      obtain ⟨p, rfl, h⟩ := some_out h
      split at h
      · rename_i n ha hs
        split at h
        · rename_i hd
          have hd := of_decide_eq_true hd
          obtain ⟨h1, h2, h3⟩ := h
          have hr := storeVar_run (P := P) (t := t) (by rw [hs, hd]) h1 h2
          have : (execOp ρ ⟨dst, .store t x v, T, pos, after, guard⟩).run P w = .ok .skip (storeAll w p 0 (ρ v).cells.toList) := by
            simp [execOp, hx, Instr.storeAt, Instr.sureAddr, hr]
          rw [this]
          exact h3 _ rfl
        · exact h.elim
      · rename_i ha hs
        obtain ⟨h1, h2, h3⟩ := h
        have hc := cells_of_isCell (v := ρ v) (by simpa using h1)
        have hr := storeVar_run (P := P) (t := t) (p := p) (w := w) (v := ρ v) (by rw [hs, hc]; rfl) (by rw [hc]; exact h1) (by rw [hc]; exact h2)
        rw [hc] at hr
        have : (execOp ρ ⟨dst, .store t x v, T, pos, after, guard⟩).run P w = .ok .skip (storeAll w p 0 [ρ v]) := by
          simp [execOp, hx, Instr.storeAt, Instr.sureAddr, hr]
        rw [this]
        exact h3 _ rfl
      · exact h.elim
    · exact h.elim
  case makeSlice t l c =>
    split at h
    · rename_i e hu
      split at h
      · rename_i ie hi
        split at h
        · rename_i z hz
          split at h
          · rename_i hd
            split at h
            · rename_i kl l' kc c' hl hc
              obtain ⟨v, w1, hk, hr⟩ := make_run (kl := kl) (kc := kc) hu hi hz (of_decide_eq_true hd) h
              refine append_post hk ?_
              simp [execOp, hl, hc, hr]
            · exact h.elim
          · exact h.elim
        · exact h.elim
      · exact h.elim
    · exact h.elim
  case convert src dst' x =>
    split at h
    · rename_i u kk ks n hs hd hx
      refine append_post h ?_
      simp [execOp, convert, hx, run_underlying hs, run_underlying hd, Conv.intToInt]
    · rename_i u s hs hd hx
      refine append_post h ?_
      simp [execOp, convert, hx, run_underlying hs, run_underlying hd]
    · rename_i e a len c hs hd hx
      split at h
      · rename_i he
        obtain ⟨l, hl, h⟩ := h
        refine append_post h ?_
        simp [execOp, convert, hx, run_underlying hs, run_underlying hd, run_underlying he, bytesToString_run hl]
      · exact h.elim
    · rename_i e s hs hd hx
      split at h
      · rename_i he
        obtain ⟨b, cap, w1, hk, hr⟩ := stringToBytes_run hs hd he h
        refine append_post hk ?_
        simp [execOp, hx, hr]
      · exact h.elim
    · exact h.elim
  case call c =>
    obtain ⟨callee, args, argTypes⟩ := c
    split at h
    · rename_i f hc
      simp only at hc; subst hc
      exact fn_sound h
    · rename_i hc
      simp only at hc; subst hc
      split at h
      · rename_i t t2 base sLen sCap x ht ht2 hl
        have hl' : args.map ρ = #[.slice base sLen sCap, x] := Array.toList_inj.1 (by simpa using hl)
        split at h
        · rename_i e u2 hu hu2
          split at h
          · rename_i ie hi
            split at h
            · rename_i z hz
              split at h
              · rename_i hd
                have hzs := of_decide_eq_true hd
                have fin : (∃ r w1, k r w1 ∧ (Builtin.append_ argTypes T #[.slice base sLen sCap, x]).run P w = .ok r w1) → OpPost P y xp k ((execOp ρ ⟨dst, .call ⟨.builtin .append, args, argTypes⟩, T, pos, after, guard⟩).run P w) := by
                  rintro ⟨r, w1, hk, hr⟩
                  refine append_post hk ?_
                  simp only [execOp, resolve, Sem.run_bind, Sem.run_pure, Result.andThen, invoke, builtin]
                  rw [hl', hr]
                split at h
                · rename_i kk kx n
                  obtain ⟨h0, h1, h⟩ := h
                  refine fin (append_run ht ht2 hu hu2 hi hz hzs (n := n.toNat) (.inl ⟨⟨_, rfl⟩, ⟨kx, ?_⟩, by omega, rfl⟩) h)
                  rw [Int.toNat_of_nonneg h0]
                · rename_i e2 b n c2
                  obtain ⟨ys, hy, hbn, h⟩ := h
                  refine fin (append_run ht ht2 hu hu2 hi hz hzs (n := n) (.inr ⟨by simp, fun w => by simp [Builtin.lenOf], fun w' hw => ?_⟩) h)
                  refine firstCells_run ?_
                  cases b with
                  | none => exact hy
                  | some a => exact ⟨hy.1, fun i v hv => by rw [hw]; exact hy.2 i v hv⟩
                · rename_i s
                  refine fin (append_run ht ht2 hu hu2 hi hz hzs (n := s.size) (.inr ⟨by simp, fun w => by simp [Builtin.lenOf], fun w' hw => ?_⟩) h)
                  simp only [Builtin.firstCells, Sem.run_pure]
                  exact congrArg (fun x => Result.ok x w') (bytes_extract s)
                · exact h.elim
              · exact h.elim
            · exact h.elim
          · exact h.elim
        · exact h.elim
      · exact h.elim
    · rename_i hc
      simp only at hc; subst hc
      split at h
      · rename_i t a dLen dc b n sc ht hl
        have hl' : args.map ρ = #[.slice a dLen dc, .slice b n sc] := Array.toList_inj.1 (by simpa using hl)
        split at h
        · rename_i e hu
          split at h
          · rename_i ie hi
            obtain ⟨ys, hy, h⟩ := h
            have hf := firstCells_run (P := P) (l := n) (c := sc) hy
            replace hf : (Builtin.firstCells ie.size (n.min dLen) (.slice b n sc)).run P w = .ok ys.toArray w := hf
            have hs : sizeT P e = some ie.size := by simp [sizeT, hi]
            have hr1 : (execOp ρ ⟨dst, .call ⟨.builtin .copy, args, argTypes⟩, T, pos, after, guard⟩).run P w = ((Builtin.copy_ argTypes T #[.slice a dLen dc, .slice b n sc]).run P w).andThen fun v w' => .ok (.value v) w' := by
              simp only [execOp, resolve, Sem.run_bind, Sem.run_pure, Result.andThen, invoke, builtin]
              rw [hl']
            cases a with
            | none =>
              refine append_post (h : k _ w) ?_
              rw [hr1]
              simp [Builtin.copy_, ht, run_underlying hu, Builtin.lenOf, sizeT_some hs, hf, goInt]
            | some a =>
              obtain ⟨h1, h2, h3⟩ := h
              have hst := storeCells_run (P := P) (p := a) ys 0 w h1 (fun j hj => by simpa using h2 j hj)
              refine append_post (h3 _ rfl) ?_
              rw [hr1]
              simp [Builtin.copy_, ht, run_underlying hu, Builtin.lenOf, sizeT_some hs, hf, goInt, hst]
          · exact h.elim
        · exact h.elim
      · exact h.elim
    · exact h.elim

theorem opK_sound {P : Program} {y : Bool} {xp : Option (List PanicEntry → World → Prop)} {ρ : Operand → Value} {o : Oper} {w : World} {k : Value → World → Prop} (h : opK P y xp ρ o.op o.type w k) :
    OpPost P y xp k ((execOp ρ o).run P w) := by
  unfold opK at h
  split at h
  · obtain ⟨v, hv, hr⟩ := pureK_sound h
    rw [hr]; exact hv
  · exact effK_sound h


theorem beq_no {s t : Nat} (h : s ≠ t) : Nat.beq s t = false := by
  cases hb : Nat.beq s t with
  | false => rfl
  | true => exact absurd (Nat.eq_of_beq_eq_true hb) h
theorem beq_yes (s : Nat) : Nat.beq s s = true := by
  cases hb : Nat.beq s s with
  | true => rfl
  | false => exact absurd rfl (Nat.ne_of_beq_eq_false hb)

theorem Rep.ev {n : Nat} {e : Env} {a : Act} (h : Rep n e a) : a.eval = e.ev := by
  funext x
  cases x with
  | tmp t => exact h.get t
  | _ => rfl

theorem Rep.put {n : Nat} {e : Env} {a : Act} (h : Rep n e a) {dst : Option Tmp} (hd : dstOk n dst = true) (v : Value) : Rep n (e.put dst v) (a.put dst v) := by
  cases dst with
  | none => exact h
  | some s =>
    have hs : s < n := by
      have h1 : s + 1 ≤ n := by simpa [dstOk, Nat.blt] using hd
      exact h1
    refine ⟨h.d, by simpa [Act.put] using h.size, fun t => ?_⟩
    simp only [Act.put, Env.put, look]
    by_cases e1 : s = t
    · subst e1
      have : s < a.tmps.size := by rw [h.size]; exact hs
      simp [this]
    · have e2 := beq_no e1
      rw [e2]
      simp only [Array.getD_eq_getD_getElem?, Array.getElem?_setIfInBounds_ne e1]
      rw [← Array.getD_eq_getD_getElem?]
      exact h.get t

theorem Rep.reput {n : Nat} {e : Env} {a : Act} (h : Rep n e a) {d : Tmp} {v : Value} (hv : look e.l d = v) : Rep n (e.put (some d) v) a := by
  refine ⟨h.d, h.size, fun t => ?_⟩
  simp only [Env.put, look]
  rw [h.get t]
  by_cases e1 : d = t
  · subst e1
    have := beq_yes d
    rw [this, hv]
  · have e2 := beq_no e1
    rw [e2]

theorem Agree.refl (M : Nat → Prop) (a : Act) : Agree M a a := ⟨fun _ => rfl, fun _ _ => rfl⟩
theorem Agree.trans {M M' : Nat → Prop} {a b c : Act} (h : Agree M a b) (h' : Agree M' b c) (hs : ∀ t, M' t → M t) : Agree M a c :=
  ⟨fun hn => (h'.d fun hm => hn (hs _ hm)).trans (h.d hn), fun t hn => (h'.get t fun hm => hn (hs _ hm)).trans (h.get t hn)⟩
theorem Agree.put {M : Nat → Prop} {a b : Act} (h : Agree M a b) {dst : Option Tmp} (hd : ∀ t, dst = some t → M (t + 1)) (v : Value) : Agree M a (b.put dst v) := by
  cases dst with
  | none => exact h
  | some s =>
    refine ⟨h.d, fun t hn => ?_⟩
    have e1 : s ≠ t := fun e => hn (e ▸ hd s rfl)
    simp only [Act.put, Array.getD_eq_getD_getElem?, Array.getElem?_setIfInBounds_ne e1]
    rw [← Array.getD_eq_getD_getElem?, ← Array.getD_eq_getD_getElem?]
    exact h.get t hn

theorem yielded_of {ops : Array Oper} {a : Act} {j : Nat} {d : Tmp} {b : Bool} (hd : (ops[j]?).bind (·.dst) = some d) (hv : a.tmps.getD d undef = .bool b) : yielded ops a.tmps j = some b := by
  unfold yielded
  rw [hd]
  simp only [Option.bind_some]
  cases hx : a.tmps[d]? with
  | none => rw [Array.getD_eq_getD_getElem?, hx] at hv; simp [undef] at hv
  | some x => rw [Array.getD_eq_getD_getElem?, hx] at hv; simp at hv; subst hv; rfl

theorem yielded_none {ops : Array Oper} {a : Act} {j : Nat} {d : Tmp} {vs : Array Value} (hd : (ops[j]?).bind (·.dst) = some d) (hv : a.tmps.getD d undef = .tuple vs) : yielded ops a.tmps j = none := by
  unfold yielded
  rw [hd]
  simp only [Option.bind_some]
  cases hx : a.tmps[d]? with
  | none => rfl
  | some x => rw [Array.getD_eq_getD_getElem?, hx] at hv; simp at hv; subst hv; rfl

theorem guard_out {n : Nat} {ops : Array Oper} {o : Oper} {e : Env} {a : Act} {go no : Env → Prop} (hr : Rep n e a) (h : guardK ops o e go no) :
    ∃ e', Rep n e' a ∧ ((Region.wanted o (yielded ops a.tmps) = true ∧ go e') ∨ (Region.wanted o (yielded ops a.tmps) = false ∧ no e')) := by
  unfold guardK at h
  split at h
  · rename_i hg
    exact ⟨e, hr, .inl ⟨by simp [Region.wanted, hg], h⟩⟩
  · rename_i j want hg
    split at h
    · exact h.elim
    · rename_i d hd
      split at h
      · rename_i b hb
        have hy := yielded_of (a := a) hd ((hr.get d).trans hb)
        cases want
        · rcases split_out h with ⟨e1, h⟩ | ⟨e1, h⟩
          · subst e1; exact ⟨_, hr.reput hb, .inr ⟨by simp [Region.wanted, hg, hy], h⟩⟩
          · subst e1; exact ⟨_, hr.reput hb, .inl ⟨by simp [Region.wanted, hg, hy], h⟩⟩
        · rcases split_out h with ⟨e1, h⟩ | ⟨e1, h⟩
          · subst e1; exact ⟨_, hr.reput hb, .inl ⟨by simp [Region.wanted, hg, hy], h⟩⟩
          · subst e1; exact ⟨_, hr.reput hb, .inr ⟨by simp [Region.wanted, hg, hy], h⟩⟩
      · rename_i vs hb
        have hy := yielded_none (a := a) hd ((hr.get d).trans hb)
        exact ⟨e, hr, .inr ⟨by simp [Region.wanted, hg, hy], h⟩⟩
      · exact h.elim

theorem not_defer {P : Program} {y : Bool} {xp : Option (List PanicEntry → World → Prop)} {ρ : Operand → Value} {o : Op} {T : TypeId} {w : World} {k : Value → World → Prop} (h : opK P y xp ρ o T w k) : ∀ c, o ≠ .defer c := by
  intro c e
  subst e
  exact h

theorem not_select {P : Program} {y : Bool} {xp : Option (List PanicEntry → World → Prop)} {ρ : Operand → Value} {o : Op} {T : TypeId} {w : World} {k : Value → World → Prop} (h : opK P y xp ρ o T w k) : ∀ cs b, o ≠ .select cs b := by
  intro cs b e
  subst e
  exact h

theorem callsIn_of {r : Option Nat} {P : Program} {f : FuncId} {args : Array Value} {w : World} {R : Ending → World → Prop} (h : Calls P f args w R) : CallsIn (Fc r) 0 P f args w R := by
  have := (callsIn_wide (n := 0)).2 h
  exact ⟨trivial, fun cs hr => this.2 cs (room_wide _)⟩

theorem roundIn_of {r : Option Nat} {P : Program} {l : Nat} {f : FuncId} {tmps : Array Value} {assign body : Code} {w : World} {R : Ending → World → Prop} (h : RoundIn Fence.wide 0 P l f tmps assign body w R) :
    RoundIn (Fc r) 0 P l f tmps assign body w R := ⟨trivial, fun c cs hr => h.2 c cs (room_wide _)⟩

theorem oper_wpIn {r : Option Nat} {P : Program} {xp : Option (List PanicEntry → World → Prop)} {o : Oper} {a : Act} {w : World} {k : Value → World → Prop} {next : Act → World → Prop} {Q : Exit → Act → World → Prop}
    (hX : ∀ X ch w', xp = some X → X ch w' → Q (.panic ch) a w')
    (h : opK P true xp a.eval o.op o.type w k) (hn : ∀ v w', k v w' → next (a.put o.dst v) w') : o.wpIn (Fc r) 0 P a w next Q := by
  refine ⟨fun f _ => trivial, ?_⟩
  have hp := opK_sound (o := o) h
  rw [show (Fc r).round = r from rfl, Oper.semAt_eq r a.eval o (not_defer h)]
  generalize (execOp a.eval o).run P w = res at hp ⊢
  cases res with
  | halt x w' =>
    cases x <;> simp only [OpPost] at hp <;> first | exact hp.elim | skip
    case panic v =>
      obtain ⟨X, hx, hp⟩ := hp
      exact hX X _ _ hx hp
  | ok x w' =>
    cases x <;> simp only [OpPost] at hp <;> first | exact hp.elim | skip
    case value v => exact hn _ _ hp
    case skip => exact hn _ _ hp
    case enter f args =>
      refine ⟨fun h => by simp [Fc, Fence.wide] at h, callsIn_of (hp.mono ?_)⟩
      rintro e w'' (⟨v, rfl, hk⟩ | ⟨ch, X, hx, rfl, hk⟩)
      · exact hn _ _ hk
      · exact hX X _ _ hx hk
    case round l f tmps assign body =>
      refine ⟨fun h => by simp [Fc, Fence.wide] at h, (roundIn_of hp.2).mono ?_⟩
      rintro e w'' (⟨v, rfl, hk⟩ | ⟨ch, X, hx, rfl, hk⟩)
      · exact hn _ _ hk
      · exact hX X _ _ hx hk

theorem atD_out {xp : XD} {ds : List Deferred} {X : List PanicEntry → World → Prop} (h : atD xp ds = some X) : ∃ Y, xp = some Y ∧ X = Y ds := by
  cases xp with
  | none => cases h
  | some Y => exact ⟨Y, rfl, (Option.some.inj h).symm⟩

theorem trOps_sound {r : Option Nat} {P : Program} {xp : XD} {n : Nat} {ops : Array Oper} {M : Nat → Prop} {a0 : Act} {K : Env → World → Prop} :
    ∀ (l : List Oper) (e : Env) (a : Act) (w : World), (∀ o ∈ l, ∀ t, o.dst = some t → M (t + 1)) → Rep n e a → Agree M a0 a → trOps P xp n ops l K e w →
      wpListIn (Fc r) 0 P ops (regQ xp n M a0 K) l a w
  | [], e, a, w, _, hr, ha, h => ⟨e, hr, ha, h⟩
  | o :: rest, e, a, w, hM, hr, ha, h => by
    simp only [trOps] at h
    split at h
    · rename_i hd
      obtain ⟨e', hr', h⟩ := guard_out hr h
      unfold wpListIn
      rcases h with ⟨hw, h⟩ | ⟨hw, h⟩
      · rw [if_pos hw]
        rw [← hr'.ev] at h
        refine oper_wpIn (fun X ch w' hx hp => ?_) h fun v w' hk => ?_
        · obtain ⟨Y, hy, rfl⟩ := atD_out hx
          exact ⟨Y, hy, by rw [hr'.d]; exact hp⟩
        exact trOps_sound rest _ _ _ (fun o ho => hM o (List.mem_cons_of_mem _ ho)) (hr'.put hd v) (ha.put (hM o (List.mem_cons_self ..)) v) hk
      · rw [if_neg (by simp [hw])]
        exact ⟨fun f _ => trivial, trOps_sound rest _ _ _ (fun o ho => hM o (List.mem_cons_of_mem _ ho)) (hr'.put hd undef) (ha.put (hM o (List.mem_cons_self ..)) undef) h⟩
    · exact h.elim

theorem ldSK_sound {P : Program} {S : World → Prop} {ρ : Operand → Value} {o : Oper} {k : Value → Prop} (h : ldSK P S ρ o.op k) :
    ∃ v, k v ∧ ∀ w, S w → (execOp ρ o).run P w = .ok (.value v) w := by
  obtain ⟨dst, op, T, pos, after, guard⟩ := o
  cases op <;> simp only [ldSK] at h <;> first | exact h.elim | skip
  split at h
  · rename_i o hx
    obtain ⟨p, rfl, h⟩ := some_out h
    split at h
    · rename_i n ha hs
      split at h
      · rename_i hd
        have hd := of_decide_eq_true hd
        obtain ⟨vs, hl, hc, h⟩ := exL_out h
        refine ⟨_, h, fun w hw => ?_⟩
        have := loadVar_agg (P := P) ha (by rw [hs, hl, hd]) (hc w hw)
        simp [execOp, hx, Instr.loadAt, Instr.sureAddr, this]
      · exact h.elim
    · rename_i n ha hs
      obtain ⟨v, hc, h⟩ := exS_out h
      refine ⟨_, h, fun w hw => ?_⟩
      simp [execOp, hx, Instr.loadAt, Instr.sureAddr, loadVar_one ha (hc w hw)]
    · exact h.elim
  · exact h.elim

theorem oper_wp {P : Program} {xp : Option (List PanicEntry → World → Prop)} {o : Oper} {a : Act} {w : World} {k : Value → World → Prop} {next : Act → World → Prop} {Q : Exit → Act → World → Prop}
    (hX : ∀ X ch w', xp = some X → X ch w' → Q (.panic ch) a w')
    (h : opK P false xp a.eval o.op o.type w k) (hn : ∀ v w', k v w' → next (a.put o.dst v) w') : o.wp P a w next Q := by
  have hp := opK_sound (o := o) h
  unfold Oper.wp
  generalize (execOp a.eval o).run P w = res at hp ⊢
  cases res with
  | halt x w' =>
    cases x <;> simp only [OpPost] at hp <;> first | exact hp.elim | skip
    case panic v =>
      obtain ⟨X, hx, hp⟩ := hp
      exact hX X _ _ hx hp
  | ok x w' =>
    cases x <;> simp only [OpPost] at hp <;> first | exact hp.elim | skip
    case value v => exact hn _ _ hp
    case skip => exact hn _ _ hp
    case enter f args =>
      refine hp.mono ?_
      rintro e w'' (⟨v, rfl, hk⟩ | ⟨ch, X, hx, rfl, hk⟩)
      · exact hn _ _ hk
      · exact hX X _ _ hx hk
    case round l f tmps assign body => exact absurd hp.1 (by decide)

theorem allR_out {f : Nat → Prop} : ∀ {l : List Nat}, allR f l → ∀ i ∈ l, f i
  | [], _, i, hi => by cases hi
  | [j], h, i, hi => by cases hi with | head => exact h | tail _ h' => cases h'
  | j :: k :: r, h, i, hi => by
    cases hi with
    | head => exact h.1
    | tail _ h' => exact allR_out h.2 i h'

def quiet (ops : Array Oper) (i : Nat) : Prop := ∃ o, ops[i]? = some o ∧ (isPure o.op = true ∨ isLoad o.op = true)
def asksS (ops : Array Oper) (i : Nat) : Prop := ∃ o, ops[i]? = some o ∧ needS ops o = true

/-- What holds behind operation number i: a quiet one leaves the world; behind another one S holds, if it asks so. -/
def Behind (ops : Array Oper) (S : World → Prop) (i : Nat) (w w' : World) : Prop := (quiet ops i → w' = w) ∧ (¬ quiet ops i → asksS ops i → S w')

/-- Whatever order. -/
def wpN (P : Program) (ops : Array Oper) (Q : Exit → Act → World → Prop) (S : World → Prop) : Nat → Array Bool → Act → World → Prop
  | 0, listed, a, w => Region.ready .any ops listed = [] ∧ Q .normal a w
  | fuel + 1, listed, a, w =>
    (Region.ready .any ops listed = [] → Q .normal a w) ∧
    ∀ i ∈ Region.ready .any ops listed, wpOp P ops Q i (fun a' w' => Behind ops S i w w' ∧ wpN P ops Q S fuel (listed.setIfInBounds i true) a' w') a w

theorem wpN_any {P : Program} {ops : Array Oper} {Q : Exit → Act → World → Prop} {S : World → Prop} : ∀ (fuel : Nat) (listed : Array Bool) (a : Act) (w : World), wpN P ops Q S fuel listed a w → wpAny P .any ops Q fuel listed a w
  | 0, _, _, _, h => h
  | fuel + 1, _, _, _, h => ⟨h.1, fun i hi => wpOp_mono (fun a' w' h' => wpN_any fuel _ a' w' h'.2) (h.2 i hi)⟩

theorem wpN_done {P : Program} {ops : Array Oper} {Q : Exit → Act → World → Prop} {S : World → Prop} {listed : Array Bool} {a : Act} {w : World} (hr : Region.ready .any ops listed = []) (h : Q .normal a w) :
    ∀ fuel, wpN P ops Q S fuel listed a w
  | 0 => ⟨hr, h⟩
  | _ + 1 => ⟨fun _ => h, by rw [hr]; simp⟩

/-- A quiet operation that may come up and yields its value in every world of T is taken first; T holds now, and behind whatever may come up ahead of it. -/
theorem wpN_first {P : Program} {ops : Array Oper} {Q : Exit → Act → World → Prop} {S T : World → Prop} {i : Nat} {oi : Oper} {v : Value} (hi : ops[i]? = some oi) (hq : quiet ops i)
    (hsel : Region.noSelect ops = true) (hQ : ∀ c a w, Q (.panic c) (a.put oi.dst v) w → Q (.panic c) a w)
    (hT : ∀ (j : Nat) (oj : Oper), ops[j]? = some oj → (∀ e ∈ oj.after, Region.binds .any e = true → e.on ≠ i) → ∀ w w', T w → Behind ops S j w w' → T w') :
    ∀ (fuel : Nat) (listed : Array Bool) (a : Act) (w : World), Region.free .any ops listed i = true → i ∈ Region.ready .any ops listed → YieldsIf P ops T oi v a → T w →
      wpN P ops Q S fuel (listed.setIfInBounds i true) (a.put oi.dst v) w → wpN P ops Q S (fuel + 1) listed a w
  | 0, listed, a, w, hfree, hr, hy, hw, H => by
    refine ⟨fun h0 => absurd hr (by rw [h0]; simp), fun j hj => ?_⟩
    by_cases hji : j = i
    · subst hji; exact hy.wpOp hi hw ⟨⟨fun _ => rfl, fun hn => absurd hq hn⟩, H⟩
    · have hm := ready_mono hj hji
      rw [H.1] at hm
      cases hm
  | fuel + 1, listed, a, w, hfree, hr, hy, hw, H => by
    refine ⟨fun h0 => absurd hr (by rw [h0]; simp), fun j hj => ?_⟩
    by_cases hji : j = i
    · subst hji; exact hy.wpOp hi hw ⟨⟨fun _ => rfl, fun hn => absurd hq hn⟩, H⟩
    · have step := H.2 j (ready_mono hj hji)
      obtain ⟨hjun, oj, hoj, hall⟩ := mem_ready.1 hj
      have hiun := (mem_ready.1 hr).1
      have hnot : ∀ e ∈ oj.after, Region.binds .any e = true → e.on ≠ i := by
        intro e he hb heq
        have hl := hall e he hb
        rw [heq] at hl
        rcases Nat.lt_or_ge i listed.size with hlt | hge
        · rw [Array.getD_eq_getD_getElem?, Array.getElem?_eq_getElem hlt] at hiun hl
          simp only [Option.getD_some] at hiun hl
          rw [hiun] at hl; cases hl
        · rw [Array.getD_eq_getD_getElem?, Array.getElem?_eq_none hge] at hl
          cases hl
      have moved := wpOp_putIf hoj (Region.free_spec hi hfree j oj hoj hji hjun hnot) (fun cs b => Region.noSelect_spec hsel i oi cs b hi) (fun cs b => Region.noSelect_spec hsel j oj cs b hoj) hQ hy step
      have hfree' : Region.free .any ops (listed.setIfInBounds j true) i = true := by
        simp only [Region.free, hi, List.all_eq_true, List.mem_range] at hfree ⊢
        intro x hx
        have := hfree x hx
        simp only [Bool.or_eq_true] at this ⊢
        rcases this with (h1 | h1) | h1
        · exact .inl (.inl h1)
        · refine .inl (.inr ?_)
          by_cases hjx : j = x
          · subst hjx; rw [hjun] at h1; cases h1
          · rw [getD_set_ne true hjx]; exact h1
        · exact .inr h1
      refine wpOp_mono (fun a' w' h3 => ⟨h3.2.1, wpN_first hi hq hsel hQ hT fuel _ a' w' hfree' (ready_mono hr (Ne.symm hji)) h3.1 (hT j oj hoj hnot w w' hw h3.2.1) ?_⟩) moved
      rw [Array.setIfInBounds_comm _ _ hji]
      exact h3.2.2

theorem asks_of {ops : Array Oper} {j i : Nat} {oj oi : Oper} (hj : ops[j]? = some oj) (hi : ops[i]? = some oi) (hl : isLoad oi.op = true) (hno : ∀ e ∈ oj.after, Region.binds .any e = true → e.on ≠ i) : asksS ops j := by
  refine ⟨oj, hj, ?_⟩
  unfold needS
  rw [List.any_eq_true]
  refine ⟨i, List.mem_range.2 (Array.getElem?_eq_some_iff.1 hi).1, ?_⟩
  rw [hi]
  simp only [hl, Bool.true_and, Bool.not_eq_true', Array.any_eq_false]
  intro x hx
  have := hno (oj.after[x]) (Array.getElem_mem hx)
  simp only [Bool.and_eq_true, beq_iff_eq]
  exact fun hh => this hh.1 hh.2

theorem withS_out {hs : Bool} {S : World → Prop} {w : World} {p : Prop} (h : withS hs S w p) : (hs = true → S w) ∧ p := by
  cases hs with
  | true =>
    have h' : S w ∧ p := h
    exact ⟨fun _ => h'.1, h'.2⟩
  | false => exact ⟨fun h' => (by cases h'), h⟩

theorem countP_set : ∀ (l : List Bool) (i : Nat), l[i]? = some false → (l.set i true).countP (fun b => b) = l.countP (fun b => b) + 1
  | [], i, h => by simp at h
  | x :: r, 0, h => by simp at h; subst h; simp
  | x :: r, i + 1, h => by
    simp only [List.getElem?_cons_succ] at h
    simp only [List.set_cons_succ, List.countP_cons, countP_set r i h]
    omega

theorem cnt_set {l : Array Bool} {i : Nat} (h : l.getD i true = false) : cnt (l.setIfInBounds i true) = cnt l + 1 := by
  unfold cnt
  have h1 : l.toList[i]? = some false := by
    rw [Array.getD_eq_getD_getElem?] at h
    cases hl : l[i]? with
    | none => rw [hl] at h; simp at h
    | some b => rw [hl] at h; simp at h; subst h; simpa using hl
  rw [Array.toList_setIfInBounds]
  exact countP_set _ _ h1

theorem look_zip {f : Nat → Value} {X : List (Nat × Value)} {t : Nat} : ∀ (L : List Nat), look (L.zip (L.map f) ++ X) t = if t ∈ L then f t else look X t
  | [] => by simp
  | s :: r => by
    simp only [List.map_cons, List.zip_cons_cons, List.cons_append, look]
    by_cases e : s = t
    · subst e; rw [beq_yes]; simp
    · rw [beq_no e]
      simp only [look_zip r, List.mem_cons]
      have : ¬ t = s := fun h => e h.symm
      simp [this]

theorem look_map {f : Nat → Value} {X : List (Nat × Value)} {t : Nat} : ∀ (L : List Nat), look (L.map (fun s => (s, f s)) ++ X) t = if t ∈ L then f t else look X t
  | [] => by simp
  | s :: r => by
    simp only [List.map_cons, List.cons_append, look]
    by_cases e : s = t
    · subst e; rw [beq_yes]; simp
    · rw [beq_no e]
      simp only [look_map r, List.mem_cons]
      have : ¬ t = s := fun h => e h.symm
      simp [this]

theorem getA_out {a : Act} {t : Nat} (h : a.tmps.size ≤ t) : getA a t = undef := by
  simp [getA, Array.getD_eq_getD_getElem?, Array.getElem?_eq_none h]

theorem Rep.mixed {n : Nat} {e : Env} {a a' : Act} {L D : List Nat} (h : Rep n e a) (hs : a'.tmps.size = n) (hd : a'.defers = a.defers)
    (hg : ∀ t, t < n → t ∉ L → t ∉ D → getA a' t = getA a t) : Rep n (mixed e L D (L.map (getA a')) (getA a')) a' := by
  refine ⟨hd.trans h.d, hs, fun t => ?_⟩
  show getA a' t = _
  unfold Sx.mixed
  rw [look_zip, look_map]
  split
  · rfl
  · rename_i h1
    split
    · rfl
    · rename_i h2
      by_cases ht : t < n
      · rw [hg t ht h1 h2]; exact h.get t
      · rw [getA_out (by omega), ← h.get t]
        exact (getA_out (a := a) (by rw [h.size]; omega)).symm


theorem alS_of {s : Sc} {K : Value → Prop} (h : ∀ v, K v) : alS s K := by
  cases s <;> simp only [alS] <;> intros <;> exact h _

theorem alL_of : ∀ {l : List Sc} {K : List Value → Prop}, (∀ vs, K vs) → alL l K
  | [], K, h => h []
  | s :: r, K, h => alS_of fun v => alL_of fun vs => h (v :: vs)
theorem alC_of {c : Cp} {K : Value → Prop} (h : ∀ v, K v) : alC c K := by
  cases c with
  | one s => exact alS_of h
  | many l => exact alL_of fun vs => h _
theorem alCs_of : ∀ {l : List Cp} {K : List Value → Prop}, (∀ vs, K vs) → alCs l K
  | [], K, h => h []
  | s :: r, K, h => alC_of fun v => alCs_of fun vs => h (v :: vs)

theorem any_beq {l : List Nat} {t : Nat} (h : (l.any fun x => Nat.beq x t) = true) : t ∈ l := by
  obtain ⟨x, hx, he⟩ := List.any_eq_true.1 h
  have : x = t := Nat.eq_of_beq_eq_true he
  subst this; exact hx

/-! The tables -/
theorem forceN_out {n : Nat} {k : Nat → Prop} (h : forceN n k) : k n := by
  cases n <;> exact h
theorem forceL_out : ∀ {l : List Nat} {k : List Nat → Prop}, forceL l k → k l
  | [], k, h => h
  | x :: r, k, h => forceL_out (k := fun l => k (x :: l)) (forceN_out (k := fun n => forceL r fun l => k (n :: l)) h)

theorem testBit_maskW (f : Nat → Bool) : ∀ (n t : Nat), Nat.testBit (maskW f n) t = (decide (t < n) && f t)
  | 0, t => by simp [maskW]
  | k + 1, t => by
    simp only [maskW]
    cases hf : f k with
    | true =>
      simp only [Nat.testBit_or, testBit_maskW f k, Nat.testBit_two_pow]
      by_cases h : t < k
      · have : ¬ k = t := by omega
        simp [h, this, Nat.lt_succ_of_lt h]
      · by_cases h2 : k = t
        · subst h2; simp [hf]
        · have : ¬ t < k + 1 := by omega
          simp [h, h2, this]
    | false =>
      simp only [testBit_maskW f k]
      by_cases h : t < k
      · simp [h, Nat.lt_succ_of_lt h]
      · by_cases h2 : t = k
        · subst h2; simp [hf]
        · have : ¬ t < k + 1 := by omega
          simp [h, this]

theorem leM_iff {a b : Nat} : leM a b = true ↔ ∀ t, Nat.testBit a t = true → Nat.testBit b t = true := by
  unfold leM
  rw [show (Nat.beq (a &&& b) a = true) ↔ a &&& b = a from ⟨Nat.eq_of_beq_eq_true, fun h => by rw [h]; exact Nat.beq_refl _⟩]
  constructor
  · intro h t ht
    have := congrArg (Nat.testBit · t) h
    simp only [Nat.testBit_and, ht, Bool.true_and] at this
    exact this
  · intro h
    apply Nat.eq_of_testBit_eq
    intro t
    rw [Nat.testBit_and]
    cases ha : Nat.testBit a t with
    | false => rfl
    | true => simp [h t ha]

theorem depM_bit (o : Oper) (t : Nat) : Nat.testBit (depM o) t = true ↔ ∃ e ∈ o.after, Region.binds .any e = true ∧ e.on = t := by
  unfold depM
  have gen : ∀ (l : List Edge) (m : Nat), Nat.testBit (l.foldl (fun m e => match Region.binds .any e with | true => m ||| 2 ^ e.on | false => m) m) t = true ↔ Nat.testBit m t = true ∨ ∃ e ∈ l, Region.binds .any e = true ∧ e.on = t := by
    intro l
    induction l with
    | nil => intro m; simp
    | cons x r ih =>
      intro m
      simp only [List.foldl_cons, ih]
      cases hb : Region.binds .any x with
      | true =>
        simp only [Nat.testBit_or, Nat.testBit_two_pow, Bool.or_eq_true, decide_eq_true_eq, List.mem_cons, exists_eq_or_imp, hb, true_and]
        exact or_assoc
      | false => simp [hb]
  refine (gen o.after.toList 0).trans ?_
  simp

theorem arrOf_size (n s : Nat) : (arrOf n s).size = n := by simp [arrOf]
theorem arrOf_getD (n s i : Nat) (d : Bool) : (arrOf n s).getD i d = if i < n then Nat.testBit s i else d := by
  simp only [arrOf, Array.getD_eq_getD_getElem?, List.getElem?_toArray, List.getElem?_map]
  split
  · rename_i h; rw [List.getElem?_range h]; rfl
  · rename_i h; rw [List.getElem?_eq_none (by simpa using h)]; rfl
theorem arrOf_set {n s i : Nat} (hi : i < n) : (arrOf n s).setIfInBounds i true = arrOf n (s ||| 2 ^ i) := by
  apply Array.ext
  · simp [arrOf_size]
  · intro k h1 h2
    rw [arrOf_size] at h2
    rw [Array.getElem_setIfInBounds]
    · simp only [arrOf, List.getElem_toArray, List.getElem_map, List.getElem_range, Nat.testBit_or, Nat.testBit_two_pow]
      by_cases h : i = k
      · subst h; simp
      · simp [h]
    · rw [arrOf_size]; exact h2
theorem arrOf_full (n : Nat) : arrOf n (2 ^ n - 1) = Array.replicate n true := by
  apply Array.ext
  · simp [arrOf_size]
  · intro k h1 h2
    rw [arrOf_size] at h1
    simp only [arrOf, List.getElem_toArray, List.getElem_map, List.getElem_range, Array.getElem_replicate, Nat.testBit_two_pow_sub_one]
    simpa using h1
theorem arrOf_none (n : Nat) : arrOf n 0 = Array.replicate n false := by
  apply Array.ext
  · simp [arrOf_size]
  · intro k h1 h2
    simp [arrOf]

theorem readyM_eq (dep : List Nat) (listed : Nat) : ∀ n, readyM dep listed n = (List.range n).filter fun i => !Nat.testBit listed i && leM (dep.getD i 0) listed
  | 0 => rfl
  | k + 1 => by
    simp only [readyM, List.range_succ, List.filter_append, readyM_eq dep listed k]
    cases h : (!Nat.testBit listed k && leM (dep.getD k 0) listed) with
    | true => simp only [List.filter_cons, h]; rfl
    | false => simp only [List.filter_cons, h]; simp

theorem inRange_out {ops : Array Oper} (h : inRange ops = true) {i : Nat} {o : Oper} (ho : ops[i]? = some o) : ∀ e ∈ o.after, e.on < ops.size := by
  intro e he
  have h1 := List.all_eq_true.1 h o (by simpa using Array.mem_of_getElem? ho)
  have h2 := List.all_eq_true.1 h1 e (by simpa using he)
  simpa using h2

theorem ready_eq {ops : Array Oper} (hrg : inRange ops = true) (listed : Nat) : Region.ready .any ops (arrOf ops.size listed) = readyM (ops.toList.map depM) listed ops.size := by
  rw [readyM_eq]
  unfold Region.ready
  apply List.filter_congr
  intro i hi
  have hi := List.mem_range.1 hi
  obtain ⟨o, ho⟩ : ∃ o, ops[i]? = some o := ⟨ops[i], by simp [hi]⟩
  rw [arrOf_getD, if_pos hi, ho]
  have hd : (ops.toList.map depM).getD i 0 = depM o := by
    rw [List.getD_eq_getElem?_getD, List.getElem?_map, Array.getElem?_toList, ho]; rfl
  rw [hd]
  congr 1
  simp only [Option.map_some, Option.getD_some]
  rw [Bool.eq_iff_iff, leM_iff, Array.all_eq_true']
  constructor
  · intro h t ht
    obtain ⟨e, he, hb, rfl⟩ := (depM_bit o t).1 ht
    have := h e he
    rw [hb] at this
    rw [arrOf_getD, if_pos (inRange_out hrg ho e he)] at this
    simpa using this
  · intro h e he
    cases hb : Region.binds .any e with
    | false => rfl
    | true =>
      rw [arrOf_getD, if_pos (inRange_out hrg ho e he)]
      simpa using h e.on ((depM_bit o e.on).2 ⟨e, he, hb, rfl⟩)

theorem takeM_out {conf : List Nat} {ops : Array Oper} {listed : Nat} : ∀ {l : List Nat} {i : Nat}, takeM conf ops listed l = some i →
    i ∈ l ∧ ∃ o, ops[i]? = some o ∧ leM (conf.getD i 0) listed = true ∧ (isPure o.op = true ∨ isLoad o.op = true)
  | [], i, h => by cases h
  | j :: r, i, h => by
    simp only [takeM] at h
    split at h
    · obtain ⟨h1, h2⟩ := takeM_out h
      exact ⟨List.mem_cons_of_mem _ h1, h2⟩
    · rename_i o ho
      split at h
      · rename_i hb
        cases h
        simp only [Bool.and_eq_true, Bool.or_eq_true] at hb
        exact ⟨List.mem_cons_self .., o, ho, hb.2, hb.1⟩
      · obtain ⟨h1, h2⟩ := takeM_out h
        exact ⟨List.mem_cons_of_mem _ h1, h2⟩

theorem free_of {ops : Array Oper} {i listed : Nat} {o : Oper} (ho : ops[i]? = some o) (hq : isPure o.op = true ∨ isLoad o.op = true) (h : leM (((List.range ops.size).map (confM ops)).getD i 0) listed = true) : Region.free .any ops (arrOf ops.size listed) i = true := by
  have hi := (Array.getElem?_eq_some_iff.1 ho).1
  have hc : ((List.range ops.size).map (confM ops)).getD i 0 = confM ops i := by
    rw [List.getD_eq_getElem?_getD, List.getElem?_map, List.getElem?_range hi]; rfl
  rw [hc] at h
  have hq' : (isPure o.op || isLoad o.op) = true := by rcases hq with h | h <;> simp [h]
  unfold confM at h
  rw [ho] at h
  simp only [hq'] at h
  rw [leM_iff] at h
  unfold Region.free
  rw [ho]
  simp only
  rw [List.all_eq_true]
  intro j hj
  have hj := List.mem_range.1 hj
  rw [arrOf_getD, if_pos hj]
  have := h j
  rw [testBit_maskW] at this
  simp only [hj, decide_true, Bool.true_and] at this
  cases hji : (j == i) with
  | true => simp
  | false =>
    rw [hji] at this
    simp only [Bool.not_false, Bool.true_and] at this
    cases hx : ops[j]? with
    | none => simp
    | some oj =>
      rw [hx] at this
      simp only at this ⊢
      cases hy : (oj.after.any (fun e => Region.binds .any e && e.on == i) || o.apart ops oj) with
      | true => simp
      | false => rw [hy] at this; simp [this rfl]

theorem pickOps_mem {ops : Array Oper} {m : Nat} : ∀ {k i : Nat} {o : Oper}, i < k → Nat.testBit m i = true → ops[i]? = some o → o ∈ pickOps ops m k
  | 0, i, o, h, _, _ => by omega
  | k + 1, i, o, h, hm, ho => by
    unfold pickOps
    by_cases hik : i = k
    · subst hik
      rw [hm, ho]
      simp
    · have := pickOps_mem (k := k) (show i < k by omega) hm ho
      split
      · exact List.mem_append_left _ this
      · exact this

theorem covers_out {ops : Array Oper} {listed C : Nat} {l : List Nat} (h : coversB ops listed C l = true) :
    (∀ t, Nat.testBit listed t = true → Nat.testBit C t = true) ∧ ∀ (i : Nat) (o : Oper), ops[i]? = some o → Nat.testBit C i = true → Nat.testBit listed i = false → ∀ t, o.dst = some t → t ∈ l := by
  unfold coversB at h
  rw [Bool.and_eq_true] at h
  refine ⟨leM_iff.1 h.1, fun i o ho hc hl t ht => ?_⟩
  have hi := (Array.getElem?_eq_some_iff.1 ho).1
  have hm : o ∈ pickOps ops (C ^^^ listed) ops.size := by
    refine pickOps_mem hi ?_ ho
    rw [Nat.testBit_xor, hl, hc]
    rfl
  have := List.all_eq_true.1 h.2 o hm
  rw [ht] at this
  simp only at this
  obtain ⟨x, hx, he⟩ := List.any_eq_true.1 this
  have : x = t := Nat.eq_of_beq_eq_true he
  subst this
  exact hx

/-- The table as it is. -/
structure TabOk (ops : Array Oper) (T : Tab) : Prop where
  dep : T.dep = ops.toList.map depM
  conf : T.conf = (List.range ops.size).map (confM ops)
  needs : ∀ (i : Nat) (o : Oper), ops[i]? = some o → Nat.testBit T.needs i = needS ops o

theorem tabK_out {ops : Array Oper} {k : Tab → Prop} (h : tabK ops k) : ∃ T, TabOk ops T ∧ k T := by
  unfold tabK at h
  refine ⟨_, ⟨rfl, rfl, fun i o ho => ?_⟩, forceN_out (forceN_out (forceN_out (forceL_out (forceL_out (forceL_out (forceL_out h))))))⟩
  have hi := (Array.getElem?_eq_some_iff.1 ho).1
  simp only [testBit_maskW, hi, ho, decide_true, Bool.true_and]

theorem put_defers (a : Act) (dst : Option Tmp) (v : Value) : (a.put dst v).defers = a.defers := by cases dst <;> rfl

theorem trAny_sound {P : Program} {xp : XD} {n : Nat} {ty : List (Nat × Cp)} {out : Nat} {ops : Array Oper} {T : Tab} {S : World → Prop} {Q : Exit → Act → World → Prop} (hT : TabOk ops T) (hrg : inRange ops = true) (hsel : Region.noSelect ops = true) (hQ : ∀ c a a' w, a'.defers = a.defers → Q (.panic c) a w → Q (.panic c) a' w) (hX : ∀ X c a w, xp = some X → X a.defers c w → Q (.panic c) a w) :
    ∀ (g : Nat) (C : Nat) (K : Env → World → Prop) (kn : Bool) (listed : Nat) (e : Env) (a a0 : Act) (w : World) (M : Nat → Prop),
      (∀ (i : Nat) (o : Oper), ops[i]? = some o → Nat.testBit C i = true → Nat.testBit listed i = false → ∀ t, o.dst = some t → M (t + 1)) →
      (∀ (fuel : Nat) (e' : Env) (a' : Act) (w' : World), ops.size ≤ fuel + cnt (arrOf ops.size C) → Rep n e' a' → Agree M a0 a' → K e' w' → wpN P ops Q S fuel (arrOf ops.size C) a' w') →
      Rep n e a → Agree M a0 a → (kn = true → S w) → trAny P xp n ty out ops T S g C K kn listed e w → ∀ fuel, ops.size ≤ fuel + cnt (arrOf ops.size listed) → wpN P ops Q S fuel (arrOf ops.size listed) a w := by
  intro g
  induction g with
  | zero =>
    intro C K kn listed e a a0 w M hM hK hr ha hw h fuel hf
    unfold trAny at h
    split at h
    · rename_i he
      have : listed = C := Nat.eq_of_beq_eq_true he
      subst this
      exact hK fuel e a w hf hr ha h
    · exact h.elim
  | succ g ih =>
    intro C K kn listed e a a0 w M hM hK hr ha hw h fuel hf
    unfold trAny at h
    split at h
    · rename_i he
      have : listed = C := Nat.eq_of_beq_eq_true he
      subst this
      exact hK fuel e a w hf hr ha h
    · simp only at h
      rw [hT.dep, ← ready_eq hrg] at h
      split at h
      · exact h.elim
      · rename_i i0 rs hready
        -- there is fuel
        have hfs : ∃ f, fuel = f + 1 := by
          cases fuel with
          | succ f => exact ⟨f, rfl⟩
          | zero =>
            exfalso
            have hm : i0 ∈ Region.ready .any ops (arrOf ops.size listed) := by rw [hready]; exact List.mem_cons_self ..
            have h0 := (mem_ready.1 hm).1
            have h1 := cnt_set h0
            have h2 : cnt ((arrOf ops.size listed).setIfInBounds i0 true) ≤ ops.size := by
              have := List.countP_le_length (p := fun b : Bool => b) (l := ((arrOf ops.size listed).setIfInBounds i0 true).toList)
              simpa [cnt, arrOf_size] using this
            omega
        obtain ⟨fuel, rfl⟩ := hfs
        -- an operation has come up
        have up : ∀ {i : Nat} {o : Oper} {e' : Env} {kn' : Bool} {v : Value} {w' : World}, ops[i]? = some o → Nat.testBit C i = true → (arrOf ops.size listed).getD i true = false → dstOk n o.dst = true → Rep n e' a → (kn' = true → S w') →
            (forceN (listed ||| 2 ^ i) fun l1 => trAny P xp n ty out ops T S g C K kn' l1 (e'.put o.dst v) w') → wpN P ops Q S fuel ((arrOf ops.size listed).setIfInBounds i true) (a.put o.dst v) w' := by
          intro i o e' kn' v w' ho hC hun hd hr' hw' hv
          have hv := forceN_out hv
          have hc := cnt_set hun
          have hi := (Array.getElem?_eq_some_iff.1 ho).1
          rw [arrOf_getD, if_pos hi] at hun
          rw [arrOf_set hi] at hc ⊢
          refine ih C K kn' _ _ _ a0 w' M (fun k o' ho' hkC hk t ht => hM k o' ho' hkC ?_ t ht) hK (hr'.put hd v) (ha.put (hM i o ho hC hun) v) hw' hv fuel (by omega)
          rw [Nat.testBit_or, Bool.or_eq_false_iff] at hk
          exact hk.1
        split at h
        · rename_i s L D hcut
          have h := forceL_out (forceL_out (forceN_out h))
          split at h
          · exact h.elim
          · rename_i hcov
            rw [Bool.and_eq_true] at hcov
            have hsC := leM_iff.1 hcov.2
            obtain ⟨hsub, hcov⟩ := covers_out hcov.1
            let M' : Nat → Prop := fun t => ∃ (i : Nat) (o : Oper) (t0 : Nat), ops[i]? = some o ∧ Nat.testBit s i = true ∧ Nat.testBit listed i = false ∧ o.dst = some t0 ∧ t = t0 + 1
            have hM' : ∀ t, M' t → M t := by
              rintro t ⟨i, o, t0, ho, hs, hun, hd, rfl⟩
              exact hM i o ho (hsC i hs) hun t0 hd
            have h0 : ¬ M' 0 := by rintro ⟨_, _, _, _, _, _, _, h⟩; cases h
            have hb := h (fun vs w' => ((!leM T.loads s) = true → S w') → ∀ a', a'.defers = a.defers → a'.tmps.size = n → Agree M' a a' → L.map (getA a') = vs → ∀ fuel, ops.size ≤ fuel + cnt (arrOf ops.size s) → wpN P ops Q S fuel (arrOf ops.size s) a' w')
              (alCs_of fun vs w' hrest hS a' hd hs hag hvs => ?_)
            · refine ih s _ kn listed e a a w M' (fun i o ho hs hun t ht => ⟨i, o, t, ho, hs, hun, ht, rfl⟩) (fun fuel' e' a' w' hf hr' ha' hk => ?_) hr (Agree.refl _ _) hw hb _ hf
              obtain ⟨hS, hk⟩ := withS_out hk
              exact hk hS a' (ha'.d h0) hr'.size ha' (List.map_congr_left fun t _ => hr'.get t) fuel' hf
            · subst hvs
              have hrep : Rep n (mixed e L D (L.map (getA a')) (getA a')) a' := hr.mixed hs hd (fun t ht h1 h2 => hag.get t fun ⟨i, o, t0, ho, hs, hun, hd, he⟩ => by
                have : t = t0 := by omega
                subst this
                rcases List.mem_append.1 (hcov i o ho hs hun t hd) with h | h
                · exact h1 h
                · exact h2 h)
              refine ih C K _ s _ a' a0 w' M (fun i o ho hC hun t ht => ?_) hK hrep (ha.trans hag hM') hS (hrest _)
              refine hM i o ho hC ?_ t ht
              cases hl : Nat.testBit listed i with
              | false => rfl
              | true => have := hsub i hl; rw [hun] at this; cases this
        · split at h
          · rename_i i htake
            obtain ⟨hmem, o, ho, hle, hquiet⟩ := takeM_out htake
            rw [hT.conf] at hle
            have hfree := free_of ho hquiet hle
            have hrd : i ∈ Region.ready .any ops (arrOf ops.size listed) := by rw [hready]; exact hmem
            have hun : (arrOf ops.size listed).getD i true = false := (mem_ready.1 hrd).1
            have hqt : quiet ops i := ⟨o, ho, hquiet⟩
            rw [ho] at h
            simp only at h
            split at h
            · exact h.elim
            · rename_i hd
              rw [Bool.and_eq_true] at hd
              have hC := hd.2
              have hd := hd.1
              obtain ⟨e', hr', h⟩ := guard_out hr h
              have pureCase : ∀ v, YieldsIf P ops (fun _ => True) o v a → (forceN (listed ||| 2 ^ i) fun l1 => trAny P xp n ty out ops T S g C K kn l1 (e'.put o.dst v) w) → wpN P ops Q S (fuel + 1) (arrOf ops.size listed) a w := by
                intro v hy hv
                exact wpN_first (T := fun _ => True) ho hqt hsel (fun c a' w' hq => hQ c _ _ _ (put_defers a' o.dst v).symm hq) (fun _ _ _ _ _ _ _ _ => trivial) fuel _ a w hfree hrd hy trivial (up ho hC hun hd hr' hw hv)
              rcases h with ⟨hwt, h⟩ | ⟨hwt, h⟩
              · split at h
                · obtain ⟨v, hv, hrun⟩ := pureK_sound (o := o) h
                  exact pureCase v (.inl ⟨hwt, fun w' _ => by rw [hr'.ev]; exact hrun w'⟩) hv
                · split at h
                  · rename_i hl
                    obtain ⟨hS, h⟩ := withS_out h
                    have hSw : S w := by
                      cases kn with
                      | true => exact hw rfl
                      | false => exact hS rfl
                    obtain ⟨v, hv, hrun⟩ := ldSK_sound (o := o) h
                    refine wpN_first (T := S) ho hqt hsel (fun c a' w' hq => hQ c _ _ _ (put_defers a' o.dst v).symm hq) (fun j oj hj hno w w' hT hB => ?_) fuel _ a w hfree hrd (.inl ⟨hwt, fun w' hw' => by rw [hr'.ev]; exact hrun w' hw'⟩) hSw
                      (up ho hC hun hd hr' (fun _ => hSw) hv)
                    by_cases hqj : quiet ops j
                    · rw [hB.1 hqj]; exact hT
                    · exact hB.2 hqj (asks_of hj ho hl hno)
                  · exact h.elim
              · exact pureCase undef (.inr ⟨hwt, rfl⟩) h
          · refine ⟨fun h0 => (by rw [hready] at h0; cases h0), fun i hi => ?_⟩
            have hrd := hi
            rw [hready] at hi
            have hun : (arrOf ops.size listed).getD i true = false := (mem_ready.1 hrd).1
            have hall := allR_out h i hi
            split at hall
            · exact hall.elim
            · rename_i o ho
              split at hall
              · exact hall.elim
              · rename_i hdd
                simp only [Bool.and_eq_true, Bool.not_eq_true', Bool.or_eq_false_iff] at hdd
                have hd := hdd.1.1
                have hC := hdd.1.2
                have hnq : ¬ quiet ops i := by
                  rintro ⟨o', ho', hh⟩
                  rw [ho] at ho'; cases ho'
                  rcases hh with hh | hh
                  · rw [hdd.2.1] at hh; cases hh
                  · rw [hdd.2.2] at hh; cases hh
                rw [hT.needs i o ho] at hall
                obtain ⟨e', hr', hg⟩ := guard_out hr hall
                have fin : ∀ v w', withS (needS ops o) S w' (forceN (listed ||| 2 ^ i) fun l1 => trAny P xp n ty out ops T S g C K (needS ops o) l1 (e'.put o.dst v) w') → Behind ops S i w w' ∧ wpN P ops Q S fuel ((arrOf ops.size listed).setIfInBounds i true) (a.put o.dst v) w' := by
                  intro v w' hh
                  obtain ⟨h1, h2⟩ := withS_out hh
                  refine ⟨⟨fun hq => absurd hq hnq, fun _ hask => ?_⟩, up ho hC hun hd hr' h1 h2⟩
                  obtain ⟨o', ho', hn⟩ := hask
                  rw [ho] at ho'; cases ho'
                  exact h1 hn
                unfold wpOp
                simp only [ho]
                rcases hg with ⟨hwt, hg⟩ | ⟨hwt, hg⟩
                · rw [if_pos hwt]
                  rw [← hr'.ev] at hg
                  exact .inl (oper_wp (fun X ch w' hx hp => by
                    obtain ⟨Y, hy, rfl⟩ := atD_out hx
                    exact hX Y _ _ _ hy (by rw [hr'.d]; exact hp)) hg fun v w' hk => fin v w' hk)
                · rw [if_neg (by simp [hwt])]
                  exact fin undef w hg

theorem noDefer_out {ops : Array Oper} (h : noDefer ops = true) {i : Nat} {o : Oper} (ho : ops[i]? = some o) : ∀ c, o.op ≠ .defer c := by
  intro c hc
  unfold noDefer at h
  rw [List.all_eq_true] at h
  have := h o (by simpa using Array.mem_of_getElem? ho)
  rw [hc] at this
  simp at this

theorem rowsIn_of {r : Option Nat} {P : Program} {row : String} {args : Array Value} {w : World} {R : Value → World → Prop} (h : Rows P row args w R) : RowsIn (Fc r) 0 P row args w R :=
  fun c cs _ => let ⟨v, w', q, s⟩ := h c cs; ⟨v, w', q, stepsIn_wide.2 s⟩

theorem wpOp_in {r : Option Nat} {P : Program} {ops : Array Oper} {Q : Exit → Act → World → Prop} (hd : noDefer ops = true) (hQ : ¬ LetsOut Q) {i : Nat} {K K' : Act → World → Prop} {a : Act} {w : World}
    (hK : ∀ a w, K a w → K' a w) (h : wpOp P ops Q i K a w) : wpOpIn (Fc r) 0 P ops Q i K' a w := by
  unfold wpOp at h
  unfold wpOpIn
  split
  · rename_i ho
    simp only [ho] at h
    exact hK _ _ h
  · rename_i o ho
    simp only [ho] at h
    split
    · rename_i hw
      simp only [hw, if_true] at h
      have h := h.resolve_right fun hx => hQ hx.2
      refine ⟨fun f _ => trivial, ?_⟩
      unfold Oper.wp at h
      rw [show (Fc r).round = r from rfl, Oper.semAt_eq r a.eval o (noDefer_out hd ho)]
      generalize (execOp a.eval o).run P w = res at h ⊢
      cases res with
      | halt x w' => cases x <;> simp only [Oper.upon] at h <;> first | exact h.elim | exact h
      | ok x w' =>
        cases x <;> simp only [Oper.upon] at h <;> first | exact h.elim | skip
        case value v => exact hK _ _ h
        case skip => exact hK _ _ h
        case defer d => exact hK _ _ h
        case enter f args =>
          refine ⟨fun h => by simp [Fc, Fence.wide] at h, callsIn_of (h.mono ?_)⟩
          intro e w'' he
          cases e with
          | returned v => exact hK _ _ he
          | panicked c => exact he
          | outgrown => exact he
        case row row args =>
          exact ⟨fun h => by simp [Fc, Fence.wide] at h, rowsIn_of (h.mono fun v w'' he => hK _ _ he)⟩
    · rename_i hw
      simp only [hw] at h
      exact ⟨fun f _ => trivial, hK _ _ h⟩

theorem wpAny_in {r : Option Nat} {P : Program} {ops : Array Oper} {Q : Exit → Act → World → Prop} (hd : noDefer ops = true) (hQ : ¬ LetsOut Q) :
    ∀ (fuel : Nat) (listed : Array Bool) (a : Act) (w : World), wpAny P .any ops Q fuel listed a w → wpAnyIn (Fc r) 0 P .any ops Q fuel listed a w
  | 0, listed, a, w, h => h
  | fuel + 1, listed, a, w, h => ⟨h.1, fun i hi => wpOp_in hd hQ (fun a w hk => wpAny_in hd hQ fuel _ a w hk) (h.2 i hi)⟩

theorem regQ_out {xp : XD} {n : Nat} {M : Nat → Prop} {a0 : Act} {K : Env → World → Prop} : ¬ LetsOut (regQ xp n M a0 K) := fun ⟨_, _, h⟩ => h

theorem full_ready {ops : Array Oper} : Region.ready .any ops (Array.replicate ops.size true) = [] := by
  unfold Region.ready
  rw [List.filter_eq_nil_iff]
  intro i hi
  have hlt := List.mem_range.1 hi
  simp [Array.getD_eq_getD_getElem?, hlt]

theorem trDraw_sound {r : Option Nat} {P : Program} {xp : XD} {n id : Nat} {ty : List (Nat × Cp)} {out : Nat} {ops : Array Oper} {M : Nat → Prop} {a0 : Act} {K : Env → World → Prop} {e : Env} {a : Act} {w : World}
    (hM : ∀ (i : Nat) (o : Oper), ops[i]? = some o → ∀ t, o.dst = some t → M (t + 1)) (hr : Rep n e a) (ha : Agree M a0 a) (h : trDraw P xp n ty out ops K e w) :
    (Code.region id ops true).wpIn (Fc r) 0 P (regQ xp n M a0 K) a w := by
  unfold trDraw at h
  split at h
  · exact h.elim
  · rename_i hb
    simp only [Bool.and_eq_true] at hb
    obtain ⟨T, hT, h⟩ := tabK_out (h _ rfl)
    have h := forceN_out (forceN_out h)
    have go : ∀ S : World → Prop, S w.drew → trAny P xp n ty out ops T S (ops.size + ops.size) (2 ^ ops.size - 1) K true 0 e w.drew → (Code.region id ops true).wpIn (Fc r) 0 P (regQ xp n M a0 K) a w := by
      intro S hS h
      have := trAny_sound (Q := regQ xp n M a0 K) hT hb.2 hb.1.1.2 (fun c a a' w hd h => by obtain ⟨X, hx, h⟩ := h; exact ⟨X, hx, by rw [hd]; exact h⟩) (fun X c a w hx h => ⟨X, hx, h⟩) _ _ _ true _ _ _ a0 _ M (fun i o ho _ _ => hM i o ho) (fun fuel' e' a' w' _ hr' ha' hk => by rw [arrOf_full]; exact wpN_done full_ready ⟨e', hr', ha', hk⟩ fuel') hr ha (fun _ => hS) h ops.size (by omega)
      rw [arrOf_none] at this
      exact wpIn_region_any hb.1.1.1 (wpAny_in hb.1.2 regQ_out _ _ _ _ (wpN_any _ _ _ _ this))
    split at h
    · obtain ⟨S, hS, h⟩ := h
      exact go S hS h
    · exact go _ trivial h


theorem mem_slotsOf {m l : Nat} {b : Bool} {t : Nat} : ∀ {n : Nat}, t ∈ slotsOf m l b n ↔ t < n ∧ Nat.testBit m (t + 1) = true ∧ Nat.testBit l t = b
  | 0 => by simp [slotsOf]
  | k + 1 => by
    have ih := mem_slotsOf (m := m) (l := l) (b := b) (t := t) (n := k)
    simp only [slotsOf]
    split
    · rename_i h
      simp only [Bool.and_eq_true, beq_iff_eq] at h
      rw [List.mem_append, ih, List.mem_singleton]
      constructor
      · rintro (⟨h1, h2, h3⟩ | rfl)
        · exact ⟨by omega, h2, h3⟩
        · exact ⟨by omega, h.1, h.2⟩
      · rintro ⟨h1, h2, h3⟩
        by_cases e : t = k
        · exact .inr e
        · exact .inl ⟨by omega, h2, h3⟩
    · rename_i h
      rw [ih]
      constructor
      · rintro ⟨h1, h2, h3⟩; exact ⟨by omega, h2, h3⟩
      · rintro ⟨h1, h2, h3⟩
        refine ⟨?_, h2, h3⟩
        by_cases e : t = k
        · subst e; rw [h2, h3] at h; simp at h
        · omega

theorem opsM_bit {o : Oper} {t : Tmp} (h : o.dst = some t) : ∀ {l : List Oper}, o ∈ l → Nat.testBit (opsM l) (t + 1) = true
  | [], hm => by cases hm
  | x :: r, hm => by
    simp only [opsM, Nat.testBit_or, Bool.or_eq_true]
    cases hm with
    | head => left; simp [h, dstM]
    | tail _ h' => right; exact opsM_bit h h'

theorem bit_or_l {a b t : Nat} (h : bitM a t) : bitM (a ||| b) t := by simp [bitM, Nat.testBit_or] at *; exact .inl h
theorem bit_or_r {a b t : Nat} (h : bitM b t) : bitM (a ||| b) t := by simp [bitM, Nat.testBit_or] at *; exact .inr h

theorem agree_of {M : Nat → Prop} {m : Nat} {a0 a a' : Act} (h : Agree M a0 a) (h' : Agree (bitM m) a a') (hM : ∀ t, bitM m t → M t) : Agree M a0 a' := h.trans h' hM

theorem exists_least (p : Nat → Prop) (h : ∃ n, p n) : ∃ n, p n ∧ ∀ m, p m → n ≤ m := by
  obtain ⟨n, hn⟩ := h
  induction n using Nat.strongRecOn with
  | _ n ih =>
    by_cases hh : ∃ m, m < n ∧ p m
    · obtain ⟨m, hm, hp⟩ := hh; exact ih m hm hp
    · exact ⟨n, hn, fun m hp => Nat.le_of_not_lt fun hlt => hh ⟨m, hlt, hp⟩⟩

theorem reg_up {xp : XD} {n : Nat} {M : Nat → Prop} {a0 : Act} {Q : Ex → Env → World → Prop} : ∀ (x : Exit) (a : Act) (w : World), regQ xp n M a0 (fun e w => Q .normal e w) x a w → upQ xp n M a0 Q x a w := by
  intro x a w h
  cases x <;> first | exact h | exact h.elim

theorem alCs_len : ∀ {l : List Cp} {K : List Value → Prop}, (∀ vs, vs.length = l.length → K vs) → alCs l K
  | [], K, h => h [] rfl
  | s :: r, K, h => by
    unfold alCs
    exact alC_of fun v => alCs_len fun vs hvs => h (v :: vs) (by simp [hvs])

theorem putAll_get : ∀ (l : List (Nat × Value)) (e : List (Nat × Value)) (tmps : Array Value) (n : Nat), tmps.size = n → (∀ p ∈ l, p.1 < n) → (∀ t, tmps.getD t undef = look e t) →
    (l.foldl (fun t p => t.setIfInBounds p.1 p.2) tmps).size = n ∧ ∀ t, (l.foldl (fun t p => t.setIfInBounds p.1 p.2) tmps).getD t undef = look (putAll e l) t
  | [], e, tmps, n, hs, hl, h => ⟨hs, h⟩
  | p :: r, e, tmps, n, hs, hl, h => by
    simp only [List.foldl_cons, putAll]
    refine putAll_get r (p :: e) _ n (by simp [hs]) (fun q hq => hl q (List.mem_cons_of_mem _ hq)) fun t => ?_
    obtain ⟨s, v⟩ := p
    have hsn : s < n := hl (s, v) (List.mem_cons_self ..)
    simp only [look]
    by_cases hst : s = t
    · subst hst
      rw [beq_yes]
      simp [Array.getD_eq_getD_getElem?, hs, hsn]
    · rw [beq_no hst, ← h t]
      simp [Array.getD_eq_getD_getElem?, Array.getElem?_setIfInBounds_ne hst]

theorem foldl_zip_eq (ps : Array Tmp) (vs : List Value) (tmps : Array Value) :
    ((ps.zip vs.toArray).foldl (fun tmps (t, a) => tmps.setIfInBounds t a) tmps) = (ps.toList.zip vs).foldl (fun t p => t.setIfInBounds p.1 p.2) tmps := by
  rw [← Array.foldl_toList]
  simp

/-- What tr_sound says of one code. -/
def Sound (x : Code) (c : Cx) : Prop :=
  ∀ (r : Option Nat) (hr0 : c.rnd = false → r = none) (out : Nat) (ex : List (Nat × Nat)) (Q : Ex → Env → World → Prop) (e : Env) (a a0 : Act) (w : World) (M : Nat → Prop),
    (∀ t, bitM (modM x) t → M t) → Rep c.n e a → Agree M a0 a → tr c x out ex Q e w → x.wpIn (Fc r) 0 c.P (upQ c.xp c.n M a0 Q) a w

theorem end_sound {P : Program} {l : Nat} {rec : LoopState → Option Code → Obj} {mk : LoopState → Option Code → Loop} (hrec : ∀ s p, rec s p = .loop (mk s p)) (hmk : ∀ s p s' p', { mk s p with state := s', pending := p' } = mk s' p')
    {j : Option Code} {w : World} {R : Ending → World → Prop} (h : EndK l rec j w R) : ∃ v w', (Instr.endRound l j).run P w = .ok v w' ∧ R (.returned v) w' := by
  cases j with
  | none =>
    obtain ⟨h1, h2⟩ := h
    rw [hrec] at h1
    have := run_endRound (P := P) none h1
    refine ⟨_, _, this, ?_⟩
    simp only [Option.isNone_none, if_true]
    rw [hmk]
    exact h2 _ (by rw [hrec])
  | some x =>
    obtain ⟨h1, h2⟩ := h
    rw [hrec] at h1
    have := run_endRound (P := P) (some x) h1
    refine ⟨_, _, this, ?_⟩
    simp only [Option.isNone_some, Bool.false_eq_true, if_false]
    rw [hmk]
    exact h2 _ (by rw [hrec])

theorem assocP_out : ∀ {x : List (Nat × Prop)} {id : Nat}, assocP x id → ∃ p, (id, p) ∈ x ∧ p
  | [], id, h => h.elim
  | (i, p) :: r, id, h => by
    simp only [assocP] at h
    by_cases e : i = id
    · subst e; rw [beq_yes] at h; exact ⟨p, List.mem_cons_self .., h⟩
    · rw [beq_no e] at h
      obtain ⟨q, hq, hp⟩ := assocP_out h
      exact ⟨q, List.mem_cons_of_mem _ hq, hp⟩

theorem range_sound {g : Operand} {ps : Array Tmp} {x y : Code} {c : Cx} (hx : Sound x ⟨c.P, c.n, c.ty, 0, true, none⟩) (hy : Sound y ⟨c.P, c.n, c.ty, 0, true, none⟩) (hps : ∀ t ∈ ps.toList, t < c.n)
    {Q : Ex → Env → World → Prop} {e : Env} {a a0 : Act} {w : World} {M : Nat → Prop} (hM : M 0) (hr : Rep c.n e a) (ha : Agree M a0 a)
    (h : RangeK c.P (ps.toList.map (cpOfSlot c)) (e.ev g) w
        (fun l rec vs w1 R => tr ⟨c.P, c.n, c.ty, 0, true, none⟩ x (2 ^ c.n - 1) [] (fun x e1 w1 => match x with
          | .normal => w1.heap[l]? = some (rec .ready none) ∧ ∀ w2, w2 = w1.putObj l (rec .busy none) → tr ⟨c.P, c.n, c.ty, 0, true, none⟩ y 0 [] (fun x _ w3 => match x with
            | .normal => EndK l rec none w3 R
            | .ret => EndK l rec (some .ret) w3 R
            | .exit id => EndK l rec (some (.exit id)) w3 R) e1 w2
          | _ => False) ⟨putAll e.l (ps.toList.zip vs), []⟩ w1)
        (fun j D w3 => JumpK j (Q .normal ⟨e.l, ⟨.collected D, #[]⟩ :: e.d⟩ w3)
          (match retsB y with | true => Q .ret ⟨e.l, ⟨.collected D, #[]⟩ :: e.d⟩ w3 | false => False)
          ((uniq (exitIds y)).map fun id => (id, Q (.exit id) ⟨e.l, ⟨.collected D, #[]⟩ :: e.d⟩ w3)))) :
    (Code.rangeFunc g ps x y).wpIn (Fc none) 0 c.P (upQ c.xp c.n M a0 Q) a w := by
  refine wpIn_rangeFunc fun fn _ => ?_
  let mk : LoopState → Option Code → Loop := fun st pe => { state := st, pending := pe, fn, tmps := a.tmps, params := ps, assign := x, body := y, defers := w.heap.size }
  let rcd : LoopState → Option Code → Obj := fun st pe => .loop (mk st pe)
  have hev : a.eval g = e.ev g := by rw [hr.ev]
  -- the rounds
  have hround : alCs (ps.toList.map (cpOfSlot c)) fun vs => ∀ w2 R, w2.heap[w.heap.size + 1]? = some (rcd .ready none) →
      (fun l rec vs w1 R => tr ⟨c.P, c.n, c.ty, 0, true, none⟩ x (2 ^ c.n - 1) [] (fun x e1 w1 => match x with
          | .normal => w1.heap[l]? = some (rcd .ready none) ∧ ∀ w2, w2 = w1.putObj l (rcd .busy none) → tr ⟨c.P, c.n, c.ty, 0, true, none⟩ y 0 [] (fun x _ w3 => match x with
            | .normal => EndK l rec none w3 R
            | .ret => EndK l rec (some .ret) w3 R
            | .exit id => EndK l rec (some (.exit id)) w3 R) e1 w2
          | _ => False) ⟨putAll e.l (ps.toList.zip vs), []⟩ w1) (w.heap.size + 1) rcd vs w2 R → RoundK c.P (w.heap.size + 1) vs.toArray w2 R := by
    refine alCs_len fun vs hvs w2 R hrd hbody => ?_
    have hvs : vs.length = ps.size := by simpa using hvs
    refine ⟨fn, _, x, y, run_yield (P := c.P) (args := vs.toArray) (r := mk .ready none) hrd (by simp [mk, hvs]), ?_⟩
    have hput := putAll_get (ps.toList.zip vs) e.l a.tmps c.n hr.size (fun p hp => hps p.1 (List.of_mem_zip hp).1) hr.get
    refine roundIn_of_wpIn trivial ?_
    show x.wpIn (Fc (some (w.heap.size + 1))) 0 c.P _ ⟨((ps.zip vs.toArray).foldl (fun tmps (t, a) => tmps.setIfInBounds t a) a.tmps), []⟩ w2
    rw [foldl_zip_eq]
    let a1 : Act := ⟨(ps.toList.zip vs).foldl (fun t p => t.setIfInBounds p.1 p.2) a.tmps, []⟩
    have hrep : Rep c.n ⟨putAll e.l (ps.toList.zip vs), []⟩ a1 := ⟨rfl, hput.1, hput.2⟩
    refine wpIn_mono (hx (some (w.heap.size + 1)) (fun h => by cases h) _ [] _ _ a1 a1 w2 (fun _ => True) (fun _ _ => trivial) hrep (Agree.refl _ _) hbody) ?_
    intro z a2 w3 hz
    cases z <;> simp only [upQ] at hz <;> first | exact hz.elim | skip
    case panic ch => obtain ⟨X, hx, _⟩ := hz; cases hx
    case normal =>
      obtain ⟨e1, hr1, _, hl, hz⟩ := hz
      refine ⟨_, run_beginRound (P := c.P) (r := mk .ready none) hl rfl, ?_⟩
      refine wpIn_mono (hy (some (w.heap.size + 1)) (fun h => by cases h) _ [] _ e1 a2 a2 _ (fun _ => True) (fun _ _ => trivial) hr1 (Agree.refl _ _) (hz _ rfl)) ?_
      intro z a3 w4 hz
      cases z <;> simp only [upQ] at hz <;> first | exact hz.elim | skip
      case panic ch => obtain ⟨X, hx, _⟩ := hz; cases hx
      case normal =>
        obtain ⟨_, _, _, hz⟩ := hz
        exact end_sound (mk := mk) (fun _ _ => rfl) (fun _ _ _ _ => rfl) hz
      case ret =>
        obtain ⟨_, _, _, hz⟩ := hz
        exact end_sound (mk := mk) (fun _ _ => rfl) (fun _ _ _ _ => rfl) hz
      case exit id =>
        obtain ⟨_, _, _, hz⟩ := hz
        exact end_sound (mk := mk) (fun _ _ => rfl) (fun _ _ _ _ => rfl) hz
    case ret => obtain ⟨_, _, _, hz⟩ := hz; exact hz.elim
    case exit id => obtain ⟨_, _, _, hz⟩ := hz; exact hz.elim
  have hcall := h w.heap.size (w.heap.size + 1) rcd _ rfl rfl rfl hround
  unfold FnK at hcall
  split at hcall
  · rename_i gf first capt hg
    split at hcall
    · rename_i hc
      unfold callableB at hc
      split at hc
      · rename_i fn1 hfn
        have hc1 : (fn1.name == "runtime.NumGoroutine") = false := by cases h1 : (fn1.name == "runtime.NumGoroutine") <;> simp_all
        have hc2 : fn1.body.isNone = false := by cases h1 : fn1.body.isNone <;> simp_all
        refine ⟨w.heap.size + 1, [{ target := .collected w.heap.size, args := #[] }], (w.alloc (.deferred (some []))).alloc (rcd .ready none),
          { target := .fn (.func gf) capt, args := first ++ #[.func (.yield (w.heap.size + 1)) #[] #[]] }, (w.alloc (.deferred (some []))).alloc (rcd .ready none), gf, first ++ #[.func (.yield (w.heap.size + 1)) #[] #[]] ++ capt, (w.alloc (.deferred (some []))).alloc (rcd .ready none), ?_, ?_, ?_, ?_, fun h => by simp [Fc, Fence.wide] at h, ?_⟩
        · exact run_enterLoop_outer _ _ _ _ _
        · simp only [resolve, hev, hg, Deferred.ofValue, Sem.run_pure]
          simp [Act.eval]
        · intro f' _; exact trivial
        · simp only [invoke, callFunc, program, Sem.run_bind, Sem.run, hfn, Result.andThen]
          simp [hc1, hc2]
        · refine (callsIn_of (r := none) hcall).mono ?_
          rintro en w2 ⟨v, rfl, j, hl, hK⟩
          have hend := run_endLoop (P := c.P) (r := mk (stOf j) j) hl (by cases j <;> simp [mk, stOf])
          refine ⟨j, _, hend, ?_⟩
          have hK := hK _ rfl
          have hrep : Rep c.n ⟨e.l, ⟨.collected w.heap.size, #[]⟩ :: e.d⟩ { a with defers := [{ target := .collected w.heap.size, args := #[] }] ++ a.defers } := ⟨by rw [← hr.d]; rfl, hr.size, hr.get⟩
          have hag : Agree M a0 { a with defers := [{ target := .collected w.heap.size, args := #[] }] ++ a.defers } := ⟨fun h => absurd hM h, ha.get⟩
          cases j with
          | none => exact ⟨_, hrep, hag, hK⟩
          | some cd =>
            cases cd <;> simp only [JumpK] at hK <;> first | exact hK.elim | skip
            case ret =>
              split at hK
              · exact wpIn_ret ⟨_, hrep, hag, hK⟩
              · exact hK.elim
            case exit id =>
              obtain ⟨p, hp, hq⟩ := assocP_out hK
              obtain ⟨id', _, he⟩ := List.mem_map.1 hp
              cases he
              exact wpIn_exit ⟨_, hrep, hag, hq⟩
      · exact absurd hc (by decide)
    · exact hcall.elim
  · rename_i l first capt hg
    exact hcall.elim
  · exact hcall.elim

theorem tr_sound : ∀ (x : Code) (c : Cx) (r : Option Nat) (hr0 : c.rnd = false → r = none) (out : Nat) (ex : List (Nat × Nat)) (Q : Ex → Env → World → Prop) (e : Env) (a a0 : Act) (w : World) (M : Nat → Prop),
    (∀ t, bitM (modM x) t → M t) → Rep c.n e a → Agree M a0 a → tr c x out ex Q e w → x.wpIn (Fc r) 0 c.P (upQ c.xp c.n M a0 Q) a w
  | .skip, c, r, hr0, out, ex, Q, e, a, a0, w, M, hM, hr, ha, h => wpIn_skip ⟨e, hr, ha, h⟩
  | .label _, c, r, hr0, out, ex, Q, e, a, a0, w, M, hM, hr, ha, h => wpIn_label ⟨e, hr, ha, h⟩
  | .exit id, c, r, hr0, out, ex, Q, e, a, a0, w, M, hM, hr, ha, h => wpIn_exit ⟨e, hr, ha, h⟩
  | .ret, c, r, hr0, out, ex, Q, e, a, a0, w, M, hM, hr, ha, h => wpIn_ret ⟨e, hr, ha, h⟩
  | .region id ops false, c, r, hr0, out, ex, Q, e, a, a0, w, M, hM, hr, ha, h => by
    simp only [tr] at h
    exact wpIn_mono (wpIn_region_list (trOps_sound ops.toList e a w (fun o ho t ht => hM _ (opsM_bit ht ho)) hr ha h)) reg_up
  | .region id ops true, c, r, hr0, out, ex, Q, e, a, a0, w, M, hM, hr, ha, h => by
    simp only [tr] at h
    have h1 := trDraw_sound (r := r) (id := id) (M := M) (a0 := a0) (fun i o ho t ht => hM _ (opsM_bit ht (by simpa using Array.mem_of_getElem? ho))) hr ha h
    exact wpIn_mono h1 reg_up
  | .cond x p q, c, r, hr0, out, ex, Q, e, a, a0, w, M, hM, hr, ha, h => by
    simp only [tr] at h
    split at h
    · rename_i t ht
      have he : a.eval x = .bool t := by rw [hr.ev]; exact ht
      refine wpIn_cond he ?_
      rcases split_out h with ⟨e1, h⟩ | ⟨e1, h⟩
      · subst e1; exact tr_sound p c r hr0 out ex Q e a a0 w M (fun t ht => hM t (bit_or_l ht)) hr ha h
      · subst e1; exact tr_sound q c r hr0 out ex Q e a a0 w M (fun t ht => hM t (bit_or_r ht)) hr ha h
    · exact h.elim
  | .block id p, c, r, hr0, out, ex, Q, e, a, a0, w, M, hM, hr, ha, h => by
    simp only [tr] at h
    refine wpIn_block (wpIn_mono (tr_sound p c r hr0 out _ _ e a a0 w M hM hr ha h) ?_)
    intro x a' w' hx
    cases x <;> simp only [upQ] at hx <;> first | exact hx.elim | skip
    case panic ch => exact hx
    case normal => exact hx
    case ret => exact hx
    case exit id' =>
      obtain ⟨e', hr', ha', hq⟩ := hx
      simp only [Exit.inBlock]
      by_cases hid : id' = id
      · subst hid
        rw [beq_yes] at hq
        rw [if_pos rfl]
        exact ⟨e', hr', ha', hq⟩
      · rw [beq_no hid] at hq
        rw [if_neg hid]
        exact ⟨e', hr', ha', hq⟩
  | .seq p q, c, r, hr0, out, ex, Q, e, a, a0, w, M, hM, hr, ha, h => by
    simp only [tr] at h
    split at h
    · refine wpIn_seq (wpIn_mono (tr_sound p c r hr0 _ ex _ e a a0 w M (fun t ht => hM t (bit_or_l ht)) hr ha h) ?_)
      intro x a' w' hx
      cases x <;> simp only [upQ] at hx <;> first | exact hx.elim | skip
      case panic ch => exact hx
      case normal =>
        obtain ⟨e', hr', ha', hq⟩ := hx
        exact tr_sound q c r hr0 out ex Q e' a' a0 w' M (fun t ht => hM t (bit_or_r ht)) hr' ha' hq
      case ret => exact hx
      case exit id' => exact hx
    · split at h
      · have h := forceL_out (forceL_out h)
        generalize hL : slotsOf (modM p) (liveIn (2 ^ c.n - 1) c.ret q out ex) true c.n = L at h
        generalize hD : slotsOf (modM p) (liveIn (2 ^ c.n - 1) c.ret q out ex) false c.n = D at h
        have hmem : ∀ t, t < c.n → t ∉ L → t ∉ D → ¬ bitM (modM p) (t + 1) := by
          intro t ht h1 h2 hb
          rw [← hL, mem_slotsOf] at h1
          rw [← hD, mem_slotsOf] at h2
          cases hl : Nat.testBit (liveIn (2 ^ c.n - 1) c.ret q out ex) t with
          | true => exact h1 ⟨ht, hb, hl⟩
          | false => exact h2 ⟨ht, hb, hl⟩
        have hb := h (fun vs ds w' => ∀ a', a'.defers = ds → a'.tmps.size = c.n → Agree (bitM (modM p)) a a' → L.map (getA a') = vs → q.wpIn (Fc r) 0 c.P (upQ c.xp c.n M a0 Q) a' w') (alCs_of fun vs ds w' hrest => ?_)
        · refine wpIn_seq (wpIn_mono (tr_sound p c r hr0 _ ex _ e a a w (bitM (modM p)) (fun t ht => ht) hr (Agree.refl _ _) hb) ?_)
          intro x a' w' hx
          cases x <;> simp only [upQ] at hx <;> first | exact hx.elim | skip
          case panic ch => exact hx
          case normal =>
            obtain ⟨e', hr', ha', hq⟩ := hx
            refine hq a' hr'.d hr'.size ha' ?_
            apply List.map_congr_left
            intro t _
            exact hr'.get t
          case ret =>
            obtain ⟨e', hr', ha', hq⟩ := hx
            exact ⟨e', hr', agree_of ha ha' (fun t ht => hM t (bit_or_l ht)), hq⟩
          case exit id' =>
            obtain ⟨e', hr', ha', hq⟩ := hx
            exact ⟨e', hr', agree_of ha ha' (fun t ht => hM t (bit_or_l ht)), hq⟩
        · intro a' hd hs hag hvs
          subst hvs
          have hrep : Rep c.n ⟨(mixed e L D (L.map (getA a')) (getA a')).l, ds⟩ a' :=
            ⟨hd, hs, (Rep.mixed (e := ⟨e.l, a'.defers⟩) (a := { a with defers := a'.defers }) (a' := a') (L := L) (D := D) ⟨rfl, hr.size, hr.get⟩ hs rfl (fun t ht h1 h2 => hag.get t (hmem t ht h1 h2))).get⟩
          exact tr_sound q c r hr0 out ex Q _ a' a0 w' M (fun t ht => hM t (bit_or_r ht)) hrep (agree_of ha hag (fun t ht => hM t (bit_or_l ht))) (hrest _)
      · rename_i h0
        have h0' : ¬ bitM (modM p) 0 := by simp [bitM, h0]
        have h := forceL_out (forceL_out h)
        generalize hL : slotsOf (modM p) (liveIn (2 ^ c.n - 1) c.ret q out ex) true c.n = L at h
        generalize hD : slotsOf (modM p) (liveIn (2 ^ c.n - 1) c.ret q out ex) false c.n = D at h
        have hmem : ∀ t, t < c.n → t ∉ L → t ∉ D → ¬ bitM (modM p) (t + 1) := by
          intro t ht h1 h2 hb
          rw [← hL, mem_slotsOf] at h1
          rw [← hD, mem_slotsOf] at h2
          cases hl : Nat.testBit (liveIn (2 ^ c.n - 1) c.ret q out ex) t with
          | true => exact h1 ⟨ht, hb, hl⟩
          | false => exact h2 ⟨ht, hb, hl⟩
        have hb := h (fun vs w' => ∀ a', a'.defers = a.defers → a'.tmps.size = c.n → Agree (bitM (modM p)) a a' → L.map (getA a') = vs → q.wpIn (Fc r) 0 c.P (upQ c.xp c.n M a0 Q) a' w') (alCs_of fun vs w' hrest => ?_)
        · refine wpIn_seq (wpIn_mono (tr_sound p c r hr0 _ ex _ e a a w (bitM (modM p)) (fun t ht => ht) hr (Agree.refl _ _) hb) ?_)
          intro x a' w' hx
          cases x <;> simp only [upQ] at hx <;> first | exact hx.elim | skip
          case panic ch => exact hx
          case normal =>
            obtain ⟨e', hr', ha', hq⟩ := hx
            refine hq a' (ha'.d h0') hr'.size ha' ?_
            apply List.map_congr_left
            intro t _
            exact hr'.get t
          case ret =>
            obtain ⟨e', hr', ha', hq⟩ := hx
            exact ⟨e', hr', agree_of ha ha' (fun t ht => hM t (bit_or_l ht)), hq⟩
          case exit id' =>
            obtain ⟨e', hr', ha', hq⟩ := hx
            exact ⟨e', hr', agree_of ha ha' (fun t ht => hM t (bit_or_l ht)), hq⟩
        · intro a' hd hs hag hvs
          subst hvs
          have hrep : Rep c.n (mixed e L D (L.map (getA a')) (getA a')) a' := hr.mixed hs hd (fun t ht h1 h2 => hag.get t (hmem t ht h1 h2))
          exact tr_sound q c r hr0 out ex Q _ a' a0 w' M (fun t ht => hM t (bit_or_r ht)) hrep (agree_of ha hag (fun t ht => hM t (bit_or_l ht))) (hrest _)
  | .loop p, c, r, hr0, out, ex, Q, e, a, a0, w, M, hM, hr, ha, h => by
    simp only [tr] at h
    split at h
    · exact h.elim
    · rename_i h0
      have h0' : ¬ bitM (modM p) 0 := by simp [bitM, h0]
      have h := forceL_out (forceL_out h)
      generalize hL : slotsOf (modM p) (liveIn (2 ^ c.n - 1) c.ret (.loop p) out ex) true c.n = L at h
      generalize hD : slotsOf (modM p) (liveIn (2 ^ c.n - 1) c.ret (.loop p) out ex) false c.n = D at h
      have hmem : ∀ t, t < c.n → t ∉ L → t ∉ D → ¬ bitM (modM p) (t + 1) := by
        intro t ht h1 h2 hb
        rw [← hL, mem_slotsOf] at h1
        rw [← hD, mem_slotsOf] at h2
        cases hl : Nat.testBit (liveIn (2 ^ c.n - 1) c.ret (.loop p) out ex) t with
        | true => exact h1 ⟨ht, hb, hl⟩
        | false => exact h2 ⟨ht, hb, hl⟩
      obtain ⟨I, ⟨n0, hI0⟩, hround⟩ := h
      let In : Act → World → Prop := fun a' w' => (∃ k, I k (L.map (getA a')) w') ∧ a'.defers = a.defers ∧ a'.tmps.size = c.n ∧ Agree (bitM (modM p)) a a'
      have hin : ∀ a' w', In a' w' → ∃ k, I k (L.map (getA a')) w' ∧ ∀ m, I m (L.map (getA a')) w' → k ≤ m := fun a' w' hh => exists_least _ hh.1
      refine wpIn_loop In (fun a' w' => @dite _ (In a' w') (Classical.propDecidable _) (fun hh => Classical.choose (hin a' w' hh)) (fun _ => 0)) ⟨⟨n0, ?_⟩, rfl, hr.size, Agree.refl _ _⟩ ?_
      · have : L.map (look e.l) = L.map (getA a) := List.map_congr_left fun t _ => (hr.get t).symm
        rw [← this]; exact hI0
      · intro a1 w1 hIn
        rw [dif_pos hIn]
        obtain ⟨hk, hleast⟩ := Classical.choose_spec (hin a1 w1 hIn)
        generalize Classical.choose (hin a1 w1 hIn) = k at hk hleast
        obtain ⟨_, hd1, hs1, hag1⟩ := hIn
        obtain ⟨vs', hvs⟩ := exCs_out (hround k _ _ hk)
        obtain ⟨hvs1, hbody⟩ := hvs
        subst hvs1
        have hrep : Rep c.n (mixed e L D (L.map (getA a1)) (getA a1)) a1 := hr.mixed hs1 hd1 (fun t ht h1 h2 => hag1.get t (hmem t ht h1 h2))
        refine wpIn_mono (tr_sound p c r hr0 _ ex _ _ a1 a w1 (bitM (modM p)) (fun t ht => ht) hrep hag1 (hbody _)) ?_
        intro x a2 w2 hx
        cases x <;> simp only [upQ] at hx <;> first | exact hx.elim | skip
        case panic ch => exact hx
        case normal =>
          obtain ⟨e2, hr2, ha2, m, hm, hI2⟩ := hx
          have e3 : L.map (look e2.l) = L.map (getA a2) := List.map_congr_left fun t _ => (hr2.get t).symm
          rw [e3] at hI2
          have hIn2 : In a2 w2 := ⟨⟨m, hI2⟩, ha2.d h0', hr2.size, ha2⟩
          refine ⟨hIn2, ?_⟩
          rw [dif_pos hIn2]
          exact Nat.lt_of_le_of_lt ((Classical.choose_spec (hin a2 w2 hIn2)).2 m hI2) hm
        case ret =>
          obtain ⟨e', hr', ha', hq⟩ := hx
          exact ⟨e', hr', agree_of ha ha' hM, hq⟩
        case exit id' =>
          obtain ⟨e', hr', ha', hq⟩ := hx
          exact ⟨e', hr', agree_of ha ha' hM, hq⟩
  | .scope _, c, r, hr0, out, ex, Q, e, a, a0, w, M, hM, hr, ha, h => h.elim
  | .rangeFunc g ps x y, c, r, hr0, out, ex, Q, e, a, a0, w, M, hM, hr, ha, h => by
    simp only [tr] at h
    split at h
    · exact h.elim
    · rename_i hb
      simp only [Bool.and_eq_true, Bool.not_eq_true'] at hb
      obtain ⟨⟨hb1, _⟩, hb2⟩ := hb
      have hr1 := hr0 hb1
      subst hr1
      have hps : ∀ t ∈ ps.toList, t < c.n := fun t ht => by
        have := List.all_eq_true.1 hb2 t ht
        simpa using this
      exact range_sound (tr_sound x ⟨c.P, c.n, c.ty, 0, true, none⟩) (tr_sound y ⟨c.P, c.n, c.ty, 0, true, none⟩) hps (hM 0 (by simp [bitM, modM])) hr ha h
  | .goto _, c, r, hr0, out, ex, Q, e, a, a0, w, M, hM, hr, ha, h => h.elim
  | .refuse _, c, r, hr0, out, ex, Q, e, a, a0, w, M, hM, hr, ha, h => h.elim


theorem results_eq (fn : Func) (tmps : Array Value) : results fn tmps = (do
    let vs ← fn.results.mapM (resOne tmps)
    pure (if h : vs.size = 1 then vs[0] else .tuple vs)) := by
  unfold results
  congr 2

theorem resL_sound {P : Program} {e : Env} {w : World} {tmps : Array Value} (ht : ∀ t, tmps.getD t undef = look e.l t) : ∀ {l : List ResultVar} {k : List Value → Prop}, resL P e w l k →
    ∃ vs, k vs ∧ (l.mapM (resOne tmps)).run P w = .ok vs w
  | [], k, h => ⟨[], h, by simp⟩
  | .tmp t :: r, k, h => by
    obtain ⟨vs, hk, hr⟩ := resL_sound ht (l := r) h
    exact ⟨_, hk, by simp [List.mapM_cons, hr, resOne, ht]⟩
  | .cell a T :: r, k, h => by
    simp only [resL] at h
    split at h
    · rename_i o ho
      obtain ⟨p, rfl, h⟩ := some_out h
      split at h
      · rename_i n ha hs
        split at h
        · rename_i hd
          have hd := of_decide_eq_true hd
          obtain ⟨us, hl, hc, h⟩ := exL_out h
          obtain ⟨vs, hk, hr⟩ := resL_sound ht (l := r) h
          refine ⟨_, hk, ?_⟩
          have := loadVar_agg (P := P) ha (by rw [hs, hl, hd]) hc
          simp [List.mapM_cons, hr, resOne, ht, ho, asAddr, this]
        · exact h.elim
      · rename_i n ha hs
        obtain ⟨v, hc, h⟩ := exS_out h
        obtain ⟨vs, hk, hr⟩ := resL_sound ht (l := r) h
        refine ⟨_, hk, ?_⟩
        simp [List.mapM_cons, hr, resOne, ht, ho, asAddr, loadVar_one ha hc]
      · exact h.elim
    · exact h.elim

theorem resK_sound {P : Program} {fn : Func} {R : Value → World → Prop} {n : Nat} {e : Env} {a : Act} {w : World} (hr : Rep n e a) (h : resL P e w fn.results.toList fun vs => match vs with
    | [v] => R v w
    | l => R (.tuple l.toArray) w) :
    ∃ v, (results fn a.tmps).run P w = .ok v w ∧ R v w := by
  obtain ⟨vs, hk, hrun⟩ := resL_sound hr.get h
  split at hk
  · rename_i v
    refine ⟨v, ?_, hk⟩
    simp only [results_eq, Array.mapM_eq_mapM_toList, Sem.run_bind, Sem.run_map, hrun, Result.andThen, Sem.run_pure]
    simp
  · rename_i l hn
    refine ⟨_, ?_, hk⟩
    simp only [results_eq, Array.mapM_eq_mapM_toList, Sem.run_bind, Sem.run_map, hrun, Result.andThen, Sem.run_pure]
    have : ¬ (vs.toArray.size = 1) := by
      intro h1
      match vs, h1, hn with
      | [v], _, hn => exact hn v rfl
    rw [dif_neg this]

theorem leave_sound {P : Program} {fn : Func} {R : Value → World → Prop} {n : Nat} {e : Env} {a : Act} (hr : Rep n e a) : ∀ (ds : List Deferred) (w : World),
    LeaveK ds w (fun w => resL P e w fn.results.toList fun vs => match vs with
      | [v] => R v w
      | l => R (.tuple l.toArray) w) → LeavesInM Fence.wide 0 P fn a.tmps (fun e w => ∃ v, e = .returned v ∧ R v w) ds .returning w
  | [], w, h => by
    obtain ⟨v, hv, hR⟩ := resK_sound hr h
    exact ⟨v, hv, v, rfl, hR⟩
  | d :: r, w, h => by
    simp only [LeaveK] at h
    split at h
    · rename_i D hd
      refine ⟨by simp, .inl ⟨D, _, hd, run_takeDeferred h.1, leave_sound hr r _ (h.2 _ rfl)⟩⟩
    · exact h.elim

theorem look_env0 : ∀ (args : List Value) (i t : Nat), look (env0 i args) t = if i ≤ t then args.getD (t - i) undef else undef
  | [], i, t => by simp [env0, look]
  | v :: r, i, t => by
    simp only [env0, look]
    by_cases e : i = t
    · subst e; rw [beq_yes]; simp
    · rw [beq_no e, look_env0 r]
      by_cases h : i + 1 ≤ t
      · rw [if_pos h, if_pos (by omega), show t - i = (t - (i + 1)) + 1 from by omega]; simp
      · rw [if_neg h, if_neg (by omega)]

/-- **A function by its translation.** -/
theorem calls_of_body {P : Program} {f : FuncId} {fn : Func} (hf : P.funcs[f]? = some fn) {args : List Value} {w : World} {R : Value → World → Prop} (h : bodyK P fn args w R) :
    Calls P f args.toArray w fun e w' => ∃ v, e = .returned v ∧ R v w' := by
  unfold bodyK at h
  split at h
  · rename_i c hb hn
    have hn' : args.length ≤ fn.ntmps := by simpa using hn
    refine callsIn_wide (n := 0).1 (callsIn_of_wp_marks hf hb trivial ?_)
    let a : Act := { tmps := args.toArray ++ Array.replicate (fn.ntmps - args.toArray.size) undef, defers := [] }
    have hrep : Rep fn.ntmps ⟨env0 0 args, []⟩ a := by
      refine ⟨rfl, by simp [a]; omega, fun t => ?_⟩
      rw [look_env0]
      simp only [Nat.zero_le, if_true, Nat.sub_zero, a]
      rw [Array.getD_eq_getD_getElem?, Array.getElem?_append]
      simp only [List.size_toArray, List.getElem?_toArray]
      split
      · simp
      · rename_i hlt
        rw [Array.getElem?_replicate]
        have : args.getD t undef = undef := by rw [List.getD_eq_getElem?_getD, List.getElem?_eq_none (by omega)]; rfl
        rw [this]
        split <;> rfl
    have := tr_sound c (cxOf P fn c) none (fun _ => rfl) 0 [] _ _ a a w (bitM (modM c)) (fun t ht => ht) hrep (Agree.refl _ _) h
    refine wpIn_mono this ?_
    intro x a' w' hx
    cases x <;> simp only [upQ] at hx <;> first | exact hx.elim | skip
    case panic ch => obtain ⟨X, hx, _⟩ := hx; cases hx
    case normal =>
      obtain ⟨e', hr', _, hq⟩ := hx
      show LeavesInM Fence.wide 0 P fn a'.tmps _ a'.defers .returning w'
      rw [hr'.d]
      exact leave_sound hr' _ _ hq
    case ret =>
      obtain ⟨e', hr', _, hq⟩ := hx
      show LeavesInM Fence.wide 0 P fn a'.tmps _ a'.defers .returning w'
      rw [hr'.d]
      exact leave_sound hr' _ _ hq
    case exit id =>
      obtain ⟨e', hr', _, hq⟩ := hx
      exact hq.elim
  · exact h.elim


end Go.Sx
