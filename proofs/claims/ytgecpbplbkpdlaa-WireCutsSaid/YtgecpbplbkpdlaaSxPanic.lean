/-
  SX: functions that may panic, and ranges over functions whose rounds may.
-/
import Derived.Test.YtgecpbplbkpdlaaSxMem
namespace Go.Sx
open Go
set_option linter.unusedVariables false

theorem room_c (r : Option Nat) (n : Nat) : (Fc r).room n := room_wide n

/-- Code in one frame. -/
def wpB (b : Frame) (P : Program) (c : Code) (Q : Exit → Act → World → Prop) (a : Act) (w : World) : Prop :=
  ∀ (k : List Item) (cs : List Frame), ∃ e a' w', Q e a' w' ∧ ArrivesIn (Machine.fenced P (Fc none)) P (lone (b.atR a (.code c :: k)) cs w) b k cs e a' w'

section
variable {b : Frame} {P : Program} {Q : Exit → Act → World → Prop} {a : Act} {w : World}

theorem wpB_of (hb : b.roundOf = none) {c : Code} (h : c.wpIn (Fc none) 0 P Q a w) : wpB b P c Q a w := fun k cs => h b k cs hb trivial (room_c _ _)

theorem wpB_mono {c : Code} {Q' : Exit → Act → World → Prop} (h : wpB b P c Q a w) (hq : ∀ e a w, Q e a w → Q' e a w) : wpB b P c Q' a w :=
  fun k cs => let ⟨e, a', w', q, r⟩ := h k cs; ⟨e, a', w', hq _ _ _ q, r⟩

theorem wpB_seq {x y : Code} (h : wpB b P x (Exit.then (fun a w => wpB b P y Q a w) Q) a w) : wpB b P (.seq x y) Q a w := by
  intro k cs
  have h0 : (lone (b.atR a (.code (.seq x y) :: k)) cs w).fenced P (Fc none) := fenced_calm (n := 0) trivial (room_c _ _) rfl
  obtain ⟨e, a1, w1, hq, harr⟩ := h (.code y :: k) cs
  cases e with
  | normal =>
    obtain ⟨e2, a2, w2, hq2, harr2⟩ := hq k cs
    exact ⟨e2, a2, w2, hq2, .of_steps (.head h0 stepR_seq harr) harr2⟩
  | exit id => exact ⟨_, a1, w1, hq, .of_steps (.one h0 stepR_seq) (.pass (x := .code y) rfl (fun _ _ => .inl (by simp)) harr)⟩
  | goto l => exact ⟨_, a1, w1, hq, .of_steps (.one h0 stepR_seq) (.pass (x := .code y) rfl (fun _ _ => .inl (by simp)) harr)⟩
  | ret => exact ⟨_, a1, w1, hq, .of_steps (.one h0 stepR_seq) (.pass (x := .code y) rfl (fun _ _ => .inl (by simp)) harr)⟩
  | panic ch => exact ⟨_, a1, w1, hq, .of_steps (.one h0 stepR_seq) (.pass (x := .code y) rfl (fun _ _ => .inl (by simp)) harr)⟩
  | outgrown => exact ⟨_, a1, w1, hq, .of_steps (.one h0 stepR_seq) (.pass (x := .code y) rfl (fun _ _ => .inl (by simp)) harr)⟩

/-- A frame that panics, its deferred calls done. -/
theorem step_raise {fr c : Frame} {cs : List Frame} {w : World} {ch : List PanicEntry} (hm : fr.mode = .panicking ch) (hd : fr.defers = []) {fn : Func} (hf : P.funcs[fr.fn]? = some fn) :
    step P (lone fr (c :: cs) w) = .next (lone (c.raise ch) cs w) := step_leave_panicked ⟨hm, hd, fn, hf⟩

/-- The range over a function, in one frame. -/
theorem wpB_rangeFunc (hro : b.roundOf = none) {g : Operand} {ps : Array Tmp} {assign body : Code}
    (h : ∃ (l : Nat) (mark : List Deferred) (w1 : World) (d : Deferred) (w1' : World) (f : FuncId) (args : Array Value) (w2 : World),
      (Instr.enterLoop b.fn a.tmps ps assign body none).run P w = .ok (l, mark) w1 ∧
      (resolve a.eval (rangeCall g l) 0).run P w1 = .ok d w1' ∧
      (invoke d.target d.args).run P w1' = .ok (.enter f args) w2 ∧
      CallsIn (Fc none) 0 P f args w2 (rangePost (Fc none) 0 P l Q { a with defers := mark ++ a.defers })) :
    wpB b P (.rangeFunc g ps assign body) Q a w := by
  intro k cs
  obtain ⟨l, mark, w1, d, w1', f, args, w2, he, hres, hinv, hF, hcall⟩ := h
  rw [← hro] at he
  have hb : (Fc none).fn b.fn := trivial
  have h0 : (lone (b.atR a (.code (.rangeFunc g ps assign body) :: k)) cs w).fenced P (Fc none) := fenced_lone (.inl hb) (fun f' _ => trivial) (room_c _ _)
  have henter := stepR_rangeFunc (P := P) (b := b) (a := a) (k := k) (cs := cs) (w := w) he hres hinv
  obtain ⟨e, w3, fr, hR, hsteps, hfn, hleave⟩ := hcall (b.atR { a with defers := mark ++ a.defers } (.inRangeFunc l :: k) :: cs) (room_c _ _)
  cases e with
  | outgrown =>
    obtain ⟨a0, w0, hq⟩ := hR
    exact ⟨.outgrown, a0, w0, hq, .inr (Outgrown.of_steps (.one henter) hsteps)⟩
  | returned v =>
    have hl : (lone fr (b.atR { a with defers := mark ++ a.defers } (.inRangeFunc l :: k) :: cs) w3).fenced P (Fc none) := fenced_leaving (n := 0) trivial (room_c _ _) hleave
    obtain ⟨jump, w4, hend, hj⟩ := hR
    have sback : StepsIn (Machine.fenced P (Fc none)) P (lone (b.atR a (.code (.rangeFunc g ps assign body) :: k)) cs w) (lone (b.atR { a with defers := mark ++ a.defers } ((jump.map Item.code).toList ++ k)) cs w4) := by
      refine .head h0 henter (StepsIn.trans hsteps (.head hl ?_ (.one (fenced_calm (n := 0) (fr := b.atR { a with defers := mark ++ a.defers } (.endRangeFunc l :: k)) hb (room_c _ _) rfl) (stepR_endRangeFunc hend))))
      rw [← finish_atR_inRangeFunc l v]; exact step_leave_returned hleave
    cases jump with
    | none => exact ⟨.normal, _, w4, hj, sback⟩
    | some c =>
      obtain ⟨e', a'', w5, hq, harr⟩ := hj b k cs hro hb (room_c _ _)
      exact ⟨e', a'', w5, hq, .of_steps sback harr⟩
  | panicked ch =>
    have hl : (lone fr (b.atR { a with defers := mark ++ a.defers } (.inRangeFunc l :: k) :: cs) w3).fenced P (Fc none) := fenced_leaving (n := 0) trivial (room_c _ _) hleave
    refine ⟨.panic ch, _, w3, hR, .inRangeFunc l :: k, .head h0 henter (StepsIn.trans hsteps (.one hl ?_))⟩
    rw [← Frame.raise_atR]; exact step_leave_panicked hleave
end

/-- A round's end, where it may panic. -/
def roundPostP (P : Program) (l : Nat) (R : Ending → World → Prop) : Exit → Act → World → Prop
  | .normal, _, w => ∃ v w', (Instr.endRound l none).run P w = .ok v w' ∧ R (.returned v) w'
  | .ret, _, w => ∃ v w', (Instr.endRound l (some .ret)).run P w = .ok v w' ∧ R (.returned v) w'
  | .exit id, _, w => ∃ v w', (Instr.endRound l (some (.exit id))).run P w = .ok v w' ∧ R (.returned v) w'
  | .panic ch, a, w => a.defers = [] ∧ R (.panicked ch) w
  | _, _, _ => False
def panOnly (R : Ending → World → Prop) : Exit → Act → World → Prop
  | .panic ch, a, w => a.defers = [] ∧ R (.panicked ch) w
  | _, _, _ => False

theorem roundIn_panics {P : Program} {l : Nat} {f : FuncId} {fn : Func} {tmps : Array Value} {assign body : Code} {w : World} {R : Ending → World → Prop} (hf : P.funcs[f]? = some fn)
    (h : assign.wpIn (Fc (some l)) 0 P (Exit.then (fun a1 w1 => ∃ w2, (Instr.beginRound l).run P w1 = .ok () w2 ∧ body.wpIn (Fc (some l)) 0 P (roundPostP P l R) a1 w2) (panOnly R)) { tmps := tmps, defers := [] } w) :
    RoundIn Fence.wide 0 P l f tmps assign body w R := by
  refine ⟨trivial, fun c cs _ => ?_⟩
  let b : Frame := { (default : Frame) with fn := f, kind := .normal, roundOf := some l }
  have hb0 : Frame.round l f tmps assign body .normal = b.atR { tmps := tmps, defers := [] } [.code assign, .beginRound, .code body] := by
    simp [Frame.round, Frame.atR, b]
  have up : ∀ {a : Act} {todo : List Item} {w' : World} {ch : List PanicEntry}, a.defers = [] →
      StepsIn (Machine.fenced P (Fc (some l))) P (lone { b.atR a todo with mode := .panicking ch } (c :: cs) w') (lone (c.raise ch) cs w') := by
    intro a todo w' ch hd
    have hd' : ({ b.atR a todo with mode := .panicking ch } : Frame).defers = [] := hd
    have hm' : ({ b.atR a todo with mode := .panicking ch } : Frame).mode = .panicking ch := rfl
    exact .one (fenced_leaving (n := 0) (e := .panicked ch) trivial (room_c _ _) ⟨hm', hd', fn, hf⟩) (step_raise hm' hd' hf)
  obtain ⟨e, a1, w1, hq, harr⟩ := h b [.beginRound, .code body] (c :: cs) rfl trivial (room_c _ _)
  rw [← hb0] at harr
  cases e with
  | normal =>
    obtain ⟨w2, hbr, hbody⟩ := hq
    have s1 : StepsIn (Machine.fenced P (Fc (some l))) P (lone (b.atR a1 [.beginRound, .code body]) (c :: cs) w1) (lone (b.atR a1 [.code body]) (c :: cs) w2) :=
      .one (fenced_calm (n := 0) (fr := b.atR a1 [.beginRound, .code body]) trivial (room_c _ _) rfl) (stepR_beginRound rfl hbr)
    obtain ⟨e2, a2, w3, hq2, harr2⟩ := hbody b [] (c :: cs) rfl trivial (room_c _ _)
    cases e2 with
    | normal =>
      obtain ⟨v, w4, hend, hR⟩ := hq2
      exact ⟨.returned v, w4, hR, (StepsIn.trans harr s1).trans (StepsIn.trans harr2 (.one (fenced_calm (n := 0) (fr := b.atR a2 []) trivial (room_c _ _) rfl) (stepR_round_end rfl rfl hend)))⟩
    | ret =>
      obtain ⟨v, w4, hend, hR⟩ := hq2
      obtain ⟨k1, hs⟩ := harr2.2 rfl
      exact ⟨.returned v, w4, hR, (StepsIn.trans harr s1).trans (StepsIn.trans hs (.one (fenced_calm (n := 0) (fr := b.atR a2 (.code .ret :: k1)) trivial (room_c _ _) rfl) (stepR_round_ret rfl rfl hend)))⟩
    | exit id =>
      obtain ⟨v, w4, hend, hR⟩ := hq2
      obtain ⟨k1, hk, hs⟩ := harr2.2 rfl rfl
      exact ⟨.returned v, w4, hR, (StepsIn.trans harr s1).trans (StepsIn.trans hs (.one (fenced_calm (n := 0) (fr := b.atR a2 (.code (.exit id) :: k1)) trivial (room_c _ _) rfl) (stepR_round_exit rfl rfl hk hend)))⟩
    | panic ch =>
      obtain ⟨hd, hR⟩ := hq2
      obtain ⟨todo, hs⟩ := harr2
      exact ⟨.panicked ch, w3, hR, (StepsIn.trans harr s1).trans (StepsIn.trans hs (up hd))⟩
    | goto l => exact hq2.elim
    | outgrown => exact hq2.elim
  | panic ch =>
    obtain ⟨hd, hR⟩ := hq
    obtain ⟨todo, hs⟩ := harr
    exact ⟨.panicked ch, w1, hR, StepsIn.trans hs (up hd)⟩
  | ret => exact hq.elim
  | exit id => exact hq.elim
  | goto l => exact hq.elim
  | outgrown => exact hq.elim

theorem noneD_out {ds : List Deferred} {p : Prop} (h : NoneD ds p) : ds = [] ∧ p := by
  cases ds with
  | nil => exact ⟨rfl, h⟩
  | cons d r => exact h.elim

theorem range_soundP {b : Frame} {fn0 : Func} (hb : b.roundOf = none) {g : Operand} {ps : Array Tmp} {x y : Code} {c : Cx} (hfn : c.P.funcs[b.fn]? = some fn0) (hps : ∀ t ∈ ps.toList, t < c.n)
    {X : List Deferred → List PanicEntry → World → Prop} {Q : Ex → Env → World → Prop} {e : Env} {a a0 : Act} {w : World} {M : Nat → Prop} (hM : M 0) (hr : Rep c.n e a) (ha : Agree M a0 a)
    (h : RangeP c.P (ps.toList.map (cpOfSlot c)) (e.ev g) w
        (fun l rec vs w1 R => tr ⟨c.P, c.n, c.ty, 0, true, some fun ds ch w3 => NoneD ds (R (.panicked ch) w3)⟩ x (2 ^ c.n - 1) [] (fun x e1 w1 => match x with
          | .normal => w1.heap[l]? = some (rec .ready none) ∧ ∀ w2, w2 = w1.putObj l (rec .busy none) → tr ⟨c.P, c.n, c.ty, 0, true, some fun ds ch w3 => NoneD ds (R (.panicked ch) w3)⟩ y 0 [] (fun x _ w3 => match x with
            | .normal => EndK l rec none w3 R
            | .ret => EndK l rec (some .ret) w3 R
            | .exit id => EndK l rec (some (.exit id)) w3 R) e1 w2
          | _ => False) ⟨putAll e.l (ps.toList.zip vs), []⟩ w1)
        (fun j D w3 => JumpK j (Q .normal ⟨e.l, ⟨.collected D, #[]⟩ :: e.d⟩ w3)
          (match retsB y with | true => Q .ret ⟨e.l, ⟨.collected D, #[]⟩ :: e.d⟩ w3 | false => False)
          ((uniq (exitIds y)).map fun id => (id, Q (.exit id) ⟨e.l, ⟨.collected D, #[]⟩ :: e.d⟩ w3)))
        (fun D ch w3 => X (⟨.collected D, #[]⟩ :: e.d) ch w3)) :
    wpB b c.P (.rangeFunc g ps x y) (upQ (some X) c.n M a0 Q) a w := by
  refine wpB_rangeFunc hb ?_
  let mk : LoopState → Option Code → Loop := fun st pe => { state := st, pending := pe, fn := b.fn, tmps := a.tmps, params := ps, assign := x, body := y, defers := w.heap.size }
  let rcd : LoopState → Option Code → Obj := fun st pe => .loop (mk st pe)
  have hev : a.eval g = e.ev g := by rw [hr.ev]
  -- the rounds
  have hround : alCs (ps.toList.map (cpOfSlot c)) fun vs => ∀ w2 R, w2.heap[w.heap.size + 1]? = some (rcd .ready none) →
      (fun l rec vs w1 R => tr ⟨c.P, c.n, c.ty, 0, true, some fun ds ch w3 => NoneD ds (R (.panicked ch) w3)⟩ x (2 ^ c.n - 1) [] (fun x e1 w1 => match x with
          | .normal => w1.heap[l]? = some (rcd .ready none) ∧ ∀ w2, w2 = w1.putObj l (rcd .busy none) → tr ⟨c.P, c.n, c.ty, 0, true, some fun ds ch w3 => NoneD ds (R (.panicked ch) w3)⟩ y 0 [] (fun x _ w3 => match x with
            | .normal => EndK l rcd none w3 R
            | .ret => EndK l rcd (some .ret) w3 R
            | .exit id => EndK l rcd (some (.exit id)) w3 R) e1 w2
          | _ => False) ⟨putAll e.l (ps.toList.zip vs), []⟩ w1) (w.heap.size + 1) rcd vs w2 R → RoundK c.P (w.heap.size + 1) vs.toArray w2 R := by
    refine alCs_len fun vs hvs w2 R hrd hbody => ?_
    have hvs : vs.length = ps.size := by simpa using hvs
    refine ⟨b.fn, _, x, y, run_yield (P := c.P) (args := vs.toArray) (r := mk .ready none) hrd (by simp [mk, hvs]), ?_⟩
    have hput := putAll_get (ps.toList.zip vs) e.l a.tmps c.n hr.size (fun p hp => hps p.1 (List.of_mem_zip hp).1) hr.get
    refine roundIn_panics hfn ?_
    rw [foldl_zip_eq]
    let a1 : Act := ⟨(ps.toList.zip vs).foldl (fun t p => t.setIfInBounds p.1 p.2) a.tmps, []⟩
    have hrep : Rep c.n ⟨putAll e.l (ps.toList.zip vs), []⟩ a1 := ⟨rfl, hput.1, hput.2⟩
    refine wpIn_mono (tr_sound x ⟨c.P, c.n, c.ty, 0, true, some fun ds ch w3 => NoneD ds (R (.panicked ch) w3)⟩ (some (w.heap.size + 1)) (fun h => by cases h) _ [] _ _ a1 a1 w2 (fun _ => True) (fun _ _ => trivial) hrep (Agree.refl _ _) hbody) ?_
    intro z a2 w3 hz
    cases z <;> simp only [upQ] at hz <;> first | exact hz.elim | skip
    case panic ch =>
      obtain ⟨Y, hY, hz⟩ := hz
      cases hY
      exact noneD_out hz
    case normal =>
      obtain ⟨e1, hr1, _, hl, hz⟩ := hz
      refine ⟨_, run_beginRound (P := c.P) (r := mk .ready none) hl rfl, ?_⟩
      refine wpIn_mono (tr_sound y ⟨c.P, c.n, c.ty, 0, true, some fun ds ch w3 => NoneD ds (R (.panicked ch) w3)⟩ (some (w.heap.size + 1)) (fun h => by cases h) _ [] _ e1 a2 a2 _ (fun _ => True) (fun _ _ => trivial) hr1 (Agree.refl _ _) (hz _ rfl)) ?_
      intro z a3 w4 hz
      cases z <;> simp only [upQ] at hz <;> first | exact hz.elim | skip
      case panic ch =>
        obtain ⟨Y, hY, hz⟩ := hz
        cases hY
        exact noneD_out hz
      case normal =>
        obtain ⟨_, _, _, hz⟩ := hz
        exact end_sound (mk := mk) (fun _ _ => rfl) (fun _ _ _ _ => rfl) hz
      case ret =>
        obtain ⟨_, _, _, hz⟩ := hz
        exact end_sound (mk := mk) (fun _ _ => rfl) (fun _ _ _ _ => rfl) hz
      case exit id =>
        obtain ⟨_, _, _, hz⟩ := hz
        exact end_sound (mk := mk) (fun _ _ => rfl) (fun _ _ _ _ => rfl) hz
    case ret => obtain ⟨_, _, _, hz⟩ := hz; exact hz.elim
    case exit id => obtain ⟨_, _, _, hz⟩ := hz; exact hz.elim
  have hcall := h w.heap.size (w.heap.size + 1) rcd _ rfl rfl rfl hround
  unfold FnK at hcall
  split at hcall
  · rename_i gf first capt hg
    split at hcall
    · rename_i hc
      unfold callableB at hc
      split at hc
      · rename_i fn1 hfn1
        have hc1 : (fn1.name == "runtime.NumGoroutine") = false := by cases h1 : (fn1.name == "runtime.NumGoroutine") <;> simp_all
        have hc2 : fn1.body.isNone = false := by cases h1 : fn1.body.isNone <;> simp_all
        refine ⟨w.heap.size + 1, [{ target := .collected w.heap.size, args := #[] }], (w.alloc (.deferred (some []))).alloc (rcd .ready none),
          { target := .fn (.func gf) capt, args := first ++ #[.func (.yield (w.heap.size + 1)) #[] #[]] }, (w.alloc (.deferred (some []))).alloc (rcd .ready none), gf, first ++ #[.func (.yield (w.heap.size + 1)) #[] #[]] ++ capt, (w.alloc (.deferred (some []))).alloc (rcd .ready none), ?_, ?_, ?_, ?_⟩
        · exact run_enterLoop_outer _ _ _ _ _
        · simp only [resolve, hev, hg, Deferred.ofValue, Sem.run_pure]
          simp [Act.eval]
        · simp only [invoke, callFunc, program, Sem.run_bind, Sem.run, hfn1, Result.andThen]
          simp [hc1, hc2]
        · have hrep : Rep c.n ⟨e.l, ⟨.collected w.heap.size, #[]⟩ :: e.d⟩ { a with defers := [{ target := .collected w.heap.size, args := #[] }] ++ a.defers } := ⟨by rw [← hr.d]; rfl, hr.size, hr.get⟩
          have hag : Agree M a0 { a with defers := [{ target := .collected w.heap.size, args := #[] }] ++ a.defers } := ⟨fun h => absurd hM h, ha.get⟩
          refine (callsIn_of (r := none) hcall).mono ?_
          rintro en w2 (⟨v, rfl, j, hl, hK⟩ | ⟨ch, rfl, hX⟩)
          · have hend := run_endLoop (P := c.P) (r := mk (stOf j) j) hl (by cases j <;> simp [mk, stOf])
            refine ⟨j, _, hend, ?_⟩
            have hK := hK _ rfl
            cases j with
            | none => exact ⟨_, hrep, hag, hK⟩
            | some cd =>
              cases cd <;> simp only [JumpK] at hK <;> first | exact hK.elim | skip
              case ret =>
                split at hK
                · exact wpIn_ret ⟨_, hrep, hag, hK⟩
                · exact hK.elim
              case exit id =>
                obtain ⟨p, hp, hq⟩ := assocP_out hK
                obtain ⟨id', _, he⟩ := List.mem_map.1 hp
                cases he
                exact wpIn_exit ⟨_, hrep, hag, hq⟩
          · exact ⟨X, rfl, by rw [← hr.d] at hX; exact hX⟩
      · exact absurd hc (by decide)
    · exact hcall.elim
  · rename_i l first capt hg
    exact hcall.elim
  · exact hcall.elim

theorem wpB_block {b : Frame} {P : Program} {Q : Exit → Act → World → Prop} {a : Act} {w : World} (hro : b.roundOf = none) {id : Nat} {c : Code} (h : wpB b P c (Exit.inBlock id Q) a w) : wpB b P (.block id c) Q a w := by
  intro k cs
  have h0 : (lone (b.atR a (.code (.block id c) :: k)) cs w).fenced P (Fc none) := fenced_calm (n := 0) trivial (room_c _ _) rfl
  obtain ⟨e, a1, w1, hq, harr⟩ := h (.inBlock id :: k) cs
  have hg : ∀ l, gotoIn l (.inBlock id :: k) = gotoIn l k := fun l => by simp [gotoIn]
  cases e with
  | normal => exact ⟨.normal, a1, w1, hq, .head h0 stepR_block (StepsIn.trans harr (.one (fenced_calm (n := 0) trivial (room_c _ _) rfl) stepR_inBlock))⟩
  | exit id' =>
    by_cases hid : id' = id
    · simp only [Exit.inBlock, hid, if_true] at hq
      exact ⟨.normal, a1, w1, hq, .head h0 stepR_block (harr.1 k (by simp [exitTo, hid]))⟩
    · simp only [Exit.inBlock, hid, if_false] at hq
      have hx : exitTo id' (.inBlock id :: k) = exitTo id' k := by
        have : (id == id') = false := by simpa using fun h => hid (Eq.symm h)
        simp [exitTo, this]
      refine ⟨.exit id', a1, w1, hq, fun k' hk => .head h0 stepR_block (harr.1 k' (by rw [hx]; exact hk)), fun hr' hk => ?_⟩
      obtain ⟨k1, h1, h2⟩ := harr.2 hr' (by rw [hx]; exact hk)
      exact ⟨k1, h1, .head h0 stepR_block h2⟩
  | goto l =>
    refine ⟨_, a1, w1, hq, fun k' hk => .head h0 stepR_block (harr.1 k' (by rw [hg]; exact hk)), fun hr' hk => ?_⟩
    obtain ⟨k1, h1, h2⟩ := harr.2 hr' (by rw [hg]; exact hk)
    exact ⟨k1, h1, .head h0 stepR_block h2⟩
  | ret => exact ⟨_, a1, w1, hq, .of_steps (.one h0 stepR_block) harr⟩
  | panic ch => exact ⟨_, a1, w1, hq, .of_steps (.one h0 stepR_block) harr⟩
  | outgrown => exact ⟨_, a1, w1, hq, .of_steps (.one h0 stepR_block) harr⟩

theorem trS_sound {b : Frame} {fn0 : Func} (hb : b.roundOf = none) {X : List Deferred → List PanicEntry → World → Prop} :
    ∀ (x : Code) (c : Cx), c.P.funcs[b.fn]? = some fn0 → ∀ (out : Nat) (ex : List (Nat × Nat)) (Q : Ex → Env → World → Prop) (e : Env) (a a0 : Act) (w : World) (M : Nat → Prop),
    (∀ t, bitM (modM x) t → M t) → Rep c.n e a → Agree M a0 a → trS c X x out ex Q e w → wpB b c.P x (upQ (some X) c.n M a0 Q) a w
  | .seq p q, c, hfn, out, ex, Q, e, a, a0, w, M, hM, hr, ha, h => by
    simp only [trS] at h
    split at h
    · refine wpB_seq (wpB_mono (trS_sound hb p c hfn _ ex _ e a a0 w M (fun t ht => hM t (bit_or_l ht)) hr ha h) ?_)
      intro x a' w' hx
      cases x <;> simp only [upQ] at hx <;> first | exact hx.elim | skip
      case panic ch => exact hx
      case normal =>
        obtain ⟨e', hr', ha', hq⟩ := hx
        exact trS_sound hb q c hfn out ex Q e' a' a0 w' M (fun t ht => hM t (bit_or_r ht)) hr' ha' hq
      case ret => exact hx
      case exit id' => exact hx
    · have h := forceL_out (forceL_out h)
      generalize hL : slotsOf (modM p) (liveIn (2 ^ c.n - 1) c.ret q out ex) true c.n = L at h
      generalize hD : slotsOf (modM p) (liveIn (2 ^ c.n - 1) c.ret q out ex) false c.n = D at h
      have hmem : ∀ t, t < c.n → t ∉ L → t ∉ D → ¬ bitM (modM p) (t + 1) := by
        intro t ht h1 h2 hb
        rw [← hL, mem_slotsOf] at h1
        rw [← hD, mem_slotsOf] at h2
        cases hl : Nat.testBit (liveIn (2 ^ c.n - 1) c.ret q out ex) t with
        | true => exact h1 ⟨ht, hb, hl⟩
        | false => exact h2 ⟨ht, hb, hl⟩
      have hb1 := h (fun vs ds w' => ∀ a', a'.defers = ds → a'.tmps.size = c.n → Agree (bitM (modM p)) a a' → L.map (getA a') = vs → wpB b c.P q (upQ (some X) c.n M a0 Q) a' w') (alCs_of fun vs ds w' hrest => ?_)
      · refine wpB_seq (wpB_mono (trS_sound hb p c hfn _ ex _ e a a w (bitM (modM p)) (fun t ht => ht) hr (Agree.refl _ _) hb1) ?_)
        intro x a' w' hx
        cases x <;> simp only [upQ] at hx <;> first | exact hx.elim | skip
        case panic ch => exact hx
        case normal =>
          obtain ⟨e', hr', ha', hq⟩ := hx
          refine hq a' hr'.d hr'.size ha' ?_
          apply List.map_congr_left
          intro t _
          exact hr'.get t
        case ret =>
          obtain ⟨e', hr', ha', hq⟩ := hx
          exact ⟨e', hr', agree_of ha ha' (fun t ht => hM t (bit_or_l ht)), hq⟩
        case exit id' =>
          obtain ⟨e', hr', ha', hq⟩ := hx
          exact ⟨e', hr', agree_of ha ha' (fun t ht => hM t (bit_or_l ht)), hq⟩
      · intro a' hd hs hag hvs
        subst hvs
        have hrep : Rep c.n ⟨(mixed e L D (L.map (getA a')) (getA a')).l, ds⟩ a' :=
          ⟨hd, hs, (Rep.mixed (e := ⟨e.l, a'.defers⟩) (a := { a with defers := a'.defers }) (a' := a') (L := L) (D := D) ⟨rfl, hr.size, hr.get⟩ hs rfl (fun t ht h1 h2 => hag.get t (hmem t ht h1 h2))).get⟩
        exact trS_sound hb q c hfn out ex Q _ a' a0 w' M (fun t ht => hM t (bit_or_r ht)) hrep (agree_of ha hag (fun t ht => hM t (bit_or_l ht))) (hrest _)
  | .rangeFunc g ps x y, c, hfn, out, ex, Q, e, a, a0, w, M, hM, hr, ha, h => by
    simp only [trS] at h
    split at h
    · exact h.elim
    · rename_i hb2
      have hps : ∀ t ∈ ps.toList, t < c.n := fun t ht => by
        have := List.all_eq_true.1 hb2 t ht
        simpa using this
      exact range_soundP hb hfn hps (hM 0 (by simp [bitM, modM])) hr ha h
  | .block id p, c, hfn, out, ex, Q, e, a, a0, w, M, hM, hr, ha, h => by
    simp only [trS] at h
    refine wpB_block hb (wpB_mono (trS_sound hb p c hfn out _ _ e a a0 w M hM hr ha h) ?_)
    intro x a' w' hx
    cases x <;> simp only [upQ] at hx <;> first | exact hx.elim | skip
    case panic ch => exact hx
    case normal => exact hx
    case ret => exact hx
    case exit id' =>
      obtain ⟨e', hr', ha', hq⟩ := hx
      simp only [Exit.inBlock]
      by_cases hid : id' = id
      · subst hid
        rw [beq_yes] at hq
        rw [if_pos rfl]
        exact ⟨e', hr', ha', hq⟩
      · rw [beq_no hid] at hq
        rw [if_neg hid]
        exact ⟨e', hr', ha', hq⟩
  | .skip, c, hfn, out, ex, Q, e, a, a0, w, M, hM, hr, ha, h => wpB_of hb (tr_sound .skip ⟨c.P, c.n, c.ty, c.ret, false, some X⟩ none (fun _ => rfl) out ex Q e a a0 w M hM hr ha h)
  | .label l, c, hfn, out, ex, Q, e, a, a0, w, M, hM, hr, ha, h => wpB_of hb (tr_sound (.label l) ⟨c.P, c.n, c.ty, c.ret, false, some X⟩ none (fun _ => rfl) out ex Q e a a0 w M hM hr ha h)
  | .exit id, c, hfn, out, ex, Q, e, a, a0, w, M, hM, hr, ha, h => wpB_of hb (tr_sound (.exit id) ⟨c.P, c.n, c.ty, c.ret, false, some X⟩ none (fun _ => rfl) out ex Q e a a0 w M hM hr ha h)
  | .ret, c, hfn, out, ex, Q, e, a, a0, w, M, hM, hr, ha, h => wpB_of hb (tr_sound .ret ⟨c.P, c.n, c.ty, c.ret, false, some X⟩ none (fun _ => rfl) out ex Q e a a0 w M hM hr ha h)
  | .region id ops d, c, hfn, out, ex, Q, e, a, a0, w, M, hM, hr, ha, h => wpB_of hb (tr_sound (.region id ops d) ⟨c.P, c.n, c.ty, c.ret, false, some X⟩ none (fun _ => rfl) out ex Q e a a0 w M hM hr ha h)
  | .cond x p q, c, hfn, out, ex, Q, e, a, a0, w, M, hM, hr, ha, h => wpB_of hb (tr_sound (.cond x p q) ⟨c.P, c.n, c.ty, c.ret, false, some X⟩ none (fun _ => rfl) out ex Q e a a0 w M hM hr ha h)
  | .loop p, c, hfn, out, ex, Q, e, a, a0, w, M, hM, hr, ha, h => wpB_of hb (tr_sound (.loop p) ⟨c.P, c.n, c.ty, c.ret, false, some X⟩ none (fun _ => rfl) out ex Q e a a0 w M hM hr ha h)
  | .scope _, c, hfn, out, ex, Q, e, a, a0, w, M, hM, hr, ha, h => h.elim
  | .goto _, c, hfn, out, ex, Q, e, a, a0, w, M, hM, hr, ha, h => h.elim
  | .refuse _, c, hfn, out, ex, Q, e, a, a0, w, M, hM, hr, ha, h => h.elim

/-- A function's leaving by a panic: its marks are taken. -/
theorem leave_soundP {P : Program} {fn : Func} {R : Ending → World → Prop} {tmps : Array Value} {ch : List PanicEntry} : ∀ (ds : List Deferred) (w : World),
    LeaveK ds w (fun w => R (.panicked ch) w) → LeavesInM Fence.wide 0 P fn tmps R ds (.panicking ch) w
  | [], w, h => h
  | d :: r, w, h => by
    simp only [LeaveK] at h
    split at h
    · rename_i D hd
      exact ⟨by simp, .inl ⟨D, _, hd, run_takeDeferred h.1, leave_soundP r _ (h.2 _ rfl)⟩⟩
    · exact h.elim
theorem leave_soundR {P : Program} {fn : Func} {R : Ending → World → Prop} {n : Nat} {e : Env} {a : Act} (hr : Rep n e a) : ∀ (ds : List Deferred) (w : World),
    LeaveK ds w (fun w => resL P e w fn.results.toList fun vs => match vs with
      | [v] => R (.returned v) w
      | l => R (.returned (.tuple l.toArray)) w) → LeavesInM Fence.wide 0 P fn a.tmps R ds .returning w
  | [], w, h => by
    obtain ⟨v, hv, hR⟩ := resK_sound (R := fun v w => R (.returned v) w) hr h
    exact ⟨v, hv, hR⟩
  | d :: r, w, h => by
    simp only [LeaveK] at h
    split at h
    · rename_i D hd
      refine ⟨by simp, .inl ⟨D, _, hd, run_takeDeferred h.1, leave_soundR hr r _ (h.2 _ rfl)⟩⟩
    · exact h.elim

/-- **A function that may panic, by its translation.** -/
theorem calls_of_bodyP {P : Program} {f : FuncId} {fn : Func} (hf : P.funcs[f]? = some fn) {args : List Value} {w : World} {R : Ending → World → Prop} (h : bodyP P fn args w R) :
    Calls P f args.toArray w R := by
  unfold bodyP at h
  split at h
  · rename_i c hb hn
    have hn' : args.length ≤ fn.ntmps := by simpa using hn
    let a : Act := { tmps := args.toArray ++ Array.replicate (fn.ntmps - args.toArray.size) undef, defers := [] }
    have hrep : Rep fn.ntmps ⟨env0 0 args, []⟩ a := by
      refine ⟨rfl, by simp [a]; omega, fun t => ?_⟩
      rw [look_env0]
      simp only [Nat.zero_le, if_true, Nat.sub_zero, a]
      rw [Array.getD_eq_getD_getElem?, Array.getElem?_append]
      simp only [List.size_toArray, List.getElem?_toArray]
      split
      · simp
      · rename_i hlt
        rw [Array.getElem?_replicate]
        have : args.getD t undef = undef := by rw [List.getD_eq_getElem?_getD, List.getElem?_eq_none (by omega)]; rfl
        rw [this]
        split <;> rfl
    refine callsIn_wide (n := 0).1 ⟨trivial, fun cs _ => ?_⟩
    let b : Frame := { (default : Frame) with fn := f, kind := .normal, roundOf := none }
    have henter : Frame.enter P f args.toArray .normal = b.atR a [.code c] := by
      simp [Frame.enter, Frame.atR, hf, hb, b, a]
    have hro : b.roundOf = none := rfl
    have := trS_sound (b := b) (fn0 := fn) hro c (cxOf P fn c) hf 0 [] _ _ a a w (bitM (modM c)) (fun t ht => ht) hrep (Agree.refl _ _) h
    obtain ⟨e, a', w', hq, harr⟩ := this [] cs
    rw [show (cxOf P fn c).P = P from rfl, ← henter] at harr
    cases e <;> simp only [upQ] at hq <;> first | exact hq.elim | skip
    case normal =>
      obtain ⟨e', hr', _, hq⟩ := hq
      obtain ⟨e, w'', fr', hR, hs, hfn, hl⟩ := leaves_stepsInM (F := Fence.wide) (n := 0) a'.defers .returning w' { b.atR a' [] with mode := .returning } cs rfl rfl rfl hf rfl trivial (room_wide _)
        (by rw [hr'.d]; exact leave_soundR hr' _ _ hq)
      exact ⟨e, w'', fr', hR, ComesIn.of_steps (StepsIn.trans harr (.one (fenced_calm (n := 0) (fr := b.atR a' []) trivial (room_wide _) rfl) (stepR_end rfl))) hs, hfn, hl⟩
    case ret =>
      obtain ⟨e', hr', _, hq⟩ := hq
      obtain ⟨todo, hs0⟩ := harr.1 rfl
      obtain ⟨e, w'', fr', hR, hs, hfn, hl⟩ := leaves_stepsInM (F := Fence.wide) (n := 0) a'.defers .returning w' { b.atR a' todo with mode := .returning } cs rfl rfl rfl hf rfl trivial (room_wide _)
        (by rw [hr'.d]; exact leave_soundR hr' _ _ hq)
      exact ⟨e, w'', fr', hR, ComesIn.of_steps hs0 hs, hfn, hl⟩
    case panic ch =>
      obtain ⟨Y, hY, hq⟩ := hq
      cases hY
      obtain ⟨todo, hs0⟩ := harr
      obtain ⟨e, w'', fr', hR, hs, hfn, hl⟩ := leaves_stepsInM (F := Fence.wide) (n := 0) a'.defers (.panicking ch) w' { b.atR a' todo with mode := .panicking ch } cs rfl rfl rfl hf rfl trivial (room_wide _)
        (leave_soundP _ _ hq)
      exact ⟨e, w'', fr', hR, ComesIn.of_steps hs0 hs, hfn, hl⟩
    case exit id =>
      obtain ⟨e', hr', _, hq⟩ := hq
      exact hq.elim
  · exact h.elim

end Go.Sx
