/-
  A part of the proof: WQ.
-/
import Derived.Test.YtgecpbplbkpdlaaSxWP
namespace Go.Proofs.Ytgecpbplbkpdlaa
open Go Go.Sx Go.Oct Go.Wire
set_option linter.unusedVariables false

/-- A reply as cells. -/
def repC (r : RepV) (a : Option Addr) (l c : Nat) : List Value := [.int .i64 r.err, .slice a l c, .string (bs r.head), .int .i64 r.n]
structure RepS (r : RepV) : Prop where
  boxes : (joinL r.boxes).length ≤ 300000
  head : r.head.length ≤ 300000
def BadA (r : RepV) : Prop := r.err < 0 ∨ 255 < r.err ∨ (r.err ≠ 0 ∧ 0 < r.boxes.length) ∨ r.head.length ≠ 32 ∨ r.n < 0 ∨ 1073741824 < r.n
def BadB (r : RepV) : Prop := 800 < r.boxes.length ∨ ∃ x ∈ r.boxes, 8192 < x.length
theorem putRep_a {r : RepV} (h : BadA r) : putRep r = none := by
  unfold putRep
  rw [if_pos]
  rcases h with h | h | h | h | h | h
  · exact .inl h
  · exact .inr (.inl h)
  · exact .inr (.inr (.inl h))
  · exact .inr (.inr (.inr (.inl h)))
  · exact .inr (.inr (.inr (.inr (.inl h))))
  · exact .inr (.inr (.inr (.inr (.inr (.inl h)))))
theorem putRep_b {r : RepV} (h : BadB r) : putRep r = none := by
  unfold putRep
  rw [if_pos]
  rcases h with h | h
  · exact .inr (.inr (.inr (.inr (.inr (.inr (.inl h))))))
  · exact .inr (.inr (.inr (.inr (.inr (.inr (.inr h))))))
def repX (r : RepV) : List (List UInt8) := [[128], [UInt8.ofNat r.err.toNat], r.head, big4 r.n]
theorem putRep_ok {r : RepV} (h : ¬ BadA r) (h2 : ¬ BadB r) : putRep r = some (joinL (repX r ++ r.boxes)) := by
  unfold putRep
  rw [if_neg]
  · rfl
  · rintro (g | g | g | g | g | g | g | g)
    · exact h (.inl g)
    · exact h (.inr (.inl g))
    · exact h (.inr (.inr (.inl g)))
    · exact h (.inr (.inr (.inr (.inl g))))
    · exact h (.inr (.inr (.inr (.inr (.inl g)))))
    · exact h (.inr (.inr (.inr (.inr (.inr g)))))
    · exact h2 (.inl g)
    · exact h2 (.inr g)
theorem repX_len {r : RepV} (hs : RepS r) : (joinL (repX r ++ r.boxes)).length ≤ 3000000 := by
  have h1 := join1_len [UInt8.ofNat r.err.toNat]
  have h2 := join1_len r.head
  have h3 := join1_len (big4 r.n)
  have h4 := join1_len [128]
  have := hs.head
  have := hs.boxes
  rw [big4_len] at h3
  simp only [List.length_cons, List.length_nil] at h1 h4
  have e : repX r ++ r.boxes = [[128]] ++ ([[UInt8.ofNat r.err.toNat]] ++ ([r.head] ++ ([big4 r.n] ++ r.boxes))) := rfl
  rw [e]
  simp only [joinL_append, List.length_append]
  omega
theorem strs_cell (xs : List (List UInt8)) : (strs xs).all isCell = true := by simp [strs, isCell]
theorem own4 {b : Nat} {x y z u : List UInt8} : OwnM [(b, .cells (List.toArray [.string (bs x), .string (bs y), .string (bs z), .string (bs u)]) 9 (0, 0))] 9 (some ⟨b, 0, none⟩) 4 4 (strs [x, y, z, u]) := .inr ⟨b, [], rfl, rfl, rfl, rfl, by simp⟩
theorem RepS.n {r : RepV} (h : RepS r) : r.boxes.length ≤ 300000 := by
  have := splitL_cnt (splitL_joinL r.boxes)
  have := h.boxes
  omega
theorem not_badA {r : RepV} (h : ¬ BadA r) : 0 ≤ r.err ∧ r.err ≤ 255 ∧ 0 ≤ r.n ∧ r.n ≤ 1073741824 := by
  unfold BadA at h
  have h1 : ¬ r.err < 0 := fun g => h (.inl g)
  have h2 : ¬ 255 < r.err := fun g => h (.inr (.inl g))
  have h3 : ¬ r.n < 0 := fun g => h (.inr (.inr (.inr (.inr (.inl g)))))
  have h4 : ¬ 1073741824 < r.n := fun g => h (.inr (.inr (.inr (.inr (.inr g)))))
  omega

theorem w_PutReply (w : World) (r : RepV) {a : Option Addr} {l c : Nat} (h : VsAt w a l (strs r.boxes)) (hs : RepS r) :
    Calls Try.prog 18 #[.agg (repC r a l c).toArray] w (Ret w (putV (putRep r))) := by
  refine calls_ret (F18_calls r.err a l c (bs r.head) r.n w _ ?_)
  have hl := strs_len h
  subst hl
  have hn := hs.n
  have M : Mem w [] [] (fun W => VsAt W a r.boxes.length (strs r.boxes)) w := Mem.startF w fun w' k => h.keep0 k
  refine M.newK fun b w1 M => ?_
  have M : Mem w [] [(b, .cells (repC r a r.boxes.length c).toArray 46 (0, 0))] (fun W => VsAt W a r.boxes.length (strs r.boxes)) w1 := M
  have cc : ∀ {m : List (Nat × Obj)} {W : World}, Mem w [] ((b, .cells (repC r a r.boxes.length c).toArray 46 (0, 0)) :: m) (fun W => VsAt W a r.boxes.length (strs r.boxes)) W → ∀ (off : Nat) (v : Value), (repC r a r.boxes.length c)[off]? = some v → W.cell? (addA ⟨b, 0, none⟩ off) = some v := fun M off v hv => M.cellA 0 (c := repC r a r.boxes.length c) rfl hv
  intro K hK
  have badA : BadA r → K [.bool true] w1 := fun hb => hK _ _ fun _ => SplitK.t rfl ⟨by rw [putRep_a hb]; rfl, M.keep⟩
  have goodA : ¬ BadA r → K [.bool false] w1 := by
    intro hA
    obtain ⟨g1, g2, g3, g4⟩ := not_badA hA
    refine hK _ _ fun _ => SplitK.f rfl fun K1 hK1 => ?_
    have badB : ∀ {W : World}, BadB r → Mem w [] [(b, .cells (repC r a r.boxes.length c).toArray 46 (0, 0))] (fun W => VsAt W a r.boxes.length (strs r.boxes)) W → K1 [.bool true] W := fun hb M => hK1 _ _ fun _ => SplitK.t rfl ⟨by rw [putRep_b hb]; rfl, M.keep⟩
    have goodB : ∀ {W : World}, ¬ BadB r → Mem w [] [(b, .cells (repC r a r.boxes.length c).toArray 46 (0, 0))] (fun W => VsAt W a r.boxes.length (strs r.boxes)) W → K1 [.bool false] W := by
      intro W hB M
      refine hK1 _ _ fun _ => SplitK.f rfl fun K2 hK2 => ?_
      rintro w4 rfl
      have M := M.drew
      have hS : ∀ {m : List (Nat × Obj)} {W' : World}, Mem w [] (m ++ [(b, .cells (repC r a r.boxes.length c).toArray 46 (0, 0))]) (fun W => VsAt W a r.boxes.length (strs r.boxes)) W' → CellsAt W' ⟨b, 0, none⟩ (repC r a r.boxes.length c) := fun M => (M.perm List.perm_append_comm).cells 0 rfl
      have hat : ∀ {W' : World}, CellsAt W' ⟨b, 0, none⟩ (repC r a r.boxes.length c) → ∀ (off : Nat) (v : Value), (repC r a r.boxes.length c)[off]? = some v → W'.cell? (addA ⟨b, 0, none⟩ off) = some v := by
        intro W' hw off v hv
        have := hw off v hv
        rw [addr_add] at this
        rw [addA_mk]; exact this
      refine ⟨fun W' => CellsAt W' ⟨b, 0, none⟩ (repC r a r.boxes.length c), hS (m := []) M, r.err, fun w' hw => hat hw 0 _ rfl, bs r.head, fun w' hw => hat hw 2 _ rfl, r.n, fun w' hw => hat hw 3 _ rfl, fun K3 hK3 => ?_⟩
      obtain ⟨en, hen⟩ : ∃ en : Nat, r.err = (en : Int) := ⟨r.err.toNat, by omega⟩
      have hN : ∀ W, Calls Try.prog 27 #[.int .i64 128] W (Ret W (.string (bs [UInt8.ofNat 128]))) := fun W => w_number W 128 (by decide)
      have hE : ∀ W, Calls Try.prog 27 #[.int .i64 r.err] W (Ret W (.string (bs [UInt8.ofNat en]))) := fun W => by rw [hen]; exact w_number W en (by omega)
      have hG : ∀ W, Calls Try.prog 29 #[.int .u64 (wrapI .u64 r.n), .int .i64 4] W (Ret W (.string (bs (big4 r.n)))) := fun W => by rw [u64_of _ (by omega) (by omega)]; exact o_Big W r.n.toNat 4 (by omega)
      have hF : ∀ {W' : World}, Mem w [] [(b, .cells (repC r a r.boxes.length c).toArray 46 (0, 0))] (fun W => VsAt W a r.boxes.length (strs r.boxes)) W' → K3 [.string (bs [UInt8.ofNat 128]), .string (bs [UInt8.ofNat en]), .string (bs (big4 r.n))] W' := by
        intro W' M
        refine hK3 _ _ _ _ fun _ => M.newK fun b3 w6 M => ⟨hS (m := [_]) M, hK2 _ _ _ _ fun _ => ?_⟩
        obtain ⟨ho, hne⟩ := M.now.old
        refine ⟨_, _, _, M.cellA 1 (c := repC r a r.boxes.length c) rfl rfl, _, ho, hne, ?_⟩
        refine Mem.appK (opt := [(b3, _)]) M own4 (strs_length _) (strs_cell _) (by simp only [strs_length, List.length_cons, List.length_nil]; omega) (by simp only [strs_length, List.length_cons, List.length_nil]; omega) ?_
        intro a' l' c' opt' w7 ho' M' hl'
        have e : strs [[UInt8.ofNat 128], [UInt8.ofNat en], r.head, big4 r.n] ++ strs r.boxes = strs (repX r ++ r.boxes) := by
          rw [strs_add]; unfold repX; rw [hen]; rfl
        rw [e] at ho'
        refine CallK.ret (w_joined w7 (ho'.vsAt M') (by have := repX_len hs; omega)) fun w8 k8 => ⟨_, rfl, ?_, M'.keep.trans0 k8⟩
        rw [putRep_ok hA hB]; rfl
      have hS : ∀ {W' : World}, Mem w [] [(b, .cells (repC r a r.boxes.length c).toArray 46 (0, 0))] (fun W => VsAt W a r.boxes.length (strs r.boxes)) W' → CellsAt W' ⟨b, 0, none⟩ (repC r a r.boxes.length c) := fun M => hS (m := []) M
      repeat' (first | exact hS M | (with_reducible refine CallK.ret (hN _) fun W_ k_ => ⟨_, rfl, ?_⟩; have M := M.call k_) | (with_reducible refine CallK.ret (hE _) fun W_ k_ => ⟨_, rfl, ?_⟩; have M := M.call k_) | (with_reducible refine CallK.ret (hG _) fun W_ k_ => ⟨_, rfl, ?_⟩; have M := M.call k_) | exact hF M | refine And.intro ?_ ?_)
    refine ⟨_, _, _, cc M 1 _ rfl, ?_⟩
    refine SplitK.of (fun h1 => ?_) (fun h1 => ⟨_, _, _, cc M 1 _ rfl, ?_⟩)
    · rw [h1]
      rw [ltI_t, natI_eq] at h1
      exact badB (.inl (by omega)) M
    · rw [ltI_f, natI_eq] at h1
      refine CallK.ret (w_anyLong w1 M.now (by omega)) fun w5 k5 => ⟨_, rfl, ?_⟩
      by_cases hx : ∃ x ∈ r.boxes, 8192 < x.length
      · rw [decide_eq_true hx]; exact badB (.inr hx) (M.call k5)
      · rw [decide_eq_false hx]
        refine goodB ?_ (M.call k5)
        rintro (g | g)
        · omega
        · exact hx g
  have fin : ∀ (t : Bool), (t = true ↔ BadA r) → K [.bool t] w1 := by
    intro t ht
    cases t with
    | true => exact badA (ht.1 rfl)
    | false => exact goodA fun h => by have := ht.2 h; cases this
  refine ⟨_, cc M 0 _ rfl, SplitK.of (fun h1 => fin _ ?_) (fun h1 => ⟨_, cc M 0 _ rfl, SplitK.of (fun h2 => fin _ ?_) (fun h2 => ?_)⟩)⟩
  · rw [ltI_t] at *; exact ⟨fun h => .inl h, fun _ => h1⟩
  · rw [ltI_t] at *; exact ⟨fun h => .inr (.inl h), fun _ => h2⟩
  rw [ltI_f] at h1 h2
  intro K1 hK1
  have next : ∀ (t : Bool), (t = true ↔ (r.err ≠ 0 ∧ 0 < r.boxes.length)) → K1 [.bool t] w1 := by
    intro t ht
    refine hK1 _ _ fun _ => ?_
    cases t with
    | true => exact SplitK.t rfl (badA (.inr (.inr (.inl (ht.1 rfl)))))
    | false =>
      have hnb : ¬ (r.err ≠ 0 ∧ 0 < r.boxes.length) := fun h => by have := ht.2 h; cases this
      refine SplitK.f rfl ⟨_, cc M 2 _ rfl, SplitK.of (fun h3 => fin _ ?_) (fun h3 => ⟨_, cc M 3 _ rfl, SplitK.of (fun h4 => fin _ ?_) (fun h4 => ⟨_, cc M 3 _ rfl, fin _ ?_⟩)⟩)⟩
      · refine ⟨fun h => ?_, fun _ => h3⟩
        simp only [sizeS_bs, natI_eq, notB_t, eqI_f] at h
        exact .inr (.inr (.inr (.inl (by omega))))
      · rw [ltI_t] at *; exact ⟨fun h => .inr (.inr (.inr (.inr (.inl h)))), fun _ => h4⟩
      · simp only [sizeS_bs, natI_eq, notB_f, eqI_t] at h3
        rw [ltI_f] at h4
        rw [ltI_t]
        constructor
        · intro h; exact .inr (.inr (.inr (.inr (.inr h))))
        · rintro (g | g | g | g | g | g)
          · omega
          · omega
          · exact absurd g hnb
          · omega
          · omega
          · exact g
  refine ⟨_, cc M 0 _ rfl, SplitK.of (fun h3 => ⟨_, _, _, cc M 1 _ rfl, next _ ?_⟩) (fun h3 => next _ ?_)⟩
  · simp only [notB_t, eqI_f] at h3
    rw [ltI_t, natI_eq]
    exact ⟨fun h => ⟨h3, by omega⟩, fun h => by omega⟩
  · simp only [notB_f, eqI_t] at h3
    simp [h3]

end Go.Proofs.Ytgecpbplbkpdlaa
