/-
  A part of the proof: WR.
-/
import Derived.Test.YtgecpbplbkpdlaaSxWQ
import Derived.Test.YtgecpbplbkpdlaaSxTP
namespace Go.Proofs.Ytgecpbplbkpdlaa
open Go Go.Sx Go.Oct Go.Wire
set_option linter.unusedVariables false

set_option maxHeartbeats 8000000 in
set_option maxRecDepth 4000 in
theorem x_PutReply (w : World) (r : RepV) {a : Option Addr} {l c : Nat} (h : VsAt w a l (strs r.boxes)) (hs : RepS r) :
    Calls Try.prog 19 #[.agg (repC r a l c).toArray] w (Ret w (putV (putRep r))) := by
  refine calls_ret (F19_calls r.err a l c (bs r.head) r.n w _ ?_)
  have hl := strs_len h
  subst hl
  have hn := hs.n
  have M : Mem w [] [] (fun W => VsAt W a r.boxes.length (strs r.boxes)) w := Mem.startF w fun w' k => h.keep0 k
  refine M.newK fun b w1 M => ?_
  have M : Mem w [] [] (fun W => VsAt W a r.boxes.length (strs r.boxes) ∧ CellsAt W ⟨b, 0, none⟩ (repC r a r.boxes.length c)) w1 := by
    have hc := M.cells 0 (c := repC r a r.boxes.length c) rfl
    exact Mem.addF M.tail fun w' hk => hc.keep hk (by simp)
  have hat : ∀ {W' : World}, CellsAt W' ⟨b, 0, none⟩ (repC r a r.boxes.length c) → ∀ (off : Nat) (v : Value), (repC r a r.boxes.length c)[off]? = some v → W'.cell? (addA ⟨b, 0, none⟩ off) = some v := by
    intro W' hw off v hv
    have := hw off v hv
    rw [addr_add] at this
    rw [addA_mk]; exact this
  have cc : ∀ {m : List (Nat × Obj)} {W : World}, Mem w [] m (fun W => VsAt W a r.boxes.length (strs r.boxes) ∧ CellsAt W ⟨b, 0, none⟩ (repC r a r.boxes.length c)) W → ∀ (off : Nat) (v : Value), (repC r a r.boxes.length c)[off]? = some v → W.cell? (addA ⟨b, 0, none⟩ off) = some v := fun M off v hv => hat M.now.2 off v hv
  intro K hK
  have bad : BadA r ∨ BadB r → K [.bool true] w1 := fun hb => hK _ _ fun _ => SplitK.t rfl ⟨by rw [hb.elim putRep_a putRep_b]; rfl, M.keep⟩
  have good : ¬ BadA r → ¬ 800 < r.boxes.length → K [.bool false] w1 := by
    intro hA h800
    obtain ⟨g1, g2, g3, g4⟩ := not_badA hA
    refine hK _ _ fun _ => SplitK.f rfl fun K1 hK1 => ?_
    rintro w3 rfl
    have M := M.drew
    obtain ⟨en, hen⟩ : ∃ en : Nat, r.err = (en : Int) := ⟨r.err.toNat, by omega⟩
    refine ⟨fun W => VsAt W a r.boxes.length (strs r.boxes) ∧ CellsAt W ⟨b, 0, none⟩ (repC r a r.boxes.length c), M.now, (en : Int), fun w' hw => by rw [← hen]; exact hat hw.2 0 _ rfl, bs r.head, fun w' hw => hat hw.2 2 _ rfl, r.n, fun w' hw => hat hw.2 3 _ rfl, fun K2 hK2 => ?_⟩
    have hG : ∀ W, Calls Try.prog 33 #[.int .u64 (wrapI .u64 r.n), .int .i64 4] W (Ret W (.string (bs (big4 r.n)))) := fun W => by rw [u64_of _ (by omega) (by omega)]; exact x_Big W r.n.toNat 4 (by omega)
    have hF : ∀ {W' : World} {b4 : Nat} {x y : Nat × Obj}, Mem w [] [(b4, .cells (List.toArray [.string (bs [128]), .string (bs [UInt8.ofNat en]), .string (bs r.head), .string (bs (big4 r.n))]) 9 (0, 0)), x, y] (fun W => VsAt W a r.boxes.length (strs r.boxes) ∧ CellsAt W ⟨b, 0, none⟩ (repC r a r.boxes.length c)) W' → K2 [.slice (some ⟨b4, 0, none⟩) 4 4] W' := by
      intro W' b4 x y M
      refine hK2 _ _ _ _ fun _ => hK1 _ _ _ _ fun _ => ?_
      have M : Mem w [] ([(b4, .cells (List.toArray [.string (bs [128]), .string (bs [UInt8.ofNat en]), .string (bs r.head), .string (bs (big4 r.n))]) 9 (0, 0))] ++ []) (fun W => VsAt W a r.boxes.length (strs r.boxes) ∧ CellsAt W ⟨b, 0, none⟩ (repC r a r.boxes.length c)) W' := M.sub ((List.nil_sublist _).cons_cons _)
      have eX : strs (repX r ++ r.boxes.take 0) = strs [[128], [UInt8.ofNat en], r.head, big4 r.n] := by
        unfold repX; rw [hen]; rfl
      refine ⟨fun n vs W => ∃ (k : Nat) (opt : List (Nat × Obj)) (a2 : Option Addr) (l2 c2 : Nat), vs = [.slice a2 l2 c2, .int .i64 k] ∧ k + n = r.boxes.length ∧ (∀ x ∈ r.boxes.take k, ¬ 8192 < x.length) ∧ OwnM opt 9 a2 l2 c2 (strs (repX r ++ r.boxes.take k)) ∧ Mem w [] (opt ++ []) (fun W => VsAt W a r.boxes.length (strs r.boxes) ∧ CellsAt W ⟨b, 0, none⟩ (repC r a r.boxes.length c)) W,
        ⟨r.boxes.length, 0, _, _, _, _, rfl, by omega, by simp, by rw [eX]; exact own4, M⟩, ?_⟩
      clear M
      rintro n vs W ⟨k, opt, a2, l2, c2, rfl, hk, hno, ho, M⟩
      refine ⟨_, _, _, _, rfl, fun _ => ⟨_, _, _, cc M 1 _ rfl, SplitK.of (fun hlt => ?_) (fun hlt => ?_)⟩⟩
      · simp only [natI_eq, ltI_t] at hlt
        have hkl : k < r.boxes.length := by omega
        obtain ⟨p, hp, hc⟩ := str_at M.now.1 hkl
        have hk1 : 0 ≤ (k : Int) := by omega
        have hk2 : (k : Int) < natI r.boxes.length := by rw [natI_eq]; omega
        refine ⟨_, _, _, cc M 1 _ rfl, hk1, hk2, SomeK.of p hp ⟨_, hc, SplitK.of (fun h5 => ?_) (fun h5 => ⟨_, _, _, cc M 1 _ rfl, hk1, hk2, SomeK.of p hp ⟨_, hc, ?_⟩⟩)⟩⟩
        · simp only [sizeS_bs, natI_eq, ltI_t] at h5
          exact ⟨by rw [putRep_b (.inr ⟨_, List.getElem_mem hkl, by omega⟩)]; rfl, M.keep⟩
        · simp only [sizeS_bs, natI_eq, ltI_f] at h5
          refine M.newK fun b2 w5 M => ⟨_, M.old1, ne1, ?_⟩
          refine Mem.appK M.tail ho rfl rfl (by rw [strs_length, List.length_append, List.length_take]; simp [repX]; omega) (by rw [strs_length, List.length_append, List.length_take]; simp [repX]; omega) ?_
          intro a3 l3 c3 opt3 w7 ho3 M3 hl3
          refine ⟨n - 1, by omega, k + 1, opt3, a3, l3, c3, by rw [addI_one (by omega)], by omega, ?_, ?_, M3⟩
          · intro x hm
            rw [List.take_succ_eq_append_getElem hkl] at hm
            rcases List.mem_append.1 hm with h1 | h1
            · exact hno x h1
            · rw [List.mem_singleton.1 h1]; omega
          · rw [List.take_succ_eq_append_getElem hkl, ← List.append_assoc, ← strs_add]; exact ho3
      · simp only [natI_eq, ltI_f] at hlt
        obtain rfl : k = r.boxes.length := by omega
        rw [List.take_length] at ho hno
        have hB : ¬ BadB r := by
          rintro (g | ⟨x, hx, g⟩)
          · exact h800 g
          · exact hno x hx g
        refine CallK.ret (x_Join12 W (ho.vsAt M) (by have := repX_len hs; omega)) fun w8 k8 => ⟨_, rfl, ?_, M.keep.trans0 k8⟩
        rw [putRep_ok hA hB]; rfl
    rw [wrapI_u8, byteV_ofNat]
    repeat' (first | exact M.now | (with_reducible refine CallK.ret (hG _) fun W_ k_ => ⟨_, rfl, ?_⟩; have M := M.call k_) | (with_reducible refine M.newK fun b_ W_ M => ?_) | exact hF M | refine ⟨[128], by first | exact M.bytes 0 (xs := [128]) rfl rfl | exact M.bytes 1 (xs := [128]) rfl rfl | exact M.bytes 2 (xs := [128]) rfl rfl, ?_⟩ | refine ⟨[UInt8.ofNat en], by first | exact M.bytes 0 (xs := [UInt8.ofNat en]) rfl rfl | exact M.bytes 1 (xs := [UInt8.ofNat en]) rfl rfl | exact M.bytes 2 (xs := [UInt8.ofNat en]) rfl rfl, ?_⟩ | refine And.intro ?_ ?_)
  have fin : ∀ (t : Bool), (t = true ↔ BadA r) → ¬ 800 < r.boxes.length → K [.bool t] w1 := by
    intro t ht h8
    cases t with
    | true => exact bad (.inl (ht.1 rfl))
    | false => exact good (fun h => by have := ht.2 h; cases this) h8
  refine ⟨_, cc M 0 _ rfl, SplitK.of (fun h1 => bad (.inl ?_)) (fun h1 => ⟨_, cc M 0 _ rfl, SplitK.of (fun h2 => bad (.inl ?_)) (fun h2 => ⟨_, _, _, cc M 1 _ rfl, SplitK.of (fun h3 => bad (.inr ?_)) (fun h3 => ?_)⟩)⟩)⟩
  · rw [ltI_t] at h1; exact .inl h1
  · rw [ltI_t] at h2; exact .inr (.inl h2)
  · rw [ltI_t, natI_eq] at h3; exact .inl (by omega)
  rw [ltI_f] at h1 h2
  rw [ltI_f, natI_eq] at h3
  have tail : ¬ (r.err ≠ 0 ∧ 0 < r.boxes.length) → ∃ s, w1.cell? (addA ⟨b, 0, none⟩ 2) = some (.string s) ∧ SplitK (notB (eqI (natI (sizeS s)) 32)) (K [.bool true] w1) (∃ n3, w1.cell? (addA ⟨b, 0, none⟩ 3) = some (.int .i64 n3) ∧ SplitK (ltI n3 0) (K [.bool true] w1) (∃ n4, w1.cell? (addA ⟨b, 0, none⟩ 3) = some (.int .i64 n4) ∧ K [.bool (ltI 1073741824 n4)] w1)) := by
    intro hnb
    refine ⟨_, cc M 2 _ rfl, SplitK.of (fun h3 => bad (.inl ?_)) (fun h3 => ⟨_, cc M 3 _ rfl, SplitK.of (fun h4 => bad (.inl ?_)) (fun h4 => ⟨_, cc M 3 _ rfl, fin _ ?_ (by omega)⟩)⟩)⟩
    · simp only [sizeS_bs, natI_eq, notB_t, eqI_f] at h3
      exact .inr (.inr (.inr (.inl (by omega))))
    · rw [ltI_t] at h4; exact .inr (.inr (.inr (.inr (.inl h4))))
    · simp only [sizeS_bs, natI_eq, notB_f, eqI_t] at h3
      rw [ltI_f] at h4
      rw [ltI_t]
      constructor
      · intro h; exact .inr (.inr (.inr (.inr (.inr h))))
      · rintro (g | g | g | g | g | g)
        · omega
        · omega
        · exact absurd g hnb
        · omega
        · omega
        · exact g
  refine ⟨_, cc M 0 _ rfl, SplitK.of (fun h4 => ⟨_, _, _, cc M 1 _ rfl, SplitK.of (fun h5 => bad (.inl ?_)) (fun h5 => tail ?_)⟩) (fun h4 => tail ?_)⟩
  · simp only [notB_t, eqI_f] at h4
    rw [ltI_t, natI_eq] at h5
    exact .inr (.inr (.inl ⟨h4, by omega⟩))
  · rw [ltI_f, natI_eq] at h5
    rintro ⟨_, h⟩; omega
  · simp only [notB_f, eqI_t] at h4
    rintro ⟨h, _⟩; exact h h4

end Go.Proofs.Ytgecpbplbkpdlaa
