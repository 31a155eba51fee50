/-
  SX: texts as lists of bytes, and the numbers' operations on natural numbers.
-/
import Derived.Test.YtgecpbplbkpdlaaSxLib
namespace Go.Sx
open Go
set_option linter.unusedVariables false

/-! ### Texts -/
theorem bs_surj (s : ByteArray) : ∃ l, s = bs l := ⟨s.data.toList, by cases s; simp [bs]⟩
@[simp] theorem bs_toList (l : List UInt8) : (bs l).data.toList = l := by simp [bs]
@[simp] theorem bs_size (l : List UInt8) : (bs l).size = l.length := by simp [bs, ByteArray.size]
theorem sizeS_bs (l : List UInt8) : sizeS (bs l) = l.length := bs_size l
@[simp] theorem catS_bs (a b : List UInt8) : catS (bs a) (bs b) = bs (a ++ b) := by
  simp only [catS]; apply ByteArray.ext; simp [bs]
@[simp] theorem bs_inj {a b : List UInt8} : (bs a = bs b) = (a = b) := by
  apply propext; constructor
  · intro h; have := congrArg (fun s : ByteArray => s.data.toList) h; simpa using this
  · intro h; rw [h]
@[simp] theorem eqS_bs (a b : List UInt8) : eqS (bs a) (bs b) = decide (a = b) := by rw [eqS_eq]; simp
@[simp] theorem cutS_bs (l : List UInt8) (i j : Nat) : cutS (bs l) i j = bs ((l.take j).drop i) := by
  simp only [cutS]; apply ByteArray.ext; simp [bs, ByteArray.data_extract, List.drop_take]
@[simp] theorem empty_bs : ByteArray.mk (List.toArray []) = bs [] := rfl
theorem lit_bs (l : List UInt8) : ByteArray.mk (List.toArray l) = bs l := rfl

theorem byteAt {l : List UInt8} {i : Nat} {k : UInt8 → Prop} (h : i < l.length) (hk : k l[i]) : ByteAtK (bs l) i k :=
  ⟨l[i], by simp [h], hk⟩

/-! ### Numbers -/
section
theorem wrap_u {k : IntKind} (hk : k.signed = false) (x : Int) : k.wrap x = x % (2 ^ k.bits : Int) := by
  unfold IntKind.wrap; simp [hk]

theorem wrapI_u8 (n : Nat) : wrapI .u8 (n : Int) = ((n % 256 : Nat) : Int) := by rw [wrapI, wrap_u rfl]; simp [IntKind.bits]
theorem wrapI_u16 (n : Nat) : wrapI .u16 (n : Int) = ((n % 65536 : Nat) : Int) := by rw [wrapI, wrap_u rfl]; simp [IntKind.bits]
theorem wrapI_u32 (n : Nat) : wrapI .u32 (n : Int) = ((n % 4294967296 : Nat) : Int) := by rw [wrapI, wrap_u rfl]; simp [IntKind.bits]
theorem wrapI_u64 (n : Nat) : wrapI .u64 (n : Int) = ((n % 18446744073709551616 : Nat) : Int) := by rw [wrapI, wrap_u rfl]; simp [IntKind.bits]
theorem wrapI_u64i (n : Int) : wrapI .u64 n = n % 18446744073709551616 := by rw [wrapI, wrap_u rfl]; simp [IntKind.bits]
theorem wrapI_u32i (n : Int) : wrapI .u32 n = n % 4294967296 := by rw [wrapI, wrap_u rfl]; simp [IntKind.bits]
theorem wrapI_u8i (n : Int) : wrapI .u8 n = n % 256 := by rw [wrapI, wrap_u rfl]; simp [IntKind.bits]
theorem wrapI_i64 (n : Nat) (h : n < 9223372036854775808) : wrapI .i64 (n : Int) = (n : Int) := by
  simp only [wrapI, IntKind.wrap, IntKind.signed, IntKind.bits]; simp; omega

theorem addI_u64 (a b : Nat) : addI .u64 (a : Int) (b : Int) = (((a + b) % 18446744073709551616 : Nat) : Int) := by rw [addI, wrap_u rfl]; simp [IntKind.bits]
theorem addI_u32 (a b : Nat) : addI .u32 (a : Int) (b : Int) = (((a + b) % 4294967296 : Nat) : Int) := by rw [addI, wrap_u rfl]; simp [IntKind.bits]
theorem mulI_u64 (a b : Nat) : mulI .u64 (a : Int) (b : Int) = (((a * b) % 18446744073709551616 : Nat) : Int) := by rw [mulI, wrap_u rfl]; simp [IntKind.bits]
theorem mulI_u32 (a b : Nat) : mulI .u32 (a : Int) (b : Int) = (((a * b) % 4294967296 : Nat) : Int) := by rw [mulI, wrap_u rfl]; simp [IntKind.bits]
theorem subI_u64 (a b : Nat) (h : b ≤ a) (ha : a < 18446744073709551616) : subI .u64 (a : Int) (b : Int) = ((a - b : Nat) : Int) := by
  rw [subI, wrap_u rfl]; simp [IntKind.bits]; omega
theorem subI_nat (a b : Nat) (h : b ≤ a) (ha : a < 9223372036854775808) : subI .i64 (a : Int) (b : Int) = ((a - b : Nat) : Int) := by
  rw [subI_i64 (by omega) (by omega)]; omega
theorem addI_nat (a b : Nat) (h : a + b < 9223372036854775808) : addI .i64 (a : Int) (b : Int) = ((a + b : Nat) : Int) := by
  rw [addI_i64 (by omega) (by omega)]; omega
theorem mulI_nat (a b : Nat) (h : a * b < 9223372036854775808) : mulI .i64 (a : Int) (b : Int) = ((a * b : Nat) : Int) := by
  have : ((a * b : Nat) : Int) = (a : Int) * b := by simp
  rw [mulI_i64 (by omega) (by omega)]; omega
theorem remI_nat (a b : Nat) : remI (a : Int) (b : Int) = ((a % b : Nat) : Int) := by simp [remI, Int.tmod_eq_emod_of_nonneg]
theorem quoI_u64 (a b : Nat) (h : a < 18446744073709551616) : quoI .u64 (a : Int) (b : Int) = ((a / b : Nat) : Int) := by
  have h1 : a / b ≤ a := Nat.div_le_self a b
  have h2 : (a : Int).tdiv (b : Int) = ((a / b : Nat) : Int) := by rw [Int.tdiv_eq_ediv_of_nonneg (by omega)]; simp
  rw [quoI, wrap_u rfl, h2]; simp only [IntKind.bits]
  generalize a / b = q at h1
  omega
theorem quoI_u32 (a b : Nat) (h : a < 4294967296) : quoI .u32 (a : Int) (b : Int) = ((a / b : Nat) : Int) := by
  have h1 : a / b ≤ a := Nat.div_le_self a b
  have h2 : (a : Int).tdiv (b : Int) = ((a / b : Nat) : Int) := by rw [Int.tdiv_eq_ediv_of_nonneg (by omega)]; simp
  rw [quoI, wrap_u rfl, h2]; simp only [IntKind.bits]
  generalize a / b = q at h1
  omega
theorem quoI_u8 (a b : Nat) (h : a < 256) : quoI .u8 (a : Int) (b : Int) = ((a / b : Nat) : Int) := by
  have h1 : a / b ≤ a := Nat.div_le_self a b
  have h2 : (a : Int).tdiv (b : Int) = ((a / b : Nat) : Int) := by rw [Int.tdiv_eq_ediv_of_nonneg (by omega)]; simp
  rw [quoI, wrap_u rfl, h2]; simp only [IntKind.bits]
  generalize a / b = q at h1
  omega
theorem quoI_nat (a b : Nat) (h : a < 9223372036854775808) : quoI .i64 (a : Int) (b : Int) = ((a / b : Nat) : Int) := by
  have h1 : a / b ≤ a := Nat.div_le_self a b
  have h2 : (a : Int).tdiv (b : Int) = ((a / b : Nat) : Int) := by rw [Int.tdiv_eq_ediv_of_nonneg (by omega)]; simp
  rw [quoI, h2]
  generalize a / b = q at h1
  simp only [IntKind.wrap, IntKind.signed, IntKind.bits]
  simp
  omega

theorem pow_min (b n : Nat) (a : Nat) : (a * 2 ^ min b n) % 2 ^ n = (a * 2 ^ b) % 2 ^ n := by
  by_cases h : b ≤ n
  · rw [Nat.min_eq_left h]
  · have h1 : n ≤ b := by omega
    rw [Nat.min_eq_right h1]
    obtain ⟨c, rfl⟩ := Nat.exists_eq_add_of_le h1
    rw [Nat.pow_add, ← Nat.mul_assoc, Nat.mul_right_comm, Nat.mul_mod_left, Nat.mul_mod_left]
theorem shlI_u64 (a b : Nat) : shlI .u64 (a : Int) (b : Int) = (((a * 2 ^ b) % 18446744073709551616 : Nat) : Int) := by
  rw [shlI, wrap_u rfl]
  have := pow_min b 64 a
  simp only [IntKind.bits, Int.toNat_natCast]
  have h2 : ((a * 2 ^ min b 64 : Nat) : Int) = (a : Int) * 2 ^ min b 64 := by simp
  rw [← h2]
  have h3 : (2 : Int) ^ 64 = ((2 ^ 64 : Nat) : Int) := by decide
  rw [h3, ← Int.natCast_emod, this]
theorem shlI_u32 (a b : Nat) : shlI .u32 (a : Int) (b : Int) = (((a * 2 ^ b) % 4294967296 : Nat) : Int) := by
  rw [shlI, wrap_u rfl]
  have := pow_min b 32 a
  simp only [IntKind.bits, Int.toNat_natCast]
  have h2 : ((a * 2 ^ min b 32 : Nat) : Int) = (a : Int) * 2 ^ min b 32 := by simp
  rw [← h2]
  have h3 : (2 : Int) ^ 32 = ((2 ^ 32 : Nat) : Int) := by decide
  rw [h3, ← Int.natCast_emod, this]
theorem div_min {a n : Nat} (h : a < 2 ^ n) (b : Nat) : a / 2 ^ min b n = a / 2 ^ b := by
  by_cases h1 : b ≤ n
  · rw [Nat.min_eq_left h1]
  · rw [Nat.min_eq_right (by omega), Nat.div_eq_of_lt h, Nat.div_eq_of_lt (Nat.lt_of_lt_of_le h (Nat.pow_le_pow_right (by decide) (by omega)))]
theorem shrI_u (k : IntKind) (a b : Nat) (h : a < 2 ^ k.bits) : shrI k (a : Int) (b : Int) = ((a / 2 ^ b : Nat) : Int) := by
  rw [shrI, ← div_min h b]
  simp only [Int.toNat_natCast]
  rw [Int.fdiv_eq_ediv_of_nonneg _ (by exact Int.le_of_lt (by exact_mod_cast Nat.pow_pos (by decide)))]
  simp
theorem shrI_u64 (a b : Nat) (h : a < 18446744073709551616) : shrI .u64 (a : Int) (b : Int) = ((a / 2 ^ b : Nat) : Int) := shrI_u _ a b h
theorem shrI_u32 (a b : Nat) (h : a < 4294967296) : shrI .u32 (a : Int) (b : Int) = ((a / 2 ^ b : Nat) : Int) := shrI_u _ a b h
theorem shrI_u8 (a b : Nat) (h : a < 256) : shrI .u8 (a : Int) (b : Int) = ((a / 2 ^ b : Nat) : Int) := shrI_u _ a b h

theorem ofInt_nat {n a : Nat} (h : a < 2 ^ n) : (BitVec.ofInt n (a : Int)).toNat = a := by
  simp [Nat.mod_eq_of_lt h]
theorem wrap_fit {k : IntKind} (hk : k.signed = false) {a : Nat} (h : a < 2 ^ k.bits) : k.wrap (a : Int) = (a : Int) := by
  rw [wrap_u hk]
  have h3 : (2 : Int) ^ k.bits = ((2 ^ k.bits : Nat) : Int) := by simp
  rw [h3, ← Int.natCast_emod, Nat.mod_eq_of_lt h]
theorem orI_u (k : IntKind) (hk : k.signed = false) (a b : Nat) (ha : a < 2 ^ k.bits) (hb : b < 2 ^ k.bits) : orI k (a : Int) (b : Int) = ((a ||| b : Nat) : Int) := by
  rw [orI, BitVec.toNat_or, ofInt_nat ha, ofInt_nat hb, wrap_fit hk (Nat.or_lt_two_pow ha hb)]
theorem andI_u (k : IntKind) (hk : k.signed = false) (a b : Nat) (ha : a < 2 ^ k.bits) (hb : b < 2 ^ k.bits) : andI k (a : Int) (b : Int) = ((a &&& b : Nat) : Int) := by
  rw [andI, BitVec.toNat_and, ofInt_nat ha, ofInt_nat hb, wrap_fit hk (Nat.and_lt_two_pow _ hb)]
theorem xorI_u (k : IntKind) (hk : k.signed = false) (a b : Nat) (ha : a < 2 ^ k.bits) (hb : b < 2 ^ k.bits) : xorI k (a : Int) (b : Int) = ((a ^^^ b : Nat) : Int) := by
  rw [xorI, BitVec.toNat_xor, ofInt_nat ha, ofInt_nat hb, wrap_fit hk (Nat.xor_lt_two_pow ha hb)]
theorem orI_u64 (a b : Nat) (ha : a < 18446744073709551616) (hb : b < 18446744073709551616) : orI .u64 (a : Int) (b : Int) = ((a ||| b : Nat) : Int) := orI_u _ rfl a b ha hb
theorem orI_u32 (a b : Nat) (ha : a < 4294967296) (hb : b < 4294967296) : orI .u32 (a : Int) (b : Int) = ((a ||| b : Nat) : Int) := orI_u _ rfl a b ha hb
theorem orI_u8 (a b : Nat) (ha : a < 256) (hb : b < 256) : orI .u8 (a : Int) (b : Int) = ((a ||| b : Nat) : Int) := orI_u _ rfl a b ha hb
theorem xorI_u8 (a b : UInt8) : xorI .u8 ((a.toNat : Nat) : Int) ((b.toNat : Nat) : Int) = (((a ^^^ b).toNat : Nat) : Int) := by
  rw [xorI_u _ rfl _ _ a.toNat_lt b.toNat_lt, UInt8.toNat_xor]
theorem xorI_u32 (a b : Nat) (ha : a < 4294967296) (hb : b < 4294967296) : xorI .u32 (a : Int) (b : Int) = ((a ^^^ b : Nat) : Int) := xorI_u _ rfl a b ha hb
theorem andI_u32 (a b : Nat) (ha : a < 4294967296) (hb : b < 4294967296) : andI .u32 (a : Int) (b : Int) = ((a &&& b : Nat) : Int) := andI_u _ rfl a b ha hb
theorem andI_u64 (a b : Nat) (ha : a < 18446744073709551616) (hb : b < 18446744073709551616) : andI .u64 (a : Int) (b : Int) = ((a &&& b : Nat) : Int) := andI_u _ rfl a b ha hb
theorem minI_nat (a b : Nat) : minI (a : Int) (b : Int) = ((min a b : Nat) : Int) := by unfold minI; split <;> omega
theorem maxI_nat (a b : Nat) : maxI (a : Int) (b : Int) = ((max a b : Nat) : Int) := by unfold maxI; split <;> omega
theorem ltI_nat (a b : Nat) : ltI (a : Int) (b : Int) = decide (a < b) := by simp [ltI]
theorem leI_nat (a b : Nat) : leI (a : Int) (b : Int) = decide (a ≤ b) := by simp [leI]
theorem eqI_nat (a b : Nat) : eqI (a : Int) (b : Int) = decide (a = b) := by rw [Bool.eq_iff_iff]; simp [eqI]; omega
theorem or_add {x y i : Nat} (h : y < 2 ^ i) : x * 2 ^ i ||| y = x * 2 ^ i + y := by
  rw [Nat.mul_comm, ← Nat.two_pow_add_eq_or_of_lt h]
theorem or_add' {x y i : Nat} (h : x < 2 ^ i) : x ||| y * 2 ^ i = y * 2 ^ i + x := by
  rw [Nat.or_comm, or_add h]
end

/-! ### Rows of bytes -/
def byteVs (l : List UInt8) : List Value := l.map byteV
theorem byteV_mk (b : UInt8) : Value.int .u8 ((b.toNat : Nat) : Int) = byteV b := rfl
theorem byteV_ofNat (n : Nat) : Value.int .u8 ((n % 256 : Nat) : Int) = byteV (UInt8.ofNat n) := by simp [byteV]
theorem byteVs_isCell (l : List UInt8) : (byteVs l).all isCell = true := by simp [byteVs, isCell, byteV]

/-- The bytes of an own row. -/
theorem OwnM.bytesAt {opt : List (Nat × Obj)} {T : TypeId} {a : Option Addr} {l c : Nat} {xs : List UInt8} {w0 w : World} {lo : List Nat} {m : List (Nat × Obj)} {F : World → Prop}
    (ho : OwnM opt T a l c (byteVs xs)) (M : Mem w0 lo (opt ++ m) F w) : BytesAt w a l xs := by
  rcases ho with ⟨rfl, rfl, rfl, rfl, h⟩ | ⟨b, rest, rfl, rfl, rfl, rfl, hcb⟩
  · simp only [byteVs, List.map_eq_nil_iff] at h; exact h
  · refine ⟨by simp [byteVs], M.cellsFrom 0 rfl fun j v hv => ?_⟩
    have := (List.getElem?_eq_some_iff.1 hv).1
    simp only [List.length_map] at this
    simp only [byteVs, Nat.zero_add]
    rw [List.getElem?_append_left (by simpa using this)]
    exact hv

theorem OwnM.len {opt : List (Nat × Obj)} {T : TypeId} {a : Option Addr} {l c : Nat} {vs : List Value} (ho : OwnM opt T a l c vs) : l = vs.length := by
  rcases ho with ⟨_, _, h1, _, h2⟩ | ⟨_, _, _, _, h1, _, _⟩ <;> simp [*]

/-- A block of cells at the head of the list as what a slice over it holds. -/
theorem Mem.old1 {w0 w : World} {lo : List Nat} {m : List (Nat × Obj)} {F : World → Prop} {b : Nat} {T : TypeId} {v : Value} (M : Mem w0 lo ((b, .cells (List.toArray [v]) T (0, 0)) :: m) F w) :
    OldAt w (some ⟨b, 0, none⟩) (mulN 1 1) [v] := ⟨rfl, M.cells 0 rfl⟩
theorem ne1 {b : Nat} {x y : Nat} : (some (Addr.mk b 0 none) = none) → x = y := fun h => by cases h

/-- The bytes of a block that is known. -/
theorem Mem.bytes {w0 w : World} {lo : List Nat} {m : List (Nat × Obj)} {F : World → Prop} (M : Mem w0 lo m F w) (i : Nat) {b : Nat} {xs : List UInt8} {T : TypeId} {fr : Nat × Nat} {n : Nat}
    (hm : m[i]? = some (b, .cells (byteVs xs).toArray T fr)) (hn : n = xs.length) : BytesAt w (some ⟨b, 0, none⟩) n xs := by
  refine ⟨hn.symm, ?_⟩
  exact M.cells i (c := byteVs xs) hm

end Go.Sx
