/- Plain laws for bytes in words. No condition. -/
import Derived.Test.YtocjmepmbglhaaaWdMath
namespace Go.Ev
theorem bits_lt {x lo n : Int} : 0 ≤ bitsI x lo n ∧ bitsI x lo n < 2 ^ n.toNat := by
  have hp := two_pos n.toNat
  unfold bitsI
  split
  · exact ⟨Int.emod_nonneg _ (by omega), Int.emod_lt_of_pos _ hp⟩
  · omega
theorem bits8 (x lo : Int) : 0 ≤ bitsI x lo 8 ∧ bitsI x lo 8 < 256 := bits_lt
theorem bits16 (x lo : Int) : 0 ≤ bitsI x lo 16 ∧ bitsI x lo 16 < 65536 := bits_lt
theorem bits32 {x : Int} (hx : W32 x) : bitsI x 0 32 = x := by
  have : bitsI x 0 32 = x / 1 % 4294967296 := rfl
  rw [this]; omega
theorem m_w {x : Int} (hx : 0 ≤ x ∧ x < 4294967296) : (bitsI x 0 32 == x) = true := by rw [beq_iff_eq]; exact bits32 hx
theorem m_ws {x : Int} (hx : 0 ≤ x ∧ x < 4294967296) : (sextI (bitsI x 0 32) 32 == x) = true := by
  rw [beq_iff_eq, bits32 hx]
  rcases sext_val32 x with ⟨a, b⟩ | ⟨a, b⟩ <;> rw [b] <;> omega
theorem m_s8hi {x lo : Int} (h : decide (bitsI x lo 8 ≥ 128) = true) : (sextI (bitsI x lo 8) 8 == IntKind.u32.wrap (bitsI x lo 8 - 256)) = true := by
  rw [decide_eq_true_eq] at h
  have := bits8 x lo
  rw [beq_iff_eq, wrap_u32]
  rcases sext_val8 (bitsI x lo 8) with ⟨a, b⟩ | ⟨a, b⟩ <;> rw [b] <;> omega
theorem m_s8lo {x lo : Int} (h : decide (bitsI x lo 8 ≥ 128) = false) : (sextI (bitsI x lo 8) 8 == bitsI x lo 8) = true := by
  rw [decide_eq_false_iff_not] at h
  have := bits8 x lo
  rw [beq_iff_eq]
  rcases sext_val8 (bitsI x lo 8) with ⟨a, b⟩ | ⟨a, b⟩ <;> rw [b] <;> omega
theorem m_s16hi {x lo : Int} (h : decide (bitsI x lo 16 ≥ 32768) = true) : (sextI (bitsI x lo 16) 16 == IntKind.u32.wrap (bitsI x lo 16 - 65536)) = true := by
  rw [decide_eq_true_eq] at h
  have := bits16 x lo
  rw [beq_iff_eq, wrap_u32]
  rcases sext_val16 (bitsI x lo 16) with ⟨a, b⟩ | ⟨a, b⟩ <;> rw [b] <;> omega
theorem m_s16lo {x lo : Int} (h : decide (bitsI x lo 16 ≥ 32768) = false) : (sextI (bitsI x lo 16) 16 == bitsI x lo 16) = true := by
  rw [decide_eq_false_iff_not] at h
  have := bits16 x lo
  rw [beq_iff_eq]
  rcases sext_val16 (bitsI x lo 16) with ⟨a, b⟩ | ⟨a, b⟩ <;> rw [b] <;> omega
end Go.Ev
namespace Go.Ev
theorem ior_add (k : Nat) {a b : Int} (ha : 0 ≤ a) (ha' : a < 2 ^ k) (hb : 0 ≤ b) : ior a (b * 2 ^ k) = a + b * 2 ^ k := by
  obtain ⟨a, rfl⟩ := Int.eq_ofNat_of_zero_le ha
  obtain ⟨b, rfl⟩ := Int.eq_ofNat_of_zero_le hb
  have e : ((b : Int) * 2 ^ k) = ((2 ^ k * b : Nat) : Int) := by rw [Nat.mul_comm]; simp
  have h : a < 2 ^ k := by
    have h1 : ((2:Int) ^ k) = ((2 ^ k : Nat) : Int) := by simp
    omega
  rw [e]; unfold ior
  rw [Int.toNat_natCast, Int.toNat_natCast, Nat.or_comm, ← Nat.two_pow_add_eq_or_of_lt h]
  omega
theorem u32_mul_one (x : Int) (h : 0 ≤ x ∧ x < 4294967296) : IntKind.u32.wrap (x * 1) = x := by rw [Int.mul_one]; exact u32_id h
theorem b_val (x : Int) : bitsI x 0 8 = x % 256 ∧ bitsI x 8 8 = x / 256 % 256 ∧ bitsI x 16 8 = x / 65536 % 256 ∧ bitsI x 24 8 = x / 16777216 % 256 ∧ bitsI x 0 16 = x % 65536 ∧ bitsI x 16 16 = x / 65536 % 65536 := by
  have h0 : bitsI x 0 8 = x / 1 % 256 := rfl
  have h1 : bitsI x 0 16 = x / 1 % 65536 := rfl
  rw [h0, h1, Int.ediv_one]
  exact ⟨rfl, rfl, rfl, rfl, rfl, rfl⟩
theorem ior0 {a : Int} (h : 0 ≤ a) : ior 0 a = a := by unfold ior; simp; omega
theorem or32 {a b : Int} (ha : 0 ≤ a ∧ a < 4294967296) (hb : 0 ≤ b ∧ b < 4294967296) : IntKind.u32.wrap ↑(BitVec.ofInt 32 a ||| BitVec.ofInt 32 b).toNat = ior a b := by
  rw [bv_or ha hb, wrap_u32, u32_ior ha hb]
theorem and32 {a b : Int} (ha : 0 ≤ a ∧ a < 4294967296) (hb : 0 ≤ b ∧ b < 4294967296) : IntKind.u32.wrap ↑(BitVec.ofInt 32 a &&& BitVec.ofInt 32 b).toNat = iand a b := by
  rw [bv_and ha hb, wrap_u32, u32_iand ha]
theorem m_sum {x : Int} (hx : 0 ≤ x ∧ x < 4294967296) : IntKind.u32.wrap ↑(BitVec.ofInt 32 (IntKind.u32.wrap ↑(BitVec.ofInt 32 (IntKind.u32.wrap ↑(BitVec.ofInt 32 (IntKind.u32.wrap ↑(BitVec.ofInt 32 0 ||| BitVec.ofInt 32 (IntKind.u32.wrap (bitsI x 0 8 * 1))).toNat) ||| BitVec.ofInt 32 (IntKind.u32.wrap (bitsI x 8 8 * 256))).toNat) ||| BitVec.ofInt 32 (IntKind.u32.wrap (bitsI x 16 8 * 65536))).toNat) ||| BitVec.ofInt 32 (IntKind.u32.wrap (bitsI x 24 8 * 16777216))).toNat = x := by
  obtain ⟨h0, h1, h2, h3, _, _⟩ := b_val x
  rw [h0, h1, h2, h3]
  rw [u32_id (x := x % 256 * 1) (by omega), u32_id (x := x / 256 % 256 * 256) (by omega), u32_id (x := x / 65536 % 256 * 65536) (by omega), u32_id (x := x / 16777216 % 256 * 16777216) (by omega)]
  rw [or32 (a := 0) (b := x % 256 * 1) (by omega) (by omega), ior0 (a := x % 256 * 1) (by omega)]
  have e1 : ior (x % 256 * 1) (x / 256 % 256 * 256) = x % 256 * 1 + x / 256 % 256 * 256 := ior_add 8 (by omega) (by show _ < (256 : Int); omega) (by omega)
  rw [or32 (a := x % 256 * 1) (b := x / 256 % 256 * 256) (by omega) (by omega), e1]
  have e2 : ior (x % 256 * 1 + x / 256 % 256 * 256) (x / 65536 % 256 * 65536) = x % 256 * 1 + x / 256 % 256 * 256 + x / 65536 % 256 * 65536 := ior_add 16 (by omega) (by show _ < (65536 : Int); omega) (by omega)
  rw [or32 (a := x % 256 * 1 + x / 256 % 256 * 256) (b := x / 65536 % 256 * 65536) (by omega) (by omega), e2]
  have e3 : ior (x % 256 * 1 + x / 256 % 256 * 256 + x / 65536 % 256 * 65536) (x / 16777216 % 256 * 16777216) = x % 256 * 1 + x / 256 % 256 * 256 + x / 65536 % 256 * 65536 + x / 16777216 % 256 * 16777216 := ior_add 24 (by omega) (by show _ < (16777216 : Int); omega) (by omega)
  rw [or32 (by omega) (by omega), e3]
  omega
theorem m_half {x : Int} (hx : 0 ≤ x ∧ x < 4294967296) : IntKind.u32.wrap ↑(BitVec.ofInt 32 (IntKind.u32.wrap ↑(BitVec.ofInt 32 0 ||| BitVec.ofInt 32 (IntKind.u32.wrap (bitsI x 0 16 * 1))).toNat) ||| BitVec.ofInt 32 (IntKind.u32.wrap (bitsI x 16 16 * 65536))).toNat = x := by
  obtain ⟨_, _, _, _, h4, h5⟩ := b_val x
  rw [h4, h5]
  rw [u32_id (x := x % 65536 * 1) (by omega), u32_id (x := x / 65536 % 65536 * 65536) (by omega)]
  rw [or32 (a := 0) (b := x % 65536 * 1) (by omega) (by omega), ior0 (a := x % 65536 * 1) (by omega)]
  have e1 : ior (x % 65536 * 1) (x / 65536 % 65536 * 65536) = x % 65536 * 1 + x / 65536 % 65536 * 65536 := ior_add 16 (by omega) (by show _ < (65536 : Int); omega) (by omega)
  rw [or32 (by omega) (by omega), e1]
  omega
end Go.Ev
