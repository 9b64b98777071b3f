/- The plain laws of words: divisions, moves, sums, orders. No condition. -/
import Derived.Test.YtocjmepmbglhaaaEvWd
namespace Go.Ev
abbrev W32 (a : Int) : Prop := 0 ≤ a ∧ a < 4294967296

/-! ### divisions -/
theorem u_parts {a b : Int} (_ : W32 a) (hb : W32 b) (h0 : b ≠ 0) : opI .divu a b * b + opI .remu a b = a ∧ opI .remu a b < b := by
  simp only [opI, if_neg h0]
  refine ⟨?_, Int.emod_lt_of_pos a (by omega)⟩
  have := Int.mul_ediv_add_emod a b
  rw [Int.mul_comm] at this; exact this
theorem sg_ne {b : Int} (hb : W32 b) (h0 : b ≠ 0) : sg b ≠ 0 := by unfold sg; omega
theorem r_abs (a b : Int) (h : b ≠ 0) : (a.tmod b).natAbs < b.natAbs := by
  rw [Int.natAbs_tmod]; exact Nat.mod_lt _ (by omega)
theorem r_abs' (a b : Int) : (a.tmod b).natAbs ≤ a.natAbs := by
  rw [Int.natAbs_tmod]; exact Nat.mod_le _ _
theorem rem_eq {a b : Int} (hb : W32 b) (h0 : b ≠ 0) : IntKind.i32.wrap (opI .rem a b) = (sg a).tmod (sg b) := by
  simp only [opI, if_neg h0]
  have h1 := r_abs (sg a) (sg b) (sg_ne hb h0)
  have h2 := sg_rng b
  rw [wrap_i32]; omega
theorem s_sum {a b : Int} (hb : W32 b) (h0 : b ≠ 0) :
    IntKind.i32.wrap (IntKind.i32.wrap (IntKind.i32.wrap (opI .div a b) * IntKind.i32.wrap b) + IntKind.i32.wrap (opI .rem a b)) = IntKind.i32.wrap a := by
  rw [rem_eq hb h0]
  simp only [opI, if_neg h0, wrap_i32]
  have hx : ∃ k : Int, ((sg a).tdiv (sg b) % 4294967296 + 2147483648) % 4294967296 - 2147483648 = (sg a).tdiv (sg b) - 4294967296 * k := ⟨((sg a).tdiv (sg b) - (((sg a).tdiv (sg b) % 4294967296 + 2147483648) % 4294967296 - 2147483648)) / 4294967296, by omega⟩
  obtain ⟨k, hk⟩ := hx
  rw [hk]
  have hs : (b + 2147483648) % 4294967296 - 2147483648 = sg b := rfl
  rw [hs, Int.sub_mul, Int.mul_assoc]
  have h := Int.tmod_add_mul_tdiv (sg a) (sg b)
  rw [Int.mul_comm] at h
  generalize k * sg b = m
  generalize (sg a).tdiv (sg b) * sg b = q at *
  generalize (sg a).tmod (sg b) = r at *
  have : sg a = (a + 2147483648) % 4294967296 - 2147483648 := rfl
  omega
theorem r_sign {a b : Int} (h : a.tmod b ≠ 0) : (a.tmod b < 0) ↔ (a < 0) := by
  constructor
  · intro h1
    rcases (show a < 0 ∨ 0 ≤ a by omega) with h2 | h2
    · exact h2
    · have := Int.tmod_nonneg b h2; omega
  · intro h1
    have h2 := Int.tmod_nonneg b (show 0 ≤ -a by omega)
    rw [Int.neg_tmod] at h2; omega
theorem sq_lt {r s : Int} (h : r.natAbs < s.natAbs) : r * r < s * s := by
  rw [← Int.natAbs_mul_self (a := r), ← Int.natAbs_mul_self (a := s)]
  exact Int.ofNat_lt.2 (Nat.mul_lt_mul'' h h)
theorem s_sq {a b : Int} (hb : W32 b) (h0 : b ≠ 0) :
    IntKind.i64.wrap (IntKind.i64.wrap (IntKind.i32.wrap (opI .rem a b)) * IntKind.i64.wrap (IntKind.i32.wrap (opI .rem a b))) < IntKind.i64.wrap (IntKind.i64.wrap (IntKind.i32.wrap b) * IntKind.i64.wrap (IntKind.i32.wrap b)) := by
  have h1 := r_abs (sg a) (sg b) (sg_ne hb h0)
  have h2 := sg_rng b
  rw [rem_eq hb h0, sg_eq' b, i64_sg, i64_ss]
  have h3 : IntKind.i64.wrap ((sg a).tmod (sg b)) = (sg a).tmod (sg b) := by rw [wrap_i64]; omega
  have h4 := mul_bd (x := (sg a).tmod (sg b)) (y := (sg a).tmod (sg b)) (m := 2147483648) (n := 2147483648) (by omega) (by omega) (by omega)
  rw [h3]
  have h5 : IntKind.i64.wrap ((sg a).tmod (sg b) * (sg a).tmod (sg b)) = (sg a).tmod (sg b) * (sg a).tmod (sg b) := by rw [wrap_i64]; omega
  rw [h5]
  exact sq_lt h1
theorem s_sign {a b : Int} (hb : W32 b) (h0 : b ≠ 0) (h : IntKind.i32.wrap (opI .rem a b) ≠ 0) :
    (decide (IntKind.i32.wrap (opI .rem a b) < 0) == decide (IntKind.i32.wrap a < 0)) = true := by
  rw [rem_eq hb h0] at h ⊢
  rw [sg_eq', beq_iff_eq, decide_eq_decide]
  exact r_sign h

/-! ### moves -/
theorem mv_mod (b : Int) : mv (b % 32) = mv b := by unfold mv; omega
theorem pow_split (m : Nat) (h : m ≤ 32) : (4294967296 : Int) = 2 ^ m * 2 ^ (32 - m) := by
  rw [← Int.pow_add, show m + (32 - m) = 32 by omega]; rfl
theorem kept_eq (b : Int) (hb : W32 b) : IntKind.u32.wrap (IntKind.u32.wrap (IntKind.u32.wrap (1 * 2 ^ min (IntKind.u32.wrap (31 - b.tmod 32)).toNat 32) * 2) - 1) = 2 ^ (32 - mv b) - 1 := by
  have h1 : min (IntKind.u32.wrap (31 - b.tmod 32)).toNat 32 = 31 - mv b := by rw [wrap_u32, tmod_nn hb.1]; unfold mv; omega
  rw [h1]
  have hm := mv_lt b
  generalize mv b = m at *
  simp only [wrap_u32]
  have h2 : ∀ m < 32, ((1 * (2:Int) ^ (31 - m) % 4294967296 * 2 % 4294967296 - 1) % 4294967296) = 2 ^ (32 - m) - 1 := by decide
  exact h2 m hm
theorem iand_mask (a : Int) (ha : 0 ≤ a) (n : Nat) : iand a (2 ^ n - 1) = a % 2 ^ n := by
  unfold iand
  have h : ((2:Int) ^ n - 1).toNat = 2 ^ n - 1 := by
    have h1 : ((2:Int) ^ n) = ((2 ^ n : Nat) : Int) := by simp
    have h2 := Nat.two_pow_pos n
    omega
  rw [h, Nat.and_two_pow_sub_one_eq_mod]
  obtain ⟨k, rfl⟩ := Int.eq_ofNat_of_zero_le ha
  simp
theorem up_down {a b : Int} : opI .srl (opI .sll a b) b = a % 2 ^ (32 - mv b) := by
  simp only [opI]
  have hm := mv_lt b
  generalize mv b = m at *
  have hp := two_pos m
  rw [pow_split m (by omega), Int.mul_comm a, Int.mul_emod_mul_of_pos _ _ hp]
  exact Int.mul_ediv_cancel_left _ (by omega)
theorem mask_rng (n : Nat) (h : n ≤ 32) : W32 ((2:Int) ^ n - 1) := by
  have h2 : ∀ n ≤ 32, W32 ((2:Int) ^ n - 1) := by decide
  exact h2 n h
theorem moves0 {a b : Int} (ha : W32 a) (hb : W32 b) : opI .srl (opI .sll a b) b = IntKind.u32.wrap ↑(BitVec.ofInt 32 a &&& BitVec.ofInt 32 (IntKind.u32.wrap (IntKind.u32.wrap (IntKind.u32.wrap (1 * 2 ^ min (IntKind.u32.wrap (31 - b.tmod 32)).toNat 32) * 2) - 1))).toNat := by
  rw [kept_eq b hb, bv_and ha (mask_rng _ (by omega)), wrap_u32, u32_iand ha, iand_mask a ha.1, up_down]
theorem shr_rng (a : Int) (m : Nat) : -2147483648 ≤ sg a / 2 ^ m ∧ sg a / 2 ^ m < 2147483648 ∧ (sg a / 2 ^ m < 0 ↔ sg a < 0) := by
  have h := sg_rng a
  have hp := two_pos m
  have hn : sg a / 2 ^ m < 0 ↔ sg a < 0 := by
    constructor
    · intro h1
      rcases (show sg a < 0 ∨ 0 ≤ sg a by omega) with h2 | h2
      · exact h2
      · have := Int.ediv_nonneg h2 (Int.le_of_lt hp); omega
    · intro h1; exact Int.ediv_neg_of_neg_of_pos h1 hp
  have h3 := sg_shift a m
  rw [wrap_i64] at h3
  refine ⟨?_, ?_, hn⟩
  · rw [Int.le_ediv_iff_mul_le hp]
    have hq : (1 : Int) ≤ 2 ^ m := hp
    generalize (2 : Int) ^ m = p at hq
    omega
  · rcases (show sg a < 0 ∨ 0 ≤ sg a by omega) with h2 | h2
    · have := hn.2 h2; omega
    · have := Int.ediv_le_self (2 ^ m) h2; omega
theorem moves3 {a b : Int} (ha : W32 a) : (decide (opI .sra a b ≥ 2147483648) == decide (a ≥ 2147483648)) = true := by
  rw [beq_iff_eq, decide_eq_decide]
  simp only [opI]
  have h := shr_rng a (mv b)
  have : sg a < 0 ↔ a ≥ 2147483648 := by unfold sg; omega
  omega
theorem andnot_mask {a : Int} (ha : W32 a) (m : Nat) : ((BitVec.ofInt 32 a &&& ~~~BitVec.ofInt 32 ((2:Int) ^ m - 1)).toNat : Int) = a / 2 ^ m * 2 ^ m := by
  obtain ⟨k, rfl⟩ := Int.eq_ofNat_of_zero_le ha.1
  have hk : k < 2 ^ 32 := by omega
  have e1 : BitVec.ofInt 32 (k : Int) = BitVec.ofNat 32 k := by simp
  have e2 : ((2:Int) ^ m - 1) = ((2 ^ m - 1 : Nat) : Int) := by
    have h2 := Nat.two_pow_pos m
    have h1 : ((2:Int) ^ m) = ((2 ^ m : Nat) : Int) := by simp
    omega
  rw [e1, e2, BitVec.ofInt_natCast]
  have e3 : (BitVec.ofNat 32 k &&& ~~~BitVec.ofNat 32 (2 ^ m - 1)).toNat = k / 2 ^ m * 2 ^ m := by
    apply Nat.eq_of_testBit_eq
    intro i
    rw [BitVec.testBit_toNat, BitVec.getLsbD_and, BitVec.getLsbD_not, BitVec.getLsbD_ofNat, BitVec.getLsbD_ofNat, Nat.testBit_two_pow_sub_one, Nat.mul_comm, Nat.testBit_two_pow_mul, Nat.testBit_div_two_pow]
    by_cases h1 : i < 32
    · by_cases h2 : m ≤ i
      · have : ¬ i < m := by omega
        simp [h1, h2, this, show i - m + m = i by omega]
      · have : i < m := by omega
        simp [h1, h2, this]
    · have : k.testBit i = false := Nat.testBit_lt_two_pow (Nat.lt_of_lt_of_le hk (Nat.pow_le_pow_right (by omega) (by omega)))
      by_cases h2 : m ≤ i
      · simp [h1, h2, this, show i - m + m = i by omega]
      · simp [h1, h2]
  rw [e3]
  simp
theorem moves4 {a b : Int} (ha : W32 a) (hb : W32 b) : opI .sll (opI .sra a b) b = IntKind.u32.wrap ↑(BitVec.ofInt 32 a &&& ~~~BitVec.ofInt 32 (IntKind.u32.wrap (IntKind.u32.wrap (1 * 2 ^ min (b.tmod 32).toNat 32) - 1))).toNat := by
  have hm := mv_lt b
  have h1 : IntKind.u32.wrap (IntKind.u32.wrap (1 * 2 ^ min (b.tmod 32).toNat 32) - 1) = 2 ^ mv b - 1 := by
    rw [tmod_nn hb.1, mv_eq]
    generalize mv b = m at *
    simp only [wrap_u32]
    have h2 : ∀ m < 32, (1 * (2:Int) ^ m % 4294967296 - 1) % 4294967296 = 2 ^ m - 1 := by decide
    exact h2 m hm
  rw [h1, andnot_mask ha _, wrap_u32]
  simp only [opI]
  generalize mv b = m at *
  have hp := two_pos m
  have hs : sg a = a ∨ sg a = a - 4294967296 := by unfold sg; omega
  rw [Int.mul_emod, Int.emod_emod, ← Int.mul_emod]
  rcases hs with h | h
  · rw [h]
  · rw [h, pow_split m (by omega)]
    rw [show a - 2 ^ m * 2 ^ (32 - m) = a + 2 ^ m * (-(2 ^ (32 - m))) from by rw [Int.mul_neg]; omega, Int.add_mul_ediv_left _ _ (by omega), Int.add_mul]
    rw [show -(2:Int) ^ (32 - m) * 2 ^ m = 2 ^ m * 2 ^ (32 - m) * (-1) from by rw [Int.neg_mul, Int.mul_comm]; omega, Int.add_mul_emod_self_left]

/-! ### sums -/
theorem bits_split : ∀ (n a b : Nat), a < 2 ^ n → b < 2 ^ n → (a ||| b) = (a ^^^ b) + (a &&& b) ∧ (a ^^^ b) + 2 * (a &&& b) = a + b := by
  intro n
  induction n with
  | zero => intro a b ha hb; have : a = 0 := by omega
            have : b = 0 := by omega
            subst_vars; decide
  | succ n ih =>
    intro a b ha hb
    obtain ⟨h1, h2⟩ := ih (a / 2) (b / 2) (by omega) (by omega)
    have o1 := Nat.or_div_two (a := a) (b := b)
    have o2 := Nat.xor_div_two (a := a) (b := b)
    have o3 := Nat.and_div_two (a := a) (b := b)
    have p1 := Nat.or_mod_two_pow (a := a) (b := b) (n := 1)
    have p2 := Nat.xor_mod_two_pow (a := a) (b := b) (n := 1)
    have p3 := Nat.and_mod_two_pow (a := a) (b := b) (n := 1)
    simp only [Nat.pow_one] at p1 p2 p3
    have ca : a % 2 = 0 ∨ a % 2 = 1 := by omega
    have cb : b % 2 = 0 ∨ b % 2 = 1 := by omega
    rcases ca with ca | ca <;> rcases cb with cb | cb <;> rw [ca, cb] at p1 p2 p3 <;> simp only [Nat.zero_or, Nat.or_zero, Nat.or_self, Nat.zero_xor, Nat.xor_zero, Nat.xor_self, Nat.zero_and, Nat.and_zero, Nat.and_self] at p1 p2 p3 <;> omega
theorem sums2 {a b : Int} (ha : W32 a) (hb : W32 b) : opI .xor a b = IntKind.u32.wrap (opI .or a b - opI .and a b) ∧ IntKind.u32.wrap (opI .xor a b + IntKind.u32.wrap (2 * opI .and a b)) = IntKind.u32.wrap (a + b) := by
  have h := bits_split 32 a.toNat b.toNat (by omega) (by omega)
  have hx := ixor_rng ha hb
  simp only [opI, wrap_u32]
  unfold ixor ior iand at *
  omega
theorem sums4 {a b : Int} (ha : W32 a) (_ : W32 b) : opI .xor (opI .xor a b) b = a := by
  simp only [opI]; unfold ixor
  rw [Int.toNat_natCast, Nat.xor_assoc, Nat.xor_self, Nat.xor_zero]; omega
end Go.Ev
namespace Go.Ev
theorem up_down' (a : Int) (m : Nat) (hm : m ≤ 32) : a * 2 ^ m % 4294967296 / 2 ^ m = a % 2 ^ (32 - m) := by
  have hp := two_pos m
  rw [pow_split m hm, Int.mul_comm a, Int.mul_emod_mul_of_pos _ _ hp]
  exact Int.mul_ediv_cancel_left _ (by omega)
theorem all_shr (m : Nat) (hm : m ≤ 32) : Int.fdiv 4294967295 (2 ^ m) = 2 ^ (32 - m) - 1 := by
  have h : ∀ m ≤ 32, Int.fdiv 4294967295 (2 ^ m) = 2 ^ (32 - m) - 1 := by decide
  exact h m hm
theorem op_sext_eq' {x n : Int} (hn : 1 ≤ n ∧ n ≤ 32) : IntKind.u32.wrap ((IntKind.i32.wrap (IntKind.u32.wrap (x * 2 ^ min (IntKind.i64.wrap (32 - n)).toNat 32))).fdiv (2 ^ min (IntKind.i64.wrap (32 - n)).toNat 32)) = sextI x n := by
  have h : min (IntKind.i64.wrap (32 - n)).toNat 32 = (32 - n).toNat := by rw [wrap_i64]; omega
  rw [h, sextI, if_pos hn, wrap_u32, wrap_u32, sg_eq', fdiv_pow]
theorem ref_sext_eq' {x n : Int} (hn : 1 ≤ n ∧ n ≤ 32) : IntKind.u32.wrap (IntKind.u64.wrap ((sg (IntKind.u32.wrap (x * 2 ^ min (IntKind.u32.wrap (IntKind.i64.wrap (32 - n))).toNat 32))).fdiv (2 ^ min (IntKind.u32.wrap (IntKind.i64.wrap (32 - n))).toNat 64))) = sextI x n := by
  have h : min (IntKind.u32.wrap (IntKind.i64.wrap (32 - n))).toNat 32 = (32 - n).toNat := by rw [wrap_i64, wrap_u32]; omega
  have h' : min (IntKind.u32.wrap (IntKind.i64.wrap (32 - n))).toNat 64 = (32 - n).toNat := by rw [wrap_i64, wrap_u32]; omega
  rw [h, h', sextI, if_pos hn, wrap_u32, mod_u64, wrap_u32, fdiv_pow]
theorem op_bits_eq' {x lo n : Int} (hx : W32 x) (h : 0 ≤ lo ∧ lo ≤ 31 ∧ 1 ≤ n ∧ n ≤ 32 - lo) : IntKind.u32.wrap ↑(BitVec.ofInt 32 (x.fdiv (2 ^ min lo.toNat 32)) &&& BitVec.ofInt 32 (Int.fdiv 4294967295 (2 ^ min (IntKind.i64.wrap (32 - n)).toNat 32))).toNat = bitsI x lo n := by
  have h1 : min (IntKind.i64.wrap (32 - n)).toNat 32 = (32 - n).toNat := by rw [wrap_i64]; omega
  have h2 : min lo.toNat 32 = lo.toNat := by omega
  have hr := div_le_self' hx.1 lo.toNat
  rw [h1, h2, all_shr _ (by omega), fdiv_pow, show 32 - (32 - n).toNat = n.toNat by omega, bv_and (by omega) (mask_rng _ (by omega)), wrap_u32, u32_iand (by omega), iand_mask _ hr.1, bitsI, if_pos h]
theorem ref_bits_eq' {x lo n : Int} (h : 0 ≤ lo ∧ lo ≤ 31 ∧ 1 ≤ n ∧ n ≤ 32 - lo) : (IntKind.u32.wrap (x.fdiv (2 ^ min (IntKind.u32.wrap lo).toNat 32) * 2 ^ min (IntKind.u32.wrap (IntKind.i64.wrap (32 - n))).toNat 32)).fdiv (2 ^ min (IntKind.u32.wrap (IntKind.i64.wrap (32 - n))).toNat 32) = bitsI x lo n := by
  have h1 : min (IntKind.u32.wrap (IntKind.i64.wrap (32 - n))).toNat 32 = (32 - n).toNat := by rw [wrap_i64, wrap_u32]; omega
  have h2 : min (IntKind.u32.wrap lo).toNat 32 = lo.toNat := by rw [wrap_u32]; omega
  rw [h1, h2, fdiv_pow, fdiv_pow, wrap_u32, up_down' _ _ (by omega), show 32 - (32 - n).toNat = n.toNat by omega, bitsI, if_pos h]
theorem sextI_rng (x n : Int) : W32 (sextI x n) := by unfold W32 sextI; split <;> omega
theorem bitsI_rng {x : Int} (lo n : Int) (hx : W32 x) : W32 (bitsI x lo n) := by
  unfold W32 bitsI
  split
  · have h1 := div_le_self' hx.1 lo.toNat
    have h2 := Int.emod_nonneg (x / 2 ^ lo.toNat) (b := 2 ^ n.toNat) (by have := two_pos n.toNat; omega)
    have h3 : x / 2 ^ lo.toNat % 2 ^ n.toNat ≤ x / 2 ^ lo.toNat := by
      have := Int.mul_ediv_add_emod (x / 2 ^ lo.toNat) (2 ^ n.toNat)
      have h4 := Int.mul_nonneg (Int.le_of_lt (two_pos n.toNat)) (Int.ediv_nonneg h1.1 (Int.le_of_lt (two_pos n.toNat)))
      omega
    omega
  · omega
end Go.Ev
