/- The plain laws of words: divisions, moves, sums, orders. No condition. -/
import Derived.Test.YtocjmepmbglhaaaEvWd
namespace Go.Ev
abbrev W32 (a : Int) : Prop := 0 ≤ a ∧ a < 4294967296

/-! ### divisions -/
theorem u_parts {a b : Int} (_ : W32 a) (hb : W32 b) (h0 : b ≠ 0) : opI .divu a b * b + opI .remu a b = a ∧ opI .remu a b < b := by
  simp only [opI, if_neg h0]
  refine ⟨?_, Int.emod_lt_of_pos a (by omega)⟩
  have := Int.mul_ediv_add_emod a b
  rw [Int.mul_comm] at this; exact this
theorem sg_ne {b : Int} (hb : W32 b) (h0 : b ≠ 0) : sg b ≠ 0 := by unfold sg; omega
theorem r_abs (a b : Int) (h : b ≠ 0) : (a.tmod b).natAbs < b.natAbs := by
  rw [Int.natAbs_tmod]; exact Nat.mod_lt _ (by omega)
theorem r_abs' (a b : Int) : (a.tmod b).natAbs ≤ a.natAbs := by
  rw [Int.natAbs_tmod]; exact Nat.mod_le _ _
theorem rem_eq {a b : Int} (hb : W32 b) (h0 : b ≠ 0) : IntKind.i32.wrap (opI .rem a b) = (sg a).tmod (sg b) := by
  simp only [opI, if_neg h0]
  have h1 := r_abs (sg a) (sg b) (sg_ne hb h0)
  have h2 := sg_rng b
  rw [wrap_i32]; omega
theorem s_sum {a b : Int} (hb : W32 b) (h0 : b ≠ 0) :
    IntKind.i32.wrap (IntKind.i32.wrap (IntKind.i32.wrap (opI .div a b) * IntKind.i32.wrap b) + IntKind.i32.wrap (opI .rem a b)) = IntKind.i32.wrap a := by
  rw [rem_eq hb h0]
  simp only [opI, if_neg h0, wrap_i32]
  have hx : ∃ k : Int, ((sg a).tdiv (sg b) % 4294967296 + 2147483648) % 4294967296 - 2147483648 = (sg a).tdiv (sg b) - 4294967296 * k := ⟨((sg a).tdiv (sg b) - (((sg a).tdiv (sg b) % 4294967296 + 2147483648) % 4294967296 - 2147483648)) / 4294967296, by omega⟩
  obtain ⟨k, hk⟩ := hx
  rw [hk]
  have hs : (b + 2147483648) % 4294967296 - 2147483648 = sg b := rfl
  rw [hs, Int.sub_mul, Int.mul_assoc]
  have h := Int.tmod_add_mul_tdiv (sg a) (sg b)
  rw [Int.mul_comm] at h
  generalize k * sg b = m
  generalize (sg a).tdiv (sg b) * sg b = q at *
  generalize (sg a).tmod (sg b) = r at *
  have : sg a = (a + 2147483648) % 4294967296 - 2147483648 := rfl
  omega
theorem r_sign {a b : Int} (h : a.tmod b ≠ 0) : (a.tmod b < 0) ↔ (a < 0) := by
  constructor
  · intro h1
    rcases (show a < 0 ∨ 0 ≤ a by omega) with h2 | h2
    · exact h2
    · have := Int.tmod_nonneg b h2; omega
  · intro h1
    have h2 := Int.tmod_nonneg b (show 0 ≤ -a by omega)
    rw [Int.neg_tmod] at h2; omega
theorem sq_lt {r s : Int} (h : r.natAbs < s.natAbs) : r * r < s * s := by
  rw [← Int.natAbs_mul_self (a := r), ← Int.natAbs_mul_self (a := s)]
  exact Int.ofNat_lt.2 (Nat.mul_lt_mul'' h h)
theorem s_sq {a b : Int} (hb : W32 b) (h0 : b ≠ 0) :
    IntKind.i64.wrap (IntKind.i64.wrap (IntKind.i32.wrap (opI .rem a b)) * IntKind.i64.wrap (IntKind.i32.wrap (opI .rem a b))) < IntKind.i64.wrap (IntKind.i64.wrap (IntKind.i32.wrap b) * IntKind.i64.wrap (IntKind.i32.wrap b)) := by
  have h1 := r_abs (sg a) (sg b) (sg_ne hb h0)
  have h2 := sg_rng b
  rw [rem_eq hb h0, sg_eq' b, i64_sg, i64_ss]
  have h3 : IntKind.i64.wrap ((sg a).tmod (sg b)) = (sg a).tmod (sg b) := by rw [wrap_i64]; omega
  have h4 := mul_bd (x := (sg a).tmod (sg b)) (y := (sg a).tmod (sg b)) (m := 2147483648) (n := 2147483648) (by omega) (by omega) (by omega)
  rw [h3]
  have h5 : IntKind.i64.wrap ((sg a).tmod (sg b) * (sg a).tmod (sg b)) = (sg a).tmod (sg b) * (sg a).tmod (sg b) := by rw [wrap_i64]; omega
  rw [h5]
  exact sq_lt h1
theorem s_sign {a b : Int} (hb : W32 b) (h0 : b ≠ 0) (h : IntKind.i32.wrap (opI .rem a b) ≠ 0) :
    (decide (IntKind.i32.wrap (opI .rem a b) < 0) == decide (IntKind.i32.wrap a < 0)) = true := by
  rw [rem_eq hb h0] at h ⊢
  rw [sg_eq', beq_iff_eq, decide_eq_decide]
  exact r_sign h

/-! ### moves -/
theorem mv_mod (b : Int) : mv (b % 32) = mv b := by unfold mv; omega
theorem pow_split (m : Nat) (h : m ≤ 32) : (4294967296 : Int) = 2 ^ m * 2 ^ (32 - m) := by
  rw [← Int.pow_add, show m + (32 - m) = 32 by omega]; rfl
theorem kept_eq (b : Int) (hb : W32 b) : IntKind.u32.wrap (IntKind.u32.wrap (IntKind.u32.wrap (1 * 2 ^ min (IntKind.u32.wrap (31 - b.tmod 32)).toNat 32) * 2) - 1) = 2 ^ (32 - mv b) - 1 := by
  have h1 : min (IntKind.u32.wrap (31 - b.tmod 32)).toNat 32 = 31 - mv b := by rw [wrap_u32, tmod_nn hb.1]; unfold mv; omega
  rw [h1]
  have hm := mv_lt b
  generalize mv b = m at *
  simp only [wrap_u32]
  have h2 : ∀ m < 32, ((1 * (2:Int) ^ (31 - m) % 4294967296 * 2 % 4294967296 - 1) % 4294967296) = 2 ^ (32 - m) - 1 := by decide
  exact h2 m hm
theorem iand_mask (a : Int) (ha : 0 ≤ a) (n : Nat) : iand a (2 ^ n - 1) = a % 2 ^ n := by
  unfold iand
  have h : ((2:Int) ^ n - 1).toNat = 2 ^ n - 1 := by
    have h1 : ((2:Int) ^ n) = ((2 ^ n : Nat) : Int) := by simp
    have h2 := Nat.two_pow_pos n
    omega
  rw [h, Nat.and_two_pow_sub_one_eq_mod]
  obtain ⟨k, rfl⟩ := Int.eq_ofNat_of_zero_le ha
  simp
theorem up_down {a b : Int} : opI .srl (opI .sll a b) b = a % 2 ^ (32 - mv b) := by
  simp only [opI]
  have hm := mv_lt b
  generalize mv b = m at *
  have hp := two_pos m
  rw [pow_split m (by omega), Int.mul_comm a, Int.mul_emod_mul_of_pos _ _ hp]
  exact Int.mul_ediv_cancel_left _ (by omega)
theorem mask_rng (n : Nat) (h : n ≤ 32) : W32 ((2:Int) ^ n - 1) := by
  have h2 : ∀ n ≤ 32, W32 ((2:Int) ^ n - 1) := by decide
  exact h2 n h
theorem moves0 {a b : Int} (ha : W32 a) (hb : W32 b) : opI .srl (opI .sll a b) b = IntKind.u32.wrap ↑(BitVec.ofInt 32 a &&& BitVec.ofInt 32 (IntKind.u32.wrap (IntKind.u32.wrap (IntKind.u32.wrap (1 * 2 ^ min (IntKind.u32.wrap (31 - b.tmod 32)).toNat 32) * 2) - 1))).toNat := by
  rw [kept_eq b hb, bv_and ha (mask_rng _ (by omega)), wrap_u32, u32_iand ha, iand_mask a ha.1, up_down]
theorem shr_rng (a : Int) (m : Nat) : -2147483648 ≤ sg a / 2 ^ m ∧ sg a / 2 ^ m < 2147483648 ∧ (sg a / 2 ^ m < 0 ↔ sg a < 0) := by
  have h := sg_rng a
  have hp := two_pos m
  have hn : sg a / 2 ^ m < 0 ↔ sg a < 0 := by
    constructor
    · intro h1
      rcases (show sg a < 0 ∨ 0 ≤ sg a by omega) with h2 | h2
      · exact h2
      · have := Int.ediv_nonneg h2 (Int.le_of_lt hp); omega
    · intro h1; exact Int.ediv_neg_of_neg_of_pos h1 hp
  have h3 := sg_shift a m
  rw [wrap_i64] at h3
  refine ⟨?_, ?_, hn⟩
  · rw [Int.le_ediv_iff_mul_le hp]
    have hq : (1 : Int) ≤ 2 ^ m := hp
    generalize (2 : Int) ^ m = p at hq
    omega
  · rcases (show sg a < 0 ∨ 0 ≤ sg a by omega) with h2 | h2
    · have := hn.2 h2; omega
    · have := Int.ediv_le_self (2 ^ m) h2; omega
theorem moves3 {a b : Int} (ha : W32 a) : (decide (opI .sra a b ≥ 2147483648) == decide (a ≥ 2147483648)) = true := by
  rw [beq_iff_eq, decide_eq_decide]
  simp only [opI]
  have h := shr_rng a (mv b)
  have : sg a < 0 ↔ a ≥ 2147483648 := by unfold sg; omega
  omega
theorem andnot_mask {a : Int} (ha : W32 a) (m : Nat) : ((BitVec.ofInt 32 a &&& ~~~BitVec.ofInt 32 ((2:Int) ^ m - 1)).toNat : Int) = a / 2 ^ m * 2 ^ m := by
  obtain ⟨k, rfl⟩ := Int.eq_ofNat_of_zero_le ha.1
  have hk : k < 2 ^ 32 := by omega
  have e1 : BitVec.ofInt 32 (k : Int) = BitVec.ofNat 32 k := by simp
  have e2 : ((2:Int) ^ m - 1) = ((2 ^ m - 1 : Nat) : Int) := by
    have h2 := Nat.two_pow_pos m
    have h1 : ((2:Int) ^ m) = ((2 ^ m : Nat) : Int) := by simp
    omega
  rw [e1, e2, BitVec.ofInt_natCast]
  have e3 : (BitVec.ofNat 32 k &&& ~~~BitVec.ofNat 32 (2 ^ m - 1)).toNat = k / 2 ^ m * 2 ^ m := by
    apply Nat.eq_of_testBit_eq
    intro i
    rw [BitVec.testBit_toNat, BitVec.getLsbD_and, BitVec.getLsbD_not, BitVec.getLsbD_ofNat, BitVec.getLsbD_ofNat, Nat.testBit_two_pow_sub_one, Nat.mul_comm, Nat.testBit_two_pow_mul, Nat.testBit_div_two_pow]
    by_cases h1 : i < 32
    · by_cases h2 : m ≤ i
      · have : ¬ i < m := by omega
        simp [h1, h2, this, show i - m + m = i by omega]
      · have : i < m := by omega
        simp [h1, h2, this]
    · have : k.testBit i = false := Nat.testBit_lt_two_pow (Nat.lt_of_lt_of_le hk (Nat.pow_le_pow_right (by omega) (by omega)))
      by_cases h2 : m ≤ i
      · simp [h1, h2, this, show i - m + m = i by omega]
      · simp [h1, h2]
  rw [e3]
  simp
theorem moves4 {a b : Int} (ha : W32 a) (hb : W32 b) : opI .sll (opI .sra a b) b = IntKind.u32.wrap ↑(BitVec.ofInt 32 a &&& ~~~BitVec.ofInt 32 (IntKind.u32.wrap (IntKind.u32.wrap (1 * 2 ^ min (b.tmod 32).toNat 32) - 1))).toNat := by
  have hm := mv_lt b
  have h1 : IntKind.u32.wrap (IntKind.u32.wrap (1 * 2 ^ min (b.tmod 32).toNat 32) - 1) = 2 ^ mv b - 1 := by
    rw [tmod_nn hb.1, mv_eq]
    generalize mv b = m at *
    simp only [wrap_u32]
    have h2 : ∀ m < 32, (1 * (2:Int) ^ m % 4294967296 - 1) % 4294967296 = 2 ^ m - 1 := by decide
    exact h2 m hm
  rw [h1, andnot_mask ha _, wrap_u32]
  simp only [opI]
  generalize mv b = m at *
  have hp := two_pos m
  have hs : sg a = a ∨ sg a = a - 4294967296 := by unfold sg; omega
  rw [Int.mul_emod, Int.emod_emod, ← Int.mul_emod]
  rcases hs with h | h
  · rw [h]
  · rw [h, pow_split m (by omega)]
    rw [show a - 2 ^ m * 2 ^ (32 - m) = a + 2 ^ m * (-(2 ^ (32 - m))) from by rw [Int.mul_neg]; omega, Int.add_mul_ediv_left _ _ (by omega), Int.add_mul]
    rw [show -(2:Int) ^ (32 - m) * 2 ^ m = 2 ^ m * 2 ^ (32 - m) * (-1) from by rw [Int.neg_mul, Int.mul_comm]; omega, Int.add_mul_emod_self_left]

/-! ### sums -/
theorem bits_split : ∀ (n a b : Nat), a < 2 ^ n → b < 2 ^ n → (a ||| b) = (a ^^^ b) + (a &&& b) ∧ (a ^^^ b) + 2 * (a &&& b) = a + b := by
  intro n
  induction n with
  | zero => intro a b ha hb; have : a = 0 := by omega
            have : b = 0 := by omega
            subst_vars; decide
  | succ n ih =>
    intro a b ha hb
    obtain ⟨h1, h2⟩ := ih (a / 2) (b / 2) (by omega) (by omega)
    have o1 := Nat.or_div_two (a := a) (b := b)
    have o2 := Nat.xor_div_two (a := a) (b := b)
    have o3 := Nat.and_div_two (a := a) (b := b)
    have p1 := Nat.or_mod_two_pow (a := a) (b := b) (n := 1)
    have p2 := Nat.xor_mod_two_pow (a := a) (b := b) (n := 1)
    have p3 := Nat.and_mod_two_pow (a := a) (b := b) (n := 1)
    simp only [Nat.pow_one] at p1 p2 p3
    have ca : a % 2 = 0 ∨ a % 2 = 1 := by omega
    have cb : b % 2 = 0 ∨ b % 2 = 1 := by omega
    rcases ca with ca | ca <;> rcases cb with cb | cb <;> rw [ca, cb] at p1 p2 p3 <;> simp only [Nat.zero_or, Nat.or_zero, Nat.or_self, Nat.zero_xor, Nat.xor_zero, Nat.xor_self, Nat.zero_and, Nat.and_zero, Nat.and_self] at p1 p2 p3 <;> omega
theorem sums2 {a b : Int} (ha : W32 a) (hb : W32 b) : opI .xor a b = IntKind.u32.wrap (opI .or a b - opI .and a b) ∧ IntKind.u32.wrap (opI .xor a b + IntKind.u32.wrap (2 * opI .and a b)) = IntKind.u32.wrap (a + b) := by
  have h := bits_split 32 a.toNat b.toNat (by omega) (by omega)
  have hx := ixor_rng ha hb
  simp only [opI, wrap_u32]
  unfold ixor ior iand at *
  omega
theorem sums4 {a b : Int} (ha : W32 a) (_ : W32 b) : opI .xor (opI .xor a b) b = a := by
  simp only [opI]; unfold ixor
  rw [Int.toNat_natCast, Nat.xor_assoc, Nat.xor_self, Nat.xor_zero]; omega
end Go.Ev
namespace Go.Ev
theorem up_down' (a : Int) (m : Nat) (hm : m ≤ 32) : a * 2 ^ m % 4294967296 / 2 ^ m = a % 2 ^ (32 - m) := by
  have hp := two_pos m
  rw [pow_split m hm, Int.mul_comm a, Int.mul_emod_mul_of_pos _ _ hp]
  exact Int.mul_ediv_cancel_left _ (by omega)
theorem all_shr (m : Nat) (hm : m ≤ 32) : Int.fdiv 4294967295 (2 ^ m) = 2 ^ (32 - m) - 1 := by
  have h : ∀ m ≤ 32, Int.fdiv 4294967295 (2 ^ m) = 2 ^ (32 - m) - 1 := by decide
  exact h m hm
theorem op_sext_eq' {x n : Int} (hn : 1 ≤ n ∧ n ≤ 32) : IntKind.u32.wrap ((IntKind.i32.wrap (IntKind.u32.wrap (x * 2 ^ min (IntKind.i64.wrap (32 - n)).toNat 32))).fdiv (2 ^ min (IntKind.i64.wrap (32 - n)).toNat 32)) = sextI x n := by
  have h : min (IntKind.i64.wrap (32 - n)).toNat 32 = (32 - n).toNat := by rw [wrap_i64]; omega
  rw [h, sextI, if_pos hn, wrap_u32, wrap_u32, sg_eq', fdiv_pow]
theorem ref_sext_eq' {x n : Int} (hn : 1 ≤ n ∧ n ≤ 32) : IntKind.u32.wrap (IntKind.u64.wrap ((sg (IntKind.u32.wrap (x * 2 ^ min (IntKind.u32.wrap (IntKind.i64.wrap (32 - n))).toNat 32))).fdiv (2 ^ min (IntKind.u32.wrap (IntKind.i64.wrap (32 - n))).toNat 64))) = sextI x n := by
  have h : min (IntKind.u32.wrap (IntKind.i64.wrap (32 - n))).toNat 32 = (32 - n).toNat := by rw [wrap_i64, wrap_u32]; omega
  have h' : min (IntKind.u32.wrap (IntKind.i64.wrap (32 - n))).toNat 64 = (32 - n).toNat := by rw [wrap_i64, wrap_u32]; omega
  rw [h, h', sextI, if_pos hn, wrap_u32, mod_u64, wrap_u32, fdiv_pow]
theorem op_bits_eq' {x lo n : Int} (hx : W32 x) (h : 0 ≤ lo ∧ lo ≤ 31 ∧ 1 ≤ n ∧ n ≤ 32 - lo) : IntKind.u32.wrap ↑(BitVec.ofInt 32 (x.fdiv (2 ^ min lo.toNat 32)) &&& BitVec.ofInt 32 (Int.fdiv 4294967295 (2 ^ min (IntKind.i64.wrap (32 - n)).toNat 32))).toNat = bitsI x lo n := by
  have h1 : min (IntKind.i64.wrap (32 - n)).toNat 32 = (32 - n).toNat := by rw [wrap_i64]; omega
  have h2 : min lo.toNat 32 = lo.toNat := by omega
  have hr := div_le_self' hx.1 lo.toNat
  rw [h1, h2, all_shr _ (by omega), fdiv_pow, show 32 - (32 - n).toNat = n.toNat by omega, bv_and (by omega) (mask_rng _ (by omega)), wrap_u32, u32_iand (by omega), iand_mask _ hr.1, bitsI, if_pos h]
theorem ref_bits_eq' {x lo n : Int} (h : 0 ≤ lo ∧ lo ≤ 31 ∧ 1 ≤ n ∧ n ≤ 32 - lo) : (IntKind.u32.wrap (x.fdiv (2 ^ min (IntKind.u32.wrap lo).toNat 32) * 2 ^ min (IntKind.u32.wrap (IntKind.i64.wrap (32 - n))).toNat 32)).fdiv (2 ^ min (IntKind.u32.wrap (IntKind.i64.wrap (32 - n))).toNat 32) = bitsI x lo n := by
  have h1 : min (IntKind.u32.wrap (IntKind.i64.wrap (32 - n))).toNat 32 = (32 - n).toNat := by rw [wrap_i64, wrap_u32]; omega
  have h2 : min (IntKind.u32.wrap lo).toNat 32 = lo.toNat := by rw [wrap_u32]; omega
  rw [h1, h2, fdiv_pow, fdiv_pow, wrap_u32, up_down' _ _ (by omega), show 32 - (32 - n).toNat = n.toNat by omega, bitsI, if_pos h]
theorem sextI_rng (x n : Int) : W32 (sextI x n) := by unfold W32 sextI; split <;> omega
theorem bitsI_rng {x : Int} (lo n : Int) (hx : W32 x) : W32 (bitsI x lo n) := by
  unfold W32 bitsI
  split
  · have h1 := div_le_self' hx.1 lo.toNat
    have h2 := Int.emod_nonneg (x / 2 ^ lo.toNat) (b := 2 ^ n.toNat) (by have := two_pos n.toNat; omega)
    have h3 : x / 2 ^ lo.toNat % 2 ^ n.toNat ≤ x / 2 ^ lo.toNat := by
      have := Int.mul_ediv_add_emod (x / 2 ^ lo.toNat) (2 ^ n.toNat)
      have h4 := Int.mul_nonneg (Int.le_of_lt (two_pos n.toNat)) (Int.ediv_nonneg h1.1 (Int.le_of_lt (two_pos n.toNat)))
      omega
    omega
  · omega
end Go.Ev
namespace Go.Ev
theorem i64_cut {c : Int} (hc : 0 ≤ c ∧ c < 256) (m : Int) (hm : 0 < m ∧ m ≤ 32) : IntKind.i64.wrap (1 + (IntKind.i64.wrap c).tmod m) = 1 + c % m := by
  rw [i64_id (x := c) (by omega), tmod_nn hc.1]
  have h1 := Int.emod_nonneg c (show m ≠ 0 by omega)
  have h2 := Int.emod_lt_of_pos c hm.1
  exact i64_id (by omega)
theorem bits_join {x k : Int} (hx : W32 x) (hk : 1 ≤ k ∧ k ≤ 31) :
    IntKind.u32.wrap ↑(BitVec.ofInt 32 (IntKind.u32.wrap (bitsI x k (IntKind.i64.wrap (32 - k)) * 2 ^ min k.toNat 32)) ||| BitVec.ofInt 32 (bitsI x 0 k)).toNat = x := by
  have h1 : IntKind.i64.wrap (32 - k) = 32 - k := i64_id (by omega)
  have h2 : min k.toNat 32 = k.toNat := by omega
  obtain ⟨m, rfl⟩ := Int.eq_ofNat_of_zero_le (show 0 ≤ k by omega)
  obtain ⟨y, rfl⟩ := Int.eq_ofNat_of_zero_le hx.1
  have hm : m ≤ 31 := by omega
  rw [h1, h2]
  have b1 : bitsI (y : Int) (m : Int) (32 - (m : Int)) = ((y / 2 ^ m : Nat) : Int) := by
    rw [bitsI, if_pos (by omega)]
    rw [Int.toNat_natCast, show (32 - (m : Int)).toNat = 32 - m by omega]
    have h3 : y / 2 ^ m < 2 ^ (32 - m) := by
      rw [Nat.div_lt_iff_lt_mul (Nat.two_pow_pos m), ← Nat.pow_add, show 32 - m + m = 32 by omega]
      have := hx.2; omega
    have e : ((y : Int) / 2 ^ m) % 2 ^ (32 - m) = (((y / 2 ^ m) % 2 ^ (32 - m) : Nat) : Int) := by simp
    rw [e, Nat.mod_eq_of_lt h3]
  have b2 : bitsI (y : Int) 0 (m : Int) = ((y % 2 ^ m : Nat) : Int) := by
    rw [bitsI, if_pos (by omega)]
    simp
  rw [b1, b2, Int.toNat_natCast]
  have h4 : y / 2 ^ m * 2 ^ m + y % 2 ^ m = y := by rw [Nat.mul_comm]; exact Nat.div_add_mod y (2 ^ m)
  have h5 : y % 2 ^ m < 2 ^ m := Nat.mod_lt _ (Nat.two_pow_pos m)
  have hy : y < 2 ^ 32 := by have := hx.2; omega
  have h6 : y / 2 ^ m * 2 ^ m < 4294967296 := by omega
  have e2 : (((y / 2 ^ m : Nat) : Int) * 2 ^ m) = ((y / 2 ^ m * 2 ^ m : Nat) : Int) := by simp
  rw [e2, u32_id (x := ((y / 2 ^ m * 2 ^ m : Nat) : Int)) (by omega), bv_or (by omega) (by omega)]
  unfold ior
  rw [Int.toNat_natCast, Int.toNat_natCast, Nat.mul_comm, ← Nat.two_pow_add_eq_or_of_lt h5, Nat.mul_comm, h4]
  exact u32_id (by omega)
end Go.Ev
namespace Go.Ev
theorem sext_val1 (x : Int) : (x % 2 < 1 ∧ sextI x 1 = x % 2) ∨ (1 ≤ x % 2 ∧ sextI x 1 = x % 2 + 4294967294) := by
  have h : x * 2147483648 % 4294967296 = x % 2 * 2147483648 := by omega
  have h1 : sextI x 1 = (sg (x * 2147483648 % 4294967296) / 2147483648) % 4294967296 := rfl
  have h2 : 0 ≤ x % 2 ∧ x % 2 < 2 := by omega
  rw [h1, h]
  generalize x % 2 = r at *
  unfold sg
  by_cases c : r < 1
  · refine .inl ⟨c, ?_⟩
    rw [show (r * 2147483648 + 2147483648) % 4294967296 - 2147483648 = r * 2147483648 by omega]
    omega
  · refine .inr ⟨by omega, ?_⟩
    rw [show (r * 2147483648 + 2147483648) % 4294967296 - 2147483648 = (r - 2) * 2147483648 by omega]
    omega
theorem sext_bits1 (x : Int) : bitsI (sextI x 1) 0 1 = bitsI x 0 1 ∧ bitsI (sextI x 1) 1 31 = (sextI x 1 / 2147483648 * 2147483647) % 4294967296 := by
  have h1 : ∀ y, bitsI y 0 1 = y / 1 % 2 := fun _ => rfl
  have h2 : ∀ y, bitsI y 1 31 = y / 2 % 2147483648 := fun _ => rfl
  rw [h1, h1, h2]
  have h3 : 0 ≤ x % 2 ∧ x % 2 < 2 := by omega
  rcases sext_val1 x with ⟨a, b⟩ | ⟨a, b⟩ <;> rw [b, Int.ediv_one, Int.ediv_one]
  · generalize x % 2 = r at *
    rw [show r / 2 = 0 by omega, show r / 2147483648 = 0 by omega]
    omega
  · refine ⟨by omega, ?_⟩
    generalize x % 2 = r at *
    rw [show (r + 4294967294) / 2 = 2147483647 by omega, show (r + 4294967294) / 2147483648 = 1 by omega]
    rfl
theorem sext_val2 (x : Int) : (x % 4 < 2 ∧ sextI x 2 = x % 4) ∨ (2 ≤ x % 4 ∧ sextI x 2 = x % 4 + 4294967292) := by
  have h : x * 1073741824 % 4294967296 = x % 4 * 1073741824 := by omega
  have h1 : sextI x 2 = (sg (x * 1073741824 % 4294967296) / 1073741824) % 4294967296 := rfl
  have h2 : 0 ≤ x % 4 ∧ x % 4 < 4 := by omega
  rw [h1, h]
  generalize x % 4 = r at *
  unfold sg
  by_cases c : r < 2
  · refine .inl ⟨c, ?_⟩
    rw [show (r * 1073741824 + 2147483648) % 4294967296 - 2147483648 = r * 1073741824 by omega]
    omega
  · refine .inr ⟨by omega, ?_⟩
    rw [show (r * 1073741824 + 2147483648) % 4294967296 - 2147483648 = (r - 4) * 1073741824 by omega]
    omega
theorem sext_bits2 (x : Int) : bitsI (sextI x 2) 0 2 = bitsI x 0 2 ∧ bitsI (sextI x 2) 2 30 = (sextI x 2 / 2147483648 * 1073741823) % 4294967296 := by
  have h1 : ∀ y, bitsI y 0 2 = y / 1 % 4 := fun _ => rfl
  have h2 : ∀ y, bitsI y 2 30 = y / 4 % 1073741824 := fun _ => rfl
  rw [h1, h1, h2]
  have h3 : 0 ≤ x % 4 ∧ x % 4 < 4 := by omega
  rcases sext_val2 x with ⟨a, b⟩ | ⟨a, b⟩ <;> rw [b, Int.ediv_one, Int.ediv_one]
  · generalize x % 4 = r at *
    rw [show r / 4 = 0 by omega, show r / 2147483648 = 0 by omega]
    omega
  · refine ⟨by omega, ?_⟩
    generalize x % 4 = r at *
    rw [show (r + 4294967292) / 4 = 1073741823 by omega, show (r + 4294967292) / 2147483648 = 1 by omega]
    rfl
theorem sext_val3 (x : Int) : (x % 8 < 4 ∧ sextI x 3 = x % 8) ∨ (4 ≤ x % 8 ∧ sextI x 3 = x % 8 + 4294967288) := by
  have h : x * 536870912 % 4294967296 = x % 8 * 536870912 := by omega
  have h1 : sextI x 3 = (sg (x * 536870912 % 4294967296) / 536870912) % 4294967296 := rfl
  have h2 : 0 ≤ x % 8 ∧ x % 8 < 8 := by omega
  rw [h1, h]
  generalize x % 8 = r at *
  unfold sg
  by_cases c : r < 4
  · refine .inl ⟨c, ?_⟩
    rw [show (r * 536870912 + 2147483648) % 4294967296 - 2147483648 = r * 536870912 by omega]
    omega
  · refine .inr ⟨by omega, ?_⟩
    rw [show (r * 536870912 + 2147483648) % 4294967296 - 2147483648 = (r - 8) * 536870912 by omega]
    omega
theorem sext_bits3 (x : Int) : bitsI (sextI x 3) 0 3 = bitsI x 0 3 ∧ bitsI (sextI x 3) 3 29 = (sextI x 3 / 2147483648 * 536870911) % 4294967296 := by
  have h1 : ∀ y, bitsI y 0 3 = y / 1 % 8 := fun _ => rfl
  have h2 : ∀ y, bitsI y 3 29 = y / 8 % 536870912 := fun _ => rfl
  rw [h1, h1, h2]
  have h3 : 0 ≤ x % 8 ∧ x % 8 < 8 := by omega
  rcases sext_val3 x with ⟨a, b⟩ | ⟨a, b⟩ <;> rw [b, Int.ediv_one, Int.ediv_one]
  · generalize x % 8 = r at *
    rw [show r / 8 = 0 by omega, show r / 2147483648 = 0 by omega]
    omega
  · refine ⟨by omega, ?_⟩
    generalize x % 8 = r at *
    rw [show (r + 4294967288) / 8 = 536870911 by omega, show (r + 4294967288) / 2147483648 = 1 by omega]
    rfl
theorem sext_val4 (x : Int) : (x % 16 < 8 ∧ sextI x 4 = x % 16) ∨ (8 ≤ x % 16 ∧ sextI x 4 = x % 16 + 4294967280) := by
  have h : x * 268435456 % 4294967296 = x % 16 * 268435456 := by omega
  have h1 : sextI x 4 = (sg (x * 268435456 % 4294967296) / 268435456) % 4294967296 := rfl
  have h2 : 0 ≤ x % 16 ∧ x % 16 < 16 := by omega
  rw [h1, h]
  generalize x % 16 = r at *
  unfold sg
  by_cases c : r < 8
  · refine .inl ⟨c, ?_⟩
    rw [show (r * 268435456 + 2147483648) % 4294967296 - 2147483648 = r * 268435456 by omega]
    omega
  · refine .inr ⟨by omega, ?_⟩
    rw [show (r * 268435456 + 2147483648) % 4294967296 - 2147483648 = (r - 16) * 268435456 by omega]
    omega
theorem sext_bits4 (x : Int) : bitsI (sextI x 4) 0 4 = bitsI x 0 4 ∧ bitsI (sextI x 4) 4 28 = (sextI x 4 / 2147483648 * 268435455) % 4294967296 := by
  have h1 : ∀ y, bitsI y 0 4 = y / 1 % 16 := fun _ => rfl
  have h2 : ∀ y, bitsI y 4 28 = y / 16 % 268435456 := fun _ => rfl
  rw [h1, h1, h2]
  have h3 : 0 ≤ x % 16 ∧ x % 16 < 16 := by omega
  rcases sext_val4 x with ⟨a, b⟩ | ⟨a, b⟩ <;> rw [b, Int.ediv_one, Int.ediv_one]
  · generalize x % 16 = r at *
    rw [show r / 16 = 0 by omega, show r / 2147483648 = 0 by omega]
    omega
  · refine ⟨by omega, ?_⟩
    generalize x % 16 = r at *
    rw [show (r + 4294967280) / 16 = 268435455 by omega, show (r + 4294967280) / 2147483648 = 1 by omega]
    rfl
theorem sext_val5 (x : Int) : (x % 32 < 16 ∧ sextI x 5 = x % 32) ∨ (16 ≤ x % 32 ∧ sextI x 5 = x % 32 + 4294967264) := by
  have h : x * 134217728 % 4294967296 = x % 32 * 134217728 := by omega
  have h1 : sextI x 5 = (sg (x * 134217728 % 4294967296) / 134217728) % 4294967296 := rfl
  have h2 : 0 ≤ x % 32 ∧ x % 32 < 32 := by omega
  rw [h1, h]
  generalize x % 32 = r at *
  unfold sg
  by_cases c : r < 16
  · refine .inl ⟨c, ?_⟩
    rw [show (r * 134217728 + 2147483648) % 4294967296 - 2147483648 = r * 134217728 by omega]
    omega
  · refine .inr ⟨by omega, ?_⟩
    rw [show (r * 134217728 + 2147483648) % 4294967296 - 2147483648 = (r - 32) * 134217728 by omega]
    omega
theorem sext_bits5 (x : Int) : bitsI (sextI x 5) 0 5 = bitsI x 0 5 ∧ bitsI (sextI x 5) 5 27 = (sextI x 5 / 2147483648 * 134217727) % 4294967296 := by
  have h1 : ∀ y, bitsI y 0 5 = y / 1 % 32 := fun _ => rfl
  have h2 : ∀ y, bitsI y 5 27 = y / 32 % 134217728 := fun _ => rfl
  rw [h1, h1, h2]
  have h3 : 0 ≤ x % 32 ∧ x % 32 < 32 := by omega
  rcases sext_val5 x with ⟨a, b⟩ | ⟨a, b⟩ <;> rw [b, Int.ediv_one, Int.ediv_one]
  · generalize x % 32 = r at *
    rw [show r / 32 = 0 by omega, show r / 2147483648 = 0 by omega]
    omega
  · refine ⟨by omega, ?_⟩
    generalize x % 32 = r at *
    rw [show (r + 4294967264) / 32 = 134217727 by omega, show (r + 4294967264) / 2147483648 = 1 by omega]
    rfl
theorem sext_val6 (x : Int) : (x % 64 < 32 ∧ sextI x 6 = x % 64) ∨ (32 ≤ x % 64 ∧ sextI x 6 = x % 64 + 4294967232) := by
  have h : x * 67108864 % 4294967296 = x % 64 * 67108864 := by omega
  have h1 : sextI x 6 = (sg (x * 67108864 % 4294967296) / 67108864) % 4294967296 := rfl
  have h2 : 0 ≤ x % 64 ∧ x % 64 < 64 := by omega
  rw [h1, h]
  generalize x % 64 = r at *
  unfold sg
  by_cases c : r < 32
  · refine .inl ⟨c, ?_⟩
    rw [show (r * 67108864 + 2147483648) % 4294967296 - 2147483648 = r * 67108864 by omega]
    omega
  · refine .inr ⟨by omega, ?_⟩
    rw [show (r * 67108864 + 2147483648) % 4294967296 - 2147483648 = (r - 64) * 67108864 by omega]
    omega
theorem sext_bits6 (x : Int) : bitsI (sextI x 6) 0 6 = bitsI x 0 6 ∧ bitsI (sextI x 6) 6 26 = (sextI x 6 / 2147483648 * 67108863) % 4294967296 := by
  have h1 : ∀ y, bitsI y 0 6 = y / 1 % 64 := fun _ => rfl
  have h2 : ∀ y, bitsI y 6 26 = y / 64 % 67108864 := fun _ => rfl
  rw [h1, h1, h2]
  have h3 : 0 ≤ x % 64 ∧ x % 64 < 64 := by omega
  rcases sext_val6 x with ⟨a, b⟩ | ⟨a, b⟩ <;> rw [b, Int.ediv_one, Int.ediv_one]
  · generalize x % 64 = r at *
    rw [show r / 64 = 0 by omega, show r / 2147483648 = 0 by omega]
    omega
  · refine ⟨by omega, ?_⟩
    generalize x % 64 = r at *
    rw [show (r + 4294967232) / 64 = 67108863 by omega, show (r + 4294967232) / 2147483648 = 1 by omega]
    rfl
theorem sext_val7 (x : Int) : (x % 128 < 64 ∧ sextI x 7 = x % 128) ∨ (64 ≤ x % 128 ∧ sextI x 7 = x % 128 + 4294967168) := by
  have h : x * 33554432 % 4294967296 = x % 128 * 33554432 := by omega
  have h1 : sextI x 7 = (sg (x * 33554432 % 4294967296) / 33554432) % 4294967296 := rfl
  have h2 : 0 ≤ x % 128 ∧ x % 128 < 128 := by omega
  rw [h1, h]
  generalize x % 128 = r at *
  unfold sg
  by_cases c : r < 64
  · refine .inl ⟨c, ?_⟩
    rw [show (r * 33554432 + 2147483648) % 4294967296 - 2147483648 = r * 33554432 by omega]
    omega
  · refine .inr ⟨by omega, ?_⟩
    rw [show (r * 33554432 + 2147483648) % 4294967296 - 2147483648 = (r - 128) * 33554432 by omega]
    omega
theorem sext_bits7 (x : Int) : bitsI (sextI x 7) 0 7 = bitsI x 0 7 ∧ bitsI (sextI x 7) 7 25 = (sextI x 7 / 2147483648 * 33554431) % 4294967296 := by
  have h1 : ∀ y, bitsI y 0 7 = y / 1 % 128 := fun _ => rfl
  have h2 : ∀ y, bitsI y 7 25 = y / 128 % 33554432 := fun _ => rfl
  rw [h1, h1, h2]
  have h3 : 0 ≤ x % 128 ∧ x % 128 < 128 := by omega
  rcases sext_val7 x with ⟨a, b⟩ | ⟨a, b⟩ <;> rw [b, Int.ediv_one, Int.ediv_one]
  · generalize x % 128 = r at *
    rw [show r / 128 = 0 by omega, show r / 2147483648 = 0 by omega]
    omega
  · refine ⟨by omega, ?_⟩
    generalize x % 128 = r at *
    rw [show (r + 4294967168) / 128 = 33554431 by omega, show (r + 4294967168) / 2147483648 = 1 by omega]
    rfl
theorem sext_val8 (x : Int) : (x % 256 < 128 ∧ sextI x 8 = x % 256) ∨ (128 ≤ x % 256 ∧ sextI x 8 = x % 256 + 4294967040) := by
  have h : x * 16777216 % 4294967296 = x % 256 * 16777216 := by omega
  have h1 : sextI x 8 = (sg (x * 16777216 % 4294967296) / 16777216) % 4294967296 := rfl
  have h2 : 0 ≤ x % 256 ∧ x % 256 < 256 := by omega
  rw [h1, h]
  generalize x % 256 = r at *
  unfold sg
  by_cases c : r < 128
  · refine .inl ⟨c, ?_⟩
    rw [show (r * 16777216 + 2147483648) % 4294967296 - 2147483648 = r * 16777216 by omega]
    omega
  · refine .inr ⟨by omega, ?_⟩
    rw [show (r * 16777216 + 2147483648) % 4294967296 - 2147483648 = (r - 256) * 16777216 by omega]
    omega
theorem sext_bits8 (x : Int) : bitsI (sextI x 8) 0 8 = bitsI x 0 8 ∧ bitsI (sextI x 8) 8 24 = (sextI x 8 / 2147483648 * 16777215) % 4294967296 := by
  have h1 : ∀ y, bitsI y 0 8 = y / 1 % 256 := fun _ => rfl
  have h2 : ∀ y, bitsI y 8 24 = y / 256 % 16777216 := fun _ => rfl
  rw [h1, h1, h2]
  have h3 : 0 ≤ x % 256 ∧ x % 256 < 256 := by omega
  rcases sext_val8 x with ⟨a, b⟩ | ⟨a, b⟩ <;> rw [b, Int.ediv_one, Int.ediv_one]
  · generalize x % 256 = r at *
    rw [show r / 256 = 0 by omega, show r / 2147483648 = 0 by omega]
    omega
  · refine ⟨by omega, ?_⟩
    generalize x % 256 = r at *
    rw [show (r + 4294967040) / 256 = 16777215 by omega, show (r + 4294967040) / 2147483648 = 1 by omega]
    rfl
theorem sext_val9 (x : Int) : (x % 512 < 256 ∧ sextI x 9 = x % 512) ∨ (256 ≤ x % 512 ∧ sextI x 9 = x % 512 + 4294966784) := by
  have h : x * 8388608 % 4294967296 = x % 512 * 8388608 := by omega
  have h1 : sextI x 9 = (sg (x * 8388608 % 4294967296) / 8388608) % 4294967296 := rfl
  have h2 : 0 ≤ x % 512 ∧ x % 512 < 512 := by omega
  rw [h1, h]
  generalize x % 512 = r at *
  unfold sg
  by_cases c : r < 256
  · refine .inl ⟨c, ?_⟩
    rw [show (r * 8388608 + 2147483648) % 4294967296 - 2147483648 = r * 8388608 by omega]
    omega
  · refine .inr ⟨by omega, ?_⟩
    rw [show (r * 8388608 + 2147483648) % 4294967296 - 2147483648 = (r - 512) * 8388608 by omega]
    omega
theorem sext_bits9 (x : Int) : bitsI (sextI x 9) 0 9 = bitsI x 0 9 ∧ bitsI (sextI x 9) 9 23 = (sextI x 9 / 2147483648 * 8388607) % 4294967296 := by
  have h1 : ∀ y, bitsI y 0 9 = y / 1 % 512 := fun _ => rfl
  have h2 : ∀ y, bitsI y 9 23 = y / 512 % 8388608 := fun _ => rfl
  rw [h1, h1, h2]
  have h3 : 0 ≤ x % 512 ∧ x % 512 < 512 := by omega
  rcases sext_val9 x with ⟨a, b⟩ | ⟨a, b⟩ <;> rw [b, Int.ediv_one, Int.ediv_one]
  · generalize x % 512 = r at *
    rw [show r / 512 = 0 by omega, show r / 2147483648 = 0 by omega]
    omega
  · refine ⟨by omega, ?_⟩
    generalize x % 512 = r at *
    rw [show (r + 4294966784) / 512 = 8388607 by omega, show (r + 4294966784) / 2147483648 = 1 by omega]
    rfl
theorem sext_val10 (x : Int) : (x % 1024 < 512 ∧ sextI x 10 = x % 1024) ∨ (512 ≤ x % 1024 ∧ sextI x 10 = x % 1024 + 4294966272) := by
  have h : x * 4194304 % 4294967296 = x % 1024 * 4194304 := by omega
  have h1 : sextI x 10 = (sg (x * 4194304 % 4294967296) / 4194304) % 4294967296 := rfl
  have h2 : 0 ≤ x % 1024 ∧ x % 1024 < 1024 := by omega
  rw [h1, h]
  generalize x % 1024 = r at *
  unfold sg
  by_cases c : r < 512
  · refine .inl ⟨c, ?_⟩
    rw [show (r * 4194304 + 2147483648) % 4294967296 - 2147483648 = r * 4194304 by omega]
    omega
  · refine .inr ⟨by omega, ?_⟩
    rw [show (r * 4194304 + 2147483648) % 4294967296 - 2147483648 = (r - 1024) * 4194304 by omega]
    omega
theorem sext_bits10 (x : Int) : bitsI (sextI x 10) 0 10 = bitsI x 0 10 ∧ bitsI (sextI x 10) 10 22 = (sextI x 10 / 2147483648 * 4194303) % 4294967296 := by
  have h1 : ∀ y, bitsI y 0 10 = y / 1 % 1024 := fun _ => rfl
  have h2 : ∀ y, bitsI y 10 22 = y / 1024 % 4194304 := fun _ => rfl
  rw [h1, h1, h2]
  have h3 : 0 ≤ x % 1024 ∧ x % 1024 < 1024 := by omega
  rcases sext_val10 x with ⟨a, b⟩ | ⟨a, b⟩ <;> rw [b, Int.ediv_one, Int.ediv_one]
  · generalize x % 1024 = r at *
    rw [show r / 1024 = 0 by omega, show r / 2147483648 = 0 by omega]
    omega
  · refine ⟨by omega, ?_⟩
    generalize x % 1024 = r at *
    rw [show (r + 4294966272) / 1024 = 4194303 by omega, show (r + 4294966272) / 2147483648 = 1 by omega]
    rfl
theorem sext_val11 (x : Int) : (x % 2048 < 1024 ∧ sextI x 11 = x % 2048) ∨ (1024 ≤ x % 2048 ∧ sextI x 11 = x % 2048 + 4294965248) := by
  have h : x * 2097152 % 4294967296 = x % 2048 * 2097152 := by omega
  have h1 : sextI x 11 = (sg (x * 2097152 % 4294967296) / 2097152) % 4294967296 := rfl
  have h2 : 0 ≤ x % 2048 ∧ x % 2048 < 2048 := by omega
  rw [h1, h]
  generalize x % 2048 = r at *
  unfold sg
  by_cases c : r < 1024
  · refine .inl ⟨c, ?_⟩
    rw [show (r * 2097152 + 2147483648) % 4294967296 - 2147483648 = r * 2097152 by omega]
    omega
  · refine .inr ⟨by omega, ?_⟩
    rw [show (r * 2097152 + 2147483648) % 4294967296 - 2147483648 = (r - 2048) * 2097152 by omega]
    omega
theorem sext_bits11 (x : Int) : bitsI (sextI x 11) 0 11 = bitsI x 0 11 ∧ bitsI (sextI x 11) 11 21 = (sextI x 11 / 2147483648 * 2097151) % 4294967296 := by
  have h1 : ∀ y, bitsI y 0 11 = y / 1 % 2048 := fun _ => rfl
  have h2 : ∀ y, bitsI y 11 21 = y / 2048 % 2097152 := fun _ => rfl
  rw [h1, h1, h2]
  have h3 : 0 ≤ x % 2048 ∧ x % 2048 < 2048 := by omega
  rcases sext_val11 x with ⟨a, b⟩ | ⟨a, b⟩ <;> rw [b, Int.ediv_one, Int.ediv_one]
  · generalize x % 2048 = r at *
    rw [show r / 2048 = 0 by omega, show r / 2147483648 = 0 by omega]
    omega
  · refine ⟨by omega, ?_⟩
    generalize x % 2048 = r at *
    rw [show (r + 4294965248) / 2048 = 2097151 by omega, show (r + 4294965248) / 2147483648 = 1 by omega]
    rfl
theorem sext_val12 (x : Int) : (x % 4096 < 2048 ∧ sextI x 12 = x % 4096) ∨ (2048 ≤ x % 4096 ∧ sextI x 12 = x % 4096 + 4294963200) := by
  have h : x * 1048576 % 4294967296 = x % 4096 * 1048576 := by omega
  have h1 : sextI x 12 = (sg (x * 1048576 % 4294967296) / 1048576) % 4294967296 := rfl
  have h2 : 0 ≤ x % 4096 ∧ x % 4096 < 4096 := by omega
  rw [h1, h]
  generalize x % 4096 = r at *
  unfold sg
  by_cases c : r < 2048
  · refine .inl ⟨c, ?_⟩
    rw [show (r * 1048576 + 2147483648) % 4294967296 - 2147483648 = r * 1048576 by omega]
    omega
  · refine .inr ⟨by omega, ?_⟩
    rw [show (r * 1048576 + 2147483648) % 4294967296 - 2147483648 = (r - 4096) * 1048576 by omega]
    omega
theorem sext_bits12 (x : Int) : bitsI (sextI x 12) 0 12 = bitsI x 0 12 ∧ bitsI (sextI x 12) 12 20 = (sextI x 12 / 2147483648 * 1048575) % 4294967296 := by
  have h1 : ∀ y, bitsI y 0 12 = y / 1 % 4096 := fun _ => rfl
  have h2 : ∀ y, bitsI y 12 20 = y / 4096 % 1048576 := fun _ => rfl
  rw [h1, h1, h2]
  have h3 : 0 ≤ x % 4096 ∧ x % 4096 < 4096 := by omega
  rcases sext_val12 x with ⟨a, b⟩ | ⟨a, b⟩ <;> rw [b, Int.ediv_one, Int.ediv_one]
  · generalize x % 4096 = r at *
    rw [show r / 4096 = 0 by omega, show r / 2147483648 = 0 by omega]
    omega
  · refine ⟨by omega, ?_⟩
    generalize x % 4096 = r at *
    rw [show (r + 4294963200) / 4096 = 1048575 by omega, show (r + 4294963200) / 2147483648 = 1 by omega]
    rfl
theorem sext_val13 (x : Int) : (x % 8192 < 4096 ∧ sextI x 13 = x % 8192) ∨ (4096 ≤ x % 8192 ∧ sextI x 13 = x % 8192 + 4294959104) := by
  have h : x * 524288 % 4294967296 = x % 8192 * 524288 := by omega
  have h1 : sextI x 13 = (sg (x * 524288 % 4294967296) / 524288) % 4294967296 := rfl
  have h2 : 0 ≤ x % 8192 ∧ x % 8192 < 8192 := by omega
  rw [h1, h]
  generalize x % 8192 = r at *
  unfold sg
  by_cases c : r < 4096
  · refine .inl ⟨c, ?_⟩
    rw [show (r * 524288 + 2147483648) % 4294967296 - 2147483648 = r * 524288 by omega]
    omega
  · refine .inr ⟨by omega, ?_⟩
    rw [show (r * 524288 + 2147483648) % 4294967296 - 2147483648 = (r - 8192) * 524288 by omega]
    omega
theorem sext_bits13 (x : Int) : bitsI (sextI x 13) 0 13 = bitsI x 0 13 ∧ bitsI (sextI x 13) 13 19 = (sextI x 13 / 2147483648 * 524287) % 4294967296 := by
  have h1 : ∀ y, bitsI y 0 13 = y / 1 % 8192 := fun _ => rfl
  have h2 : ∀ y, bitsI y 13 19 = y / 8192 % 524288 := fun _ => rfl
  rw [h1, h1, h2]
  have h3 : 0 ≤ x % 8192 ∧ x % 8192 < 8192 := by omega
  rcases sext_val13 x with ⟨a, b⟩ | ⟨a, b⟩ <;> rw [b, Int.ediv_one, Int.ediv_one]
  · generalize x % 8192 = r at *
    rw [show r / 8192 = 0 by omega, show r / 2147483648 = 0 by omega]
    omega
  · refine ⟨by omega, ?_⟩
    generalize x % 8192 = r at *
    rw [show (r + 4294959104) / 8192 = 524287 by omega, show (r + 4294959104) / 2147483648 = 1 by omega]
    rfl
theorem sext_val14 (x : Int) : (x % 16384 < 8192 ∧ sextI x 14 = x % 16384) ∨ (8192 ≤ x % 16384 ∧ sextI x 14 = x % 16384 + 4294950912) := by
  have h : x * 262144 % 4294967296 = x % 16384 * 262144 := by omega
  have h1 : sextI x 14 = (sg (x * 262144 % 4294967296) / 262144) % 4294967296 := rfl
  have h2 : 0 ≤ x % 16384 ∧ x % 16384 < 16384 := by omega
  rw [h1, h]
  generalize x % 16384 = r at *
  unfold sg
  by_cases c : r < 8192
  · refine .inl ⟨c, ?_⟩
    rw [show (r * 262144 + 2147483648) % 4294967296 - 2147483648 = r * 262144 by omega]
    omega
  · refine .inr ⟨by omega, ?_⟩
    rw [show (r * 262144 + 2147483648) % 4294967296 - 2147483648 = (r - 16384) * 262144 by omega]
    omega
theorem sext_bits14 (x : Int) : bitsI (sextI x 14) 0 14 = bitsI x 0 14 ∧ bitsI (sextI x 14) 14 18 = (sextI x 14 / 2147483648 * 262143) % 4294967296 := by
  have h1 : ∀ y, bitsI y 0 14 = y / 1 % 16384 := fun _ => rfl
  have h2 : ∀ y, bitsI y 14 18 = y / 16384 % 262144 := fun _ => rfl
  rw [h1, h1, h2]
  have h3 : 0 ≤ x % 16384 ∧ x % 16384 < 16384 := by omega
  rcases sext_val14 x with ⟨a, b⟩ | ⟨a, b⟩ <;> rw [b, Int.ediv_one, Int.ediv_one]
  · generalize x % 16384 = r at *
    rw [show r / 16384 = 0 by omega, show r / 2147483648 = 0 by omega]
    omega
  · refine ⟨by omega, ?_⟩
    generalize x % 16384 = r at *
    rw [show (r + 4294950912) / 16384 = 262143 by omega, show (r + 4294950912) / 2147483648 = 1 by omega]
    rfl
theorem sext_val15 (x : Int) : (x % 32768 < 16384 ∧ sextI x 15 = x % 32768) ∨ (16384 ≤ x % 32768 ∧ sextI x 15 = x % 32768 + 4294934528) := by
  have h : x * 131072 % 4294967296 = x % 32768 * 131072 := by omega
  have h1 : sextI x 15 = (sg (x * 131072 % 4294967296) / 131072) % 4294967296 := rfl
  have h2 : 0 ≤ x % 32768 ∧ x % 32768 < 32768 := by omega
  rw [h1, h]
  generalize x % 32768 = r at *
  unfold sg
  by_cases c : r < 16384
  · refine .inl ⟨c, ?_⟩
    rw [show (r * 131072 + 2147483648) % 4294967296 - 2147483648 = r * 131072 by omega]
    omega
  · refine .inr ⟨by omega, ?_⟩
    rw [show (r * 131072 + 2147483648) % 4294967296 - 2147483648 = (r - 32768) * 131072 by omega]
    omega
theorem sext_bits15 (x : Int) : bitsI (sextI x 15) 0 15 = bitsI x 0 15 ∧ bitsI (sextI x 15) 15 17 = (sextI x 15 / 2147483648 * 131071) % 4294967296 := by
  have h1 : ∀ y, bitsI y 0 15 = y / 1 % 32768 := fun _ => rfl
  have h2 : ∀ y, bitsI y 15 17 = y / 32768 % 131072 := fun _ => rfl
  rw [h1, h1, h2]
  have h3 : 0 ≤ x % 32768 ∧ x % 32768 < 32768 := by omega
  rcases sext_val15 x with ⟨a, b⟩ | ⟨a, b⟩ <;> rw [b, Int.ediv_one, Int.ediv_one]
  · generalize x % 32768 = r at *
    rw [show r / 32768 = 0 by omega, show r / 2147483648 = 0 by omega]
    omega
  · refine ⟨by omega, ?_⟩
    generalize x % 32768 = r at *
    rw [show (r + 4294934528) / 32768 = 131071 by omega, show (r + 4294934528) / 2147483648 = 1 by omega]
    rfl
theorem sext_val16 (x : Int) : (x % 65536 < 32768 ∧ sextI x 16 = x % 65536) ∨ (32768 ≤ x % 65536 ∧ sextI x 16 = x % 65536 + 4294901760) := by
  have h : x * 65536 % 4294967296 = x % 65536 * 65536 := by omega
  have h1 : sextI x 16 = (sg (x * 65536 % 4294967296) / 65536) % 4294967296 := rfl
  have h2 : 0 ≤ x % 65536 ∧ x % 65536 < 65536 := by omega
  rw [h1, h]
  generalize x % 65536 = r at *
  unfold sg
  by_cases c : r < 32768
  · refine .inl ⟨c, ?_⟩
    rw [show (r * 65536 + 2147483648) % 4294967296 - 2147483648 = r * 65536 by omega]
    omega
  · refine .inr ⟨by omega, ?_⟩
    rw [show (r * 65536 + 2147483648) % 4294967296 - 2147483648 = (r - 65536) * 65536 by omega]
    omega
theorem sext_bits16 (x : Int) : bitsI (sextI x 16) 0 16 = bitsI x 0 16 ∧ bitsI (sextI x 16) 16 16 = (sextI x 16 / 2147483648 * 65535) % 4294967296 := by
  have h1 : ∀ y, bitsI y 0 16 = y / 1 % 65536 := fun _ => rfl
  have h2 : ∀ y, bitsI y 16 16 = y / 65536 % 65536 := fun _ => rfl
  rw [h1, h1, h2]
  have h3 : 0 ≤ x % 65536 ∧ x % 65536 < 65536 := by omega
  rcases sext_val16 x with ⟨a, b⟩ | ⟨a, b⟩ <;> rw [b, Int.ediv_one, Int.ediv_one]
  · generalize x % 65536 = r at *
    rw [show r / 65536 = 0 by omega, show r / 2147483648 = 0 by omega]
    omega
  · refine ⟨by omega, ?_⟩
    generalize x % 65536 = r at *
    rw [show (r + 4294901760) / 65536 = 65535 by omega, show (r + 4294901760) / 2147483648 = 1 by omega]
    rfl
theorem sext_val17 (x : Int) : (x % 131072 < 65536 ∧ sextI x 17 = x % 131072) ∨ (65536 ≤ x % 131072 ∧ sextI x 17 = x % 131072 + 4294836224) := by
  have h : x * 32768 % 4294967296 = x % 131072 * 32768 := by omega
  have h1 : sextI x 17 = (sg (x * 32768 % 4294967296) / 32768) % 4294967296 := rfl
  have h2 : 0 ≤ x % 131072 ∧ x % 131072 < 131072 := by omega
  rw [h1, h]
  generalize x % 131072 = r at *
  unfold sg
  by_cases c : r < 65536
  · refine .inl ⟨c, ?_⟩
    rw [show (r * 32768 + 2147483648) % 4294967296 - 2147483648 = r * 32768 by omega]
    omega
  · refine .inr ⟨by omega, ?_⟩
    rw [show (r * 32768 + 2147483648) % 4294967296 - 2147483648 = (r - 131072) * 32768 by omega]
    omega
theorem sext_bits17 (x : Int) : bitsI (sextI x 17) 0 17 = bitsI x 0 17 ∧ bitsI (sextI x 17) 17 15 = (sextI x 17 / 2147483648 * 32767) % 4294967296 := by
  have h1 : ∀ y, bitsI y 0 17 = y / 1 % 131072 := fun _ => rfl
  have h2 : ∀ y, bitsI y 17 15 = y / 131072 % 32768 := fun _ => rfl
  rw [h1, h1, h2]
  have h3 : 0 ≤ x % 131072 ∧ x % 131072 < 131072 := by omega
  rcases sext_val17 x with ⟨a, b⟩ | ⟨a, b⟩ <;> rw [b, Int.ediv_one, Int.ediv_one]
  · generalize x % 131072 = r at *
    rw [show r / 131072 = 0 by omega, show r / 2147483648 = 0 by omega]
    omega
  · refine ⟨by omega, ?_⟩
    generalize x % 131072 = r at *
    rw [show (r + 4294836224) / 131072 = 32767 by omega, show (r + 4294836224) / 2147483648 = 1 by omega]
    rfl
theorem sext_val18 (x : Int) : (x % 262144 < 131072 ∧ sextI x 18 = x % 262144) ∨ (131072 ≤ x % 262144 ∧ sextI x 18 = x % 262144 + 4294705152) := by
  have h : x * 16384 % 4294967296 = x % 262144 * 16384 := by omega
  have h1 : sextI x 18 = (sg (x * 16384 % 4294967296) / 16384) % 4294967296 := rfl
  have h2 : 0 ≤ x % 262144 ∧ x % 262144 < 262144 := by omega
  rw [h1, h]
  generalize x % 262144 = r at *
  unfold sg
  by_cases c : r < 131072
  · refine .inl ⟨c, ?_⟩
    rw [show (r * 16384 + 2147483648) % 4294967296 - 2147483648 = r * 16384 by omega]
    omega
  · refine .inr ⟨by omega, ?_⟩
    rw [show (r * 16384 + 2147483648) % 4294967296 - 2147483648 = (r - 262144) * 16384 by omega]
    omega
theorem sext_bits18 (x : Int) : bitsI (sextI x 18) 0 18 = bitsI x 0 18 ∧ bitsI (sextI x 18) 18 14 = (sextI x 18 / 2147483648 * 16383) % 4294967296 := by
  have h1 : ∀ y, bitsI y 0 18 = y / 1 % 262144 := fun _ => rfl
  have h2 : ∀ y, bitsI y 18 14 = y / 262144 % 16384 := fun _ => rfl
  rw [h1, h1, h2]
  have h3 : 0 ≤ x % 262144 ∧ x % 262144 < 262144 := by omega
  rcases sext_val18 x with ⟨a, b⟩ | ⟨a, b⟩ <;> rw [b, Int.ediv_one, Int.ediv_one]
  · generalize x % 262144 = r at *
    rw [show r / 262144 = 0 by omega, show r / 2147483648 = 0 by omega]
    omega
  · refine ⟨by omega, ?_⟩
    generalize x % 262144 = r at *
    rw [show (r + 4294705152) / 262144 = 16383 by omega, show (r + 4294705152) / 2147483648 = 1 by omega]
    rfl
theorem sext_val19 (x : Int) : (x % 524288 < 262144 ∧ sextI x 19 = x % 524288) ∨ (262144 ≤ x % 524288 ∧ sextI x 19 = x % 524288 + 4294443008) := by
  have h : x * 8192 % 4294967296 = x % 524288 * 8192 := by omega
  have h1 : sextI x 19 = (sg (x * 8192 % 4294967296) / 8192) % 4294967296 := rfl
  have h2 : 0 ≤ x % 524288 ∧ x % 524288 < 524288 := by omega
  rw [h1, h]
  generalize x % 524288 = r at *
  unfold sg
  by_cases c : r < 262144
  · refine .inl ⟨c, ?_⟩
    rw [show (r * 8192 + 2147483648) % 4294967296 - 2147483648 = r * 8192 by omega]
    omega
  · refine .inr ⟨by omega, ?_⟩
    rw [show (r * 8192 + 2147483648) % 4294967296 - 2147483648 = (r - 524288) * 8192 by omega]
    omega
theorem sext_bits19 (x : Int) : bitsI (sextI x 19) 0 19 = bitsI x 0 19 ∧ bitsI (sextI x 19) 19 13 = (sextI x 19 / 2147483648 * 8191) % 4294967296 := by
  have h1 : ∀ y, bitsI y 0 19 = y / 1 % 524288 := fun _ => rfl
  have h2 : ∀ y, bitsI y 19 13 = y / 524288 % 8192 := fun _ => rfl
  rw [h1, h1, h2]
  have h3 : 0 ≤ x % 524288 ∧ x % 524288 < 524288 := by omega
  rcases sext_val19 x with ⟨a, b⟩ | ⟨a, b⟩ <;> rw [b, Int.ediv_one, Int.ediv_one]
  · generalize x % 524288 = r at *
    rw [show r / 524288 = 0 by omega, show r / 2147483648 = 0 by omega]
    omega
  · refine ⟨by omega, ?_⟩
    generalize x % 524288 = r at *
    rw [show (r + 4294443008) / 524288 = 8191 by omega, show (r + 4294443008) / 2147483648 = 1 by omega]
    rfl
theorem sext_val20 (x : Int) : (x % 1048576 < 524288 ∧ sextI x 20 = x % 1048576) ∨ (524288 ≤ x % 1048576 ∧ sextI x 20 = x % 1048576 + 4293918720) := by
  have h : x * 4096 % 4294967296 = x % 1048576 * 4096 := by omega
  have h1 : sextI x 20 = (sg (x * 4096 % 4294967296) / 4096) % 4294967296 := rfl
  have h2 : 0 ≤ x % 1048576 ∧ x % 1048576 < 1048576 := by omega
  rw [h1, h]
  generalize x % 1048576 = r at *
  unfold sg
  by_cases c : r < 524288
  · refine .inl ⟨c, ?_⟩
    rw [show (r * 4096 + 2147483648) % 4294967296 - 2147483648 = r * 4096 by omega]
    omega
  · refine .inr ⟨by omega, ?_⟩
    rw [show (r * 4096 + 2147483648) % 4294967296 - 2147483648 = (r - 1048576) * 4096 by omega]
    omega
theorem sext_bits20 (x : Int) : bitsI (sextI x 20) 0 20 = bitsI x 0 20 ∧ bitsI (sextI x 20) 20 12 = (sextI x 20 / 2147483648 * 4095) % 4294967296 := by
  have h1 : ∀ y, bitsI y 0 20 = y / 1 % 1048576 := fun _ => rfl
  have h2 : ∀ y, bitsI y 20 12 = y / 1048576 % 4096 := fun _ => rfl
  rw [h1, h1, h2]
  have h3 : 0 ≤ x % 1048576 ∧ x % 1048576 < 1048576 := by omega
  rcases sext_val20 x with ⟨a, b⟩ | ⟨a, b⟩ <;> rw [b, Int.ediv_one, Int.ediv_one]
  · generalize x % 1048576 = r at *
    rw [show r / 1048576 = 0 by omega, show r / 2147483648 = 0 by omega]
    omega
  · refine ⟨by omega, ?_⟩
    generalize x % 1048576 = r at *
    rw [show (r + 4293918720) / 1048576 = 4095 by omega, show (r + 4293918720) / 2147483648 = 1 by omega]
    rfl
theorem sext_val21 (x : Int) : (x % 2097152 < 1048576 ∧ sextI x 21 = x % 2097152) ∨ (1048576 ≤ x % 2097152 ∧ sextI x 21 = x % 2097152 + 4292870144) := by
  have h : x * 2048 % 4294967296 = x % 2097152 * 2048 := by omega
  have h1 : sextI x 21 = (sg (x * 2048 % 4294967296) / 2048) % 4294967296 := rfl
  have h2 : 0 ≤ x % 2097152 ∧ x % 2097152 < 2097152 := by omega
  rw [h1, h]
  generalize x % 2097152 = r at *
  unfold sg
  by_cases c : r < 1048576
  · refine .inl ⟨c, ?_⟩
    rw [show (r * 2048 + 2147483648) % 4294967296 - 2147483648 = r * 2048 by omega]
    omega
  · refine .inr ⟨by omega, ?_⟩
    rw [show (r * 2048 + 2147483648) % 4294967296 - 2147483648 = (r - 2097152) * 2048 by omega]
    omega
theorem sext_bits21 (x : Int) : bitsI (sextI x 21) 0 21 = bitsI x 0 21 ∧ bitsI (sextI x 21) 21 11 = (sextI x 21 / 2147483648 * 2047) % 4294967296 := by
  have h1 : ∀ y, bitsI y 0 21 = y / 1 % 2097152 := fun _ => rfl
  have h2 : ∀ y, bitsI y 21 11 = y / 2097152 % 2048 := fun _ => rfl
  rw [h1, h1, h2]
  have h3 : 0 ≤ x % 2097152 ∧ x % 2097152 < 2097152 := by omega
  rcases sext_val21 x with ⟨a, b⟩ | ⟨a, b⟩ <;> rw [b, Int.ediv_one, Int.ediv_one]
  · generalize x % 2097152 = r at *
    rw [show r / 2097152 = 0 by omega, show r / 2147483648 = 0 by omega]
    omega
  · refine ⟨by omega, ?_⟩
    generalize x % 2097152 = r at *
    rw [show (r + 4292870144) / 2097152 = 2047 by omega, show (r + 4292870144) / 2147483648 = 1 by omega]
    rfl
theorem sext_val22 (x : Int) : (x % 4194304 < 2097152 ∧ sextI x 22 = x % 4194304) ∨ (2097152 ≤ x % 4194304 ∧ sextI x 22 = x % 4194304 + 4290772992) := by
  have h : x * 1024 % 4294967296 = x % 4194304 * 1024 := by omega
  have h1 : sextI x 22 = (sg (x * 1024 % 4294967296) / 1024) % 4294967296 := rfl
  have h2 : 0 ≤ x % 4194304 ∧ x % 4194304 < 4194304 := by omega
  rw [h1, h]
  generalize x % 4194304 = r at *
  unfold sg
  by_cases c : r < 2097152
  · refine .inl ⟨c, ?_⟩
    rw [show (r * 1024 + 2147483648) % 4294967296 - 2147483648 = r * 1024 by omega]
    omega
  · refine .inr ⟨by omega, ?_⟩
    rw [show (r * 1024 + 2147483648) % 4294967296 - 2147483648 = (r - 4194304) * 1024 by omega]
    omega
theorem sext_bits22 (x : Int) : bitsI (sextI x 22) 0 22 = bitsI x 0 22 ∧ bitsI (sextI x 22) 22 10 = (sextI x 22 / 2147483648 * 1023) % 4294967296 := by
  have h1 : ∀ y, bitsI y 0 22 = y / 1 % 4194304 := fun _ => rfl
  have h2 : ∀ y, bitsI y 22 10 = y / 4194304 % 1024 := fun _ => rfl
  rw [h1, h1, h2]
  have h3 : 0 ≤ x % 4194304 ∧ x % 4194304 < 4194304 := by omega
  rcases sext_val22 x with ⟨a, b⟩ | ⟨a, b⟩ <;> rw [b, Int.ediv_one, Int.ediv_one]
  · generalize x % 4194304 = r at *
    rw [show r / 4194304 = 0 by omega, show r / 2147483648 = 0 by omega]
    omega
  · refine ⟨by omega, ?_⟩
    generalize x % 4194304 = r at *
    rw [show (r + 4290772992) / 4194304 = 1023 by omega, show (r + 4290772992) / 2147483648 = 1 by omega]
    rfl
theorem sext_val23 (x : Int) : (x % 8388608 < 4194304 ∧ sextI x 23 = x % 8388608) ∨ (4194304 ≤ x % 8388608 ∧ sextI x 23 = x % 8388608 + 4286578688) := by
  have h : x * 512 % 4294967296 = x % 8388608 * 512 := by omega
  have h1 : sextI x 23 = (sg (x * 512 % 4294967296) / 512) % 4294967296 := rfl
  have h2 : 0 ≤ x % 8388608 ∧ x % 8388608 < 8388608 := by omega
  rw [h1, h]
  generalize x % 8388608 = r at *
  unfold sg
  by_cases c : r < 4194304
  · refine .inl ⟨c, ?_⟩
    rw [show (r * 512 + 2147483648) % 4294967296 - 2147483648 = r * 512 by omega]
    omega
  · refine .inr ⟨by omega, ?_⟩
    rw [show (r * 512 + 2147483648) % 4294967296 - 2147483648 = (r - 8388608) * 512 by omega]
    omega
theorem sext_bits23 (x : Int) : bitsI (sextI x 23) 0 23 = bitsI x 0 23 ∧ bitsI (sextI x 23) 23 9 = (sextI x 23 / 2147483648 * 511) % 4294967296 := by
  have h1 : ∀ y, bitsI y 0 23 = y / 1 % 8388608 := fun _ => rfl
  have h2 : ∀ y, bitsI y 23 9 = y / 8388608 % 512 := fun _ => rfl
  rw [h1, h1, h2]
  have h3 : 0 ≤ x % 8388608 ∧ x % 8388608 < 8388608 := by omega
  rcases sext_val23 x with ⟨a, b⟩ | ⟨a, b⟩ <;> rw [b, Int.ediv_one, Int.ediv_one]
  · generalize x % 8388608 = r at *
    rw [show r / 8388608 = 0 by omega, show r / 2147483648 = 0 by omega]
    omega
  · refine ⟨by omega, ?_⟩
    generalize x % 8388608 = r at *
    rw [show (r + 4286578688) / 8388608 = 511 by omega, show (r + 4286578688) / 2147483648 = 1 by omega]
    rfl
theorem sext_val24 (x : Int) : (x % 16777216 < 8388608 ∧ sextI x 24 = x % 16777216) ∨ (8388608 ≤ x % 16777216 ∧ sextI x 24 = x % 16777216 + 4278190080) := by
  have h : x * 256 % 4294967296 = x % 16777216 * 256 := by omega
  have h1 : sextI x 24 = (sg (x * 256 % 4294967296) / 256) % 4294967296 := rfl
  have h2 : 0 ≤ x % 16777216 ∧ x % 16777216 < 16777216 := by omega
  rw [h1, h]
  generalize x % 16777216 = r at *
  unfold sg
  by_cases c : r < 8388608
  · refine .inl ⟨c, ?_⟩
    rw [show (r * 256 + 2147483648) % 4294967296 - 2147483648 = r * 256 by omega]
    omega
  · refine .inr ⟨by omega, ?_⟩
    rw [show (r * 256 + 2147483648) % 4294967296 - 2147483648 = (r - 16777216) * 256 by omega]
    omega
theorem sext_bits24 (x : Int) : bitsI (sextI x 24) 0 24 = bitsI x 0 24 ∧ bitsI (sextI x 24) 24 8 = (sextI x 24 / 2147483648 * 255) % 4294967296 := by
  have h1 : ∀ y, bitsI y 0 24 = y / 1 % 16777216 := fun _ => rfl
  have h2 : ∀ y, bitsI y 24 8 = y / 16777216 % 256 := fun _ => rfl
  rw [h1, h1, h2]
  have h3 : 0 ≤ x % 16777216 ∧ x % 16777216 < 16777216 := by omega
  rcases sext_val24 x with ⟨a, b⟩ | ⟨a, b⟩ <;> rw [b, Int.ediv_one, Int.ediv_one]
  · generalize x % 16777216 = r at *
    rw [show r / 16777216 = 0 by omega, show r / 2147483648 = 0 by omega]
    omega
  · refine ⟨by omega, ?_⟩
    generalize x % 16777216 = r at *
    rw [show (r + 4278190080) / 16777216 = 255 by omega, show (r + 4278190080) / 2147483648 = 1 by omega]
    rfl
theorem sext_val25 (x : Int) : (x % 33554432 < 16777216 ∧ sextI x 25 = x % 33554432) ∨ (16777216 ≤ x % 33554432 ∧ sextI x 25 = x % 33554432 + 4261412864) := by
  have h : x * 128 % 4294967296 = x % 33554432 * 128 := by omega
  have h1 : sextI x 25 = (sg (x * 128 % 4294967296) / 128) % 4294967296 := rfl
  have h2 : 0 ≤ x % 33554432 ∧ x % 33554432 < 33554432 := by omega
  rw [h1, h]
  generalize x % 33554432 = r at *
  unfold sg
  by_cases c : r < 16777216
  · refine .inl ⟨c, ?_⟩
    rw [show (r * 128 + 2147483648) % 4294967296 - 2147483648 = r * 128 by omega]
    omega
  · refine .inr ⟨by omega, ?_⟩
    rw [show (r * 128 + 2147483648) % 4294967296 - 2147483648 = (r - 33554432) * 128 by omega]
    omega
theorem sext_bits25 (x : Int) : bitsI (sextI x 25) 0 25 = bitsI x 0 25 ∧ bitsI (sextI x 25) 25 7 = (sextI x 25 / 2147483648 * 127) % 4294967296 := by
  have h1 : ∀ y, bitsI y 0 25 = y / 1 % 33554432 := fun _ => rfl
  have h2 : ∀ y, bitsI y 25 7 = y / 33554432 % 128 := fun _ => rfl
  rw [h1, h1, h2]
  have h3 : 0 ≤ x % 33554432 ∧ x % 33554432 < 33554432 := by omega
  rcases sext_val25 x with ⟨a, b⟩ | ⟨a, b⟩ <;> rw [b, Int.ediv_one, Int.ediv_one]
  · generalize x % 33554432 = r at *
    rw [show r / 33554432 = 0 by omega, show r / 2147483648 = 0 by omega]
    omega
  · refine ⟨by omega, ?_⟩
    generalize x % 33554432 = r at *
    rw [show (r + 4261412864) / 33554432 = 127 by omega, show (r + 4261412864) / 2147483648 = 1 by omega]
    rfl
theorem sext_val26 (x : Int) : (x % 67108864 < 33554432 ∧ sextI x 26 = x % 67108864) ∨ (33554432 ≤ x % 67108864 ∧ sextI x 26 = x % 67108864 + 4227858432) := by
  have h : x * 64 % 4294967296 = x % 67108864 * 64 := by omega
  have h1 : sextI x 26 = (sg (x * 64 % 4294967296) / 64) % 4294967296 := rfl
  have h2 : 0 ≤ x % 67108864 ∧ x % 67108864 < 67108864 := by omega
  rw [h1, h]
  generalize x % 67108864 = r at *
  unfold sg
  by_cases c : r < 33554432
  · refine .inl ⟨c, ?_⟩
    rw [show (r * 64 + 2147483648) % 4294967296 - 2147483648 = r * 64 by omega]
    omega
  · refine .inr ⟨by omega, ?_⟩
    rw [show (r * 64 + 2147483648) % 4294967296 - 2147483648 = (r - 67108864) * 64 by omega]
    omega
theorem sext_bits26 (x : Int) : bitsI (sextI x 26) 0 26 = bitsI x 0 26 ∧ bitsI (sextI x 26) 26 6 = (sextI x 26 / 2147483648 * 63) % 4294967296 := by
  have h1 : ∀ y, bitsI y 0 26 = y / 1 % 67108864 := fun _ => rfl
  have h2 : ∀ y, bitsI y 26 6 = y / 67108864 % 64 := fun _ => rfl
  rw [h1, h1, h2]
  have h3 : 0 ≤ x % 67108864 ∧ x % 67108864 < 67108864 := by omega
  rcases sext_val26 x with ⟨a, b⟩ | ⟨a, b⟩ <;> rw [b, Int.ediv_one, Int.ediv_one]
  · generalize x % 67108864 = r at *
    rw [show r / 67108864 = 0 by omega, show r / 2147483648 = 0 by omega]
    omega
  · refine ⟨by omega, ?_⟩
    generalize x % 67108864 = r at *
    rw [show (r + 4227858432) / 67108864 = 63 by omega, show (r + 4227858432) / 2147483648 = 1 by omega]
    rfl
theorem sext_val27 (x : Int) : (x % 134217728 < 67108864 ∧ sextI x 27 = x % 134217728) ∨ (67108864 ≤ x % 134217728 ∧ sextI x 27 = x % 134217728 + 4160749568) := by
  have h : x * 32 % 4294967296 = x % 134217728 * 32 := by omega
  have h1 : sextI x 27 = (sg (x * 32 % 4294967296) / 32) % 4294967296 := rfl
  have h2 : 0 ≤ x % 134217728 ∧ x % 134217728 < 134217728 := by omega
  rw [h1, h]
  generalize x % 134217728 = r at *
  unfold sg
  by_cases c : r < 67108864
  · refine .inl ⟨c, ?_⟩
    rw [show (r * 32 + 2147483648) % 4294967296 - 2147483648 = r * 32 by omega]
    omega
  · refine .inr ⟨by omega, ?_⟩
    rw [show (r * 32 + 2147483648) % 4294967296 - 2147483648 = (r - 134217728) * 32 by omega]
    omega
theorem sext_bits27 (x : Int) : bitsI (sextI x 27) 0 27 = bitsI x 0 27 ∧ bitsI (sextI x 27) 27 5 = (sextI x 27 / 2147483648 * 31) % 4294967296 := by
  have h1 : ∀ y, bitsI y 0 27 = y / 1 % 134217728 := fun _ => rfl
  have h2 : ∀ y, bitsI y 27 5 = y / 134217728 % 32 := fun _ => rfl
  rw [h1, h1, h2]
  have h3 : 0 ≤ x % 134217728 ∧ x % 134217728 < 134217728 := by omega
  rcases sext_val27 x with ⟨a, b⟩ | ⟨a, b⟩ <;> rw [b, Int.ediv_one, Int.ediv_one]
  · generalize x % 134217728 = r at *
    rw [show r / 134217728 = 0 by omega, show r / 2147483648 = 0 by omega]
    omega
  · refine ⟨by omega, ?_⟩
    generalize x % 134217728 = r at *
    rw [show (r + 4160749568) / 134217728 = 31 by omega, show (r + 4160749568) / 2147483648 = 1 by omega]
    rfl
theorem sext_val28 (x : Int) : (x % 268435456 < 134217728 ∧ sextI x 28 = x % 268435456) ∨ (134217728 ≤ x % 268435456 ∧ sextI x 28 = x % 268435456 + 4026531840) := by
  have h : x * 16 % 4294967296 = x % 268435456 * 16 := by omega
  have h1 : sextI x 28 = (sg (x * 16 % 4294967296) / 16) % 4294967296 := rfl
  have h2 : 0 ≤ x % 268435456 ∧ x % 268435456 < 268435456 := by omega
  rw [h1, h]
  generalize x % 268435456 = r at *
  unfold sg
  by_cases c : r < 134217728
  · refine .inl ⟨c, ?_⟩
    rw [show (r * 16 + 2147483648) % 4294967296 - 2147483648 = r * 16 by omega]
    omega
  · refine .inr ⟨by omega, ?_⟩
    rw [show (r * 16 + 2147483648) % 4294967296 - 2147483648 = (r - 268435456) * 16 by omega]
    omega
theorem sext_bits28 (x : Int) : bitsI (sextI x 28) 0 28 = bitsI x 0 28 ∧ bitsI (sextI x 28) 28 4 = (sextI x 28 / 2147483648 * 15) % 4294967296 := by
  have h1 : ∀ y, bitsI y 0 28 = y / 1 % 268435456 := fun _ => rfl
  have h2 : ∀ y, bitsI y 28 4 = y / 268435456 % 16 := fun _ => rfl
  rw [h1, h1, h2]
  have h3 : 0 ≤ x % 268435456 ∧ x % 268435456 < 268435456 := by omega
  rcases sext_val28 x with ⟨a, b⟩ | ⟨a, b⟩ <;> rw [b, Int.ediv_one, Int.ediv_one]
  · generalize x % 268435456 = r at *
    rw [show r / 268435456 = 0 by omega, show r / 2147483648 = 0 by omega]
    omega
  · refine ⟨by omega, ?_⟩
    generalize x % 268435456 = r at *
    rw [show (r + 4026531840) / 268435456 = 15 by omega, show (r + 4026531840) / 2147483648 = 1 by omega]
    rfl
theorem sext_val29 (x : Int) : (x % 536870912 < 268435456 ∧ sextI x 29 = x % 536870912) ∨ (268435456 ≤ x % 536870912 ∧ sextI x 29 = x % 536870912 + 3758096384) := by
  have h : x * 8 % 4294967296 = x % 536870912 * 8 := by omega
  have h1 : sextI x 29 = (sg (x * 8 % 4294967296) / 8) % 4294967296 := rfl
  have h2 : 0 ≤ x % 536870912 ∧ x % 536870912 < 536870912 := by omega
  rw [h1, h]
  generalize x % 536870912 = r at *
  unfold sg
  by_cases c : r < 268435456
  · refine .inl ⟨c, ?_⟩
    rw [show (r * 8 + 2147483648) % 4294967296 - 2147483648 = r * 8 by omega]
    omega
  · refine .inr ⟨by omega, ?_⟩
    rw [show (r * 8 + 2147483648) % 4294967296 - 2147483648 = (r - 536870912) * 8 by omega]
    omega
theorem sext_bits29 (x : Int) : bitsI (sextI x 29) 0 29 = bitsI x 0 29 ∧ bitsI (sextI x 29) 29 3 = (sextI x 29 / 2147483648 * 7) % 4294967296 := by
  have h1 : ∀ y, bitsI y 0 29 = y / 1 % 536870912 := fun _ => rfl
  have h2 : ∀ y, bitsI y 29 3 = y / 536870912 % 8 := fun _ => rfl
  rw [h1, h1, h2]
  have h3 : 0 ≤ x % 536870912 ∧ x % 536870912 < 536870912 := by omega
  rcases sext_val29 x with ⟨a, b⟩ | ⟨a, b⟩ <;> rw [b, Int.ediv_one, Int.ediv_one]
  · generalize x % 536870912 = r at *
    rw [show r / 536870912 = 0 by omega, show r / 2147483648 = 0 by omega]
    omega
  · refine ⟨by omega, ?_⟩
    generalize x % 536870912 = r at *
    rw [show (r + 3758096384) / 536870912 = 7 by omega, show (r + 3758096384) / 2147483648 = 1 by omega]
    rfl
theorem sext_val30 (x : Int) : (x % 1073741824 < 536870912 ∧ sextI x 30 = x % 1073741824) ∨ (536870912 ≤ x % 1073741824 ∧ sextI x 30 = x % 1073741824 + 3221225472) := by
  have h : x * 4 % 4294967296 = x % 1073741824 * 4 := by omega
  have h1 : sextI x 30 = (sg (x * 4 % 4294967296) / 4) % 4294967296 := rfl
  have h2 : 0 ≤ x % 1073741824 ∧ x % 1073741824 < 1073741824 := by omega
  rw [h1, h]
  generalize x % 1073741824 = r at *
  unfold sg
  by_cases c : r < 536870912
  · refine .inl ⟨c, ?_⟩
    rw [show (r * 4 + 2147483648) % 4294967296 - 2147483648 = r * 4 by omega]
    omega
  · refine .inr ⟨by omega, ?_⟩
    rw [show (r * 4 + 2147483648) % 4294967296 - 2147483648 = (r - 1073741824) * 4 by omega]
    omega
theorem sext_bits30 (x : Int) : bitsI (sextI x 30) 0 30 = bitsI x 0 30 ∧ bitsI (sextI x 30) 30 2 = (sextI x 30 / 2147483648 * 3) % 4294967296 := by
  have h1 : ∀ y, bitsI y 0 30 = y / 1 % 1073741824 := fun _ => rfl
  have h2 : ∀ y, bitsI y 30 2 = y / 1073741824 % 4 := fun _ => rfl
  rw [h1, h1, h2]
  have h3 : 0 ≤ x % 1073741824 ∧ x % 1073741824 < 1073741824 := by omega
  rcases sext_val30 x with ⟨a, b⟩ | ⟨a, b⟩ <;> rw [b, Int.ediv_one, Int.ediv_one]
  · generalize x % 1073741824 = r at *
    rw [show r / 1073741824 = 0 by omega, show r / 2147483648 = 0 by omega]
    omega
  · refine ⟨by omega, ?_⟩
    generalize x % 1073741824 = r at *
    rw [show (r + 3221225472) / 1073741824 = 3 by omega, show (r + 3221225472) / 2147483648 = 1 by omega]
    rfl
theorem sext_val31 (x : Int) : (x % 2147483648 < 1073741824 ∧ sextI x 31 = x % 2147483648) ∨ (1073741824 ≤ x % 2147483648 ∧ sextI x 31 = x % 2147483648 + 2147483648) := by
  have h : x * 2 % 4294967296 = x % 2147483648 * 2 := by omega
  have h1 : sextI x 31 = (sg (x * 2 % 4294967296) / 2) % 4294967296 := rfl
  have h2 : 0 ≤ x % 2147483648 ∧ x % 2147483648 < 2147483648 := by omega
  rw [h1, h]
  generalize x % 2147483648 = r at *
  unfold sg
  by_cases c : r < 1073741824
  · refine .inl ⟨c, ?_⟩
    rw [show (r * 2 + 2147483648) % 4294967296 - 2147483648 = r * 2 by omega]
    omega
  · refine .inr ⟨by omega, ?_⟩
    rw [show (r * 2 + 2147483648) % 4294967296 - 2147483648 = (r - 2147483648) * 2 by omega]
    omega
theorem sext_bits31 (x : Int) : bitsI (sextI x 31) 0 31 = bitsI x 0 31 ∧ bitsI (sextI x 31) 31 1 = (sextI x 31 / 2147483648 * 1) % 4294967296 := by
  have h1 : ∀ y, bitsI y 0 31 = y / 1 % 2147483648 := fun _ => rfl
  have h2 : ∀ y, bitsI y 31 1 = y / 2147483648 % 2 := fun _ => rfl
  rw [h1, h1, h2]
  have h3 : 0 ≤ x % 2147483648 ∧ x % 2147483648 < 2147483648 := by omega
  rcases sext_val31 x with ⟨a, b⟩ | ⟨a, b⟩ <;> rw [b, Int.ediv_one, Int.ediv_one]
  · generalize x % 2147483648 = r at *
    rw [show r / 2147483648 = 0 by omega]
    omega
  · refine ⟨by omega, ?_⟩
    generalize x % 2147483648 = r at *
    rw [show (r + 2147483648) / 2147483648 = 1 by omega]
    rfl
theorem sext_val32 (x : Int) : (x % 4294967296 < 2147483648 ∧ sextI x 32 = x % 4294967296) ∨ (2147483648 ≤ x % 4294967296 ∧ sextI x 32 = x % 4294967296 + 0) := by
  have h : x * 1 % 4294967296 = x % 4294967296 * 1 := by omega
  have h1 : sextI x 32 = (sg (x * 1 % 4294967296) / 1) % 4294967296 := rfl
  have h2 : 0 ≤ x % 4294967296 ∧ x % 4294967296 < 4294967296 := by omega
  rw [h1, h]
  generalize x % 4294967296 = r at *
  unfold sg
  by_cases c : r < 2147483648
  · refine .inl ⟨c, ?_⟩
    rw [show (r * 1 + 2147483648) % 4294967296 - 2147483648 = r * 1 by omega]
    omega
  · refine .inr ⟨by omega, ?_⟩
    rw [show (r * 1 + 2147483648) % 4294967296 - 2147483648 = (r - 4294967296) * 1 by omega]
    omega
theorem sext_bits32 (x : Int) : bitsI (sextI x 32) 0 32 = bitsI x 0 32 := by
  have h1 : ∀ y, bitsI y 0 32 = y / 1 % 4294967296 := fun _ => rfl
  rw [h1, h1]
  rcases sext_val32 x with ⟨a, b⟩ | ⟨a, b⟩ <;> rw [b] <;> omega
theorem sext_low {x m : Int} (hm : 1 ≤ m ∧ m ≤ 32) : bitsI (sextI x m) 0 m = bitsI x 0 m := by
  have hc : m = 1 ∨ m = 2 ∨ m = 3 ∨ m = 4 ∨ m = 5 ∨ m = 6 ∨ m = 7 ∨ m = 8 ∨ m = 9 ∨ m = 10 ∨ m = 11 ∨ m = 12 ∨ m = 13 ∨ m = 14 ∨ m = 15 ∨ m = 16 ∨ m = 17 ∨ m = 18 ∨ m = 19 ∨ m = 20 ∨ m = 21 ∨ m = 22 ∨ m = 23 ∨ m = 24 ∨ m = 25 ∨ m = 26 ∨ m = 27 ∨ m = 28 ∨ m = 29 ∨ m = 30 ∨ m = 31 ∨ m = 32 := by omega
  rcases hc with rfl | rfl | rfl | rfl | rfl | rfl | rfl | rfl | rfl | rfl | rfl | rfl | rfl | rfl | rfl | rfl | rfl | rfl | rfl | rfl | rfl | rfl | rfl | rfl | rfl | rfl | rfl | rfl | rfl | rfl | rfl | rfl
  · exact (sext_bits1 x).1
  · exact (sext_bits2 x).1
  · exact (sext_bits3 x).1
  · exact (sext_bits4 x).1
  · exact (sext_bits5 x).1
  · exact (sext_bits6 x).1
  · exact (sext_bits7 x).1
  · exact (sext_bits8 x).1
  · exact (sext_bits9 x).1
  · exact (sext_bits10 x).1
  · exact (sext_bits11 x).1
  · exact (sext_bits12 x).1
  · exact (sext_bits13 x).1
  · exact (sext_bits14 x).1
  · exact (sext_bits15 x).1
  · exact (sext_bits16 x).1
  · exact (sext_bits17 x).1
  · exact (sext_bits18 x).1
  · exact (sext_bits19 x).1
  · exact (sext_bits20 x).1
  · exact (sext_bits21 x).1
  · exact (sext_bits22 x).1
  · exact (sext_bits23 x).1
  · exact (sext_bits24 x).1
  · exact (sext_bits25 x).1
  · exact (sext_bits26 x).1
  · exact (sext_bits27 x).1
  · exact (sext_bits28 x).1
  · exact (sext_bits29 x).1
  · exact (sext_bits30 x).1
  · exact (sext_bits31 x).1
  · exact (sext_bits32 x)
theorem sext_high {x m : Int} (hm : 1 ≤ m ∧ m ≤ 31) : bitsI (sextI x m) m (IntKind.i64.wrap (32 - m)) = IntKind.u32.wrap ((sextI x m).fdiv 2147483648 * IntKind.u32.wrap (IntKind.u32.wrap (1 * 2 ^ min (IntKind.i64.wrap (32 - m)).toNat 32) - 1)) := by
  rw [fdiv_nn (by omega)]
  have hc : m = 1 ∨ m = 2 ∨ m = 3 ∨ m = 4 ∨ m = 5 ∨ m = 6 ∨ m = 7 ∨ m = 8 ∨ m = 9 ∨ m = 10 ∨ m = 11 ∨ m = 12 ∨ m = 13 ∨ m = 14 ∨ m = 15 ∨ m = 16 ∨ m = 17 ∨ m = 18 ∨ m = 19 ∨ m = 20 ∨ m = 21 ∨ m = 22 ∨ m = 23 ∨ m = 24 ∨ m = 25 ∨ m = 26 ∨ m = 27 ∨ m = 28 ∨ m = 29 ∨ m = 30 ∨ m = 31 := by omega
  rcases hc with rfl | rfl | rfl | rfl | rfl | rfl | rfl | rfl | rfl | rfl | rfl | rfl | rfl | rfl | rfl | rfl | rfl | rfl | rfl | rfl | rfl | rfl | rfl | rfl | rfl | rfl | rfl | rfl | rfl | rfl | rfl
  · exact (sext_bits1 x).2
  · exact (sext_bits2 x).2
  · exact (sext_bits3 x).2
  · exact (sext_bits4 x).2
  · exact (sext_bits5 x).2
  · exact (sext_bits6 x).2
  · exact (sext_bits7 x).2
  · exact (sext_bits8 x).2
  · exact (sext_bits9 x).2
  · exact (sext_bits10 x).2
  · exact (sext_bits11 x).2
  · exact (sext_bits12 x).2
  · exact (sext_bits13 x).2
  · exact (sext_bits14 x).2
  · exact (sext_bits15 x).2
  · exact (sext_bits16 x).2
  · exact (sext_bits17 x).2
  · exact (sext_bits18 x).2
  · exact (sext_bits19 x).2
  · exact (sext_bits20 x).2
  · exact (sext_bits21 x).2
  · exact (sext_bits22 x).2
  · exact (sext_bits23 x).2
  · exact (sext_bits24 x).2
  · exact (sext_bits25 x).2
  · exact (sext_bits26 x).2
  · exact (sext_bits27 x).2
  · exact (sext_bits28 x).2
  · exact (sext_bits29 x).2
  · exact (sext_bits30 x).2
  · exact (sext_bits31 x).2
end Go.Ev
