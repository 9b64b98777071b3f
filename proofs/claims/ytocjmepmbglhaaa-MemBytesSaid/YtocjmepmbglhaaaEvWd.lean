/- Words of 32 bits as whole numbers: what each operation makes. No condition. -/
import Derived.Test.YtocjmepmbglhaaaEvLem
import Derived.Test.YtocjmepmbglhaaaEvZ
namespace Go.Ev

theorem two_pos (n : Nat) : (0 : Int) < 2 ^ n := Int.pow_pos (by decide)
/-- With a sign. -/
def sg (a : Int) : Int := (a + 2147483648) % 4294967296 - 2147483648
/-- By how much one is moved. -/
def mv (b : Int) : Nat := (b % 32).toNat
def ior (a b : Int) : Int := (a.toNat ||| b.toNat : Nat)
def iand (a b : Int) : Int := (a.toNat &&& b.toNat : Nat)
def ixor (a b : Int) : Int := (a.toNat ^^^ b.toNat : Nat)

theorem sg_eq (a : Int) : IntKind.i64.wrap (IntKind.i32.wrap a) = sg a := by rw [wrap_i64, wrap_i32]; unfold sg; omega
theorem sg_eq' (a : Int) : IntKind.i32.wrap a = sg a := by rw [wrap_i32]; rfl
theorem pl_eq {a : Int} (h : 0 ≤ a ∧ a < 4294967296) : IntKind.i64.wrap a = a := by rw [wrap_i64]; omega
theorem pl_eq' {a : Int} (h : 0 ≤ a ∧ a < 4294967296) : IntKind.u64.wrap a = a := by rw [wrap_u64]; omega
theorem mv_eq (b : Int) : min (b % 32).toNat 32 = mv b := by unfold mv; omega
theorem mv_lt (b : Int) : mv b < 32 := by unfold mv; omega
theorem sg_rng (a : Int) : -2147483648 ≤ sg a ∧ sg a < 2147483648 := by unfold sg; omega
theorem bv_or {a b : Int} (ha : 0 ≤ a ∧ a < 4294967296) (hb : 0 ≤ b ∧ b < 4294967296) : ((BitVec.ofInt 32 a ||| BitVec.ofInt 32 b).toNat : Int) = ior a b := by
  unfold ior; rw [BitVec.toNat_or, BitVec.toNat_ofInt, BitVec.toNat_ofInt]; congr 2
  · simp; omega
  · simp; omega
theorem bv_and {a b : Int} (ha : 0 ≤ a ∧ a < 4294967296) (hb : 0 ≤ b ∧ b < 4294967296) : ((BitVec.ofInt 32 a &&& BitVec.ofInt 32 b).toNat : Int) = iand a b := by
  unfold iand; rw [BitVec.toNat_and, BitVec.toNat_ofInt, BitVec.toNat_ofInt]; congr 2
  · simp; omega
  · simp; omega
theorem bv_xor {a b : Int} (ha : 0 ≤ a ∧ a < 4294967296) (hb : 0 ≤ b ∧ b < 4294967296) : ((BitVec.ofInt 32 a ^^^ BitVec.ofInt 32 b).toNat : Int) = ixor a b := by
  unfold ixor; rw [BitVec.toNat_xor, BitVec.toNat_ofInt, BitVec.toNat_ofInt]; congr 2
  · simp; omega
  · simp; omega
theorem nat_lt_of {x : Int} (h : 0 ≤ x ∧ x < 4294967296) : x.toNat < 2 ^ 32 := by omega
theorem ior_rng {a b : Int} (ha : 0 ≤ a ∧ a < 4294967296) (hb : 0 ≤ b ∧ b < 4294967296) : 0 ≤ ior a b ∧ ior a b < 4294967296 := by
  have := Nat.or_lt_two_pow (nat_lt_of ha) (nat_lt_of hb); unfold ior; omega
theorem iand_rng {a b : Int} (ha : 0 ≤ a ∧ a < 4294967296) : 0 ≤ iand a b ∧ iand a b < 4294967296 := by
  have : a.toNat &&& b.toNat ≤ a.toNat := Nat.and_le_left
  unfold iand; omega
theorem ixor_rng {a b : Int} (ha : 0 ≤ a ∧ a < 4294967296) (hb : 0 ≤ b ∧ b < 4294967296) : 0 ≤ ixor a b ∧ ixor a b < 4294967296 := by
  have := Nat.xor_lt_two_pow (nat_lt_of ha) (nat_lt_of hb); unfold ixor; omega

/-- The lowest n bits with a sign. -/
def sextI (x n : Int) : Int := if 1 ≤ n ∧ n ≤ 32 then (sg (x * 2 ^ (32 - n).toNat % 4294967296) / 2 ^ (32 - n).toNat) % 4294967296 else 0
/-- n bits from lo on. -/
def bitsI (x lo n : Int) : Int := if 0 ≤ lo ∧ lo ≤ 31 ∧ 1 ≤ n ∧ n ≤ 32 - lo then x / 2 ^ lo.toNat % 2 ^ n.toNat else 0
inductive WOp where
  | add | sub | sll | slt | sltu | xor | srl | sra | or | and | mul | mulh | mulhsu | mulhu | div | divu | rem | remu
def WOp.name : WOp → String
  | .add => "add" | .sub => "sub" | .sll => "sll" | .slt => "slt" | .sltu => "sltu" | .xor => "xor" | .srl => "srl" | .sra => "sra" | .or => "or" | .and => "and"
  | .mul => "mul" | .mulh => "mulh" | .mulhsu => "mulhsu" | .mulhu => "mulhu" | .div => "div" | .divu => "divu" | .rem => "rem" | .remu => "remu"
/-- What an operation makes. -/
def opI (o : WOp) (a b : Int) : Int :=
  match o with
  | .add => (a + b) % 4294967296
  | .sub => (a - b) % 4294967296
  | .sll => (a * 2 ^ mv b) % 4294967296
  | .slt => if sg a < sg b then 1 else 0
  | .sltu => if a < b then 1 else 0
  | .xor => ixor a b
  | .srl => a / 2 ^ mv b
  | .sra => (sg a / 2 ^ mv b) % 4294967296
  | .or => ior a b
  | .and => iand a b
  | .mul => (a * b) % 4294967296
  | .mulh => (sg a * sg b / 4294967296) % 4294967296
  | .mulhsu => (sg a * b / 4294967296) % 4294967296
  | .mulhu => (a * b / 4294967296) % 4294967296
  | .div => if b = 0 then 4294967295 else ((sg a).tdiv (sg b)) % 4294967296
  | .divu => if b = 0 then 4294967295 else a / b
  | .rem => if b = 0 then a else ((sg a).tmod (sg b)) % 4294967296
  | .remu => if b = 0 then a else a % b
theorem sg_zero {b : Int} (h : 0 ≤ b ∧ b < 4294967296) : (sg b = 0) = (b = 0) := by unfold sg; apply propext; omega
theorem i64_sg (a : Int) : IntKind.i64.wrap (sg a) = sg a := by rw [wrap_i64]; unfold sg; omega
theorem sg_mod {a : Int} (h : 0 ≤ a ∧ a < 4294967296) : sg a % 4294967296 = a := by unfold sg; omega
theorem mod_i64 (x : Int) : IntKind.i64.wrap x % 4294967296 = x % 4294967296 := by rw [wrap_i64]; omega
theorem mod_u64 (x : Int) : IntKind.u64.wrap x % 4294967296 = x % 4294967296 := by rw [wrap_u64]; omega
theorem mod_pl {x : Int} (h : 0 ≤ x ∧ x < 4294967296) : x % 4294967296 = x := by omega
theorem mul_bd {x y m n : Int} (hx : -m ≤ x ∧ x ≤ m) (hy : -n ≤ y ∧ y ≤ n) (hm : 0 ≤ m) : -(m * n) ≤ x * y ∧ x * y ≤ m * n := by
  have hn : 0 ≤ n := by omega
  have h1 : x.natAbs ≤ m.toNat := by omega
  have h2 : y.natAbs ≤ n.toNat := by omega
  have h3 : (x * y).natAbs ≤ m.toNat * n.toNat := by rw [Int.natAbs_mul]; exact Nat.mul_le_mul h1 h2
  have h4 : ((m.toNat * n.toNat : Nat) : Int) = m * n := by rw [Int.natCast_mul, Int.toNat_of_nonneg hm, Int.toNat_of_nonneg hn]
  omega
theorem i64_ss (a b : Int) : IntKind.i64.wrap (sg a * sg b) = sg a * sg b := by
  have ha := sg_rng a; have hb := sg_rng b
  have := mul_bd (x := sg a) (y := sg b) (m := 2147483648) (n := 2147483648) (by omega) (by omega) (by omega)
  rw [wrap_i64]; omega
theorem i64_su (a : Int) {b : Int} (h : 0 ≤ b ∧ b < 4294967296) : IntKind.i64.wrap (sg a * b) = sg a * b := by
  have ha := sg_rng a
  have := mul_bd (x := sg a) (y := b) (m := 2147483648) (n := 4294967295) (by omega) (by omega) (by omega)
  rw [wrap_i64]; omega
theorem u64_uu {a b : Int} (ha : 0 ≤ a ∧ a < 4294967296) (hb : 0 ≤ b ∧ b < 4294967296) : IntKind.u64.wrap (a * b) = a * b := by
  have h0 := Int.mul_nonneg ha.1 hb.1
  have := mul_bd (x := a) (y := b) (m := 4294967295) (n := 4294967295) (by omega) (by omega) (by omega)
  rw [wrap_u64]; omega
theorem ediv_rng {a b : Int} (ha : 0 ≤ a ∧ a < 4294967296) (hb : 0 ≤ b) : 0 ≤ a / b ∧ a / b < 4294967296 := by
  have h1 : 0 ≤ a / b := Int.ediv_nonneg ha.1 hb
  have h2 := Int.ediv_le_self b ha.1
  omega
theorem i64_div {a b : Int} (ha : 0 ≤ a ∧ a < 4294967296) (hb : 0 ≤ b) : IntKind.i64.wrap (a / b) = a / b := by have := ediv_rng ha hb; rw [wrap_i64]; omega
theorem u32_div {a b : Int} (ha : 0 ≤ a ∧ a < 4294967296) (hb : 0 ≤ b) : (a / b) % 4294967296 = a / b := by have := ediv_rng ha hb; omega
theorem u32_rem {a b : Int} (ha : 0 ≤ a ∧ a < 4294967296) (hb : 0 ≤ b) : (a % b) % 4294967296 = a % b := by
  by_cases h : b = 0
  · subst h; simp; omega
  · have h1 := Int.emod_nonneg a h
    have h2 : a % b ≤ a := by
      by_cases hc : a < b
      · rw [Int.emod_eq_of_lt ha.1 hc]; omega
      · have := Int.emod_lt_of_pos a (show 0 < b by omega); omega
    omega
theorem u32_ior {a b : Int} (ha : 0 ≤ a ∧ a < 4294967296) (hb : 0 ≤ b ∧ b < 4294967296) : ior a b % 4294967296 = ior a b := by have := ior_rng ha hb; omega
theorem u32_iand {a b : Int} (ha : 0 ≤ a ∧ a < 4294967296) : iand a b % 4294967296 = iand a b := by have := iand_rng (b := b) ha; omega
theorem u32_ixor {a b : Int} (ha : 0 ≤ a ∧ a < 4294967296) (hb : 0 ≤ b ∧ b < 4294967296) : ixor a b % 4294967296 = ixor a b := by have := ixor_rng ha hb; omega
theorem sg_lo {a : Int} (h : 0 ≤ a) (h' : a < 2147483648) : sg a = a := by unfold sg; omega
theorem sg_hi {a : Int} (h : 2147483648 ≤ a) (h' : a < 4294967296) : sg a = a - 4294967296 := by unfold sg; omega
theorem i64_hi {a : Int} (h : 2147483648 ≤ a) (h' : a < 4294967296) : IntKind.i64.wrap (a - 4294967296) = a - 4294967296 := by rw [wrap_i64]; omega
theorem mv_eq64 (b : Int) : min (b % 32).toNat 64 = mv b := by unfold mv; omega
theorem u64_ss (a b : Int) : (IntKind.u64.wrap (sg a * sg b) / 4294967296) % 4294967296 = (sg a * sg b / 4294967296) % 4294967296 := by rw [wrap_u64]; omega
theorem u64_su (a b : Int) : (IntKind.u64.wrap (sg a * b) / 4294967296) % 4294967296 = (sg a * b / 4294967296) % 4294967296 := by rw [wrap_u64]; omega
theorem sg_shift (a : Int) (n : Nat) : IntKind.i64.wrap (sg a / 2 ^ n) = sg a / 2 ^ n := by
  have h := sg_rng a
  have hp := two_pos n
  have h1 : sg a / 2 ^ n ≤ 2147483648 := by
    rcases (show sg a < 0 ∨ 0 ≤ sg a by omega) with h0 | h0
    · have : sg a / 2 ^ n < 0 := Int.ediv_neg_of_neg_of_pos h0 hp
      omega
    · have := Int.ediv_le_self (2 ^ n) h0; omega
  have h2 : -2147483648 ≤ sg a / 2 ^ n := by
    rw [Int.le_ediv_iff_mul_le hp]
    have hq : (1 : Int) ≤ 2 ^ n := hp
    generalize (2 : Int) ^ n = p at hq
    omega
  rw [wrap_i64]; omega
theorem fdiv_pow (a : Int) (n : Nat) : a.fdiv (2 ^ n) = a / 2 ^ n := fdiv_nn (Int.le_of_lt (two_pos n))
theorem div_le_self' {a : Int} (h : 0 ≤ a) (n : Nat) : 0 ≤ a / 2 ^ n ∧ a / 2 ^ n ≤ a := ⟨Int.ediv_nonneg h (Int.le_of_lt (two_pos n)), Int.ediv_le_self _ h⟩
theorem opI_rng (o : WOp) {a b : Int} (ha : 0 ≤ a ∧ a < 4294967296) (hb : 0 ≤ b ∧ b < 4294967296) : 0 ≤ opI o a b ∧ opI o a b < 4294967296 := by
  cases o <;> simp only [opI]
  all_goals first | omega | (split <;> omega) | exact ior_rng ha hb | exact iand_rng ha | exact ixor_rng ha hb | skip
  · have := div_le_self' ha.1 (mv b); omega
  · split
    · omega
    · have h1 : 0 ≤ a / b := Int.ediv_nonneg ha.1 hb.1
      have h2 := Int.ediv_le_self b ha.1
      omega
  · split
    · omega
    · have h1 := Int.emod_nonneg a (show b ≠ 0 by omega)
      have h2 := Int.emod_lt_of_pos a (show 0 < b by omega)
      omega
end Go.Ev
