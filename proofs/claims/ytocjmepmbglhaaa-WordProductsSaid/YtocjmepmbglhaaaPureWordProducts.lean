/- The two halves of a product are all of it, with a sign and without: the pure statement that the law's printed functions leave. No condition. -/
import Derived.Test.YtocjmepmbglhaaaPWordProductsx2
namespace Go.Proofs.Ytocjmepmbglhaaa.Pure
open Go.RowKit Go.Proofs.Ytocjmepmbglhaaa.PWordProducts Go.Proofs.YtocjmepmbglhaaaW.PrintWords Go.Proofs.YtocjmepmbglhaaaW.PrintLast Go.Proofs.YtocjmepmbglhaaaW.PrintMore

theorem wf32 {a : Int} (h : (Lit.int .u32 a).wf = true) : 0 ≤ a ∧ a < 4294967296 := by
  simp only [Lit.wf, IntKind.min, IntKind.max, IntKind.signed, IntKind.bits, Bool.and_eq_true] at h
  obtain ⟨h1, h2⟩ := h
  simp at h1 h2
  omega
theorem awake_ok (k : Nat) : footmanlaw1_awake.f (k+1) = some true := by
  simp [footmanlaw1_awake.f, word_Op.f, word_Op.j0, word_moved.f, footmanlaw1_Err.f, word_Sext.f]
  decide +kernel
theorem WordProducts : footmanlaw1_WordProducts.Pure := by
  intro a b ha hb
  obtain ⟨a0, a1⟩ := wf32 ha
  obtain ⟨b0, b1⟩ := wf32 hb
  have ea : IntKind.u64.wrap a = a := by simp [IntKind.wrap, IntKind.bits, IntKind.signed]; omega
  have eb : IntKind.u64.wrap b = b := by simp [IntKind.wrap, IntKind.bits, IntKind.signed]; omega
  have hp0 : 0 ≤ a * b := Int.mul_nonneg a0 b0
  have hp1 : a * b < 18446744073709551616 := by
    have h1 : a * b ≤ 4294967295 * 4294967295 := Int.mul_le_mul (by omega) (by omega) b0 (by omega)
    omega
  have ep : IntKind.u64.wrap (a * b) = a * b := by simp [IntKind.wrap, IntKind.bits, IntKind.signed]; omega
  have sa : wrap64 (wrap32 a) = if 2147483648 ≤ a then a - 4294967296 else a := by unfold wrap64 wrap32; split <;> omega
  have sb : wrap64 (wrap32 b) = if 2147483648 ≤ b then b - 4294967296 else b := by unfold wrap64 wrap32; split <;> omega
  have pb : wrap64 b = b := by unfold wrap64; omega
  generalize hP : a * b = p at *
  have e1 : (a - 4294967296) * b = p - 4294967296 * b := by rw [Int.sub_mul, hP]
  have e2 : a * (b - 4294967296) = p - 4294967296 * a := by rw [Int.mul_sub, hP]; omega
  have e3 : (a - 4294967296) * (b - 4294967296) = p - 4294967296 * a - 4294967296 * b + 18446744073709551616 := by rw [Int.sub_mul, Int.mul_sub, hP]; omega
  have w0 : ∀ x : Int, wrap64 x = (x + 9223372036854775808) % 18446744073709551616 - 9223372036854775808 := fun _ => by unfold wrap64; rfl
  have u6 : ∀ x : Int, 0 ≤ x → x < 18446744073709551616 → IntKind.u64.wrap x = x := by
    intro x _ _; simp [IntKind.wrap, IntKind.bits, IntKind.signed]; omega
  have e4 : Go.bits .or .u64 (IntKind.u64.wrap (IntKind.u64.wrap (p / 4294967296 % 4294967296) * 4294967296)) (IntKind.u64.wrap (p % 4294967296)) = p := by
    rw [u6 (p % 4294967296) (by omega) (by omega), u6 (p / 4294967296 % 4294967296) (by omega) (by omega), u6 _ (by omega) (by omega), u64_or _ _ (by omega) (by omega) (by omega) (by omega)]
    have h1 : (p / 4294967296 % 4294967296 * 4294967296).toNat = 2 ^ 32 * (p / 4294967296 % 4294967296).toNat := by omega
    have h2 : (p % 4294967296).toNat < 2 ^ 32 := by omega
    rw [h1, ← Nat.two_pow_add_eq_or_of_lt h2]
    omega
  refine ⟨2, ?_⟩
  unfold footmanlaw1_WordProducts.f
  simp only [footmanlaw1_op.f, word_Op.f, word_Op.j0, word_product.f, word_signed.f, word_plain.f, word_upper.f, footmanlaw1_Err.f]
  simp [sa, sb, pb, ea, eb, hP, ep]
  by_cases c1 : 2147483648 ≤ a <;> by_cases c2 : 2147483648 ≤ b <;> simp [c1, c2, footmanlaw1_WordProducts.j0, e1, e2, e3, hP, awake_ok]
  all_goals
    rw [e4]
    simp only [w0]
    rw [if_pos (by omega), if_pos trivial, if_pos (by omega)]
end Go.Proofs.Ytocjmepmbglhaaa.Pure
