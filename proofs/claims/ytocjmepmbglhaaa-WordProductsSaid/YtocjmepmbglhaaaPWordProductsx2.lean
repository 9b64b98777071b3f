-- PRINTED BY print.sh 35421559b90ae4d0a3588c463048766b98c2df88dd9212a6774a882060cdf62d: not written by this session
import Derived.Test.YtocjmepmbglhaaaPWordProductsx0
import Derived.Test.YtocjmepmbglhaaaPWordProductsx1
namespace Go.Proofs.Ytocjmepmbglhaaa.PWordProducts
open Go.RowKit Go.Proofs.YtocjmepmbglhaaaW.PrintWords Go.Proofs.YtocjmepmbglhaaaW.PrintLast Go.Proofs.YtocjmepmbglhaaaW.PrintMore
attribute [local go_sem] max2_int min2_int max_two min_two max_three min_three max_four min_four   -- for this text's walks alone
set_option linter.unusedVariables false
set_option linter.unusedSimpArgs false

/-! ### footmanlaw1_WordProducts: function 9 -/
def footmanlaw1_WordProducts.j0 : Nat → Int → Int → Int → Int → Int → Int → Int → Int → Option (Bool)
  | 0, _, _, _, _, _, _, _, _ => none
  | k + 1, x0, x1, x5, x6, x7, x8, x9, x10 => if x9 = x10 then (if x1 ≥ 2147483648 then (if (Go.bits .or .u64 (IntKind.u64.wrap ((IntKind.u64.wrap (x7)) * 4294967296)) (IntKind.u64.wrap (x6))) = x5 then (if x8 = ((x10 - x0) % 4294967296) then ((footmanlaw1_awake.f k).bind fun t135 => (some t135)) else (some false)) else (some false)) else (if (Go.bits .or .u64 (IntKind.u64.wrap ((IntKind.u64.wrap (x7)) * 4294967296)) (IntKind.u64.wrap (x6))) = x5 then (if x8 = x10 then ((footmanlaw1_awake.f k).bind fun t136 => (some t136)) else (some false)) else (some false))) else (some false)
def footmanlaw1_WordProducts.f (k : Nat) (a0 : Int) (a1 : Int) : Option (Bool) := (footmanlaw1_op.f k (⟨#[109, 117, 108]⟩ : ByteArray) a0 a1).bind fun t131 => ((footmanlaw1_op.f k (⟨#[109, 117, 108, 104, 117]⟩ : ByteArray) a0 a1).bind fun t132 => ((footmanlaw1_op.f k (⟨#[109, 117, 108, 104]⟩ : ByteArray) a0 a1).bind fun t133 => ((footmanlaw1_op.f k (⟨#[109, 117, 108, 104, 115, 117]⟩ : ByteArray) a0 a1).bind fun t134 => (if a0 ≥ 2147483648 then (footmanlaw1_WordProducts.j0 k a0 a1 (IntKind.u64.wrap ((IntKind.u64.wrap (a0)) * (IntKind.u64.wrap (a1)))) t131 t132 t133 t134 ((t132 - a1) % 4294967296)) else (footmanlaw1_WordProducts.j0 k a0 a1 (IntKind.u64.wrap ((IntKind.u64.wrap (a0)) * (IntKind.u64.wrap (a1)))) t131 t132 t133 t134 t132)))))
theorem footmanlaw1_WordProducts.mono_l : ∀ k, (∀ y0 y1 y2 y3 y4 y5 y6 y7, LeO (footmanlaw1_WordProducts.j0 k y0 y1 y2 y3 y4 y5 y6 y7) (footmanlaw1_WordProducts.j0 (k + 1) y0 y1 y2 y3 y4 y5 y6 y7))
  | 0 => fun _ _ _ _ _ _ _ _ r h => by simp [footmanlaw1_WordProducts.j0] at h
  | k + 1 => by
    have ih0 := footmanlaw1_WordProducts.mono_l k
    · intro y0 y1 y2 y3 y4 y5 y6 y7
      unfold footmanlaw1_WordProducts.j0
      repeat' first
      | (with_reducible exact ih0 _ _ _ _ _ _ _ _)
      | (with_reducible exact footmanlaw1_awake.mono _)
      | (with_reducible exact footmanlaw1_op.mono _ _ _ _)
      | (with_reducible exact LeO.refl _)
      | (with_reducible exact LeO.none _)
      | (with_reducible refine LeO.ite ?_ ?_)
      | (with_reducible refine LeO.bind ?_ (fun _ => ?_))
      | exact ih0 _ _ _ _ _ _ _ _
      | exact footmanlaw1_awake.mono _
      | exact footmanlaw1_op.mono _ _ _ _
      | exact LeO.none _
      | refine LeO.ite ?_ ?_
      | refine LeO.bind ?_ (fun _ => ?_)
theorem footmanlaw1_WordProducts.mono : ∀ a0 a1 k, LeO (footmanlaw1_WordProducts.f k a0 a1) (footmanlaw1_WordProducts.f (k + 1) a0 a1) := by
  intro a0 a1 k
  have ih0 := footmanlaw1_WordProducts.mono_l k
  unfold footmanlaw1_WordProducts.f
  repeat' first
      | (with_reducible exact ih0 _ _ _ _ _ _ _ _)
      | (with_reducible exact footmanlaw1_awake.mono _)
      | (with_reducible exact footmanlaw1_op.mono _ _ _ _)
      | (with_reducible exact LeO.refl _)
      | (with_reducible exact LeO.none _)
      | (with_reducible refine LeO.ite ?_ ?_)
      | (with_reducible refine LeO.bind ?_ (fun _ => ?_))
      | exact ih0 _ _ _ _ _ _ _ _
      | exact footmanlaw1_awake.mono _
      | exact footmanlaw1_op.mono _ _ _ _
      | exact LeO.none _
      | refine LeO.ite ?_ ?_
      | refine LeO.bind ?_ (fun _ => ?_)
set_option maxHeartbeats 8000000 in
set_option maxRecDepth 100000 in
theorem footmanlaw1_WordProducts.calls (k : Nat) (a0 : Int) (a1 : Int) (r : Bool) (w : World) (h : footmanlaw1_WordProducts.f k a0 a1 = some r) :
    Calls Try.prog 9 #[.int .u32 a0, .int .u32 a1] w fun e w' => e = .returned (.bool r) ∧ Drawn0 w w' := by
  have H : ((footmanlaw1_op.f k (⟨#[109, 117, 108]⟩ : ByteArray) a0 a1).bind fun t131 => ((footmanlaw1_op.f k (⟨#[109, 117, 108, 104, 117]⟩ : ByteArray) a0 a1).bind fun t132 => ((footmanlaw1_op.f k (⟨#[109, 117, 108, 104]⟩ : ByteArray) a0 a1).bind fun t133 => ((footmanlaw1_op.f k (⟨#[109, 117, 108, 104, 115, 117]⟩ : ByteArray) a0 a1).bind fun t134 => (if a0 ≥ 2147483648 then (footmanlaw1_WordProducts.j0 k a0 a1 (IntKind.u64.wrap ((IntKind.u64.wrap (a0)) * (IntKind.u64.wrap (a1)))) t131 t132 t133 t134 ((t132 - a1) % 4294967296)) else (footmanlaw1_WordProducts.j0 k a0 a1 (IntKind.u64.wrap ((IntKind.u64.wrap (a0)) * (IntKind.u64.wrap (a1)))) t131 t132 t133 t134 t132)))))) = some r := h
  clear h
  replace H := Option.bind_eq_some_iff.mp H
  obtain ⟨t131, A30, H⟩ := H
  replace H : ((footmanlaw1_op.f k (⟨#[109, 117, 108, 104, 117]⟩ : ByteArray) a0 a1).bind fun t132 => ((footmanlaw1_op.f k (⟨#[109, 117, 108, 104]⟩ : ByteArray) a0 a1).bind fun t133 => ((footmanlaw1_op.f k (⟨#[109, 117, 108, 104, 115, 117]⟩ : ByteArray) a0 a1).bind fun t134 => (if a0 ≥ 2147483648 then (footmanlaw1_WordProducts.j0 k a0 a1 (IntKind.u64.wrap ((IntKind.u64.wrap (a0)) * (IntKind.u64.wrap (a1)))) t131 t132 t133 t134 ((t132 - a1) % 4294967296)) else (footmanlaw1_WordProducts.j0 k a0 a1 (IntKind.u64.wrap ((IntKind.u64.wrap (a0)) * (IntKind.u64.wrap (a1)))) t131 t132 t133 t134 t132))))) = some r := H
  have A3 := Aside0.mk A30
  clear A30
  replace H := Option.bind_eq_some_iff.mp H
  obtain ⟨t132, A40, H⟩ := H
  replace H : ((footmanlaw1_op.f k (⟨#[109, 117, 108, 104]⟩ : ByteArray) a0 a1).bind fun t133 => ((footmanlaw1_op.f k (⟨#[109, 117, 108, 104, 115, 117]⟩ : ByteArray) a0 a1).bind fun t134 => (if a0 ≥ 2147483648 then (footmanlaw1_WordProducts.j0 k a0 a1 (IntKind.u64.wrap ((IntKind.u64.wrap (a0)) * (IntKind.u64.wrap (a1)))) t131 t132 t133 t134 ((t132 - a1) % 4294967296)) else (footmanlaw1_WordProducts.j0 k a0 a1 (IntKind.u64.wrap ((IntKind.u64.wrap (a0)) * (IntKind.u64.wrap (a1)))) t131 t132 t133 t134 t132)))) = some r := H
  have A4 := Aside0.mk A40
  clear A40
  replace H := Option.bind_eq_some_iff.mp H
  obtain ⟨t133, A50, H⟩ := H
  replace H : ((footmanlaw1_op.f k (⟨#[109, 117, 108, 104, 115, 117]⟩ : ByteArray) a0 a1).bind fun t134 => (if a0 ≥ 2147483648 then (footmanlaw1_WordProducts.j0 k a0 a1 (IntKind.u64.wrap ((IntKind.u64.wrap (a0)) * (IntKind.u64.wrap (a1)))) t131 t132 t133 t134 ((t132 - a1) % 4294967296)) else (footmanlaw1_WordProducts.j0 k a0 a1 (IntKind.u64.wrap ((IntKind.u64.wrap (a0)) * (IntKind.u64.wrap (a1)))) t131 t132 t133 t134 t132))) = some r := H
  have A5 := Aside0.mk A50
  clear A50
  replace H := Option.bind_eq_some_iff.mp H
  obtain ⟨t134, A60, H⟩ := H
  replace H : (if a0 ≥ 2147483648 then (footmanlaw1_WordProducts.j0 k a0 a1 (IntKind.u64.wrap ((IntKind.u64.wrap (a0)) * (IntKind.u64.wrap (a1)))) t131 t132 t133 t134 ((t132 - a1) % 4294967296)) else (footmanlaw1_WordProducts.j0 k a0 a1 (IntKind.u64.wrap ((IntKind.u64.wrap (a0)) * (IntKind.u64.wrap (a1)))) t131 t132 t133 t134 t132)) = some r := H
  have A6 := Aside0.mk A60
  clear A60
  have HC7 := Aside0.mk H
  clear H
  go_enter Try.func9, Try.ntmps9
  go_upto_if 30 with (first | ((with_reducible refine gate_callee (f := 25) rfl ?_); refine goesL_ (some 18) rfl rfl Try.func25 (by kernel_rfl) rfl #[.string (⟨#[109, 117, 108]⟩ : ByteArray), .int .u32 a0, .int .u32 a1] rfl (by (try simp only [List.map_toArray, List.map_cons, List.map_nil]); first | done | rfl | (simp only [List.length_drop, List.length_take]; rfl)) ?_; (with_reducible refine (footmanlaw1_op.calls k (⟨#[109, 117, 108]⟩ : ByteArray) a0 a1 t131 _ A3.out).mono ?_); rintro e w' ⟨rfl, ⟨nd, rfl⟩⟩; refine ⟨_, rfl, ?_⟩) | ((with_reducible refine gate_callee (f := 25) rfl ?_); refine goesL_ (some 21) rfl rfl Try.func25 (by kernel_rfl) rfl #[.string (⟨#[109, 117, 108, 104, 117]⟩ : ByteArray), .int .u32 a0, .int .u32 a1] rfl (by (try simp only [List.map_toArray, List.map_cons, List.map_nil]); first | done | rfl | (simp only [List.length_drop, List.length_take]; rfl)) ?_; (with_reducible refine (footmanlaw1_op.calls k (⟨#[109, 117, 108, 104, 117]⟩ : ByteArray) a0 a1 t132 _ A4.out).mono ?_); rintro e w' ⟨rfl, ⟨nd, rfl⟩⟩; refine ⟨_, rfl, ?_⟩) | ((with_reducible refine gate_callee (f := 25) rfl ?_); refine goesL_ (some 24) rfl rfl Try.func25 (by kernel_rfl) rfl #[.string (⟨#[109, 117, 108, 104]⟩ : ByteArray), .int .u32 a0, .int .u32 a1] rfl (by (try simp only [List.map_toArray, List.map_cons, List.map_nil]); first | done | rfl | (simp only [List.length_drop, List.length_take]; rfl)) ?_; (with_reducible refine (footmanlaw1_op.calls k (⟨#[109, 117, 108, 104]⟩ : ByteArray) a0 a1 t133 _ A5.out).mono ?_); rintro e w' ⟨rfl, ⟨nd, rfl⟩⟩; refine ⟨_, rfl, ?_⟩) | ((with_reducible refine gate_callee (f := 25) rfl ?_); refine goesL_ (some 27) rfl rfl Try.func25 (by kernel_rfl) rfl #[.string (⟨#[109, 117, 108, 104, 115, 117]⟩ : ByteArray), .int .u32 a0, .int .u32 a1] rfl (by (try simp only [List.map_toArray, List.map_cons, List.map_nil]); first | done | rfl | (simp only [List.length_drop, List.length_take]; rfl)) ?_; (with_reducible refine (footmanlaw1_op.calls k (⟨#[109, 117, 108, 104, 115, 117]⟩ : ByteArray) a0 a1 t134 _ A6.out).mono ?_); rintro e w' ⟨rfl, ⟨nd, rfl⟩⟩; refine ⟨_, rfl, ?_⟩))
  (try simp only [Act.put, List.setIfInBounds_toArray, List.set_cons_zero, List.set_cons_succ])
  go_cut [10] (fun v10 wc => ∃ (kq : Nat) (x10_6 : Int), v10 = .int .u32 x10_6 ∧ Aside0 (footmanlaw1_WordProducts.j0 kq a0 a1 (IntKind.u64.wrap ((IntKind.u64.wrap (a0)) * (IntKind.u64.wrap (a1)))) t131 t132 t133 t134 x10_6 = some r) ∧ Aside0 (kq ≤ k) ∧ Drawn0 w wc)
  case first =>
    have H := HC7.out
    clear HC7
    by_cases c8 : a0 ≥ 2147483648
    · rw [if_pos c8] at H
      have c8b0 : decide (2147483648 ≤ a0) = true := decide_eq_true c8
      clear c8
      (first | rw [c8b0] | (simp only [i64_w, i32_w]; rw [c8b0]) | skip)
      have H' := Aside0.mk H
      clear H
      go_wp2
      go_meet
      case rel => exact ⟨_, ((t132 - a1) % 4294967296), (by first | rfl | (simp; done) | (simp [*]; done)), H', ⟨by first | omega | exact Nat.le_refl _⟩, by repeat (first | exact Drawn0.refl _ | apply Drawn0.step)⟩
    · rw [if_neg c8] at H
      have c8b0 : decide (2147483648 ≤ a0) = false := decide_eq_false c8
      clear c8
      (first | rw [c8b0] | (simp only [i64_w, i32_w]; rw [c8b0]) | skip)
      have H' := Aside0.mk H
      clear H
      go_wp2
      go_meet
      case rel => exact ⟨_, (t132), (by first | rfl | (simp; done) | (simp [*]; done)), H', ⟨by first | omega | exact Nat.le_refl _⟩, by repeat (first | exact Drawn0.refl _ | apply Drawn0.step)⟩
  case rest =>
    clear HC7
    try clear c2
    try clear p2
    try clear c8
    try clear c8b0
    obtain ⟨kq, x10_6, rfl, HA, HJ6, ⟨mc6, rfl⟩⟩ := hcut
    cases kq with
    | zero => exact absurd HA.out (by simp [footmanlaw1_WordProducts.j0])
    | succ kj6 =>
      have H := HA.out
      clear HA
      simp only [footmanlaw1_WordProducts.j0] at H
      by_cases c9 : t134 = x10_6
      · rw [if_pos c9] at H
        have c9b0 : (t134 == x10_6) = true := beq_iff_eq.mpr c9
        have c9b1 : (t134 != x10_6) = false := bne_eq_false_iff_eq.mpr c9
        clear c9
        by_cases c10 : a1 ≥ 2147483648
        · rw [if_pos c10] at H
          have c10b0 : decide (2147483648 ≤ a1) = true := decide_eq_true c10
          clear c10
          by_cases c11 : (Go.bits .or .u64 (IntKind.u64.wrap ((IntKind.u64.wrap (t132)) * 4294967296)) (IntKind.u64.wrap (t131))) = (IntKind.u64.wrap ((IntKind.u64.wrap (a0)) * (IntKind.u64.wrap (a1))))
          · rw [if_pos c11] at H
            have c11b0 : ((Go.bits .or .u64 (IntKind.u64.wrap ((IntKind.u64.wrap (t132)) * 4294967296)) (IntKind.u64.wrap (t131))) == (IntKind.u64.wrap ((IntKind.u64.wrap (a0)) * (IntKind.u64.wrap (a1))))) = true := beq_iff_eq.mpr c11
            have c11b1 : ((Go.bits .or .u64 (IntKind.u64.wrap ((IntKind.u64.wrap (t132)) * 4294967296)) (IntKind.u64.wrap (t131))) != (IntKind.u64.wrap ((IntKind.u64.wrap (a0)) * (IntKind.u64.wrap (a1))))) = false := bne_eq_false_iff_eq.mpr c11
            clear c11
            by_cases c12 : t133 = ((x10_6 - a0) % 4294967296)
            · rw [if_pos c12] at H
              have c12b0 : (t133 == ((x10_6 - a0) % 4294967296)) = true := beq_iff_eq.mpr c12
              have c12b1 : (t133 != ((x10_6 - a0) % 4294967296)) = false := bne_eq_false_iff_eq.mpr c12
              clear c12
              replace H := Option.bind_eq_some_iff.mp H
              obtain ⟨t135, A130, H⟩ := H
              replace H : (some t135) = some r := H
              have A13 := Aside0.mk A130
              clear A130
              obtain rfl := Option.some.inj H
              go_wp2_with (first | (go_at_call 26; (with_reducible refine (footmanlaw1_awake.calls kj6  t135 _ A13.out).mono ?_); rintro e w' ⟨rfl, ⟨nd, rfl⟩⟩))
              go_ret
              exact ⟨by first | rfl | (simp; done) | (simp [*]; done), by repeat (first | exact Drawn0.refl _ | apply Drawn0.step)⟩
            · rw [if_neg c12] at H
              have c12b0 : (t133 == ((x10_6 - a0) % 4294967296)) = false := beq_eq_false_iff_ne.mpr c12
              have c12b1 : (t133 != ((x10_6 - a0) % 4294967296)) = true := bne_iff_ne.mpr c12
              obtain rfl := Option.some.inj H
              go_wp2
              go_ret
              exact ⟨by first | rfl | (simp; done) | (simp [*]; done), by repeat (first | exact Drawn0.refl _ | apply Drawn0.step)⟩
          · rw [if_neg c11] at H
            have c11b0 : ((Go.bits .or .u64 (IntKind.u64.wrap ((IntKind.u64.wrap (t132)) * 4294967296)) (IntKind.u64.wrap (t131))) == (IntKind.u64.wrap ((IntKind.u64.wrap (a0)) * (IntKind.u64.wrap (a1))))) = false := beq_eq_false_iff_ne.mpr c11
            have c11b1 : ((Go.bits .or .u64 (IntKind.u64.wrap ((IntKind.u64.wrap (t132)) * 4294967296)) (IntKind.u64.wrap (t131))) != (IntKind.u64.wrap ((IntKind.u64.wrap (a0)) * (IntKind.u64.wrap (a1))))) = true := bne_iff_ne.mpr c11
            obtain rfl := Option.some.inj H
            go_wp2
            go_ret
            exact ⟨by first | rfl | (simp; done) | (simp [*]; done), by repeat (first | exact Drawn0.refl _ | apply Drawn0.step)⟩
        · rw [if_neg c10] at H
          have c10b0 : decide (2147483648 ≤ a1) = false := decide_eq_false c10
          clear c10
          by_cases c14 : (Go.bits .or .u64 (IntKind.u64.wrap ((IntKind.u64.wrap (t132)) * 4294967296)) (IntKind.u64.wrap (t131))) = (IntKind.u64.wrap ((IntKind.u64.wrap (a0)) * (IntKind.u64.wrap (a1))))
          · rw [if_pos c14] at H
            have c14b0 : ((Go.bits .or .u64 (IntKind.u64.wrap ((IntKind.u64.wrap (t132)) * 4294967296)) (IntKind.u64.wrap (t131))) == (IntKind.u64.wrap ((IntKind.u64.wrap (a0)) * (IntKind.u64.wrap (a1))))) = true := beq_iff_eq.mpr c14
            have c14b1 : ((Go.bits .or .u64 (IntKind.u64.wrap ((IntKind.u64.wrap (t132)) * 4294967296)) (IntKind.u64.wrap (t131))) != (IntKind.u64.wrap ((IntKind.u64.wrap (a0)) * (IntKind.u64.wrap (a1))))) = false := bne_eq_false_iff_eq.mpr c14
            clear c14
            by_cases c15 : t133 = x10_6
            · rw [if_pos c15] at H
              have c15b0 : (t133 == x10_6) = true := beq_iff_eq.mpr c15
              have c15b1 : (t133 != x10_6) = false := bne_eq_false_iff_eq.mpr c15
              clear c15
              replace H := Option.bind_eq_some_iff.mp H
              obtain ⟨t136, A160, H⟩ := H
              replace H : (some t136) = some r := H
              have A16 := Aside0.mk A160
              clear A160
              obtain rfl := Option.some.inj H
              go_wp2_with (first | (go_at_call 26; (with_reducible refine (footmanlaw1_awake.calls kj6  t136 _ A16.out).mono ?_); rintro e w' ⟨rfl, ⟨nd, rfl⟩⟩))
              go_ret
              exact ⟨by first | rfl | (simp; done) | (simp [*]; done), by repeat (first | exact Drawn0.refl _ | apply Drawn0.step)⟩
            · rw [if_neg c15] at H
              have c15b0 : (t133 == x10_6) = false := beq_eq_false_iff_ne.mpr c15
              have c15b1 : (t133 != x10_6) = true := bne_iff_ne.mpr c15
              obtain rfl := Option.some.inj H
              go_wp2
              go_ret
              exact ⟨by first | rfl | (simp; done) | (simp [*]; done), by repeat (first | exact Drawn0.refl _ | apply Drawn0.step)⟩
          · rw [if_neg c14] at H
            have c14b0 : ((Go.bits .or .u64 (IntKind.u64.wrap ((IntKind.u64.wrap (t132)) * 4294967296)) (IntKind.u64.wrap (t131))) == (IntKind.u64.wrap ((IntKind.u64.wrap (a0)) * (IntKind.u64.wrap (a1))))) = false := beq_eq_false_iff_ne.mpr c14
            have c14b1 : ((Go.bits .or .u64 (IntKind.u64.wrap ((IntKind.u64.wrap (t132)) * 4294967296)) (IntKind.u64.wrap (t131))) != (IntKind.u64.wrap ((IntKind.u64.wrap (a0)) * (IntKind.u64.wrap (a1))))) = true := bne_iff_ne.mpr c14
            obtain rfl := Option.some.inj H
            go_wp2
            go_ret
            exact ⟨by first | rfl | (simp; done) | (simp [*]; done), by repeat (first | exact Drawn0.refl _ | apply Drawn0.step)⟩
      · rw [if_neg c9] at H
        have c9b0 : (t134 == x10_6) = false := beq_eq_false_iff_ne.mpr c9
        have c9b1 : (t134 != x10_6) = true := bne_iff_ne.mpr c9
        obtain rfl := Option.some.inj H
        go_wp2
        go_ret
        exact ⟨by first | rfl | (simp; done) | (simp [*]; done), by repeat (first | exact Drawn0.refl _ | apply Drawn0.step)⟩

/-- THE ONE PURE STATEMENT of footmanlaw1_WordProducts: yours. -/
def footmanlaw1_WordProducts.Pure : Prop := ∀ (a0 : Int) (a1 : Int), (Lit.int .u32 a0).wf = true → (Lit.int .u32 a1).wf = true → ∃ k, footmanlaw1_WordProducts.f k a0 a1 = some true
theorem footmanlaw1_WordProducts.walk (P : footmanlaw1_WordProducts.Pure) (a0 : Int) (a1 : Int) (w : World) (w0 : (Lit.int .u32 a0).wf = true) (w1 : (Lit.int .u32 a1).wf = true) :
    Calls Try.prog 9 #[.int .u32 a0, .int .u32 a1] w fun e w' => e = .returned (.bool true) ∧ Below w.heap.size w w' := by
  obtain ⟨k, h⟩ := P a0 a1 w0 w1
  refine (footmanlaw1_WordProducts.calls k a0 a1 true w h).mono ?_
  rintro e w' ⟨rfl, hd⟩
  exact ⟨rfl, hd.below⟩

end Go.Proofs.Ytocjmepmbglhaaa.PWordProducts
