-- PRINTED BY print.sh 35421559b90ae4d0a3588c463048766b98c2df88dd9212a6774a882060cdf62d: not written by this session
import Derived.Test.YtocjmepmbglhaaaPWordProductsx0
namespace Go.Proofs.Ytocjmepmbglhaaa.PWordProducts
open Go.RowKit Go.Proofs.YtocjmepmbglhaaaW.PrintWords Go.Proofs.YtocjmepmbglhaaaW.PrintLast Go.Proofs.YtocjmepmbglhaaaW.PrintMore
attribute [local go_sem] max2_int min2_int max_two min_two max_three min_three max_four min_four   -- for this text's walks alone
set_option linter.unusedVariables false
set_option linter.unusedSimpArgs false

/-! ### footmanlaw1_Err: function 16 -/
def footmanlaw1_Err.f (a0 : Int) : Option (Int) := some a0
set_option maxHeartbeats 8000000 in
set_option maxRecDepth 100000 in
theorem footmanlaw1_Err.calls (a0 : Int) (r : Int) (w : World) (h : footmanlaw1_Err.f a0 = some r) :
    Calls Try.prog 16 #[.int .i64 a0] w fun e w' => e = .returned (.int .i64 r) ∧ Drawn0 w w' := by
  have H : (some a0) = some r := h
  clear h
  obtain rfl := Option.some.inj H
  go_enter Try.func16, Try.ntmps16
  go_wp2
  go_ret
  exact ⟨by first | rfl | (simp; done) | (simp [*]; done), by repeat (first | exact Drawn0.refl _ | apply Drawn0.step)⟩

/-! ### word_moved: function 38 -/
def word_moved.f (a0 : ByteArray) (a1 : Int) (a2 : Int) : Option (Int) := if a0.toList = ([115, 108, 108] : List UInt8) then (if 0 ≤ (Int.tmod a2 32) then (some (shl .u32 a1 (Int.tmod a2 32))) else (none)) else (if a0.toList = ([115, 114, 108] : List UInt8) then (if 0 ≤ (Int.tmod a2 32) then (some (shr .u32 a1 (Int.tmod a2 32))) else (none)) else (if 0 ≤ (Int.tmod a2 32) then (some ((shr .i32 (wrap32 (a1)) (Int.tmod a2 32)) % 4294967296)) else (none)))
set_option maxHeartbeats 8000000 in
set_option maxRecDepth 100000 in
theorem word_moved.calls (a0 : ByteArray) (a1 : Int) (a2 : Int) (r : Int) (w : World) (h : word_moved.f a0 a1 a2 = some r) :
    Calls Try.prog 38 #[.string a0, .int .u32 a1, .int .u32 a2] w fun e w' => e = .returned (.int .u32 r) ∧ Drawn0 w w' := by
  have H : (if a0.toList = ([115, 108, 108] : List UInt8) then (if 0 ≤ (Int.tmod a2 32) then (some (shl .u32 a1 (Int.tmod a2 32))) else (none)) else (if a0.toList = ([115, 114, 108] : List UInt8) then (if 0 ≤ (Int.tmod a2 32) then (some (shr .u32 a1 (Int.tmod a2 32))) else (none)) else (if 0 ≤ (Int.tmod a2 32) then (some ((shr .i32 (wrap32 (a1)) (Int.tmod a2 32)) % 4294967296)) else (none)))) = some r := h
  clear h
  by_cases c4 : a0.toList = ([115, 108, 108] : List UInt8)
  · rw [if_pos c4] at H
    have c4b0 : (a0.toList == ([115, 108, 108] : List UInt8)) = true := beq_iff_eq.mpr c4
    have c4b1 : (a0.toList != ([115, 108, 108] : List UInt8)) = false := bne_eq_false_iff_eq.mpr c4
    clear c4
    obtain ⟨ji5, hji5⟩ : ∃ j_ : Int, (Int.tmod a2 32) = j_ := ⟨_, rfl⟩
    replace H : (if 0 ≤ (ji5) then (some (shl .u32 a1 (ji5))) else (none)) = some r := by first | (rw [hji5] at H; exact H) | (simp only [hji5] at H ⊢; exact H)
    by_cases c6 : 0 ≤ (ji5)
    · rw [if_pos c6] at H
      have c6b0 := eq_true c6
      have c6b1 : decide (0 ≤ (ji5)) = true := decide_eq_true c6
      clear c6
      obtain ⟨ji7, hji7⟩ : ∃ j_ : Int, (shl .u32 a1 (ji5)) = j_ := ⟨_, rfl⟩
      replace H : (some ji7) = some r := by first | (rw [hji7] at H; exact H) | (simp only [hji7] at H ⊢; exact H)
      have hji7_ : (IntKind.u32.wrap (a1 * 2 ^ min (ji5).toNat 32)) = ji7 := hji7
      have hji7z : (ji5) ≤ 32 → (IntKind.u32.wrap (a1 * 2 ^ (ji5).toNat)) = ji7 := shl_small hji7
      obtain rfl := Option.some.inj H
      go_enter Try.func38, Try.ntmps38
      go_wp2
      go_ret
      exact ⟨by first | rfl | (simp; done) | (simp only [← hji5, ← hji7] <;> (first | rfl | simp)) | (simp [*]; done), by repeat (first | exact Drawn0.refl _ | apply Drawn0.step)⟩
    · rw [if_neg c6] at H
      exact absurd H (by simp)
  · rw [if_neg c4] at H
    have c4b0 : (a0.toList == ([115, 108, 108] : List UInt8)) = false := beq_eq_false_iff_ne.mpr c4
    have c4b1 : (a0.toList != ([115, 108, 108] : List UInt8)) = true := bne_iff_ne.mpr c4
    by_cases c8 : a0.toList = ([115, 114, 108] : List UInt8)
    · rw [if_pos c8] at H
      have c8b0 : (a0.toList == ([115, 114, 108] : List UInt8)) = true := beq_iff_eq.mpr c8
      have c8b1 : (a0.toList != ([115, 114, 108] : List UInt8)) = false := bne_eq_false_iff_eq.mpr c8
      clear c8
      obtain ⟨ji9, hji9⟩ : ∃ j_ : Int, (Int.tmod a2 32) = j_ := ⟨_, rfl⟩
      replace H : (if 0 ≤ (ji9) then (some (shr .u32 a1 (ji9))) else (none)) = some r := by first | (rw [hji9] at H; exact H) | (simp only [hji9] at H ⊢; exact H)
      by_cases c10 : 0 ≤ (ji9)
      · rw [if_pos c10] at H
        have c10b0 := eq_true c10
        have c10b1 : decide (0 ≤ (ji9)) = true := decide_eq_true c10
        clear c10
        obtain ⟨ji11, hji11⟩ : ∃ j_ : Int, (shr .u32 a1 (ji9)) = j_ := ⟨_, rfl⟩
        replace H : (some ji11) = some r := by first | (rw [hji11] at H; exact H) | (simp only [hji11] at H ⊢; exact H)
        have hji11_ : (a1 / 2 ^ min (ji9).toNat 32) = ji11 := hji11
        have hji11z : (ji9) ≤ 32 → (a1 / 2 ^ (ji9).toNat) = ji11 := shr_small hji11
        obtain rfl := Option.some.inj H
        go_enter Try.func38, Try.ntmps38
        go_wp2
        go_ret
        exact ⟨by first | rfl | (simp; done) | (simp only [← hji9, ← hji11] <;> (first | rfl | simp)) | (simp [*]; done), by repeat (first | exact Drawn0.refl _ | apply Drawn0.step)⟩
      · rw [if_neg c10] at H
        exact absurd H (by simp)
    · rw [if_neg c8] at H
      have c8b0 : (a0.toList == ([115, 114, 108] : List UInt8)) = false := beq_eq_false_iff_ne.mpr c8
      have c8b1 : (a0.toList != ([115, 114, 108] : List UInt8)) = true := bne_iff_ne.mpr c8
      obtain ⟨ji12, hji12⟩ : ∃ j_ : Int, (Int.tmod a2 32) = j_ := ⟨_, rfl⟩
      replace H : (if 0 ≤ (ji12) then (some ((shr .i32 (wrap32 (a1)) (ji12)) % 4294967296)) else (none)) = some r := by first | (rw [hji12] at H; exact H) | (simp only [hji12] at H ⊢; exact H)
      by_cases c13 : 0 ≤ (ji12)
      · rw [if_pos c13] at H
        have c13b0 := eq_true c13
        have c13b1 : decide (0 ≤ (ji12)) = true := decide_eq_true c13
        clear c13
        obtain ⟨ji14, hji14⟩ : ∃ j_ : Int, (shr .i32 (wrap32 (a1)) (ji12)) = j_ := ⟨_, rfl⟩
        replace H : (some ((ji14) % 4294967296)) = some r := by first | (rw [hji14] at H; exact H) | (simp only [hji14] at H ⊢; exact H)
        have hji14_ : ((wrap32 (a1)) / 2 ^ min (ji12).toNat 32) = ji14 := hji14
        have hji14z : (ji12) ≤ 32 → ((wrap32 (a1)) / 2 ^ (ji12).toNat) = ji14 := shr_small hji14
        obtain rfl := Option.some.inj H
        go_enter Try.func38, Try.ntmps38
        go_wp2
        go_ret
        exact ⟨by first | rfl | (simp; done) | (simp only [← hji12, ← hji14] <;> (first | rfl | simp)) | (simp [*]; done), by repeat (first | exact Drawn0.refl _ | apply Drawn0.step)⟩
      · rw [if_neg c13] at H
        exact absurd H (by simp)

/-! ### word_so: function 39 -/
def word_so.f (a0 : Bool) : Option (Int) := if a0 = true then (some 1) else (some 0)
set_option maxHeartbeats 8000000 in
set_option maxRecDepth 100000 in
theorem word_so.calls (a0 : Bool) (r : Int) (w : World) (h : word_so.f a0 = some r) :
    Calls Try.prog 39 #[.bool a0] w fun e w' => e = .returned (.int .u32 r) ∧ Drawn0 w w' := by
  have H : (if a0 = true then (some 1) else (some 0)) = some r := h
  clear h
  by_cases c2 : a0 = true
  · subst c2
    have H1 : (some 1) = some r := by rw [if_pos rfl] at H; exact H
    clear H
    have H := H1
    clear H1
    obtain rfl := Option.some.inj H
    go_enter Try.func39, Try.ntmps39
    go_wp2
    go_ret
    exact ⟨by first | rfl | (simp; done) | (simp [*]; done), by repeat (first | exact Drawn0.refl _ | apply Drawn0.step)⟩
  · replace c2 := Bool.eq_false_iff.mpr c2
    subst c2
    have H1 : (some 0) = some r := by rw [if_neg (show ¬ (false = true) by decide)] at H; exact H
    clear H
    have H := H1
    clear H1
    obtain rfl := Option.some.inj H
    go_enter Try.func39, Try.ntmps39
    go_wp2
    go_ret
    exact ⟨by first | rfl | (simp; done) | (simp [*]; done), by repeat (first | exact Drawn0.refl _ | apply Drawn0.step)⟩

/-! ### word_signed: function 40 -/
def word_signed.f (a0 : Int) : Option (Int) := some (wrap64 (wrap32 (a0)))
set_option maxHeartbeats 8000000 in
set_option maxRecDepth 100000 in
theorem word_signed.calls (a0 : Int) (r : Int) (w : World) (h : word_signed.f a0 = some r) :
    Calls Try.prog 40 #[.int .u32 a0] w fun e w' => e = .returned (.int .i64 r) ∧ Drawn0 w w' := by
  have H : (some (wrap64 (wrap32 (a0)))) = some r := h
  clear h
  obtain rfl := Option.some.inj H
  go_enter Try.func40, Try.ntmps40
  go_wp2
  go_ret
  exact ⟨by first | rfl | (simp; done) | (simp [*]; done), by repeat (first | exact Drawn0.refl _ | apply Drawn0.step)⟩

/-! ### word_plain: function 43 -/
def word_plain.f (a0 : Int) : Option (Int) := some (wrap64 (a0))
set_option maxHeartbeats 8000000 in
set_option maxRecDepth 100000 in
theorem word_plain.calls (a0 : Int) (r : Int) (w : World) (h : word_plain.f a0 = some r) :
    Calls Try.prog 43 #[.int .u32 a0] w fun e w' => e = .returned (.int .i64 r) ∧ Drawn0 w w' := by
  have H : (some (wrap64 (a0))) = some r := h
  clear h
  obtain rfl := Option.some.inj H
  go_enter Try.func43, Try.ntmps43
  go_wp2
  go_ret
  exact ⟨by first | rfl | (simp; done) | (simp [*]; done), by repeat (first | exact Drawn0.refl _ | apply Drawn0.step)⟩

/-! ### word_upper: function 49 -/
def word_upper.f (a0 : Int) (a1 : Int) : Option (Int) := some (((wrap64 (a0 * a1)) / 4294967296) % 4294967296)
set_option maxHeartbeats 8000000 in
set_option maxRecDepth 100000 in
theorem word_upper.calls (a0 : Int) (a1 : Int) (r : Int) (w : World) (h : word_upper.f a0 a1 = some r) :
    Calls Try.prog 49 #[.int .i64 a0, .int .i64 a1] w fun e w' => e = .returned (.int .u32 r) ∧ Drawn0 w w' := by
  have H : (some (((wrap64 (a0 * a1)) / 4294967296) % 4294967296)) = some r := h
  clear h
  obtain rfl := Option.some.inj H
  go_enter Try.func49, Try.ntmps49
  go_wp2
  go_ret
  exact ⟨by first | rfl | (simp; done) | (simp [*]; done), by repeat (first | exact Drawn0.refl _ | apply Drawn0.step)⟩

/-! ### word_product: function 41 -/
def word_product.f (a0 : ByteArray) (a1 : Int) (a2 : Int) : Option (Int) := if a0.toList = ([109, 117, 108] : List UInt8) then (some ((a1 * a2) % 4294967296)) else (if a0.toList = ([109, 117, 108, 104] : List UInt8) then ((word_signed.f a1).bind fun t101 => ((word_signed.f a2).bind fun t102 => ((word_upper.f t101 t102).bind fun t103 => (some t103)))) else (if a0.toList = ([109, 117, 108, 104, 115, 117] : List UInt8) then ((word_signed.f a1).bind fun t104 => ((word_plain.f a2).bind fun t105 => ((word_upper.f t104 t105).bind fun t106 => (some t106)))) else (some (((IntKind.u64.wrap ((IntKind.u64.wrap (a1)) * (IntKind.u64.wrap (a2)))) / 4294967296) % 4294967296))))
set_option maxHeartbeats 8000000 in
set_option maxRecDepth 100000 in
theorem word_product.calls (a0 : ByteArray) (a1 : Int) (a2 : Int) (r : Int) (w : World) (h : word_product.f a0 a1 a2 = some r) :
    Calls Try.prog 41 #[.string a0, .int .u32 a1, .int .u32 a2] w fun e w' => e = .returned (.int .u32 r) ∧ Drawn0 w w' := by
  have H : (if a0.toList = ([109, 117, 108] : List UInt8) then (some ((a1 * a2) % 4294967296)) else (if a0.toList = ([109, 117, 108, 104] : List UInt8) then ((word_signed.f a1).bind fun t101 => ((word_signed.f a2).bind fun t102 => ((word_upper.f t101 t102).bind fun t103 => (some t103)))) else (if a0.toList = ([109, 117, 108, 104, 115, 117] : List UInt8) then ((word_signed.f a1).bind fun t104 => ((word_plain.f a2).bind fun t105 => ((word_upper.f t104 t105).bind fun t106 => (some t106)))) else (some (((IntKind.u64.wrap ((IntKind.u64.wrap (a1)) * (IntKind.u64.wrap (a2)))) / 4294967296) % 4294967296))))) = some r := h
  clear h
  by_cases c4 : a0.toList = ([109, 117, 108] : List UInt8)
  · rw [if_pos c4] at H
    have c4b0 : (a0.toList == ([109, 117, 108] : List UInt8)) = true := beq_iff_eq.mpr c4
    have c4b1 : (a0.toList != ([109, 117, 108] : List UInt8)) = false := bne_eq_false_iff_eq.mpr c4
    clear c4
    obtain rfl := Option.some.inj H
    go_enter Try.func41, Try.ntmps41
    go_wp2
    go_ret
    exact ⟨by first | rfl | (simp; done) | (simp [*]; done), by repeat (first | exact Drawn0.refl _ | apply Drawn0.step)⟩
  · rw [if_neg c4] at H
    have c4b0 : (a0.toList == ([109, 117, 108] : List UInt8)) = false := beq_eq_false_iff_ne.mpr c4
    have c4b1 : (a0.toList != ([109, 117, 108] : List UInt8)) = true := bne_iff_ne.mpr c4
    by_cases c5 : a0.toList = ([109, 117, 108, 104] : List UInt8)
    · rw [if_pos c5] at H
      have c5b0 : (a0.toList == ([109, 117, 108, 104] : List UInt8)) = true := beq_iff_eq.mpr c5
      have c5b1 : (a0.toList != ([109, 117, 108, 104] : List UInt8)) = false := bne_eq_false_iff_eq.mpr c5
      clear c5
      replace H := Option.bind_eq_some_iff.mp H
      obtain ⟨t101, A60, H⟩ := H
      replace H : ((word_signed.f a2).bind fun t102 => ((word_upper.f t101 t102).bind fun t103 => (some t103))) = some r := H
      have A6 := Aside0.mk A60
      clear A60
      replace H := Option.bind_eq_some_iff.mp H
      obtain ⟨t102, A70, H⟩ := H
      replace H : ((word_upper.f t101 t102).bind fun t103 => (some t103)) = some r := H
      have A7 := Aside0.mk A70
      clear A70
      replace H := Option.bind_eq_some_iff.mp H
      obtain ⟨t103, A80, H⟩ := H
      replace H : (some t103) = some r := H
      have A8 := Aside0.mk A80
      clear A80
      obtain rfl := Option.some.inj H
      go_enter Try.func41, Try.ntmps41
      go_wp2_with (first | ((with_reducible refine gate_callee (f := 40) rfl ?_); refine goesL_ (some 16) rfl rfl Try.func40 (by kernel_rfl) rfl #[.int .u32 a1] rfl (by (try simp only [List.map_toArray, List.map_cons, List.map_nil]); first | done | rfl | (simp only [List.length_drop, List.length_take]; rfl)) ?_; (with_reducible refine (word_signed.calls a1 t101 _ A6.out).mono ?_); rintro e w' ⟨rfl, ⟨nd, rfl⟩⟩; refine ⟨_, rfl, ?_⟩) | ((with_reducible refine gate_callee (f := 40) rfl ?_); refine goesL_ (some 18) rfl rfl Try.func40 (by kernel_rfl) rfl #[.int .u32 a2] rfl (by (try simp only [List.map_toArray, List.map_cons, List.map_nil]); first | done | rfl | (simp only [List.length_drop, List.length_take]; rfl)) ?_; (with_reducible refine (word_signed.calls a2 t102 _ A7.out).mono ?_); rintro e w' ⟨rfl, ⟨nd, rfl⟩⟩; refine ⟨_, rfl, ?_⟩) | ((with_reducible refine gate_callee (f := 49) rfl ?_); refine goesL_ (some 19) rfl rfl Try.func49 (by kernel_rfl) rfl #[.int .i64 t101, .int .i64 t102] rfl (by (try simp only [List.map_toArray, List.map_cons, List.map_nil]); first | done | rfl | (simp only [List.length_drop, List.length_take]; rfl)) ?_; (with_reducible refine (word_upper.calls t101 t102 t103 _ A8.out).mono ?_); rintro e w' ⟨rfl, ⟨nd, rfl⟩⟩; refine ⟨_, rfl, ?_⟩))
      go_ret
      exact ⟨by first | rfl | (simp; done) | (simp [*]; done), by repeat (first | exact Drawn0.refl _ | apply Drawn0.step)⟩
    · rw [if_neg c5] at H
      have c5b0 : (a0.toList == ([109, 117, 108, 104] : List UInt8)) = false := beq_eq_false_iff_ne.mpr c5
      have c5b1 : (a0.toList != ([109, 117, 108, 104] : List UInt8)) = true := bne_iff_ne.mpr c5
      by_cases c9 : a0.toList = ([109, 117, 108, 104, 115, 117] : List UInt8)
      · rw [if_pos c9] at H
        have c9b0 : (a0.toList == ([109, 117, 108, 104, 115, 117] : List UInt8)) = true := beq_iff_eq.mpr c9
        have c9b1 : (a0.toList != ([109, 117, 108, 104, 115, 117] : List UInt8)) = false := bne_eq_false_iff_eq.mpr c9
        clear c9
        replace H := Option.bind_eq_some_iff.mp H
        obtain ⟨t104, A100, H⟩ := H
        replace H : ((word_plain.f a2).bind fun t105 => ((word_upper.f t104 t105).bind fun t106 => (some t106))) = some r := H
        have A10 := Aside0.mk A100
        clear A100
        replace H := Option.bind_eq_some_iff.mp H
        obtain ⟨t105, A110, H⟩ := H
        replace H : ((word_upper.f t104 t105).bind fun t106 => (some t106)) = some r := H
        have A11 := Aside0.mk A110
        clear A110
        replace H := Option.bind_eq_some_iff.mp H
        obtain ⟨t106, A120, H⟩ := H
        replace H : (some t106) = some r := H
        have A12 := Aside0.mk A120
        clear A120
        obtain rfl := Option.some.inj H
        go_enter Try.func41, Try.ntmps41
        go_wp2_with (first | ((with_reducible refine gate_callee (f := 40) rfl ?_); refine goesL_ (some 23) rfl rfl Try.func40 (by kernel_rfl) rfl #[.int .u32 a1] rfl (by (try simp only [List.map_toArray, List.map_cons, List.map_nil]); first | done | rfl | (simp only [List.length_drop, List.length_take]; rfl)) ?_; (with_reducible refine (word_signed.calls a1 t104 _ A10.out).mono ?_); rintro e w' ⟨rfl, ⟨nd, rfl⟩⟩; refine ⟨_, rfl, ?_⟩) | ((with_reducible refine gate_callee (f := 43) rfl ?_); refine goesL_ (some 25) rfl rfl Try.func43 (by kernel_rfl) rfl #[.int .u32 a2] rfl (by (try simp only [List.map_toArray, List.map_cons, List.map_nil]); first | done | rfl | (simp only [List.length_drop, List.length_take]; rfl)) ?_; (with_reducible refine (word_plain.calls a2 t105 _ A11.out).mono ?_); rintro e w' ⟨rfl, ⟨nd, rfl⟩⟩; refine ⟨_, rfl, ?_⟩) | ((with_reducible refine gate_callee (f := 49) rfl ?_); refine goesL_ (some 26) rfl rfl Try.func49 (by kernel_rfl) rfl #[.int .i64 t104, .int .i64 t105] rfl (by (try simp only [List.map_toArray, List.map_cons, List.map_nil]); first | done | rfl | (simp only [List.length_drop, List.length_take]; rfl)) ?_; (with_reducible refine (word_upper.calls t104 t105 t106 _ A12.out).mono ?_); rintro e w' ⟨rfl, ⟨nd, rfl⟩⟩; refine ⟨_, rfl, ?_⟩))
        go_ret
        exact ⟨by first | rfl | (simp; done) | (simp [*]; done), by repeat (first | exact Drawn0.refl _ | apply Drawn0.step)⟩
      · rw [if_neg c9] at H
        have c9b0 : (a0.toList == ([109, 117, 108, 104, 115, 117] : List UInt8)) = false := beq_eq_false_iff_ne.mpr c9
        have c9b1 : (a0.toList != ([109, 117, 108, 104, 115, 117] : List UInt8)) = true := bne_iff_ne.mpr c9
        obtain rfl := Option.some.inj H
        go_enter Try.func41, Try.ntmps41
        go_wp2
        go_ret
        exact ⟨by first | rfl | (simp; done) | (simp [*]; done), by repeat (first | exact Drawn0.refl _ | apply Drawn0.step)⟩

/-! ### word_quotient: function 42 -/
def word_quotient.f (a0 : Int) (a1 : Int) : Option (Int × Int) := if a1 = 0 then (some (4294967295, (a0) % 4294967296)) else (some ((wrap64 (Int.tdiv a0 a1)) % 4294967296, (Int.tmod a0 a1) % 4294967296))
set_option maxHeartbeats 8000000 in
set_option maxRecDepth 100000 in
theorem word_quotient.calls (a0 : Int) (a1 : Int) (r1 : Int) (r2 : Int) (w : World) (h : word_quotient.f a0 a1 = some (r1, r2)) :
    Calls Try.prog 42 #[.int .i64 a0, .int .i64 a1] w fun e w' => e = .returned (.tuple #[.int .u32 r1, .int .u32 r2]) ∧ Drawn0 w w' := by
  have H : (if a1 = 0 then (some (4294967295, (a0) % 4294967296)) else (some ((wrap64 (Int.tdiv a0 a1)) % 4294967296, (Int.tmod a0 a1) % 4294967296))) = some (r1, r2) := h
  clear h
  by_cases c3 : a1 = 0
  · rw [if_pos c3] at H
    have c3b0 : (a1 == 0) = true := beq_iff_eq.mpr c3
    have c3b1 : (a1 != 0) = false := bne_eq_false_iff_eq.mpr c3
    clear c3
    simp only [Option.some.injEq, Prod.mk.injEq] at H
    obtain ⟨rfl, rfl⟩ := H
    go_enter Try.func42, Try.ntmps42
    go_wp2
    repeat (go_quiet (fail); try go_wp2)
    go_ret2
    exact ⟨by first | rfl | (simp; done) | (simp [*]; done), by repeat (first | exact Drawn0.refl _ | apply Drawn0.step)⟩
  · rw [if_neg c3] at H
    have c3b0 : (a1 == 0) = false := beq_eq_false_iff_ne.mpr c3
    have c3b1 : (a1 != 0) = true := bne_iff_ne.mpr c3
    simp only [Option.some.injEq, Prod.mk.injEq] at H
    obtain ⟨rfl, rfl⟩ := H
    go_enter Try.func42, Try.ntmps42
    go_wp2
    repeat (go_quiet (fail); try go_wp2)
    go_ret2
    exact ⟨by first | rfl | (simp; done) | (simp [*]; done), by repeat (first | exact Drawn0.refl _ | apply Drawn0.step)⟩

/-! ### word_Op: function 28 -/
def word_Op.j0 : Nat → ByteArray → Int → Int → ByteArray → Bool → Option (Int × Int)
  | 0, _, _, _, _, _ => none
  | k + 1, x0, x1, x2, x12, x23 => if x23 = true then ((word_moved.f x0 x1 x2).bind fun t107 => (some (t107, 0))) else (if x12.toList = ([115, 108, 116] : List UInt8) then ((word_signed.f x1).bind fun t108 => ((word_signed.f x2).bind fun t109 => ((word_so.f (decide (t108 < t109))).bind fun t110 => (some (t110, 0))))) else (if x12.toList = ([115, 108, 116, 117] : List UInt8) then ((word_so.f (decide (x1 < x2))).bind fun t111 => (some (t111, 0))) else (if x12.toList = ([120, 111, 114] : List UInt8) then (some (Go.bits .xor .u32 x1 x2, 0)) else (if x12.toList = ([111, 114] : List UInt8) then (some (Go.bits .or .u32 x1 x2, 0)) else (if x12.toList = ([97, 110, 100] : List UInt8) then (some (Go.bits .and .u32 x1 x2, 0)) else (if x12.toList = ([109, 117, 108] : List UInt8) then ((word_product.f x0 x1 x2).bind fun t112 => (some (t112, 0))) else (if x12.toList = ([109, 117, 108, 104] : List UInt8) then ((word_product.f x0 x1 x2).bind fun t113 => (some (t113, 0))) else (if x12.toList = ([109, 117, 108, 104, 115, 117] : List UInt8) then ((word_product.f x0 x1 x2).bind fun t114 => (some (t114, 0))) else (if x12.toList = ([109, 117, 108, 104, 117] : List UInt8) then ((word_product.f x0 x1 x2).bind fun t115 => (some (t115, 0))) else ((word_signed.f x1).bind fun t116 => ((word_signed.f x2).bind fun t117 => ((word_quotient.f t116 t117).bind fun bt118 => ((word_plain.f x1).bind fun t120 => ((word_plain.f x2).bind fun t121 => ((word_quotient.f t120 t121).bind fun bt122 => (if x0.toList = ([100, 105, 118] : List UInt8) then (some (bt118.1, 0)) else (if x0.toList = ([114, 101, 109] : List UInt8) then (some (bt118.2, 0)) else (if x0.toList = ([100, 105, 118, 117] : List UInt8) then (some (bt122.1, 0)) else (if x0.toList = ([114, 101, 109, 117] : List UInt8) then (some (bt122.2, 0)) else (some (0, 1)))))))))))))))))))))
def word_Op.f (k : Nat) (a0 : ByteArray) (a1 : Int) (a2 : Int) : Option (Int × Int) := if a0.toList = ([97, 100, 100] : List UInt8) then (some ((a1 + a2) % 4294967296, 0)) else (if a0.toList = ([115, 117, 98] : List UInt8) then (some ((a1 - a2) % 4294967296, 0)) else (if a0.toList = ([115, 108, 108] : List UInt8) then (word_Op.j0 k a0 a1 a2 a0 (a0.toList == ([115, 108, 108] : List UInt8))) else (if a0.toList = ([115, 114, 108] : List UInt8) then (word_Op.j0 k a0 a1 a2 a0 (a0.toList == ([115, 114, 108] : List UInt8))) else (word_Op.j0 k a0 a1 a2 a0 (a0.toList == ([115, 114, 97] : List UInt8))))))
theorem word_Op.mono_l : ∀ k, (∀ y0 y1 y2 y3 y4, LeO (word_Op.j0 k y0 y1 y2 y3 y4) (word_Op.j0 (k + 1) y0 y1 y2 y3 y4))
  | 0 => fun _ _ _ _ _ r h => by simp [word_Op.j0] at h
  | k + 1 => by
    have ih0 := word_Op.mono_l k
    · intro y0 y1 y2 y3 y4
      unfold word_Op.j0
      repeat' first
      | (with_reducible exact ih0 _ _ _ _ _)
      | (with_reducible exact LeO.refl _)
      | (with_reducible exact LeO.none _)
      | (with_reducible refine LeO.ite ?_ ?_)
      | (with_reducible refine LeO.bind ?_ (fun _ => ?_))
      | exact ih0 _ _ _ _ _
      | exact LeO.none _
      | refine LeO.ite ?_ ?_
      | refine LeO.bind ?_ (fun _ => ?_)
theorem word_Op.mono : ∀ a0 a1 a2 k, LeO (word_Op.f k a0 a1 a2) (word_Op.f (k + 1) a0 a1 a2) := by
  intro a0 a1 a2 k
  have ih0 := word_Op.mono_l k
  unfold word_Op.f
  repeat' first
      | (with_reducible exact ih0 _ _ _ _ _)
      | (with_reducible exact LeO.refl _)
      | (with_reducible exact LeO.none _)
      | (with_reducible refine LeO.ite ?_ ?_)
      | (with_reducible refine LeO.bind ?_ (fun _ => ?_))
      | exact ih0 _ _ _ _ _
      | exact LeO.none _
      | refine LeO.ite ?_ ?_
      | refine LeO.bind ?_ (fun _ => ?_)
set_option maxHeartbeats 8000000 in
set_option maxRecDepth 100000 in
theorem word_Op.calls (k : Nat) (a0 : ByteArray) (a1 : Int) (a2 : Int) (r1 : Int) (r2 : Int) (w : World) (h : word_Op.f k a0 a1 a2 = some (r1, r2)) :
    Calls Try.prog 28 #[.string a0, .int .u32 a1, .int .u32 a2] w fun e w' => e = .returned (.tuple #[.int .u32 r1, .int .i64 r2]) ∧ Drawn0 w w' := by
  have H : (if a0.toList = ([97, 100, 100] : List UInt8) then (some ((a1 + a2) % 4294967296, 0)) else (if a0.toList = ([115, 117, 98] : List UInt8) then (some ((a1 - a2) % 4294967296, 0)) else (if a0.toList = ([115, 108, 108] : List UInt8) then (word_Op.j0 k a0 a1 a2 a0 (a0.toList == ([115, 108, 108] : List UInt8))) else (if a0.toList = ([115, 114, 108] : List UInt8) then (word_Op.j0 k a0 a1 a2 a0 (a0.toList == ([115, 114, 108] : List UInt8))) else (word_Op.j0 k a0 a1 a2 a0 (a0.toList == ([115, 114, 97] : List UInt8))))))) = some (r1, r2) := h
  clear h
  by_cases c4 : a0.toList = ([97, 100, 100] : List UInt8)
  · rw [if_pos c4] at H
    have c4b0 : (a0.toList == ([97, 100, 100] : List UInt8)) = true := beq_iff_eq.mpr c4
    have c4b1 : (a0.toList != ([97, 100, 100] : List UInt8)) = false := bne_eq_false_iff_eq.mpr c4
    clear c4
    simp only [Option.some.injEq, Prod.mk.injEq] at H
    obtain ⟨rfl, rfl⟩ := H
    go_enter Try.func28, Try.ntmps28
    go_wp2
    go_ret2
    exact ⟨by first | rfl | (simp; done) | (simp [*]; done), by repeat (first | exact Drawn0.refl _ | apply Drawn0.step)⟩
  · rw [if_neg c4] at H
    have c4b0 : (a0.toList == ([97, 100, 100] : List UInt8)) = false := beq_eq_false_iff_ne.mpr c4
    have c4b1 : (a0.toList != ([97, 100, 100] : List UInt8)) = true := bne_iff_ne.mpr c4
    by_cases c5 : a0.toList = ([115, 117, 98] : List UInt8)
    · rw [if_pos c5] at H
      have c5b0 : (a0.toList == ([115, 117, 98] : List UInt8)) = true := beq_iff_eq.mpr c5
      have c5b1 : (a0.toList != ([115, 117, 98] : List UInt8)) = false := bne_eq_false_iff_eq.mpr c5
      clear c5
      simp only [Option.some.injEq, Prod.mk.injEq] at H
      obtain ⟨rfl, rfl⟩ := H
      go_enter Try.func28, Try.ntmps28
      go_wp2
      go_ret2
      exact ⟨by first | rfl | (simp; done) | (simp [*]; done), by repeat (first | exact Drawn0.refl _ | apply Drawn0.step)⟩
    · rw [if_neg c5] at H
      have c5b0 : (a0.toList == ([115, 117, 98] : List UInt8)) = false := beq_eq_false_iff_ne.mpr c5
      have c5b1 : (a0.toList != ([115, 117, 98] : List UInt8)) = true := bne_iff_ne.mpr c5
      have HC6 := Aside0.mk H
      clear H
      go_enter Try.func28, Try.ntmps28
      go_upto_if 23 with (fail)
      go_cut [23] (fun v23 wc => ∃ (kq : Nat) (x23_5 : Bool), v23 = .bool x23_5 ∧ Aside0 (word_Op.j0 kq a0 a1 a2 a0 x23_5 = some (r1, r2)) ∧ Aside0 (kq ≤ k) ∧ Drawn0 w wc)
      case first =>
        have H := HC6.out
        clear HC6
        by_cases c7 : a0.toList = ([115, 108, 108] : List UInt8)
        · rw [if_pos c7] at H
          have c7b0 : (a0.toList == ([115, 108, 108] : List UInt8)) = true := beq_iff_eq.mpr c7
          have c7b1 : (a0.toList != ([115, 108, 108] : List UInt8)) = false := bne_eq_false_iff_eq.mpr c7
          clear c7
          (first | rw [c7b0] | (simp only [i64_w, i32_w]; rw [c7b0]) | skip)
          have H' := Aside0.mk H
          clear H
          go_wp2
          go_meet
          case rel => exact ⟨_, ((a0.toList == ([115, 108, 108] : List UInt8))), (by first | rfl | (simp; done) | (simp [*]; done)), H', ⟨by first | omega | exact Nat.le_refl _⟩, by repeat (first | exact Drawn0.refl _ | apply Drawn0.step)⟩
        · rw [if_neg c7] at H
          have c7b0 : (a0.toList == ([115, 108, 108] : List UInt8)) = false := beq_eq_false_iff_ne.mpr c7
          have c7b1 : (a0.toList != ([115, 108, 108] : List UInt8)) = true := bne_iff_ne.mpr c7
          (first | rw [c7b0] | (simp only [i64_w, i32_w]; rw [c7b0]) | skip)
          by_cases c8 : a0.toList = ([115, 114, 108] : List UInt8)
          · rw [if_pos c8] at H
            have c8b0 : (a0.toList == ([115, 114, 108] : List UInt8)) = true := beq_iff_eq.mpr c8
            have c8b1 : (a0.toList != ([115, 114, 108] : List UInt8)) = false := bne_eq_false_iff_eq.mpr c8
            clear c8
            have H' := Aside0.mk H
            clear H
            go_wp2
            go_meet
            case rel => exact ⟨_, ((a0.toList == ([115, 114, 108] : List UInt8))), (by first | rfl | (simp; done) | (simp [*]; done)), H', ⟨by first | omega | exact Nat.le_refl _⟩, by repeat (first | exact Drawn0.refl _ | apply Drawn0.step)⟩
          · rw [if_neg c8] at H
            have c8b0 : (a0.toList == ([115, 114, 108] : List UInt8)) = false := beq_eq_false_iff_ne.mpr c8
            have c8b1 : (a0.toList != ([115, 114, 108] : List UInt8)) = true := bne_iff_ne.mpr c8
            have H' := Aside0.mk H
            clear H
            go_wp2
            go_meet
            case rel => exact ⟨_, ((a0.toList == ([115, 114, 97] : List UInt8))), (by first | rfl | (simp; done) | (simp [*]; done)), H', ⟨by first | omega | exact Nat.le_refl _⟩, by repeat (first | exact Drawn0.refl _ | apply Drawn0.step)⟩
      case rest =>
        clear HC6
        try clear c2
        try clear p2
        try clear c4
        try clear c4b0
        try clear c4b1
        try clear c5
        try clear c5b0
        try clear c5b1
        try clear c7
        try clear c7b0
        try clear c7b1
        try clear c8
        try clear c8b0
        try clear c8b1
        obtain ⟨kq, x23_5, rfl, HA, HJ5, ⟨mc5, rfl⟩⟩ := hcut
        cases kq with
        | zero => exact absurd HA.out (by simp [word_Op.j0])
        | succ kj5 =>
          have H := HA.out
          clear HA
          simp only [word_Op.j0] at H
          by_cases c9 : x23_5 = true
          · subst c9
            have H1 : ((word_moved.f a0 a1 a2).bind fun t107 => (some (t107, 0))) = some (r1, r2) := by rw [if_pos rfl] at H; exact H
            clear H
            have H := H1
            clear H1
            replace H := Option.bind_eq_some_iff.mp H
            obtain ⟨t107, A100, H⟩ := H
            replace H : (some (t107, 0)) = some (r1, r2) := H
            have A10 := Aside0.mk A100
            clear A100
            simp only [Option.some.injEq, Prod.mk.injEq] at H
            obtain ⟨rfl, rfl⟩ := H
            go_wp2_with (first | ((with_reducible refine gate_callee (f := 38) rfl ?_); refine goesL_ (some 30) rfl rfl Try.func38 (by kernel_rfl) rfl #[.string a0, .int .u32 a1, .int .u32 a2] rfl (by (try simp only [List.map_toArray, List.map_cons, List.map_nil]); first | done | rfl | (simp only [List.length_drop, List.length_take]; rfl)) ?_; (with_reducible refine (word_moved.calls a0 a1 a2 t107 _ A10.out).mono ?_); rintro e w' ⟨rfl, ⟨nd, rfl⟩⟩; refine ⟨_, rfl, ?_⟩))
            go_ret2
            exact ⟨by first | rfl | (simp; done) | (simp [*]; done), by repeat (first | exact Drawn0.refl _ | apply Drawn0.step)⟩
          · replace c9 := Bool.eq_false_iff.mpr c9
            subst c9
            have H1 : (if a0.toList = ([115, 108, 116] : List UInt8) then ((word_signed.f a1).bind fun t108 => ((word_signed.f a2).bind fun t109 => ((word_so.f (decide (t108 < t109))).bind fun t110 => (some (t110, 0))))) else (if a0.toList = ([115, 108, 116, 117] : List UInt8) then ((word_so.f (decide (a1 < a2))).bind fun t111 => (some (t111, 0))) else (if a0.toList = ([120, 111, 114] : List UInt8) then (some (Go.bits .xor .u32 a1 a2, 0)) else (if a0.toList = ([111, 114] : List UInt8) then (some (Go.bits .or .u32 a1 a2, 0)) else (if a0.toList = ([97, 110, 100] : List UInt8) then (some (Go.bits .and .u32 a1 a2, 0)) else (if a0.toList = ([109, 117, 108] : List UInt8) then ((word_product.f a0 a1 a2).bind fun t112 => (some (t112, 0))) else (if a0.toList = ([109, 117, 108, 104] : List UInt8) then ((word_product.f a0 a1 a2).bind fun t113 => (some (t113, 0))) else (if a0.toList = ([109, 117, 108, 104, 115, 117] : List UInt8) then ((word_product.f a0 a1 a2).bind fun t114 => (some (t114, 0))) else (if a0.toList = ([109, 117, 108, 104, 117] : List UInt8) then ((word_product.f a0 a1 a2).bind fun t115 => (some (t115, 0))) else ((word_signed.f a1).bind fun t116 => ((word_signed.f a2).bind fun t117 => ((word_quotient.f t116 t117).bind fun bt118 => ((word_plain.f a1).bind fun t120 => ((word_plain.f a2).bind fun t121 => ((word_quotient.f t120 t121).bind fun bt122 => (if a0.toList = ([100, 105, 118] : List UInt8) then (some (bt118.1, 0)) else (if a0.toList = ([114, 101, 109] : List UInt8) then (some (bt118.2, 0)) else (if a0.toList = ([100, 105, 118, 117] : List UInt8) then (some (bt122.1, 0)) else (if a0.toList = ([114, 101, 109, 117] : List UInt8) then (some (bt122.2, 0)) else (some (0, 1))))))))))))))))))))) = some (r1, r2) := by rw [if_neg (show ¬ (false = true) by decide)] at H; exact H
            clear H
            have H := H1
            clear H1
            by_cases c11 : a0.toList = ([115, 108, 116] : List UInt8)
            · rw [if_pos c11] at H
              have c11b0 : (a0.toList == ([115, 108, 116] : List UInt8)) = true := beq_iff_eq.mpr c11
              have c11b1 : (a0.toList != ([115, 108, 116] : List UInt8)) = false := bne_eq_false_iff_eq.mpr c11
              clear c11
              replace H := Option.bind_eq_some_iff.mp H
              obtain ⟨t108, A120, H⟩ := H
              replace H : ((word_signed.f a2).bind fun t109 => ((word_so.f (decide (t108 < t109))).bind fun t110 => (some (t110, 0)))) = some (r1, r2) := H
              have A12 := Aside0.mk A120
              clear A120
              replace H := Option.bind_eq_some_iff.mp H
              obtain ⟨t109, A130, H⟩ := H
              replace H : ((word_so.f (decide (t108 < t109))).bind fun t110 => (some (t110, 0))) = some (r1, r2) := H
              have A13 := Aside0.mk A130
              clear A130
              replace H := Option.bind_eq_some_iff.mp H
              obtain ⟨t110, A140, H⟩ := H
              replace H : (some (t110, 0)) = some (r1, r2) := H
              have A14 := Aside0.mk A140
              clear A140
              simp only [Option.some.injEq, Prod.mk.injEq] at H
              obtain ⟨rfl, rfl⟩ := H
              go_wp2_with (first | ((with_reducible refine gate_callee (f := 40) rfl ?_); refine goesL_ (some 34) rfl rfl Try.func40 (by kernel_rfl) rfl #[.int .u32 a1] rfl (by (try simp only [List.map_toArray, List.map_cons, List.map_nil]); first | done | rfl | (simp only [List.length_drop, List.length_take]; rfl)) ?_; (with_reducible refine (word_signed.calls a1 t108 _ A12.out).mono ?_); rintro e w' ⟨rfl, ⟨nd, rfl⟩⟩; refine ⟨_, rfl, ?_⟩) | ((with_reducible refine gate_callee (f := 40) rfl ?_); refine goesL_ (some 36) rfl rfl Try.func40 (by kernel_rfl) rfl #[.int .u32 a2] rfl (by (try simp only [List.map_toArray, List.map_cons, List.map_nil]); first | done | rfl | (simp only [List.length_drop, List.length_take]; rfl)) ?_; (with_reducible refine (word_signed.calls a2 t109 _ A13.out).mono ?_); rintro e w' ⟨rfl, ⟨nd, rfl⟩⟩; refine ⟨_, rfl, ?_⟩) | ((with_reducible refine gate_callee (f := 39) rfl ?_); refine goesL_ (some 38) rfl rfl Try.func39 (by kernel_rfl) rfl #[.bool (decide (t108 < t109))] rfl (by (try simp only [List.map_toArray, List.map_cons, List.map_nil]); first | done | rfl | (simp only [List.length_drop, List.length_take]; rfl)) ?_; (with_reducible refine (word_so.calls (decide (t108 < t109)) t110 _ A14.out).mono ?_); rintro e w' ⟨rfl, ⟨nd, rfl⟩⟩; refine ⟨_, rfl, ?_⟩))
              go_ret2
              exact ⟨by first | rfl | (simp; done) | (simp [*]; done), by repeat (first | exact Drawn0.refl _ | apply Drawn0.step)⟩
            · rw [if_neg c11] at H
              have c11b0 : (a0.toList == ([115, 108, 116] : List UInt8)) = false := beq_eq_false_iff_ne.mpr c11
              have c11b1 : (a0.toList != ([115, 108, 116] : List UInt8)) = true := bne_iff_ne.mpr c11
              by_cases c15 : a0.toList = ([115, 108, 116, 117] : List UInt8)
              · rw [if_pos c15] at H
                have c15b0 : (a0.toList == ([115, 108, 116, 117] : List UInt8)) = true := beq_iff_eq.mpr c15
                have c15b1 : (a0.toList != ([115, 108, 116, 117] : List UInt8)) = false := bne_eq_false_iff_eq.mpr c15
                clear c15
                replace H := Option.bind_eq_some_iff.mp H
                obtain ⟨t111, A160, H⟩ := H
                replace H : (some (t111, 0)) = some (r1, r2) := H
                have A16 := Aside0.mk A160
                clear A160
                simp only [Option.some.injEq, Prod.mk.injEq] at H
                obtain ⟨rfl, rfl⟩ := H
                go_wp2_with (first | ((with_reducible refine gate_callee (f := 39) rfl ?_); refine goesL_ (some 44) rfl rfl Try.func39 (by kernel_rfl) rfl #[.bool (decide (a1 < a2))] rfl (by (try simp only [List.map_toArray, List.map_cons, List.map_nil]); first | done | rfl | (simp only [List.length_drop, List.length_take]; rfl)) ?_; (with_reducible refine (word_so.calls (decide (a1 < a2)) t111 _ A16.out).mono ?_); rintro e w' ⟨rfl, ⟨nd, rfl⟩⟩; refine ⟨_, rfl, ?_⟩))
                go_ret2
                exact ⟨by first | rfl | (simp; done) | (simp [*]; done), by repeat (first | exact Drawn0.refl _ | apply Drawn0.step)⟩
              · rw [if_neg c15] at H
                have c15b0 : (a0.toList == ([115, 108, 116, 117] : List UInt8)) = false := beq_eq_false_iff_ne.mpr c15
                have c15b1 : (a0.toList != ([115, 108, 116, 117] : List UInt8)) = true := bne_iff_ne.mpr c15
                by_cases c17 : a0.toList = ([120, 111, 114] : List UInt8)
                · rw [if_pos c17] at H
                  have c17b0 : (a0.toList == ([120, 111, 114] : List UInt8)) = true := beq_iff_eq.mpr c17
                  have c17b1 : (a0.toList != ([120, 111, 114] : List UInt8)) = false := bne_eq_false_iff_eq.mpr c17
                  clear c17
                  simp only [Option.some.injEq, Prod.mk.injEq] at H
                  obtain ⟨rfl, rfl⟩ := H
                  go_wp2
                  go_ret2
                  exact ⟨by first | rfl | (simp; done) | (simp [*]; done), by repeat (first | exact Drawn0.refl _ | apply Drawn0.step)⟩
                · rw [if_neg c17] at H
                  have c17b0 : (a0.toList == ([120, 111, 114] : List UInt8)) = false := beq_eq_false_iff_ne.mpr c17
                  have c17b1 : (a0.toList != ([120, 111, 114] : List UInt8)) = true := bne_iff_ne.mpr c17
                  by_cases c18 : a0.toList = ([111, 114] : List UInt8)
                  · rw [if_pos c18] at H
                    have c18b0 : (a0.toList == ([111, 114] : List UInt8)) = true := beq_iff_eq.mpr c18
                    have c18b1 : (a0.toList != ([111, 114] : List UInt8)) = false := bne_eq_false_iff_eq.mpr c18
                    clear c18
                    simp only [Option.some.injEq, Prod.mk.injEq] at H
                    obtain ⟨rfl, rfl⟩ := H
                    go_wp2
                    go_ret2
                    exact ⟨by first | rfl | (simp; done) | (simp [*]; done), by repeat (first | exact Drawn0.refl _ | apply Drawn0.step)⟩
                  · rw [if_neg c18] at H
                    have c18b0 : (a0.toList == ([111, 114] : List UInt8)) = false := beq_eq_false_iff_ne.mpr c18
                    have c18b1 : (a0.toList != ([111, 114] : List UInt8)) = true := bne_iff_ne.mpr c18
                    by_cases c19 : a0.toList = ([97, 110, 100] : List UInt8)
                    · rw [if_pos c19] at H
                      have c19b0 : (a0.toList == ([97, 110, 100] : List UInt8)) = true := beq_iff_eq.mpr c19
                      have c19b1 : (a0.toList != ([97, 110, 100] : List UInt8)) = false := bne_eq_false_iff_eq.mpr c19
                      clear c19
                      simp only [Option.some.injEq, Prod.mk.injEq] at H
                      obtain ⟨rfl, rfl⟩ := H
                      go_wp2
                      go_ret2
                      exact ⟨by first | rfl | (simp; done) | (simp [*]; done), by repeat (first | exact Drawn0.refl _ | apply Drawn0.step)⟩
                    · rw [if_neg c19] at H
                      have c19b0 : (a0.toList == ([97, 110, 100] : List UInt8)) = false := beq_eq_false_iff_ne.mpr c19
                      have c19b1 : (a0.toList != ([97, 110, 100] : List UInt8)) = true := bne_iff_ne.mpr c19
                      by_cases c20 : a0.toList = ([109, 117, 108] : List UInt8)
                      · rw [if_pos c20] at H
                        have c20b0 : (a0.toList == ([109, 117, 108] : List UInt8)) = true := beq_iff_eq.mpr c20
                        have c20b1 : (a0.toList != ([109, 117, 108] : List UInt8)) = false := bne_eq_false_iff_eq.mpr c20
                        clear c20
                        replace H := Option.bind_eq_some_iff.mp H
                        obtain ⟨t112, A210, H⟩ := H
                        replace H : (some (t112, 0)) = some (r1, r2) := H
                        have A21 := Aside0.mk A210
                        clear A210
                        simp only [Option.some.injEq, Prod.mk.injEq] at H
                        obtain ⟨rfl, rfl⟩ := H
                        go_wp2_with (first | ((with_reducible refine gate_callee (f := 41) rfl ?_); refine goesL_ (some 68) rfl rfl Try.func41 (by kernel_rfl) rfl #[.string a0, .int .u32 a1, .int .u32 a2] rfl (by (try simp only [List.map_toArray, List.map_cons, List.map_nil]); first | done | rfl | (simp only [List.length_drop, List.length_take]; rfl)) ?_; (with_reducible refine (word_product.calls a0 a1 a2 t112 _ A21.out).mono ?_); rintro e w' ⟨rfl, ⟨nd, rfl⟩⟩; refine ⟨_, rfl, ?_⟩))
                        go_ret2
                        exact ⟨by first | rfl | (simp; done) | (simp [*]; done), by repeat (first | exact Drawn0.refl _ | apply Drawn0.step)⟩
                      · rw [if_neg c20] at H
                        have c20b0 : (a0.toList == ([109, 117, 108] : List UInt8)) = false := beq_eq_false_iff_ne.mpr c20
                        have c20b1 : (a0.toList != ([109, 117, 108] : List UInt8)) = true := bne_iff_ne.mpr c20
                        by_cases c22 : a0.toList = ([109, 117, 108, 104] : List UInt8)
                        · rw [if_pos c22] at H
                          have c22b0 : (a0.toList == ([109, 117, 108, 104] : List UInt8)) = true := beq_iff_eq.mpr c22
                          have c22b1 : (a0.toList != ([109, 117, 108, 104] : List UInt8)) = false := bne_eq_false_iff_eq.mpr c22
                          clear c22
                          replace H := Option.bind_eq_some_iff.mp H
                          obtain ⟨t113, A230, H⟩ := H
                          replace H : (some (t113, 0)) = some (r1, r2) := H
                          have A23 := Aside0.mk A230
                          clear A230
                          simp only [Option.some.injEq, Prod.mk.injEq] at H
                          obtain ⟨rfl, rfl⟩ := H
                          go_wp2_with (first | ((with_reducible refine gate_callee (f := 41) rfl ?_); refine goesL_ (some 68) rfl rfl Try.func41 (by kernel_rfl) rfl #[.string a0, .int .u32 a1, .int .u32 a2] rfl (by (try simp only [List.map_toArray, List.map_cons, List.map_nil]); first | done | rfl | (simp only [List.length_drop, List.length_take]; rfl)) ?_; (with_reducible refine (word_product.calls a0 a1 a2 t113 _ A23.out).mono ?_); rintro e w' ⟨rfl, ⟨nd, rfl⟩⟩; refine ⟨_, rfl, ?_⟩))
                          go_ret2
                          exact ⟨by first | rfl | (simp; done) | (simp [*]; done), by repeat (first | exact Drawn0.refl _ | apply Drawn0.step)⟩
                        · rw [if_neg c22] at H
                          have c22b0 : (a0.toList == ([109, 117, 108, 104] : List UInt8)) = false := beq_eq_false_iff_ne.mpr c22
                          have c22b1 : (a0.toList != ([109, 117, 108, 104] : List UInt8)) = true := bne_iff_ne.mpr c22
                          by_cases c24 : a0.toList = ([109, 117, 108, 104, 115, 117] : List UInt8)
                          · rw [if_pos c24] at H
                            have c24b0 : (a0.toList == ([109, 117, 108, 104, 115, 117] : List UInt8)) = true := beq_iff_eq.mpr c24
                            have c24b1 : (a0.toList != ([109, 117, 108, 104, 115, 117] : List UInt8)) = false := bne_eq_false_iff_eq.mpr c24
                            clear c24
                            replace H := Option.bind_eq_some_iff.mp H
                            obtain ⟨t114, A250, H⟩ := H
                            replace H : (some (t114, 0)) = some (r1, r2) := H
                            have A25 := Aside0.mk A250
                            clear A250
                            simp only [Option.some.injEq, Prod.mk.injEq] at H
                            obtain ⟨rfl, rfl⟩ := H
                            go_wp2_with (first | ((with_reducible refine gate_callee (f := 41) rfl ?_); refine goesL_ (some 68) rfl rfl Try.func41 (by kernel_rfl) rfl #[.string a0, .int .u32 a1, .int .u32 a2] rfl (by (try simp only [List.map_toArray, List.map_cons, List.map_nil]); first | done | rfl | (simp only [List.length_drop, List.length_take]; rfl)) ?_; (with_reducible refine (word_product.calls a0 a1 a2 t114 _ A25.out).mono ?_); rintro e w' ⟨rfl, ⟨nd, rfl⟩⟩; refine ⟨_, rfl, ?_⟩))
                            go_ret2
                            exact ⟨by first | rfl | (simp; done) | (simp [*]; done), by repeat (first | exact Drawn0.refl _ | apply Drawn0.step)⟩
                          · rw [if_neg c24] at H
                            have c24b0 : (a0.toList == ([109, 117, 108, 104, 115, 117] : List UInt8)) = false := beq_eq_false_iff_ne.mpr c24
                            have c24b1 : (a0.toList != ([109, 117, 108, 104, 115, 117] : List UInt8)) = true := bne_iff_ne.mpr c24
                            by_cases c26 : a0.toList = ([109, 117, 108, 104, 117] : List UInt8)
                            · rw [if_pos c26] at H
                              have c26b0 : (a0.toList == ([109, 117, 108, 104, 117] : List UInt8)) = true := beq_iff_eq.mpr c26
                              have c26b1 : (a0.toList != ([109, 117, 108, 104, 117] : List UInt8)) = false := bne_eq_false_iff_eq.mpr c26
                              clear c26
                              replace H := Option.bind_eq_some_iff.mp H
                              obtain ⟨t115, A270, H⟩ := H
                              replace H : (some (t115, 0)) = some (r1, r2) := H
                              have A27 := Aside0.mk A270
                              clear A270
                              simp only [Option.some.injEq, Prod.mk.injEq] at H
                              obtain ⟨rfl, rfl⟩ := H
                              go_wp2_with (first | ((with_reducible refine gate_callee (f := 41) rfl ?_); refine goesL_ (some 68) rfl rfl Try.func41 (by kernel_rfl) rfl #[.string a0, .int .u32 a1, .int .u32 a2] rfl (by (try simp only [List.map_toArray, List.map_cons, List.map_nil]); first | done | rfl | (simp only [List.length_drop, List.length_take]; rfl)) ?_; (with_reducible refine (word_product.calls a0 a1 a2 t115 _ A27.out).mono ?_); rintro e w' ⟨rfl, ⟨nd, rfl⟩⟩; refine ⟨_, rfl, ?_⟩))
                              go_ret2
                              exact ⟨by first | rfl | (simp; done) | (simp [*]; done), by repeat (first | exact Drawn0.refl _ | apply Drawn0.step)⟩
                            · rw [if_neg c26] at H
                              have c26b0 : (a0.toList == ([109, 117, 108, 104, 117] : List UInt8)) = false := beq_eq_false_iff_ne.mpr c26
                              have c26b1 : (a0.toList != ([109, 117, 108, 104, 117] : List UInt8)) = true := bne_iff_ne.mpr c26
                              replace H := Option.bind_eq_some_iff.mp H
                              obtain ⟨t116, A280, H⟩ := H
                              replace H : ((word_signed.f a2).bind fun t117 => ((word_quotient.f t116 t117).bind fun bt118 => ((word_plain.f a1).bind fun t120 => ((word_plain.f a2).bind fun t121 => ((word_quotient.f t120 t121).bind fun bt122 => (if a0.toList = ([100, 105, 118] : List UInt8) then (some (bt118.1, 0)) else (if a0.toList = ([114, 101, 109] : List UInt8) then (some (bt118.2, 0)) else (if a0.toList = ([100, 105, 118, 117] : List UInt8) then (some (bt122.1, 0)) else (if a0.toList = ([114, 101, 109, 117] : List UInt8) then (some (bt122.2, 0)) else (some (0, 1))))))))))) = some (r1, r2) := H
                              have A28 := Aside0.mk A280
                              clear A280
                              replace H := Option.bind_eq_some_iff.mp H
                              obtain ⟨t117, A290, H⟩ := H
                              replace H : ((word_quotient.f t116 t117).bind fun bt118 => ((word_plain.f a1).bind fun t120 => ((word_plain.f a2).bind fun t121 => ((word_quotient.f t120 t121).bind fun bt122 => (if a0.toList = ([100, 105, 118] : List UInt8) then (some (bt118.1, 0)) else (if a0.toList = ([114, 101, 109] : List UInt8) then (some (bt118.2, 0)) else (if a0.toList = ([100, 105, 118, 117] : List UInt8) then (some (bt122.1, 0)) else (if a0.toList = ([114, 101, 109, 117] : List UInt8) then (some (bt122.2, 0)) else (some (0, 1)))))))))) = some (r1, r2) := H
                              have A29 := Aside0.mk A290
                              clear A290
                              replace H := Option.bind_eq_some_iff.mp H
                              obtain ⟨⟨t118, t119⟩, A300, H⟩ := H
                              replace H : ((word_plain.f a1).bind fun t120 => ((word_plain.f a2).bind fun t121 => ((word_quotient.f t120 t121).bind fun bt122 => (if a0.toList = ([100, 105, 118] : List UInt8) then (some (t118, 0)) else (if a0.toList = ([114, 101, 109] : List UInt8) then (some (t119, 0)) else (if a0.toList = ([100, 105, 118, 117] : List UInt8) then (some (bt122.1, 0)) else (if a0.toList = ([114, 101, 109, 117] : List UInt8) then (some (bt122.2, 0)) else (some (0, 1))))))))) = some (r1, r2) := H
                              have A30 := Aside0.mk A300
                              clear A300
                              replace H := Option.bind_eq_some_iff.mp H
                              obtain ⟨t120, A310, H⟩ := H
                              replace H : ((word_plain.f a2).bind fun t121 => ((word_quotient.f t120 t121).bind fun bt122 => (if a0.toList = ([100, 105, 118] : List UInt8) then (some (t118, 0)) else (if a0.toList = ([114, 101, 109] : List UInt8) then (some (t119, 0)) else (if a0.toList = ([100, 105, 118, 117] : List UInt8) then (some (bt122.1, 0)) else (if a0.toList = ([114, 101, 109, 117] : List UInt8) then (some (bt122.2, 0)) else (some (0, 1)))))))) = some (r1, r2) := H
                              have A31 := Aside0.mk A310
                              clear A310
                              replace H := Option.bind_eq_some_iff.mp H
                              obtain ⟨t121, A320, H⟩ := H
                              replace H : ((word_quotient.f t120 t121).bind fun bt122 => (if a0.toList = ([100, 105, 118] : List UInt8) then (some (t118, 0)) else (if a0.toList = ([114, 101, 109] : List UInt8) then (some (t119, 0)) else (if a0.toList = ([100, 105, 118, 117] : List UInt8) then (some (bt122.1, 0)) else (if a0.toList = ([114, 101, 109, 117] : List UInt8) then (some (bt122.2, 0)) else (some (0, 1))))))) = some (r1, r2) := H
                              have A32 := Aside0.mk A320
                              clear A320
                              replace H := Option.bind_eq_some_iff.mp H
                              obtain ⟨⟨t122, t123⟩, A330, H⟩ := H
                              replace H : (if a0.toList = ([100, 105, 118] : List UInt8) then (some (t118, 0)) else (if a0.toList = ([114, 101, 109] : List UInt8) then (some (t119, 0)) else (if a0.toList = ([100, 105, 118, 117] : List UInt8) then (some (t122, 0)) else (if a0.toList = ([114, 101, 109, 117] : List UInt8) then (some (t123, 0)) else (some (0, 1)))))) = some (r1, r2) := H
                              have A33 := Aside0.mk A330
                              clear A330
                              by_cases c34 : a0.toList = ([100, 105, 118] : List UInt8)
                              · rw [if_pos c34] at H
                                have c34b0 : (a0.toList == ([100, 105, 118] : List UInt8)) = true := beq_iff_eq.mpr c34
                                have c34b1 : (a0.toList != ([100, 105, 118] : List UInt8)) = false := bne_eq_false_iff_eq.mpr c34
                                clear c34
                                simp only [Option.some.injEq, Prod.mk.injEq] at H
                                obtain ⟨rfl, rfl⟩ := H
                                go_wp2_with (first | ((with_reducible refine gate_callee (f := 40) rfl ?_); refine goesL_ (some 71) rfl rfl Try.func40 (by kernel_rfl) rfl #[.int .u32 a1] rfl (by (try simp only [List.map_toArray, List.map_cons, List.map_nil]); first | done | rfl | (simp only [List.length_drop, List.length_take]; rfl)) ?_; (with_reducible refine (word_signed.calls a1 t116 _ A28.out).mono ?_); rintro e w' ⟨rfl, ⟨nd, rfl⟩⟩; refine ⟨_, rfl, ?_⟩) | ((with_reducible refine gate_callee (f := 40) rfl ?_); refine goesL_ (some 73) rfl rfl Try.func40 (by kernel_rfl) rfl #[.int .u32 a2] rfl (by (try simp only [List.map_toArray, List.map_cons, List.map_nil]); first | done | rfl | (simp only [List.length_drop, List.length_take]; rfl)) ?_; (with_reducible refine (word_signed.calls a2 t117 _ A29.out).mono ?_); rintro e w' ⟨rfl, ⟨nd, rfl⟩⟩; refine ⟨_, rfl, ?_⟩) | ((with_reducible refine gate_callee (f := 42) rfl ?_); refine goesL_ (some 74) rfl rfl Try.func42 (by kernel_rfl) rfl #[.int .i64 t116, .int .i64 t117] rfl (by (try simp only [List.map_toArray, List.map_cons, List.map_nil]); first | done | rfl | (simp only [List.length_drop, List.length_take]; rfl)) ?_; (with_reducible refine (word_quotient.calls t116 t117 t118 t119 _ A30.out).mono ?_); rintro e w' ⟨rfl, ⟨nd, rfl⟩⟩; refine ⟨_, rfl, ?_⟩) | ((with_reducible refine gate_callee (f := 43) rfl ?_); refine goesL_ (some 79) rfl rfl Try.func43 (by kernel_rfl) rfl #[.int .u32 a1] rfl (by (try simp only [List.map_toArray, List.map_cons, List.map_nil]); first | done | rfl | (simp only [List.length_drop, List.length_take]; rfl)) ?_; (with_reducible refine (word_plain.calls a1 t120 _ A31.out).mono ?_); rintro e w' ⟨rfl, ⟨nd, rfl⟩⟩; refine ⟨_, rfl, ?_⟩) | ((with_reducible refine gate_callee (f := 43) rfl ?_); refine goesL_ (some 81) rfl rfl Try.func43 (by kernel_rfl) rfl #[.int .u32 a2] rfl (by (try simp only [List.map_toArray, List.map_cons, List.map_nil]); first | done | rfl | (simp only [List.length_drop, List.length_take]; rfl)) ?_; (with_reducible refine (word_plain.calls a2 t121 _ A32.out).mono ?_); rintro e w' ⟨rfl, ⟨nd, rfl⟩⟩; refine ⟨_, rfl, ?_⟩) | ((with_reducible refine gate_callee (f := 42) rfl ?_); refine goesL_ (some 82) rfl rfl Try.func42 (by kernel_rfl) rfl #[.int .i64 t120, .int .i64 t121] rfl (by (try simp only [List.map_toArray, List.map_cons, List.map_nil]); first | done | rfl | (simp only [List.length_drop, List.length_take]; rfl)) ?_; (with_reducible refine (word_quotient.calls t120 t121 t122 t123 _ A33.out).mono ?_); rintro e w' ⟨rfl, ⟨nd, rfl⟩⟩; refine ⟨_, rfl, ?_⟩))
                                go_ret2
                                exact ⟨by first | rfl | (simp; done) | (simp [*]; done), by repeat (first | exact Drawn0.refl _ | apply Drawn0.step)⟩
                              · rw [if_neg c34] at H
                                have c34b0 : (a0.toList == ([100, 105, 118] : List UInt8)) = false := beq_eq_false_iff_ne.mpr c34
                                have c34b1 : (a0.toList != ([100, 105, 118] : List UInt8)) = true := bne_iff_ne.mpr c34
                                by_cases c35 : a0.toList = ([114, 101, 109] : List UInt8)
                                · rw [if_pos c35] at H
                                  have c35b0 : (a0.toList == ([114, 101, 109] : List UInt8)) = true := beq_iff_eq.mpr c35
                                  have c35b1 : (a0.toList != ([114, 101, 109] : List UInt8)) = false := bne_eq_false_iff_eq.mpr c35
                                  clear c35
                                  simp only [Option.some.injEq, Prod.mk.injEq] at H
                                  obtain ⟨rfl, rfl⟩ := H
                                  go_wp2_with (first | ((with_reducible refine gate_callee (f := 40) rfl ?_); refine goesL_ (some 71) rfl rfl Try.func40 (by kernel_rfl) rfl #[.int .u32 a1] rfl (by (try simp only [List.map_toArray, List.map_cons, List.map_nil]); first | done | rfl | (simp only [List.length_drop, List.length_take]; rfl)) ?_; (with_reducible refine (word_signed.calls a1 t116 _ A28.out).mono ?_); rintro e w' ⟨rfl, ⟨nd, rfl⟩⟩; refine ⟨_, rfl, ?_⟩) | ((with_reducible refine gate_callee (f := 40) rfl ?_); refine goesL_ (some 73) rfl rfl Try.func40 (by kernel_rfl) rfl #[.int .u32 a2] rfl (by (try simp only [List.map_toArray, List.map_cons, List.map_nil]); first | done | rfl | (simp only [List.length_drop, List.length_take]; rfl)) ?_; (with_reducible refine (word_signed.calls a2 t117 _ A29.out).mono ?_); rintro e w' ⟨rfl, ⟨nd, rfl⟩⟩; refine ⟨_, rfl, ?_⟩) | ((with_reducible refine gate_callee (f := 42) rfl ?_); refine goesL_ (some 74) rfl rfl Try.func42 (by kernel_rfl) rfl #[.int .i64 t116, .int .i64 t117] rfl (by (try simp only [List.map_toArray, List.map_cons, List.map_nil]); first | done | rfl | (simp only [List.length_drop, List.length_take]; rfl)) ?_; (with_reducible refine (word_quotient.calls t116 t117 t118 t119 _ A30.out).mono ?_); rintro e w' ⟨rfl, ⟨nd, rfl⟩⟩; refine ⟨_, rfl, ?_⟩) | ((with_reducible refine gate_callee (f := 43) rfl ?_); refine goesL_ (some 79) rfl rfl Try.func43 (by kernel_rfl) rfl #[.int .u32 a1] rfl (by (try simp only [List.map_toArray, List.map_cons, List.map_nil]); first | done | rfl | (simp only [List.length_drop, List.length_take]; rfl)) ?_; (with_reducible refine (word_plain.calls a1 t120 _ A31.out).mono ?_); rintro e w' ⟨rfl, ⟨nd, rfl⟩⟩; refine ⟨_, rfl, ?_⟩) | ((with_reducible refine gate_callee (f := 43) rfl ?_); refine goesL_ (some 81) rfl rfl Try.func43 (by kernel_rfl) rfl #[.int .u32 a2] rfl (by (try simp only [List.map_toArray, List.map_cons, List.map_nil]); first | done | rfl | (simp only [List.length_drop, List.length_take]; rfl)) ?_; (with_reducible refine (word_plain.calls a2 t121 _ A32.out).mono ?_); rintro e w' ⟨rfl, ⟨nd, rfl⟩⟩; refine ⟨_, rfl, ?_⟩) | ((with_reducible refine gate_callee (f := 42) rfl ?_); refine goesL_ (some 82) rfl rfl Try.func42 (by kernel_rfl) rfl #[.int .i64 t120, .int .i64 t121] rfl (by (try simp only [List.map_toArray, List.map_cons, List.map_nil]); first | done | rfl | (simp only [List.length_drop, List.length_take]; rfl)) ?_; (with_reducible refine (word_quotient.calls t120 t121 t122 t123 _ A33.out).mono ?_); rintro e w' ⟨rfl, ⟨nd, rfl⟩⟩; refine ⟨_, rfl, ?_⟩))
                                  go_ret2
                                  exact ⟨by first | rfl | (simp; done) | (simp [*]; done), by repeat (first | exact Drawn0.refl _ | apply Drawn0.step)⟩
                                · rw [if_neg c35] at H
                                  have c35b0 : (a0.toList == ([114, 101, 109] : List UInt8)) = false := beq_eq_false_iff_ne.mpr c35
                                  have c35b1 : (a0.toList != ([114, 101, 109] : List UInt8)) = true := bne_iff_ne.mpr c35
                                  by_cases c36 : a0.toList = ([100, 105, 118, 117] : List UInt8)
                                  · rw [if_pos c36] at H
                                    have c36b0 : (a0.toList == ([100, 105, 118, 117] : List UInt8)) = true := beq_iff_eq.mpr c36
                                    have c36b1 : (a0.toList != ([100, 105, 118, 117] : List UInt8)) = false := bne_eq_false_iff_eq.mpr c36
                                    clear c36
                                    simp only [Option.some.injEq, Prod.mk.injEq] at H
                                    obtain ⟨rfl, rfl⟩ := H
                                    go_wp2_with (first | ((with_reducible refine gate_callee (f := 40) rfl ?_); refine goesL_ (some 71) rfl rfl Try.func40 (by kernel_rfl) rfl #[.int .u32 a1] rfl (by (try simp only [List.map_toArray, List.map_cons, List.map_nil]); first | done | rfl | (simp only [List.length_drop, List.length_take]; rfl)) ?_; (with_reducible refine (word_signed.calls a1 t116 _ A28.out).mono ?_); rintro e w' ⟨rfl, ⟨nd, rfl⟩⟩; refine ⟨_, rfl, ?_⟩) | ((with_reducible refine gate_callee (f := 40) rfl ?_); refine goesL_ (some 73) rfl rfl Try.func40 (by kernel_rfl) rfl #[.int .u32 a2] rfl (by (try simp only [List.map_toArray, List.map_cons, List.map_nil]); first | done | rfl | (simp only [List.length_drop, List.length_take]; rfl)) ?_; (with_reducible refine (word_signed.calls a2 t117 _ A29.out).mono ?_); rintro e w' ⟨rfl, ⟨nd, rfl⟩⟩; refine ⟨_, rfl, ?_⟩) | ((with_reducible refine gate_callee (f := 42) rfl ?_); refine goesL_ (some 74) rfl rfl Try.func42 (by kernel_rfl) rfl #[.int .i64 t116, .int .i64 t117] rfl (by (try simp only [List.map_toArray, List.map_cons, List.map_nil]); first | done | rfl | (simp only [List.length_drop, List.length_take]; rfl)) ?_; (with_reducible refine (word_quotient.calls t116 t117 t118 t119 _ A30.out).mono ?_); rintro e w' ⟨rfl, ⟨nd, rfl⟩⟩; refine ⟨_, rfl, ?_⟩) | ((with_reducible refine gate_callee (f := 43) rfl ?_); refine goesL_ (some 79) rfl rfl Try.func43 (by kernel_rfl) rfl #[.int .u32 a1] rfl (by (try simp only [List.map_toArray, List.map_cons, List.map_nil]); first | done | rfl | (simp only [List.length_drop, List.length_take]; rfl)) ?_; (with_reducible refine (word_plain.calls a1 t120 _ A31.out).mono ?_); rintro e w' ⟨rfl, ⟨nd, rfl⟩⟩; refine ⟨_, rfl, ?_⟩) | ((with_reducible refine gate_callee (f := 43) rfl ?_); refine goesL_ (some 81) rfl rfl Try.func43 (by kernel_rfl) rfl #[.int .u32 a2] rfl (by (try simp only [List.map_toArray, List.map_cons, List.map_nil]); first | done | rfl | (simp only [List.length_drop, List.length_take]; rfl)) ?_; (with_reducible refine (word_plain.calls a2 t121 _ A32.out).mono ?_); rintro e w' ⟨rfl, ⟨nd, rfl⟩⟩; refine ⟨_, rfl, ?_⟩) | ((with_reducible refine gate_callee (f := 42) rfl ?_); refine goesL_ (some 82) rfl rfl Try.func42 (by kernel_rfl) rfl #[.int .i64 t120, .int .i64 t121] rfl (by (try simp only [List.map_toArray, List.map_cons, List.map_nil]); first | done | rfl | (simp only [List.length_drop, List.length_take]; rfl)) ?_; (with_reducible refine (word_quotient.calls t120 t121 t122 t123 _ A33.out).mono ?_); rintro e w' ⟨rfl, ⟨nd, rfl⟩⟩; refine ⟨_, rfl, ?_⟩))
                                    go_ret2
                                    exact ⟨by first | rfl | (simp; done) | (simp [*]; done), by repeat (first | exact Drawn0.refl _ | apply Drawn0.step)⟩
                                  · rw [if_neg c36] at H
                                    have c36b0 : (a0.toList == ([100, 105, 118, 117] : List UInt8)) = false := beq_eq_false_iff_ne.mpr c36
                                    have c36b1 : (a0.toList != ([100, 105, 118, 117] : List UInt8)) = true := bne_iff_ne.mpr c36
                                    by_cases c37 : a0.toList = ([114, 101, 109, 117] : List UInt8)
                                    · rw [if_pos c37] at H
                                      have c37b0 : (a0.toList == ([114, 101, 109, 117] : List UInt8)) = true := beq_iff_eq.mpr c37
                                      have c37b1 : (a0.toList != ([114, 101, 109, 117] : List UInt8)) = false := bne_eq_false_iff_eq.mpr c37
                                      clear c37
                                      simp only [Option.some.injEq, Prod.mk.injEq] at H
                                      obtain ⟨rfl, rfl⟩ := H
                                      go_wp2_with (first | ((with_reducible refine gate_callee (f := 40) rfl ?_); refine goesL_ (some 71) rfl rfl Try.func40 (by kernel_rfl) rfl #[.int .u32 a1] rfl (by (try simp only [List.map_toArray, List.map_cons, List.map_nil]); first | done | rfl | (simp only [List.length_drop, List.length_take]; rfl)) ?_; (with_reducible refine (word_signed.calls a1 t116 _ A28.out).mono ?_); rintro e w' ⟨rfl, ⟨nd, rfl⟩⟩; refine ⟨_, rfl, ?_⟩) | ((with_reducible refine gate_callee (f := 40) rfl ?_); refine goesL_ (some 73) rfl rfl Try.func40 (by kernel_rfl) rfl #[.int .u32 a2] rfl (by (try simp only [List.map_toArray, List.map_cons, List.map_nil]); first | done | rfl | (simp only [List.length_drop, List.length_take]; rfl)) ?_; (with_reducible refine (word_signed.calls a2 t117 _ A29.out).mono ?_); rintro e w' ⟨rfl, ⟨nd, rfl⟩⟩; refine ⟨_, rfl, ?_⟩) | ((with_reducible refine gate_callee (f := 42) rfl ?_); refine goesL_ (some 74) rfl rfl Try.func42 (by kernel_rfl) rfl #[.int .i64 t116, .int .i64 t117] rfl (by (try simp only [List.map_toArray, List.map_cons, List.map_nil]); first | done | rfl | (simp only [List.length_drop, List.length_take]; rfl)) ?_; (with_reducible refine (word_quotient.calls t116 t117 t118 t119 _ A30.out).mono ?_); rintro e w' ⟨rfl, ⟨nd, rfl⟩⟩; refine ⟨_, rfl, ?_⟩) | ((with_reducible refine gate_callee (f := 43) rfl ?_); refine goesL_ (some 79) rfl rfl Try.func43 (by kernel_rfl) rfl #[.int .u32 a1] rfl (by (try simp only [List.map_toArray, List.map_cons, List.map_nil]); first | done | rfl | (simp only [List.length_drop, List.length_take]; rfl)) ?_; (with_reducible refine (word_plain.calls a1 t120 _ A31.out).mono ?_); rintro e w' ⟨rfl, ⟨nd, rfl⟩⟩; refine ⟨_, rfl, ?_⟩) | ((with_reducible refine gate_callee (f := 43) rfl ?_); refine goesL_ (some 81) rfl rfl Try.func43 (by kernel_rfl) rfl #[.int .u32 a2] rfl (by (try simp only [List.map_toArray, List.map_cons, List.map_nil]); first | done | rfl | (simp only [List.length_drop, List.length_take]; rfl)) ?_; (with_reducible refine (word_plain.calls a2 t121 _ A32.out).mono ?_); rintro e w' ⟨rfl, ⟨nd, rfl⟩⟩; refine ⟨_, rfl, ?_⟩) | ((with_reducible refine gate_callee (f := 42) rfl ?_); refine goesL_ (some 82) rfl rfl Try.func42 (by kernel_rfl) rfl #[.int .i64 t120, .int .i64 t121] rfl (by (try simp only [List.map_toArray, List.map_cons, List.map_nil]); first | done | rfl | (simp only [List.length_drop, List.length_take]; rfl)) ?_; (with_reducible refine (word_quotient.calls t120 t121 t122 t123 _ A33.out).mono ?_); rintro e w' ⟨rfl, ⟨nd, rfl⟩⟩; refine ⟨_, rfl, ?_⟩))
                                      go_ret2
                                      exact ⟨by first | rfl | (simp; done) | (simp [*]; done), by repeat (first | exact Drawn0.refl _ | apply Drawn0.step)⟩
                                    · rw [if_neg c37] at H
                                      have c37b0 : (a0.toList == ([114, 101, 109, 117] : List UInt8)) = false := beq_eq_false_iff_ne.mpr c37
                                      have c37b1 : (a0.toList != ([114, 101, 109, 117] : List UInt8)) = true := bne_iff_ne.mpr c37
                                      simp only [Option.some.injEq, Prod.mk.injEq] at H
                                      obtain ⟨rfl, rfl⟩ := H
                                      go_wp2_with (first | ((with_reducible refine gate_callee (f := 40) rfl ?_); refine goesL_ (some 71) rfl rfl Try.func40 (by kernel_rfl) rfl #[.int .u32 a1] rfl (by (try simp only [List.map_toArray, List.map_cons, List.map_nil]); first | done | rfl | (simp only [List.length_drop, List.length_take]; rfl)) ?_; (with_reducible refine (word_signed.calls a1 t116 _ A28.out).mono ?_); rintro e w' ⟨rfl, ⟨nd, rfl⟩⟩; refine ⟨_, rfl, ?_⟩) | ((with_reducible refine gate_callee (f := 40) rfl ?_); refine goesL_ (some 73) rfl rfl Try.func40 (by kernel_rfl) rfl #[.int .u32 a2] rfl (by (try simp only [List.map_toArray, List.map_cons, List.map_nil]); first | done | rfl | (simp only [List.length_drop, List.length_take]; rfl)) ?_; (with_reducible refine (word_signed.calls a2 t117 _ A29.out).mono ?_); rintro e w' ⟨rfl, ⟨nd, rfl⟩⟩; refine ⟨_, rfl, ?_⟩) | ((with_reducible refine gate_callee (f := 42) rfl ?_); refine goesL_ (some 74) rfl rfl Try.func42 (by kernel_rfl) rfl #[.int .i64 t116, .int .i64 t117] rfl (by (try simp only [List.map_toArray, List.map_cons, List.map_nil]); first | done | rfl | (simp only [List.length_drop, List.length_take]; rfl)) ?_; (with_reducible refine (word_quotient.calls t116 t117 t118 t119 _ A30.out).mono ?_); rintro e w' ⟨rfl, ⟨nd, rfl⟩⟩; refine ⟨_, rfl, ?_⟩) | ((with_reducible refine gate_callee (f := 43) rfl ?_); refine goesL_ (some 79) rfl rfl Try.func43 (by kernel_rfl) rfl #[.int .u32 a1] rfl (by (try simp only [List.map_toArray, List.map_cons, List.map_nil]); first | done | rfl | (simp only [List.length_drop, List.length_take]; rfl)) ?_; (with_reducible refine (word_plain.calls a1 t120 _ A31.out).mono ?_); rintro e w' ⟨rfl, ⟨nd, rfl⟩⟩; refine ⟨_, rfl, ?_⟩) | ((with_reducible refine gate_callee (f := 43) rfl ?_); refine goesL_ (some 81) rfl rfl Try.func43 (by kernel_rfl) rfl #[.int .u32 a2] rfl (by (try simp only [List.map_toArray, List.map_cons, List.map_nil]); first | done | rfl | (simp only [List.length_drop, List.length_take]; rfl)) ?_; (with_reducible refine (word_plain.calls a2 t121 _ A32.out).mono ?_); rintro e w' ⟨rfl, ⟨nd, rfl⟩⟩; refine ⟨_, rfl, ?_⟩) | ((with_reducible refine gate_callee (f := 42) rfl ?_); refine goesL_ (some 82) rfl rfl Try.func42 (by kernel_rfl) rfl #[.int .i64 t120, .int .i64 t121] rfl (by (try simp only [List.map_toArray, List.map_cons, List.map_nil]); first | done | rfl | (simp only [List.length_drop, List.length_take]; rfl)) ?_; (with_reducible refine (word_quotient.calls t120 t121 t122 t123 _ A33.out).mono ?_); rintro e w' ⟨rfl, ⟨nd, rfl⟩⟩; refine ⟨_, rfl, ?_⟩))
                                      go_ret2
                                      exact ⟨by first | rfl | (simp; done) | (simp [*]; done), by repeat (first | exact Drawn0.refl _ | apply Drawn0.step)⟩

/-! ### footmanlaw1_op: function 25 -/
def footmanlaw1_op.f (k : Nat) (a0 : ByteArray) (a1 : Int) (a2 : Int) : Option (Int) := (word_Op.f k a0 a1 a2).bind fun bt124 => ((footmanlaw1_Err.f bt124.2).bind fun t126 => (if t126 = 0 then (some bt124.1) else (some 77)))
theorem footmanlaw1_op.mono : ∀ a0 a1 a2 k, LeO (footmanlaw1_op.f k a0 a1 a2) (footmanlaw1_op.f (k + 1) a0 a1 a2) := by
  intro a0 a1 a2 k
  unfold footmanlaw1_op.f
  repeat' first
      | (with_reducible exact word_Op.mono _ _ _ _)
      | (with_reducible exact LeO.refl _)
      | (with_reducible exact LeO.none _)
      | (with_reducible refine LeO.ite ?_ ?_)
      | (with_reducible refine LeO.bind ?_ (fun _ => ?_))
      | exact word_Op.mono _ _ _ _
      | exact LeO.none _
      | refine LeO.ite ?_ ?_
      | refine LeO.bind ?_ (fun _ => ?_)
set_option maxHeartbeats 8000000 in
set_option maxRecDepth 100000 in
theorem footmanlaw1_op.calls (k : Nat) (a0 : ByteArray) (a1 : Int) (a2 : Int) (r : Int) (w : World) (h : footmanlaw1_op.f k a0 a1 a2 = some r) :
    Calls Try.prog 25 #[.string a0, .int .u32 a1, .int .u32 a2] w fun e w' => e = .returned (.int .u32 r) ∧ Drawn0 w w' := by
  have H : ((word_Op.f k a0 a1 a2).bind fun bt124 => ((footmanlaw1_Err.f bt124.2).bind fun t126 => (if t126 = 0 then (some bt124.1) else (some 77)))) = some r := h
  clear h
  replace H := Option.bind_eq_some_iff.mp H
  obtain ⟨⟨t124, t125⟩, A40, H⟩ := H
  replace H : ((footmanlaw1_Err.f t125).bind fun t126 => (if t126 = 0 then (some t124) else (some 77))) = some r := H
  have A4 := Aside0.mk A40
  clear A40
  replace H := Option.bind_eq_some_iff.mp H
  obtain ⟨t126, A50, H⟩ := H
  replace H : (if t126 = 0 then (some t124) else (some 77)) = some r := H
  have A5 := Aside0.mk A50
  clear A50
  by_cases c6 : t126 = 0
  · rw [if_pos c6] at H
    have c6b0 : (t126 == 0) = true := beq_iff_eq.mpr c6
    have c6b1 : (t126 != 0) = false := bne_eq_false_iff_eq.mpr c6
    clear c6
    obtain rfl := Option.some.inj H
    go_enter Try.func25, Try.ntmps25
    go_wp2_with (first | ((with_reducible refine gate_callee (f := 28) rfl ?_); refine goesL_ (some 13) rfl rfl Try.func28 (by kernel_rfl) rfl #[.string a0, .int .u32 a1, .int .u32 a2] rfl (by (try simp only [List.map_toArray, List.map_cons, List.map_nil]); first | done | rfl | (simp only [List.length_drop, List.length_take]; rfl)) ?_; (with_reducible refine (word_Op.calls k a0 a1 a2 t124 t125 _ A4.out).mono ?_); rintro e w' ⟨rfl, ⟨nd, rfl⟩⟩; refine ⟨_, rfl, ?_⟩) | ((with_reducible refine gate_callee (f := 16) rfl ?_); refine goesL_ (some 17) rfl rfl Try.func16 (by kernel_rfl) rfl #[.int .i64 t125] rfl (by (try simp only [List.map_toArray, List.map_cons, List.map_nil]); first | done | rfl | (simp only [List.length_drop, List.length_take]; rfl)) ?_; (with_reducible refine (footmanlaw1_Err.calls t125 t126 _ A5.out).mono ?_); rintro e w' ⟨rfl, ⟨nd, rfl⟩⟩; refine ⟨_, rfl, ?_⟩))
    go_ret
    exact ⟨by first | rfl | (simp; done) | (simp [*]; done), by repeat (first | exact Drawn0.refl _ | apply Drawn0.step)⟩
  · rw [if_neg c6] at H
    have c6b0 : (t126 == 0) = false := beq_eq_false_iff_ne.mpr c6
    have c6b1 : (t126 != 0) = true := bne_iff_ne.mpr c6
    obtain rfl := Option.some.inj H
    go_enter Try.func25, Try.ntmps25
    go_wp2_with (first | ((with_reducible refine gate_callee (f := 28) rfl ?_); refine goesL_ (some 13) rfl rfl Try.func28 (by kernel_rfl) rfl #[.string a0, .int .u32 a1, .int .u32 a2] rfl (by (try simp only [List.map_toArray, List.map_cons, List.map_nil]); first | done | rfl | (simp only [List.length_drop, List.length_take]; rfl)) ?_; (with_reducible refine (word_Op.calls k a0 a1 a2 t124 t125 _ A4.out).mono ?_); rintro e w' ⟨rfl, ⟨nd, rfl⟩⟩; refine ⟨_, rfl, ?_⟩) | ((with_reducible refine gate_callee (f := 16) rfl ?_); refine goesL_ (some 17) rfl rfl Try.func16 (by kernel_rfl) rfl #[.int .i64 t125] rfl (by (try simp only [List.map_toArray, List.map_cons, List.map_nil]); first | done | rfl | (simp only [List.length_drop, List.length_take]; rfl)) ?_; (with_reducible refine (footmanlaw1_Err.calls t125 t126 _ A5.out).mono ?_); rintro e w' ⟨rfl, ⟨nd, rfl⟩⟩; refine ⟨_, rfl, ?_⟩))
    go_ret
    exact ⟨by first | rfl | (simp; done) | (simp [*]; done), by repeat (first | exact Drawn0.refl _ | apply Drawn0.step)⟩

/-! ### word_Sext: function 30 -/
def word_Sext.f (a0 : Int) (a1 : Int) : Option (Int) := if a1 < 1 then (some 0) else (if a1 > 32 then (some 0) else (if 0 ≤ (wrap64 (32 - a1)) then (some ((shr .i32 (wrap32 (shl .u32 a0 (wrap64 (32 - a1)))) (wrap64 (32 - a1))) % 4294967296)) else (none)))
set_option maxHeartbeats 8000000 in
set_option maxRecDepth 100000 in
theorem word_Sext.calls (a0 : Int) (a1 : Int) (r : Int) (w : World) (h : word_Sext.f a0 a1 = some r) :
    Calls Try.prog 30 #[.int .u32 a0, .int .i64 a1] w fun e w' => e = .returned (.int .u32 r) ∧ Drawn0 w w' := by
  have H : (if a1 < 1 then (some 0) else (if a1 > 32 then (some 0) else (if 0 ≤ (wrap64 (32 - a1)) then (some ((shr .i32 (wrap32 (shl .u32 a0 (wrap64 (32 - a1)))) (wrap64 (32 - a1))) % 4294967296)) else (none)))) = some r := h
  clear h
  by_cases c3 : a1 < 1
  · rw [if_pos c3] at H
    have c3b0 : decide (a1 < 1) = true := decide_eq_true c3
    clear c3
    obtain rfl := Option.some.inj H
    go_enter Try.func30, Try.ntmps30
    go_wp2
    go_ret
    exact ⟨by first | rfl | (simp; done) | (simp [*]; done), by repeat (first | exact Drawn0.refl _ | apply Drawn0.step)⟩
  · rw [if_neg c3] at H
    have c3b0 : decide (a1 < 1) = false := decide_eq_false c3
    clear c3
    by_cases c4 : a1 > 32
    · rw [if_pos c4] at H
      have c4b0 : decide (32 < a1) = true := decide_eq_true c4
      clear c4
      obtain rfl := Option.some.inj H
      go_enter Try.func30, Try.ntmps30
      go_wp2
      go_ret
      exact ⟨by first | rfl | (simp; done) | (simp [*]; done), by repeat (first | exact Drawn0.refl _ | apply Drawn0.step)⟩
    · rw [if_neg c4] at H
      have c4b0 : decide (32 < a1) = false := decide_eq_false c4
      clear c4
      obtain ⟨ji5, hji5⟩ : ∃ j_ : Int, (wrap64 (32 - a1)) = j_ := ⟨_, rfl⟩
      replace H : (if 0 ≤ (ji5) then (some ((shr .i32 (wrap32 (shl .u32 a0 (ji5))) (ji5)) % 4294967296)) else (none)) = some r := by first | (rw [hji5] at H; exact H) | (simp only [hji5] at H ⊢; exact H)
      have hji5w : (IntKind.i64.wrap (32 - a1)) = ji5 := (i64_w _).trans hji5
      by_cases c6 : 0 ≤ (ji5)
      · rw [if_pos c6] at H
        have c6b0 := eq_true c6
        have c6b1 : decide (0 ≤ (ji5)) = true := decide_eq_true c6
        clear c6
        obtain ⟨ji7, hji7⟩ : ∃ j_ : Int, (shl .u32 a0 (ji5)) = j_ := ⟨_, rfl⟩
        replace H : (some ((shr .i32 (wrap32 (ji7)) (ji5)) % 4294967296)) = some r := by first | (rw [hji7] at H; exact H) | (simp only [hji7] at H ⊢; exact H)
        have hji7_ : (IntKind.u32.wrap (a0 * 2 ^ min (ji5).toNat 32)) = ji7 := hji7
        have hji7z : (ji5) ≤ 32 → (IntKind.u32.wrap (a0 * 2 ^ (ji5).toNat)) = ji7 := shl_small hji7
        have c8b0 := eq_true (of_decide_eq_true (by first | (with_reducible assumption) | assumption) : 0 ≤ (ji5))
        obtain ⟨ji9, hji9⟩ : ∃ j_ : Int, (shr .i32 (wrap32 (ji7)) (ji5)) = j_ := ⟨_, rfl⟩
        replace H : (some ((ji9) % 4294967296)) = some r := by first | (rw [hji9] at H; exact H) | (simp only [hji9] at H ⊢; exact H)
        have hji9_ : ((wrap32 (ji7)) / 2 ^ min (ji5).toNat 32) = ji9 := hji9
        have hji9z : (ji5) ≤ 32 → ((wrap32 (ji7)) / 2 ^ (ji5).toNat) = ji9 := shr_small hji9
        obtain rfl := Option.some.inj H
        go_enter Try.func30, Try.ntmps30
        go_wp2
        go_ret
        exact ⟨by first | rfl | (simp; done) | (simp only [← hji5, ← hji7, ← hji9] <;> (first | rfl | simp)) | (simp [*]; done), by repeat (first | exact Drawn0.refl _ | apply Drawn0.step)⟩
      · rw [if_neg c6] at H
        exact absurd H (by simp)

/-! ### footmanlaw1_awake: function 26 -/
def footmanlaw1_awake.f (k : Nat)  : Option (Bool) := (word_Op.f k (⟨#[115, 114, 97]⟩ : ByteArray) 2147483648 31).bind fun bt127 => (if bt127.1 = 4294967295 then ((footmanlaw1_Err.f bt127.2).bind fun t129 => (if t129 = 0 then ((word_Sext.f 128 8).bind fun t130 => (some (t130 == 4294967168))) else (some false))) else (some false))
theorem footmanlaw1_awake.mono : ∀ k, LeO (footmanlaw1_awake.f k ) (footmanlaw1_awake.f (k + 1) ) := by
  intro  k
  unfold footmanlaw1_awake.f
  repeat' first
      | (with_reducible exact word_Op.mono _ _ _ _)
      | (with_reducible exact LeO.refl _)
      | (with_reducible exact LeO.none _)
      | (with_reducible refine LeO.ite ?_ ?_)
      | (with_reducible refine LeO.bind ?_ (fun _ => ?_))
      | exact word_Op.mono _ _ _ _
      | exact LeO.none _
      | refine LeO.ite ?_ ?_
      | refine LeO.bind ?_ (fun _ => ?_)
set_option maxHeartbeats 8000000 in
set_option maxRecDepth 100000 in
theorem footmanlaw1_awake.calls (k : Nat)  (r : Bool) (w : World) (h : footmanlaw1_awake.f k  = some r) :
    Calls Try.prog 26 #[] w fun e w' => e = .returned (.bool r) ∧ Drawn0 w w' := by
  have H : ((word_Op.f k (⟨#[115, 114, 97]⟩ : ByteArray) 2147483648 31).bind fun bt127 => (if bt127.1 = 4294967295 then ((footmanlaw1_Err.f bt127.2).bind fun t129 => (if t129 = 0 then ((word_Sext.f 128 8).bind fun t130 => (some (t130 == 4294967168))) else (some false))) else (some false))) = some r := h
  clear h
  replace H := Option.bind_eq_some_iff.mp H
  obtain ⟨⟨t127, t128⟩, A10, H⟩ := H
  replace H : (if t127 = 4294967295 then ((footmanlaw1_Err.f t128).bind fun t129 => (if t129 = 0 then ((word_Sext.f 128 8).bind fun t130 => (some (t130 == 4294967168))) else (some false))) else (some false)) = some r := H
  have A1 := Aside0.mk A10
  clear A10
  by_cases c2 : t127 = 4294967295
  · rw [if_pos c2] at H
    have c2b0 : (t127 == 4294967295) = true := beq_iff_eq.mpr c2
    have c2b1 : (t127 != 4294967295) = false := bne_eq_false_iff_eq.mpr c2
    clear c2
    replace H := Option.bind_eq_some_iff.mp H
    obtain ⟨t129, A30, H⟩ := H
    replace H : (if t129 = 0 then ((word_Sext.f 128 8).bind fun t130 => (some (t130 == 4294967168))) else (some false)) = some r := H
    have A3 := Aside0.mk A30
    clear A30
    by_cases c4 : t129 = 0
    · rw [if_pos c4] at H
      have c4b0 : (t129 == 0) = true := beq_iff_eq.mpr c4
      have c4b1 : (t129 != 0) = false := bne_eq_false_iff_eq.mpr c4
      clear c4
      replace H := Option.bind_eq_some_iff.mp H
      obtain ⟨t130, A50, H⟩ := H
      replace H : (some (t130 == 4294967168)) = some r := H
      have A5 := Aside0.mk A50
      clear A50
      obtain rfl := Option.some.inj H
      go_enter Try.func26, Try.ntmps26
      go_wp2_with (first | ((with_reducible refine gate_callee (f := 28) rfl ?_); refine goesL_ (some 4) rfl rfl Try.func28 (by kernel_rfl) rfl #[.string (⟨#[115, 114, 97]⟩ : ByteArray), .int .u32 2147483648, .int .u32 31] rfl (by (try simp only [List.map_toArray, List.map_cons, List.map_nil]); first | done | rfl | (simp only [List.length_drop, List.length_take]; rfl)) ?_; (with_reducible refine (word_Op.calls k (⟨#[115, 114, 97]⟩ : ByteArray) 2147483648 31 t127 t128 _ A1.out).mono ?_); rintro e w' ⟨rfl, ⟨nd, rfl⟩⟩; refine ⟨_, rfl, ?_⟩) | (go_at_call 16; (with_reducible refine (footmanlaw1_Err.calls t128 t129 _ A3.out).mono ?_); rintro e w' ⟨rfl, ⟨nd, rfl⟩⟩) | (go_at_call 30; (with_reducible refine (word_Sext.calls 128 8 t130 _ A5.out).mono ?_); rintro e w' ⟨rfl, ⟨nd, rfl⟩⟩))
      go_ret
      exact ⟨by first | rfl | (simp; done) | (simp [*]; done), by repeat (first | exact Drawn0.refl _ | apply Drawn0.step)⟩
    · rw [if_neg c4] at H
      have c4b0 : (t129 == 0) = false := beq_eq_false_iff_ne.mpr c4
      have c4b1 : (t129 != 0) = true := bne_iff_ne.mpr c4
      obtain rfl := Option.some.inj H
      go_enter Try.func26, Try.ntmps26
      go_wp2_with (first | ((with_reducible refine gate_callee (f := 28) rfl ?_); refine goesL_ (some 4) rfl rfl Try.func28 (by kernel_rfl) rfl #[.string (⟨#[115, 114, 97]⟩ : ByteArray), .int .u32 2147483648, .int .u32 31] rfl (by (try simp only [List.map_toArray, List.map_cons, List.map_nil]); first | done | rfl | (simp only [List.length_drop, List.length_take]; rfl)) ?_; (with_reducible refine (word_Op.calls k (⟨#[115, 114, 97]⟩ : ByteArray) 2147483648 31 t127 t128 _ A1.out).mono ?_); rintro e w' ⟨rfl, ⟨nd, rfl⟩⟩; refine ⟨_, rfl, ?_⟩) | (go_at_call 16; (with_reducible refine (footmanlaw1_Err.calls t128 t129 _ A3.out).mono ?_); rintro e w' ⟨rfl, ⟨nd, rfl⟩⟩))
      go_ret
      exact ⟨by first | rfl | (simp; done) | (simp [*]; done), by repeat (first | exact Drawn0.refl _ | apply Drawn0.step)⟩
  · rw [if_neg c2] at H
    have c2b0 : (t127 == 4294967295) = false := beq_eq_false_iff_ne.mpr c2
    have c2b1 : (t127 != 4294967295) = true := bne_iff_ne.mpr c2
    obtain rfl := Option.some.inj H
    go_enter Try.func26, Try.ntmps26
    go_wp2_with (first | ((with_reducible refine gate_callee (f := 28) rfl ?_); refine goesL_ (some 4) rfl rfl Try.func28 (by kernel_rfl) rfl #[.string (⟨#[115, 114, 97]⟩ : ByteArray), .int .u32 2147483648, .int .u32 31] rfl (by (try simp only [List.map_toArray, List.map_cons, List.map_nil]); first | done | rfl | (simp only [List.length_drop, List.length_take]; rfl)) ?_; (with_reducible refine (word_Op.calls k (⟨#[115, 114, 97]⟩ : ByteArray) 2147483648 31 t127 t128 _ A1.out).mono ?_); rintro e w' ⟨rfl, ⟨nd, rfl⟩⟩; refine ⟨_, rfl, ?_⟩))
    go_ret
    exact ⟨by first | rfl | (simp; done) | (simp [*]; done), by repeat (first | exact Drawn0.refl _ | apply Drawn0.step)⟩

end Go.Proofs.Ytocjmepmbglhaaa.PWordProducts
