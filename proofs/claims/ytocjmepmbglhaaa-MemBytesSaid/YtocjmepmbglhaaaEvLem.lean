/- Numbers: how each kind wraps; what a step leaves of old memory. No condition. -/
import Derived.Test.YtocjmepmbglhaaaEvN
namespace Go.Ev
open Go.RowKit

theorem wrap_u8 (n : Int) : IntKind.u8.wrap n = n % 256 := by simp [IntKind.wrap, IntKind.bits, IntKind.signed]
theorem wrap_u16 (n : Int) : IntKind.u16.wrap n = n % 65536 := by simp [IntKind.wrap, IntKind.bits, IntKind.signed]
theorem wrap_u32 (n : Int) : IntKind.u32.wrap n = n % 4294967296 := by simp [IntKind.wrap, IntKind.bits, IntKind.signed]
theorem wrap_u64 (n : Int) : IntKind.u64.wrap n = n % 18446744073709551616 := by simp [IntKind.wrap, IntKind.bits, IntKind.signed]
theorem wrap_i32 (n : Int) : IntKind.i32.wrap n = (n + 2147483648) % 4294967296 - 2147483648 := by
  simp [IntKind.wrap, IntKind.bits, IntKind.signed]; split <;> omega
theorem wrap_i64 (n : Int) : IntKind.i64.wrap n = (n + 9223372036854775808) % 18446744073709551616 - 9223372036854775808 := by
  simp [IntKind.wrap, IntKind.bits, IntKind.signed]; split <;> omega

theorem i64_id {x : Int} (h : -9223372036854775808 ≤ x ∧ x < 9223372036854775808) : IntKind.i64.wrap x = x := by rw [wrap_i64]; omega
theorem i32_id {x : Int} (h : -2147483648 ≤ x ∧ x < 2147483648) : IntKind.i32.wrap x = x := by rw [wrap_i32]; omega
theorem u64_id {x : Int} (h : 0 ≤ x ∧ x < 18446744073709551616) : IntKind.u64.wrap x = x := by rw [wrap_u64]; omega
theorem u32_id {x : Int} (h : 0 ≤ x ∧ x < 4294967296) : IntKind.u32.wrap x = x := by rw [wrap_u32]; omega
theorem u8_id {x : Int} (h : 0 ≤ x ∧ x < 256) : IntKind.u8.wrap x = x := by rw [wrap_u8]; omega
theorem tmod_nn {a b : Int} (h : 0 ≤ a) : a.tmod b = a % b := Int.tmod_eq_emod_of_nonneg h
theorem tdiv_nn {a b : Int} (h : 0 ≤ a) : a.tdiv b = a / b := Int.tdiv_eq_ediv_of_nonneg h
theorem fdiv_nn {a b : Int} (h : 0 ≤ b) : a.fdiv b = a / b := Int.fdiv_eq_ediv_of_nonneg a h

/-- A step that may write nothing that was there. -/
theorem below_of_Tr {E E' : Emap} {h h' : Heap} {w w' : World} (t : Tr E h w E' h' w') (hr : ∀ b o, h.get b = some o → o.rw = false) : Below w.heap.size w w' :=
  ⟨t.os, t.tape, t.output, t.size, fun k hk => t.frame k hk fun b o p hb ho _ => by rw [hr b o hb] at ho; cases ho⟩

theorem tup1 {a0 b0 : Value} (h0 : a0 = b0) : Value.tuple ⟨[a0]⟩ = Value.tuple ⟨[b0]⟩ := by rw [h0]
theorem tup2 {a0 b0 a1 b1 : Value} (h0 : a0 = b0) (h1 : a1 = b1) : Value.tuple ⟨[a0, a1]⟩ = Value.tuple ⟨[b0, b1]⟩ := by rw [h0, h1]
theorem tup3 {a0 b0 a1 b1 a2 b2 : Value} (h0 : a0 = b0) (h1 : a1 = b1) (h2 : a2 = b2) : Value.tuple ⟨[a0, a1, a2]⟩ = Value.tuple ⟨[b0, b1, b2]⟩ := by rw [h0, h1, h2]
theorem tup4 {a0 b0 a1 b1 a2 b2 a3 b3 : Value} (h0 : a0 = b0) (h1 : a1 = b1) (h2 : a2 = b2) (h3 : a3 = b3) : Value.tuple ⟨[a0, a1, a2, a3]⟩ = Value.tuple ⟨[b0, b1, b2, b3]⟩ := by rw [h0, h1, h2, h3]
theorem tup5 {a0 b0 a1 b1 a2 b2 a3 b3 a4 b4 : Value} (h0 : a0 = b0) (h1 : a1 = b1) (h2 : a2 = b2) (h3 : a3 = b3) (h4 : a4 = b4) : Value.tuple ⟨[a0, a1, a2, a3, a4]⟩ = Value.tuple ⟨[b0, b1, b2, b3, b4]⟩ := by rw [h0, h1, h2, h3, h4]
theorem tup6 {a0 b0 a1 b1 a2 b2 a3 b3 a4 b4 a5 b5 : Value} (h0 : a0 = b0) (h1 : a1 = b1) (h2 : a2 = b2) (h3 : a3 = b3) (h4 : a4 = b4) (h5 : a5 = b5) : Value.tuple ⟨[a0, a1, a2, a3, a4, a5]⟩ = Value.tuple ⟨[b0, b1, b2, b3, b4, b5]⟩ := by rw [h0, h1, h2, h3, h4, h5]
theorem tup7 {a0 b0 a1 b1 a2 b2 a3 b3 a4 b4 a5 b5 a6 b6 : Value} (h0 : a0 = b0) (h1 : a1 = b1) (h2 : a2 = b2) (h3 : a3 = b3) (h4 : a4 = b4) (h5 : a5 = b5) (h6 : a6 = b6) : Value.tuple ⟨[a0, a1, a2, a3, a4, a5, a6]⟩ = Value.tuple ⟨[b0, b1, b2, b3, b4, b5, b6]⟩ := by rw [h0, h1, h2, h3, h4, h5, h6]
theorem tup8 {a0 b0 a1 b1 a2 b2 a3 b3 a4 b4 a5 b5 a6 b6 a7 b7 : Value} (h0 : a0 = b0) (h1 : a1 = b1) (h2 : a2 = b2) (h3 : a3 = b3) (h4 : a4 = b4) (h5 : a5 = b5) (h6 : a6 = b6) (h7 : a7 = b7) : Value.tuple ⟨[a0, a1, a2, a3, a4, a5, a6, a7]⟩ = Value.tuple ⟨[b0, b1, b2, b3, b4, b5, b6, b7]⟩ := by rw [h0, h1, h2, h3, h4, h5, h6, h7]
theorem agg1 {a0 b0 : Value} (h0 : a0 = b0) : Value.agg ⟨[a0]⟩ = Value.agg ⟨[b0]⟩ := by rw [h0]
theorem agg2 {a0 b0 a1 b1 : Value} (h0 : a0 = b0) (h1 : a1 = b1) : Value.agg ⟨[a0, a1]⟩ = Value.agg ⟨[b0, b1]⟩ := by rw [h0, h1]
theorem agg3 {a0 b0 a1 b1 a2 b2 : Value} (h0 : a0 = b0) (h1 : a1 = b1) (h2 : a2 = b2) : Value.agg ⟨[a0, a1, a2]⟩ = Value.agg ⟨[b0, b1, b2]⟩ := by rw [h0, h1, h2]
theorem agg4 {a0 b0 a1 b1 a2 b2 a3 b3 : Value} (h0 : a0 = b0) (h1 : a1 = b1) (h2 : a2 = b2) (h3 : a3 = b3) : Value.agg ⟨[a0, a1, a2, a3]⟩ = Value.agg ⟨[b0, b1, b2, b3]⟩ := by rw [h0, h1, h2, h3]
theorem agg5 {a0 b0 a1 b1 a2 b2 a3 b3 a4 b4 : Value} (h0 : a0 = b0) (h1 : a1 = b1) (h2 : a2 = b2) (h3 : a3 = b3) (h4 : a4 = b4) : Value.agg ⟨[a0, a1, a2, a3, a4]⟩ = Value.agg ⟨[b0, b1, b2, b3, b4]⟩ := by rw [h0, h1, h2, h3, h4]
theorem agg6 {a0 b0 a1 b1 a2 b2 a3 b3 a4 b4 a5 b5 : Value} (h0 : a0 = b0) (h1 : a1 = b1) (h2 : a2 = b2) (h3 : a3 = b3) (h4 : a4 = b4) (h5 : a5 = b5) : Value.agg ⟨[a0, a1, a2, a3, a4, a5]⟩ = Value.agg ⟨[b0, b1, b2, b3, b4, b5]⟩ := by rw [h0, h1, h2, h3, h4, h5]
theorem agg7 {a0 b0 a1 b1 a2 b2 a3 b3 a4 b4 a5 b5 a6 b6 : Value} (h0 : a0 = b0) (h1 : a1 = b1) (h2 : a2 = b2) (h3 : a3 = b3) (h4 : a4 = b4) (h5 : a5 = b5) (h6 : a6 = b6) : Value.agg ⟨[a0, a1, a2, a3, a4, a5, a6]⟩ = Value.agg ⟨[b0, b1, b2, b3, b4, b5, b6]⟩ := by rw [h0, h1, h2, h3, h4, h5, h6]
theorem agg8 {a0 b0 a1 b1 a2 b2 a3 b3 a4 b4 a5 b5 a6 b6 a7 b7 : Value} (h0 : a0 = b0) (h1 : a1 = b1) (h2 : a2 = b2) (h3 : a3 = b3) (h4 : a4 = b4) (h5 : a5 = b5) (h6 : a6 = b6) (h7 : a7 = b7) : Value.agg ⟨[a0, a1, a2, a3, a4, a5, a6, a7]⟩ = Value.agg ⟨[b0, b1, b2, b3, b4, b5, b6, b7]⟩ := by rw [h0, h1, h2, h3, h4, h5, h6, h7]

/-- Nothing is known of memory. -/
def h0 : Heap := ⟨[], fun _ => none, 0⟩
def bs (s : String) : ByteArray := s.toUTF8
theorem wr0 (w : World) : WR (fun _ => none) h0 w :=
  ⟨fun b o hb => by simp [h0, Heap.get, getL] at hb, fun b _ o _ _ _ _ hb => by simp [h0, Heap.get, getL] at hb, fun b p hb => by simp at hb, fun _ _ => rfl⟩
theorem calls_h0 {P : Program} {g : Nat} {args : List Value} {Q : Value → Heap → Prop} (h : CallOk P g args h0 Q) {cargs : Array Value} (ha : VRs (fun _ => none) args.toArray cargs) (w : World) :
    Calls P g cargs w fun e w' => ∃ v v' E' h', Q v h' ∧ e = .returned v' ∧ VR E' v v' ∧ Below w.heap.size w w' :=
  (h.run _ w cargs (wr0 w) ha).mono fun _ _ ⟨v, v', E', h', q, he, hv, ht⟩ => ⟨v, v', E', h', q, he, hv, below_of_Tr ht fun b o hb => by simp [h0, Heap.get, getL] at hb⟩

theorem Holds.of_below {E : Emap} {w w' : World} {p : Place} {o : AObj} (h : Holds E w p o) (hb : Below w.heap.size w w') (hp : p.block < w.heap.size) : Holds E w' p o :=
  h.mono (fun _ _ h => h) (hb.block _ hp)
theorem WR.of_below {E : Emap} {h : Heap} {w w' : World} (hw : WR E h w) (hb : Below w.heap.size w w') : WR E h w' :=
  ⟨fun b o hb' => let ⟨p, h1, h2⟩ := hw.obj b o hb'; ⟨p, h1, h2.of_below hb (hw.dom _ _ h1)⟩, hw.sep, fun b p hp => Nat.lt_of_lt_of_le (hw.dom b p hp) hb.size, hw.fresh⟩
theorem Tr.of_below {E : Emap} {h : Heap} {w w' : World} (hw : WR E h w) (hb : Below w.heap.size w w') : Tr E h w E h w' :=
  ⟨hw.of_below hb, fun _ _ h => h, hb.size, hb.os, hb.tape, hb.output, fun r hr _ => hb.block r hr, fun b o p h1 h3 _ => ⟨b, o, p, h1, id, h3, rfl⟩, Nat.le_refl _, fun _ _ => rfl⟩

/-- What a function makes of values without names, where nothing is known of memory, it makes wherever it is called; nothing that was there turns. -/
theorem CallOk.pure {P : Program} {g : Nat} {args : List Value} {v0 : Value} (h : CallOk P g args h0 fun v _ => v = v0) (ha : args.all closedV = true) (hv : closedV v0 = true) (hp : Heap) :
    CallOk P g args hp fun v h' => v = v0 ∧ h' = hp := by
  refine ⟨fun E w cargs hw hargs => ?_⟩
  have hc : cargs = args.toArray := all_closed_eq hargs ha
  have h0args : VRs (fun _ => none) args.toArray cargs := by
    rw [hc]
    refine ⟨rfl, fun i h1 _ => VR.of_closed ?_⟩
    rw [List.all_eq_true] at ha
    exact ha _ (by simp)
  refine (calls_h0 h h0args w).mono fun e w' ⟨v, v', E', h', hq, he, hvr, hb⟩ => ?_
  subst hq
  have := VR.eq_of_closed hv hvr
  subst this
  exact ⟨_, _, E, hp, ⟨rfl, rfl⟩, he, VR.of_closed hv, Tr.of_below hw hb⟩
theorem CallOk.toPure {P : Program} {g : Nat} {args : List Value} {v0 : Value} (h : CallOk P g args h0 fun v _ => v = v0) (ha : args.all closedV = true) (hv : closedV v0 = true) : CallPure P g args v0 :=
  fun hp => h.pure ha hv hp
theorem CallOk.pure0 {P : Program} {g : Nat} {args : List Value} {v0 : Value} (h : CallOk P g args h0 fun v _ => v = v0) (hv : closedV v0 = true) (ha : args.all closedV = true) : ∀ hp, CallOk P g args hp fun v h' => v = v0 ∧ h' = hp :=
  fun hp => h.pure ha hv hp
theorem calls_law {P : Program} {g : Nat} {args : List Value} (h : CallOk P g args h0 fun v _ => v = .bool true) (ha : args.all closedV = true) (w : World) :
    Calls P g args.toArray w fun e w' => e = .returned (.bool true) ∧ Below w.heap.size w w' := by
  refine (calls_h0 h (cargs := args.toArray) ⟨rfl, fun i h1 _ => VR.of_closed ?_⟩ w).mono fun e w' ⟨v, v', E', h', hq, he, hvr, hb⟩ => ?_
  · rw [List.all_eq_true] at ha
    exact ha _ (by simp)
  · subst hq
    have := hvr.bool_inv
    subst this
    exact ⟨he, hb⟩
theorem wf_u32 {a : Int} (h : (Lit.int .u32 a).wf = true) : 0 ≤ a ∧ a < 4294967296 := by
  simp only [Lit.wf, IntKind.min, IntKind.max, IntKind.signed, IntKind.bits, Bool.and_eq_true] at h
  obtain ⟨h1, h2⟩ := h
  simp at h1 h2
  omega
theorem wf_u8 {a : Int} (h : (Lit.int .u8 a).wf = true) : 0 ≤ a ∧ a < 256 := by
  simp only [Lit.wf, IntKind.min, IntKind.max, IntKind.signed, IntKind.bits, Bool.and_eq_true] at h
  obtain ⟨h1, h2⟩ := h
  simp at h1 h2
  omega
theorem wf_u16 {a : Int} (h : (Lit.int .u16 a).wf = true) : 0 ≤ a ∧ a < 65536 := by
  simp only [Lit.wf, IntKind.min, IntKind.max, IntKind.signed, IntKind.bits, Bool.and_eq_true] at h
  obtain ⟨h1, h2⟩ := h
  simp at h1 h2
  omega
theorem wf_i32 {a : Int} (h : (Lit.int .i32 a).wf = true) : -2147483648 ≤ a ∧ a < 2147483648 := by
  simp only [Lit.wf, IntKind.min, IntKind.max, IntKind.signed, IntKind.bits, Bool.and_eq_true] at h
  obtain ⟨h1, h2⟩ := h
  simp at h1 h2
  omega
theorem wf_i64 {a : Int} (h : (Lit.int .i64 a).wf = true) : -9223372036854775808 ≤ a ∧ a < 9223372036854775808 := by
  simp only [Lit.wf, IntKind.min, IntKind.max, IntKind.signed, IntKind.bits, Bool.and_eq_true] at h
  obtain ⟨h1, h2⟩ := h
  simp at h1 h2
  omega
end Go.Ev
