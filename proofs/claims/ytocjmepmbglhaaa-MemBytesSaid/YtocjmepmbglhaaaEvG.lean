/- append, copy, len over named rows. No condition. -/
import Derived.Test.YtocjmepmbglhaaaEvF
namespace Go.Ev

/-- The first cells of what is appended or copied. -/
def firstV (size : Nat) (h : Heap) : Value → Option (Bool × Nat × List Value)
  | .slice none n _ => some (decide (n = 0), 0, [])
  | .slice (some ⟨b, o, none⟩) n _ =>
    match h.get b with
    | some (.row _ _ cells) => some (decide (o + n * size ≤ cells.length), n, (cells.drop o).take (n * size))
    | _ => none
  | .string s => some (decide (size = 1), s.size, s.data.toList.map fun b => .int .u8 b.toNat)
  | _ => none

theorem LR.nil {E : Emap} : LR E [] #[] := ⟨rfl, fun i => by simpa using VR.undef⟩

theorem LR.take {E : Emap} {l : List Value} {c : Array Value} (h : LR E l c) (n : Nat) : LR E (l.take n) (c.extract 0 n) := by
  refine ⟨by simp [h.1], fun i => ?_⟩
  have := h.2 i
  have hl := h.1
  by_cases hi : i < n ∧ i < l.length
  · rw [List.getD_eq_getElem?_getD, List.getElem?_take, if_pos hi.1, ← List.getD_eq_getElem?_getD]
    rw [Array.getD_eq_getD_getElem?, Array.getElem?_extract, if_pos (by omega), ← Array.getD_eq_getD_getElem?]
    simpa using this
  · rw [List.getD_eq_getElem?_getD, List.getElem?_eq_none (by simp; omega), Array.getD_eq_getD_getElem?, Array.getElem?_eq_none (by simp; omega)]
    exact VR.undef

theorem LR.append {E : Emap} {l m : List Value} {c d : Array Value} (h : LR E l c) (k : LR E m d) : LR E (l ++ m) (c ++ d) := by
  refine ⟨by simp [h.1, k.1], fun i => ?_⟩
  have h1 := h.2 i
  have h2 := k.2 (i - c.size)
  have hl := h.1
  simp only [List.getD_eq_getElem?_getD, Array.getD_eq_getD_getElem?, List.getElem?_append, Array.getElem?_append] at *
  rw [hl]
  split
  · exact h1
  · exact h2

theorem LR.extract {E : Emap} {cells : List Value} {c : Array Value} {k o n : Nat} (hl : k + cells.length ≤ c.size) (hn : o + n ≤ cells.length)
    (hv : ∀ i, i < cells.length → VR E (cells.getD i undef) (c.getD (k + i) undef)) : LR E ((cells.drop o).take n) (c.extract (k + o) (k + o + n)) := by
  have := extract_rel (E := E) hl hn hv
  refine ⟨this.1, fun i => ?_⟩
  exact this.agetD i

theorem firstV_len {size : Nat} {h : Heap} {x : Value} {n : Nat} {xs : List Value} (hf : firstV size h x = some (true, n, xs)) : xs.length = n * size := by
  unfold firstV at hf
  split at hf
  · simp only [Option.some.injEq, Prod.mk.injEq, decide_eq_true_eq] at hf
    obtain ⟨_, rfl, rfl⟩ := hf
    simp
  · split at hf
    · simp only [Option.some.injEq, Prod.mk.injEq, decide_eq_true_eq] at hf
      obtain ⟨h1, rfl, rfl⟩ := hf
      simp; omega
    · cases hf
  · simp only [Option.some.injEq, Prod.mk.injEq, decide_eq_true_eq] at hf
    obtain ⟨rfl, rfl, rfl⟩ := hf
    rw [List.length_map, Array.length_toList, Nat.mul_one]
    rfl
  · cases hf

theorem firstV_sound {P : Program} {E : Emap} {h : Heap} {w : World} {size : Nat} {x x' : Value} {n : Nat} {xs : List Value} (hw : WR E h w) (hf : firstV size h x = some (true, n, xs)) (hx : VR E x x') :
    (Builtin.lenOf x').run P w = .ok n w ∧ ∃ c, LR E xs c ∧ ∀ m k, m ≤ n → (Builtin.firstCells size m x').run P { w with drawn := k } = .ok (c.extract 0 (m * size)) { w with drawn := k } := by
  unfold firstV at hf
  split at hf
  · rename_i l cc
    simp only [Option.some.injEq, Prod.mk.injEq, decide_eq_true_eq] at hf
    obtain ⟨rfl, rfl, rfl⟩ := hf
    cases hx
    exact ⟨rfl, #[], LR.nil, fun m k hm => by simp [Builtin.firstCells]⟩
  · rename_i b o l cc
    split at hf
    · rename_i rw_ es cells hb
      simp only [Option.some.injEq, Prod.mk.injEq, decide_eq_true_eq] at hf
      obtain ⟨h1, rfl, rfl⟩ := hf
      cases hx with
      | slice hp hle ho =>
        rename_i o' p
        obtain ⟨p', hp', c, e, fz, g1, g2, g3, g4⟩ := hw.obj b _ hb
        rw [hp] at hp'; cases hp'
        refine ⟨rfl, c.extract (p.base + o) (p.base + o + l * size), LR.extract g2 h1 g3, fun m k hm => ?_⟩
        simp only [Builtin.firstCells]
        by_cases h0 : capOf p cc = 0
        · have hl0 : l = 0 := by omega
          have hm0 : m = 0 := by omega
          subst hm0
          simp [loadCells, loadCellsFrom]
        · have := ho h0
          subst this
          have hle2 : m * size ≤ l * size := Nat.mul_le_mul_right _ hm
          rw [run_loadCells (w := { w with drawn := k }) g1 (by omega)]
          congr 1
          rw [Array.extract_extract]
          congr 1
          omega
    · cases hf
  · rename_i s
    simp only [Option.some.injEq, Prod.mk.injEq, decide_eq_true_eq] at hf
    obtain ⟨rfl, rfl, rfl⟩ := hf
    cases hx
    refine ⟨rfl, s.data.map fun b => .int .u8 b.toNat, ?_, fun m k hm => ?_⟩
    · refine ⟨by simp, fun i => ?_⟩
      rw [List.getD_eq_getElem?_getD, Array.getD_eq_getD_getElem?, List.getElem?_map, Array.getElem?_map, Array.getElem?_toList]
      cases s.data[i]? with
      | none => exact VR.undef
      | some b => exact .int _ _
    · simp only [Builtin.firstCells, Sem.run_pure, Nat.mul_one]
      congr 1
      simp [ByteArray.extract, ByteArray.copySlice]
  · cases hf

end Go.Ev
