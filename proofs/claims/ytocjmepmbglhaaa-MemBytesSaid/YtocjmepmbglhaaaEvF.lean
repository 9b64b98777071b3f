/- Slices: made, cut, appended to, copied, counted. No condition. -/
import Derived.Test.YtocjmepmbglhaaaEvE
namespace Go.Ev

def buildSliceV (P : Program) (t : TypeId) (len : Nat) (parts : List (Nat × Value)) (h : Heap) : Option (Bool × Value × Heap) :=
  match P.underlying t with
  | some (.slice elem) =>
    match sizeP P elem, zeroP P elem with
    | some n, some z =>
      match closedV z && (decide (z.cells.toList.length = n) && (decide (0 < n) && decide (len * n ≤ 16777216))) with
      | true =>
        match fillV (fun i => some (i * n, n)) (zerosV z.cells.toList len) parts with
        | some l => some (true, .slice (some ⟨h.next, 0, none⟩) len 0, h.new (.row true n l))
        | none => none
      | false => none
    | _, _ => none
  | _ => none

theorem newRow_sound' {P : Program} {E : Emap} {h : Heap} {w : World} (hw : WR E h w) (elem : TypeId) {cells : List Value} {c : Array Value} (es cap : Nat) (hl : LR E cells c) (hc : cap * es ≤ c.size) :
    ∃ E' w', (newRow elem c).run P w = .ok ⟨w.heap.size, 0, none⟩ w' ∧ Tr E h w E' (h.new (.row true es cells)) w' ∧ E' h.next = some ⟨w.heap.size, 0, cap⟩ := by
  refine ⟨_, _, ?_, newRow_sound hw elem es cap hl.1 hc hl.2, upd_same _ _ _⟩
  simp [newRow, World.alloc_eq]

theorem buildSliceV_sound {P : Program} {E : Emap} {h h' : Heap} {w : World} {t : TypeId} {len : Nat} {ps : List (Nat × Value)} {ps' : Array (Nat × Value)} {r : Value} (hw : WR E h w)
    (hb : buildSliceV P t len ps h = some (true, r, h')) (hp : PartsR E ps ps'.toList) : ∃ E' w' r', (Instr.buildSlice t len ps').run P w = .ok r' w' ∧ VR E' r r' ∧ Tr E h w E' h' w' := by
  unfold buildSliceV at hb
  split at hb
  · rename_i elem hu
    split at hb
    · rename_i n z hn hz
      split at hb
      · rename_i hc
        simp only [Bool.and_eq_true, decide_eq_true_eq] at hc
        obtain ⟨hcl, hzn, hn0, hle⟩ := hc
        split at hb
        · rename_i l hf
          cases hb
          have hzs : z.cells.size = n := by simpa using hzn
          have hz' : LR E (zerosV z.cells.toList len) ((Array.range (len * n)).map (z.cells[· % z.cells.size]!)) := zeros_LR hcl len (by rw [hzs]) (by omega)
          obtain ⟨c, h1, h2⟩ := fillV_sound ps ps'.toList _ l _ hf hz' hp
          have hsz : l.length = len * n := by
            have : ∀ (ps : List (Nat × Value)) (a b : List Value), fillV (fun i => some (i * n, n)) a ps = some b → b.length = a.length := by
              intro ps
              induction ps with
              | nil => intro a b h; cases h; rfl
              | cons p ps ih =>
                intro a b h
                obtain ⟨i, v⟩ := p
                simp only [fillV] at h
                split at h
                · rw [ih _ _ h, putAll_length]
                · cases h
            rw [this _ _ _ hf, zerosV_length, hzn]
          obtain ⟨E', w', e1, e2, e3⟩ := newRow_sound' (P := P) hw elem n len h2 (by rw [← h2.1, hsz]; exact Nat.le_refl _)
          refine ⟨E', w', .slice (some ⟨w.heap.size, 0, none⟩) len len, ?_, ?_, e2⟩
          · simp only [Instr.buildSlice, Sem.run_bind, run_underlying hu, Result.andThen_ok, run_sizeP hn]
            rw [if_neg (by omega)]
            by_cases h0 : len * n = 0
            · have hl0 : len = 0 := by
                rcases Nat.mul_eq_zero.1 h0 with h | h
                · exact h
                · omega
              subst hl0
              have e0 : ∀ f : Nat → Value, (Array.range (0 * n)).map f = #[] := by intro f; simp
              rw [e0] at h1
              rw [if_pos h0]
              simp only [Sem.run_pure, Result.andThen_ok, e0, h1, Sem.run_bind, e1]
            · rw [if_neg h0]
              simp only [Sem.run_bind, run_zeroP hz, Result.andThen_ok, Sem.run_pure, h1, e1]
          · have : capOf (⟨w.heap.size, 0, len⟩ : Place) 0 = len := by simp [capOf, noCap]
            have v := VR.slice (E := E') (o := 0) (o' := 0) (l := len) (c := 0) e3 (by rw [this]; exact Nat.le_refl _) (fun _ => rfl)
            rwa [this] at v
        · cases hb
      · cases hb
    · cases hb
  · cases hb

def makeSliceV (P : Program) (t : TypeId) (len cap : Value) (h : Heap) : Option (Bool × Value × Heap) :=
  match len, cap with
  | .int _ l, .int _ c =>
    match P.underlying t with
    | some (.slice elem) =>
      match sizeP P elem, zeroP P elem, bytesP P elem with
      | some n, some z, some by_ =>
        match closedV z && (decide (z.cells.toList.length = n) && decide (0 < n)) with
        | true => some (decide (0 ≤ l ∧ l ≤ c ∧ c ≤ 281474976710656 ∧ (by_ : Int) * c ≤ 281474976710656), .slice (some ⟨h.next, 0, none⟩) l.toNat 0, h.new (.row true n (zerosV z.cells.toList c.toNat)))
        | false => none
      | _, _, _ => none
    | _ => none
  | _, _ => none

theorem makeSliceV_sound {P : Program} {E : Emap} {h h' : Heap} {w : World} {t : TypeId} {len cap len' cap' r : Value} (hw : WR E h w)
    (hb : makeSliceV P t len cap h = some (true, r, h')) (hl : VR E len len') (hcap : VR E cap cap') : ∃ E' w' r', (Instr.makeSlice t len' cap').run P w = .ok r' w' ∧ VR E' r r' ∧ Tr E h w E' h' w' := by
  unfold makeSliceV at hb
  split at hb
  · rename_i k1 l k2 c
    cases hl; cases hcap
    split at hb
    · rename_i elem hu
      split at hb
      · rename_i n z by_ hn hz hby
        split at hb
        · rename_i hc
          simp only [Bool.and_eq_true, decide_eq_true_eq] at hc
          obtain ⟨hcl, hzn, hn0⟩ := hc
          simp only [Option.some.injEq, Prod.mk.injEq, decide_eq_true_eq] at hb
          obtain ⟨⟨h0, hlc, hc1, hc2⟩, rfl, rfl⟩ := hb
          have hzs : z.cells.size = n := by simpa using hzn
          have hz' : LR E (zerosV z.cells.toList c.toNat) ((Array.range (c.toNat * n)).map (z.cells[· % z.cells.size]!)) := zeros_LR hcl c.toNat (by rw [hzs]) (by omega)
          obtain ⟨E', w', e1, e2, e3⟩ := newRow_sound' (P := P) hw elem n c.toNat hz' (by simp)
          have wl : IntKind.i64.wrap l = l := by simp [IntKind.wrap, IntKind.bits, IntKind.signed]; omega
          have wc : IntKind.i64.wrap c = c := by simp [IntKind.wrap, IntKind.bits, IntKind.signed]; omega
          have hti : (typeInfo elem).run P w = .ok ((P.info? elem).getD default) w ∧ ((P.info? elem).getD default).bytes = by_ := by
            unfold bytesP at hby
            split at hby
            · rename_i i hi
              cases hby
              simp [typeInfo, hi]
            · cases hby
          refine ⟨E', w', .slice (some ⟨w.heap.size, 0, none⟩) l.toNat c.toNat, ?_, ?_, e2⟩
          · simp only [Instr.makeSlice, Sem.run_bind, run_underlying hu, Result.andThen_ok, asInt, asIntOf, Sem.run_pure, hti.1, hti.2, wl, wc]
            have t1 : (decide (c < 0) || decide ((by_ : Int) * c > 2 ^ 48)) = false := by
              simp only [Bool.or_eq_false_iff, decide_eq_false_iff_not]; omega
            have t2 : decide (l < 0) = false := by simp only [decide_eq_false_iff_not]; omega
            have t3 : decide (l > c) = false := by simp only [decide_eq_false_iff_not]; omega
            simp only [t1, t2, t3, Bool.or_self, Bool.false_eq_true, if_false, Sem.run_bind, Result.andThen_ok, run_askRoom, run_sizeP hn]
            by_cases h0 : c.toNat * n = 0
            · have hl0 : c.toNat = 0 := by
                rcases Nat.mul_eq_zero.1 h0 with h | h
                · exact h
                · omega
              rw [if_pos h0]
              have e0 : ∀ f : Nat → Value, (Array.range (c.toNat * n)).map f = #[] := by intro f; simp [h0]
              rw [e0] at e1
              simp only [Sem.run_pure, Result.andThen_ok, e0, Sem.run_bind, e1]
            · rw [if_neg h0]
              simp only [Sem.run_bind, run_zeroP hz, Result.andThen_ok, Sem.run_pure, e1]
          · have : capOf (⟨w.heap.size, 0, c.toNat⟩ : Place) 0 = c.toNat := by simp [capOf, noCap]
            have v := VR.slice (E := E') (o := 0) (o' := 0) (l := l.toNat) (c := 0) e3 (by rw [this]; omega) (fun _ => rfl)
            rwa [this] at v
        · cases hb
      · cases hb
    · cases hb
  · cases hb

/-! ### cut -/
def intOr (d : Nat) : Option Value → Option Int
  | none => some d
  | some (.int _ n) => some n
  | some _ => none

def sliceV (P : Program) (t : TypeId) (x : Value) (lo hi mx : Option Value) : Option (Bool × Value) :=
  match P.underlying t, x with
  | some .string, .string s =>
    match intOr 0 lo, intOr s.size hi, mx with
    | some a, some b, none => some (decide (0 ≤ a ∧ a ≤ b ∧ b ≤ (s.size : Int)), .string (s.extract a.toNat b.toNat))
    | _, _, _ => none
  | some (.slice elem), .slice base l c =>
    match sizeP P elem with
    | some n =>
      match intOr 0 lo, intOr l hi, mx with
      | some a, some b, none =>
        match base with
        | some ⟨r, o, none⟩ => some (decide (0 ≤ a ∧ a ≤ b ∧ b ≤ (l : Int) ∧ (c : Int) + a < 18446744073709551616), .slice (some ⟨r, o + a.toNat * n, none⟩) (b - a).toNat (c + a.toNat))
        | none => some (decide (a = 0 ∧ b = 0 ∧ l = 0 ∧ c = 0), .slice none 0 0)
        | _ => none
      | some 0, some 0, some (.int _ 0) =>
        match base with
        | some ⟨r, o, none⟩ => some (decide (lo = none ∧ hi.isSome = true), .slice (some ⟨r, o, none⟩) 0 noCap)
        | none => some (decide (lo = none ∧ hi.isSome = true ∧ l = 0 ∧ c = 0), .slice none 0 0)
        | _ => none
      | _, _, _ => none
    | none => none
  | _, _ => none

/-- Two operands that may be missing. -/
inductive OR (E : Emap) : Option Value → Option Value → Prop
  | none : OR E none none
  | some {v v' : Value} (h : VR E v v') : OR E (some v) (some v')

theorem intOr_sound {E : Emap} {d : Nat} {x x' : Option Value} {n : Int} (h : intOr d x = some n) (hx : OR E x x') : (x = none ∧ x' = none ∧ n = d) ∨ ∃ k, x = some (.int k n) ∧ x' = some (.int k n) := by
  cases hx with
  | none => cases h; exact .inl ⟨rfl, rfl, rfl⟩
  | some hv =>
    rename_i v v'
    cases v <;> simp [intOr] at h
    subst h
    cases hv
    exact .inr ⟨_, rfl, rfl⟩

theorem run_sliceBound {P : Program} {w : World} {k : IntKind} {i : Int} {y : Nat} {code : BoundsCode} (h0 : 0 ≤ i) (h1 : i ≤ y) : (Instr.sliceBound (.int k i) y code).run P w = .ok i.toNat w := by
  simp [Instr.sliceBound, asIntOf, h0, h1]

theorem run_bounds {P : Program} {E : Emap} {w : World} {isS : Bool} {len cap : Nat} {lo hi lo' hi' : Option Value} {a b : Int} (ha : intOr 0 lo = some a) (hb : intOr len hi = some b) (hl : OR E lo lo') (hh : OR E hi hi')
    (h0 : 0 ≤ a) (h1 : a ≤ b) (h2 : b ≤ (cap : Int)) : (Instr.sliceBounds isS len cap lo' hi' none).run P w = .ok (a.toNat, b.toNat, cap) w := by
  rcases intOr_sound ha hl with ⟨rfl, rfl, rfl⟩ | ⟨k, rfl, rfl⟩
  · rcases intOr_sound hb hh with ⟨rfl, rfl, rfl⟩ | ⟨k, rfl, rfl⟩
    · simp [Instr.sliceBounds]
    · simp [Instr.sliceBounds, run_sliceBound (show 0 ≤ b by omega) h2]
  · rcases intOr_sound hb hh with ⟨rfl, rfl, rfl⟩ | ⟨k, rfl, rfl⟩
    · simp [Instr.sliceBounds, run_sliceBound h0 (show a ≤ (len : Int) from h1)]
    · simp only [Instr.sliceBounds, Sem.run_bind, Sem.run_pure, Result.andThen_ok, run_sliceBound (show 0 ≤ b by omega) h2]
      rw [run_sliceBound h0 (show a ≤ ((b.toNat : Nat) : Int) by omega)]
      simp

theorem sliceV_sound {P : Program} {E : Emap} {w : World} {t : TypeId} {x x' r : Value} {lo hi mx lo' hi' mx' : Option Value} (h : sliceV P t x lo hi mx = some (true, r)) (hx : VR E x x')
    (hl : OR E lo lo') (hh : OR E hi hi') (hm : OR E mx mx') : ∃ r', (Instr.sliceAt t x' lo' hi' mx').run P w = .ok r' w ∧ VR E r r' := by
  unfold sliceV at h
  split at h
  · rename_i s hu
    cases hx
    split at h
    · rename_i a b ha hb
      cases hm
      simp only [Option.some.injEq, Prod.mk.injEq, decide_eq_true_eq] at h
      obtain ⟨⟨h0, h1, h2⟩, rfl⟩ := h
      refine ⟨_, ?_, .string _⟩
      simp only [Instr.sliceAt, Instr.slice, Sem.run_bind, run_underlying hu, Result.andThen_ok]
      simp [run_bounds (P := P) (w := w) (isS := false) ha hb hl hh h0 h1 h2]
    · cases h
  · rename_i elem base l c hu
    split at h
    · rename_i n hn
      split at h
      · rename_i a b ha hb
        cases hm
        split at h
        · rename_i rr o
          simp only [Option.some.injEq, Prod.mk.injEq, decide_eq_true_eq] at h
          obtain ⟨⟨h0, h1, h2, h3⟩, rfl⟩ := h
          cases hx with
          | slice hp hle ho =>
            rename_i o' p
            have hb2 : b ≤ ((capOf p c : Nat) : Int) := by omega
            refine ⟨.slice (if capOf p c = a.toNat then some ⟨p.block, o', none⟩ else (some (⟨p.block, o', none⟩ : Addr)).map (·.add (a.toNat * n))) (b.toNat - a.toNat) (capOf p c - a.toNat), ?_, ?_⟩
            · simp only [Instr.sliceAt, Instr.slice, Sem.run_bind, run_underlying hu, Result.andThen_ok]
              rw [run_bounds (P := P) (w := w) (isS := true) ha hb hl hh h0 h1 hb2]
              simp only [Result.andThen_ok, run_sizeP hn, Sem.run_pure]
            · have hc : capOf p (c + a.toNat) = capOf p c - a.toNat := by
                unfold capOf noCap
                rw [if_neg (by omega), if_neg (by omega)]
                omega
              rw [← hc, show b.toNat - a.toNat = (b - a).toNat from by omega]
              split
              · rename_i he
                refine VR.slice hp (by rw [hc]; omega) (fun hz => absurd hz (by rw [hc]; omega))
              · rename_i he
                simp only [Option.map_some, add_none]
                exact VR.slice hp (by rw [hc]; omega) (fun hz => by rw [ho (by rw [hc] at hz; omega)]; omega)
        · simp only [Option.some.injEq, Prod.mk.injEq, decide_eq_true_eq] at h
          obtain ⟨⟨rfl, rfl, rfl, rfl⟩, rfl⟩ := h
          cases hx
          refine ⟨.slice none 0 0, ?_, .slice0 0 0⟩
          simp only [Instr.sliceAt, Instr.slice, Sem.run_bind, run_underlying hu, Result.andThen_ok]
          rw [run_bounds (P := P) (w := w) (isS := true) ha hb hl hh (by omega) (by omega) (by omega)]
          simp [run_sizeP hn]
        · cases h
      · rename_i k ha hb
        split at h
        · rename_i rr o
          simp only [Option.some.injEq, Prod.mk.injEq, decide_eq_true_eq] at h
          obtain ⟨⟨rfl, hsm⟩, rfl⟩ := h
          cases hl
          cases hm with
          | some hmv =>
            cases hmv
            cases hx with
            | slice hp hle ho =>
              rename_i o' p
              have hc : capOf p noCap = 0 := by simp [capOf]
              have v := VR.slice (E := E) (o := o) (o' := o') (l := 0) (c := noCap) hp (by omega) (fun hz => absurd hc hz)
              rw [hc] at v
              refine ⟨_, ?_, v⟩
              have hh2 : ∃ k2, hi' = some (.int k2 0) := by
                rcases intOr_sound hb hh with ⟨rfl, rfl, hz⟩ | ⟨k2, rfl, rfl⟩
                · simp at hsm
                · exact ⟨_, rfl⟩
              obtain ⟨k2, rfl⟩ := hh2
              simp only [Instr.sliceAt, Instr.slice, Sem.run_bind, run_underlying hu, Result.andThen_ok, Instr.sliceBounds, run_sliceBound (show (0:Int) ≤ 0 by omega) (show (0:Int) ≤ ((capOf p c : Nat) : Int) by omega), Sem.run_pure, Int.toNat_zero,
                run_sliceBound (show (0:Int) ≤ 0 by omega) (show (0:Int) ≤ ((0 : Nat) : Int) by omega), run_sizeP hn, if_true, Nat.sub_self]
        · simp only [Option.some.injEq, Prod.mk.injEq, decide_eq_true_eq] at h
          obtain ⟨⟨rfl, hsm, rfl, rfl⟩, rfl⟩ := h
          cases hl
          cases hm with
          | some hmv =>
            cases hmv
            cases hx
            refine ⟨.slice none 0 0, ?_, .slice0 0 0⟩
            have hh2 : ∃ k2, hi' = some (.int k2 0) := by
              rcases intOr_sound hb hh with ⟨rfl, rfl, hz⟩ | ⟨k2, rfl, rfl⟩
              · simp at hsm
              · exact ⟨_, rfl⟩
            obtain ⟨k2, rfl⟩ := hh2
            simp only [Instr.sliceAt, Instr.slice, Sem.run_bind, run_underlying hu, Result.andThen_ok, Instr.sliceBounds, run_sliceBound (show (0:Int) ≤ 0 by omega) (show (0:Int) ≤ ((0 : Nat) : Int) by omega), Sem.run_pure, Int.toNat_zero, run_sizeP hn, if_true, Nat.sub_self]
        · cases h
      · cases h
    · cases h
  · cases h

end Go.Ev
