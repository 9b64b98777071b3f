/- Rows that are made: structs, slices, append, copy. No condition. -/
import Derived.Test.YtocjmepmbglhaaaEvD
namespace Go.Ev

/-! ### build -/
def rowPut (cells : List Value) (off : Nat) (vs : List Value) : List Value := putAll cells off vs

def fillV (place : Nat → Option (Nat × Nat)) (cells : List Value) : List (Nat × Value) → Option (List Value)
  | [] => some cells
  | (i, v) :: rest =>
    match place i with
    | none => none
    | some (off, size) =>
      match decide (v.cells.toList.length = size) && decide (off + v.cells.toList.length ≤ cells.length) with
      | true => fillV place (putAll cells off v.cells.toList) rest
      | false => none

theorem foldl_put (vs : List Value) : ∀ (c : Array Value) (off k : Nat), (vs.zipIdx k).foldl (fun cs (c, j) => cs.setIfInBounds (off + j) c) c = putAllA c (off + k) vs := by
  induction vs with
  | nil => intro c off k; rfl
  | cons v vs ih =>
    intro c off k
    simp only [List.zipIdx_cons, List.foldl_cons, putAllA]
    rw [ih]
    rfl

theorem afoldl_put (vs : Array Value) (c : Array Value) (off : Nat) : vs.zipIdx.foldl (fun cs (c, j) => cs.setIfInBounds (off + j) c) c = putAllA c off vs.toList := by
  rw [← Array.foldl_toList, Array.toList_zipIdx]
  exact foldl_put vs.toList c off 0

/-- A list of values and a row of the machine's, cell by cell. -/
def LR (E : Emap) (l : List Value) (c : Array Value) : Prop := l.length = c.size ∧ ∀ i, VR E (l.getD i undef) (c.getD i undef)
theorem LR.of_VRs {E : Emap} {c c' : Array Value} (h : VRs E c c') : LR E c.toList c' := ⟨by simpa using h.1, fun i => h.agetD i⟩
theorem LR.to_VRs {E : Emap} {l : List Value} {c : Array Value} (h : LR E l c) : VRs E ⟨l⟩ c := by
  refine ⟨h.1, fun i h1 h2 => ?_⟩
  have := h.2 i
  rw [List.getD_eq_getElem?_getD, List.getElem?_eq_getElem (by simpa using h1), Array.getD_eq_getD_getElem?, Array.getElem?_eq_getElem h2] at this
  simpa using this
theorem LR.mono {E E' : Emap} (he : ∀ b p, E b = some p → E' b = some p) {l : List Value} {c : Array Value} (h : LR E l c) : LR E' l c := ⟨h.1, fun i => (h.2 i).mono he⟩

theorem LR.putAll {E : Emap} {l : List Value} {c : Array Value} (h : LR E l c) {vs : List Value} {vs' : Array Value} (hv : LR E vs vs') {o : Nat} (ho : o + vs.length ≤ l.length) :
    LR E (putAll l o vs) (putAllA c o vs'.toList) := by
  refine ⟨by rw [putAll_length, putAllA_size]; exact h.1, fun i => ?_⟩
  by_cases hi : i < l.length
  · have := putAll_rel (E := E) (k := 0) vs vs'.toList l c o (by simpa using hv.1) (fun j => by
      have := hv.2 j
      rwa [show vs'.toList.getD j undef = vs'.getD j undef from by simp [Array.getD_eq_getD_getElem?, List.getD_eq_getElem?_getD]]) (by have := h.1; omega) ho (fun j _ => by simpa using h.2 j) i hi
    simpa using this
  · rw [List.getD_eq_getElem?_getD, List.getElem?_eq_none (by rw [putAll_length]; omega), Array.getD_eq_getD_getElem?, Array.getElem?_eq_none (by rw [putAllA_size, ← h.1]; omega)]
    exact VR.undef

inductive PartsR (E : Emap) : List (Nat × Value) → List (Nat × Value) → Prop
  | nil : PartsR E [] []
  | cons {i : Nat} {v v' : Value} {ps ps' : List (Nat × Value)} (h : VR E v v') (hs : PartsR E ps ps') : PartsR E ((i, v) :: ps) ((i, v') :: ps')

theorem fillV_sound {E : Emap} {place : Nat → Option (Nat × Nat)} : ∀ (ps ps' : List (Nat × Value)) (l r : List Value) (c : Array Value), fillV place l ps = some r → LR E l c →
    PartsR E ps ps' → ∃ r', Instr.fill place c ps' = some r' ∧ LR E r r' := by
  intro ps
  induction ps with
  | nil => intro ps' l r c h hl hp; cases hp; cases h; exact ⟨c, rfl, hl⟩
  | cons p ps ih =>
    intro ps' l r c h hl hp
    cases hp with
    | cons hv hps =>
      rename_i i v v' qs
      simp only [fillV] at h
      split at h
      · cases h
      · rename_i off size hpl
        split at h
        · rename_i hc
          simp only [Bool.and_eq_true, decide_eq_true_eq] at hc
          have hcs := LR.of_VRs hv.cells
          have hsz : v'.cells.size = v.cells.toList.length := hcs.1.symm
          obtain ⟨r', h1, h2⟩ := ih qs _ r _ h (hl.putAll hcs hc.2) hps
          refine ⟨r', ?_, h2⟩
          simp only [Instr.fill, hpl]
          rw [if_neg (by simp only [Bool.or_eq_true, decide_eq_true_eq]; have := hl.1; omega), afoldl_put]
          exact h1
        · cases h

def placesP (P : Program) : List Field → Option (List (Nat × Nat))
  | [] => some []
  | f :: fs =>
    match sizeP P f.type, placesP P fs with
    | some n, some r => some ((f.offset, n) :: r)
    | _, _ => none

theorem placesP_sound {P : Program} {w : World} : ∀ (fs : List Field) (r : List (Nat × Nat)), placesP P fs = some r →
    (fs.mapM fun f => do pure (f.offset, ← sizeOf f.type) : Sem (List (Nat × Nat))).run P w = .ok r w := by
  intro fs
  induction fs with
  | nil => intro r h; cases h; rfl
  | cons f fs ih =>
    intro r h
    simp only [placesP] at h
    split at h
    · rename_i n r' hn hr
      cases h
      simp only [List.mapM_cons, Sem.run_bind, run_sizeP hn, Result.andThen_ok, Sem.run_pure, ih r' hr]
    · cases h

def buildV (P : Program) (t : TypeId) (parts : List (Nat × Value)) : Option Value :=
  match zeroP P t with
  | some z =>
    match closedV z, P.underlying t with
    | true, some (.struct fields) =>
      match placesP P fields.toList with
      | some pl =>
        match fillV (fun i => pl[i]?) z.cells.toList parts with
        | some l => some (.agg ⟨l⟩)
        | none => none
      | none => none
    | true, some (.array _ elem) =>
      match sizeP P elem with
      | some n =>
        match fillV (fun i => some (i * n, n)) z.cells.toList parts with
        | some l => some (.agg ⟨l⟩)
        | none => none
      | none => none
    | _, _ => none
  | none => none

theorem buildV_sound {P : Program} {E : Emap} {w : World} {t : TypeId} {ps : List (Nat × Value)} {ps' : Array (Nat × Value)} {r : Value} (h : buildV P t ps = some r)
    (hp : PartsR E ps ps'.toList) : ∃ r', (Instr.build t ps').run P w = .ok r' w ∧ VR E r r' := by
  unfold buildV at h
  split at h
  · rename_i z hz
    split at h
    · rename_i fields hc hu
      split at h
      · rename_i pl hpl
        split at h
        · rename_i l hf
          cases h
          have hz' : LR E z.cells.toList z.cells := LR.of_VRs (VR.of_closed hc).cells
          obtain ⟨r', h1, h2⟩ := fillV_sound ps ps'.toList _ l _ hf hz' hp
          refine ⟨.agg r', ?_, ?_⟩
          · have hm : (fields.mapM fun f => do pure (f.offset, ← sizeOf f.type) : Sem (Array (Nat × Nat))).run P w = .ok ⟨pl⟩ w := by
              have e : (fields.mapM fun f => do pure (f.offset, ← sizeOf f.type) : Sem (Array (Nat × Nat))) = (do return (← (fields.toList.mapM fun f => do pure (f.offset, ← sizeOf f.type))).toArray) := by
                rw [Array.mapM_eq_mapM_toList]; rfl
              rw [e]
              simp only [Sem.run_bind, placesP_sound _ _ hpl, Result.andThen_ok, Sem.run_pure]
            simp only [Instr.build, Sem.run_bind, run_zeroP hz, Result.andThen_ok, run_underlying hu]
            rw [hm]
            simp only [Result.andThen_ok]
            rw [show (fun x => (⟨pl⟩ : Array (Nat × Nat))[x]?) = fun i => pl[i]? from by funext i; simp]
            simp only [h1, Sem.run_pure]
          · have := h2.to_VRs
            exact .agg this.1 this.2
        · cases h
      · cases h
    · rename_i n0 elem hc hu
      split at h
      · rename_i n hn
        split at h
        · rename_i l hf
          cases h
          have hz' : LR E z.cells.toList z.cells := LR.of_VRs (VR.of_closed hc).cells
          obtain ⟨r', h1, h2⟩ := fillV_sound ps ps'.toList _ l _ hf hz' hp
          refine ⟨.agg r', ?_, ?_⟩
          · simp only [Instr.build, Sem.run_bind, run_zeroP hz, Result.andThen_ok, run_underlying hu, run_sizeP hn, h1, Sem.run_pure]
          · have := h2.to_VRs
            exact .agg this.1 this.2
        · cases h
      · cases h
    · cases h
  · cases h

/-! ### slices that are made -/
def zerosV (z : List Value) (n : Nat) : List Value :=
  match z with
  | [a] => List.replicate n a
  | _ => (List.range (n * z.length)).map fun i => z.getD (i % z.length) undef

theorem zerosV_length (z : List Value) (n : Nat) : (zerosV z n).length = n * z.length := by
  unfold zerosV; split <;> simp

theorem zerosV_getD (z : List Value) (n i : Nat) (h : i < n * z.length) : (zerosV z n).getD i undef = z.getD (i % z.length) undef := by
  unfold zerosV
  split
  · simp only [List.length_singleton, Nat.mul_one] at h
    simp [List.getD_eq_getElem?_getD, h, Nat.mod_one]
  · simp [List.getD_eq_getElem?_getD, h]

theorem zeros_LR {E : Emap} {z : Value} (hz : closedV z = true) (n : Nat) {m : Nat} (hm : m = n * z.cells.size) (h0 : z.cells.size ≠ 0) :
    LR E (zerosV z.cells.toList n) ((Array.range m).map (z.cells[· % z.cells.size]!)) := by
  subst hm
  refine ⟨by rw [zerosV_length]; simp, fun i => ?_⟩
  by_cases hi : i < n * z.cells.size
  · rw [zerosV_getD _ _ _ (by simpa using hi)]
    have hlt : i % z.cells.size < z.cells.size := Nat.mod_lt _ (by omega)
    have e2 : ((Array.range (n * z.cells.size)).map (z.cells[· % z.cells.size]!)).getD i undef = z.cells.getD (i % z.cells.size) undef := by
      rw [Array.getD_eq_getD_getElem?, Array.getElem?_eq_getElem (by simpa using hi), Array.getD_eq_getD_getElem?, Array.getElem?_eq_getElem hlt]
      simp [hlt]
    rw [e2]
    simpa using (LR.of_VRs (VR.of_closed hz).cells).2 (i % z.cells.size)
  · rw [List.getD_eq_getElem?_getD, List.getElem?_eq_none (by rw [zerosV_length]; simpa using hi), Array.getD_eq_getD_getElem?, Array.getElem?_eq_none (by simp; omega)]
    exact VR.undef

end Go.Ev
