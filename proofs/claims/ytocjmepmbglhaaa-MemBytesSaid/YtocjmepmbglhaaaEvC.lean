/- What each operation makes of named values and objects, and that the machine's operation makes just that. No condition. -/
import Derived.Test.YtocjmepmbglhaaaEvB
namespace Go.Ev

/-- The value of what asks nothing of a world. -/
def pv (P : Program) {α : Type} : Sem α → Option α
  | .pure a => some a
  | .program k => pv P (k P)
  | .mark _ k => pv P k
  | _ => none

theorem pv_run {P : Program} {α : Type} {a : α} (w : World) : ∀ (s : Sem α), pv P s = some a → s.run P w = .ok a w := by
  intro s
  induction s with
  | pure b => intro h; cases h; rfl
  | program k ih => intro h; exact ih P h
  | mark m k ih => intro h; exact ih h
  | _ => intro h; simp [pv] at h

def isAggP (P : Program) (t : TypeId) : Option Bool :=
  match P.underlying t with
  | some (.struct _) => some true
  | some (.array _ _) => some true
  | some _ => some false
  | none => none
def sizeP (P : Program) (t : TypeId) : Option Nat :=
  match P.info? t with
  | some i => some i.size
  | none => none
def bytesP (P : Program) (t : TypeId) : Option Nat :=
  match P.info? t with
  | some i => some i.bytes
  | none => none
def zeroP (P : Program) (t : TypeId) : Option Value :=
  match P.info? t with
  | some i => i.zero
  | none => none

section
variable {P : Program} {w : World}
theorem run_isAgg {t : TypeId} {b : Bool} (h : isAggP P t = some b) : (isAgg t).run P w = .ok b w := by
  unfold isAggP at h
  split at h <;> rename_i hu <;> cases h
  · simp [isAgg, run_underlying hu]
  · simp [isAgg, run_underlying hu]
  · rename_i d h1 h2
    simp only [isAgg, Sem.run_bind, run_underlying hu, Result.andThen_ok]
    rfl
theorem run_sizeP {t : TypeId} {n : Nat} (h : sizeP P t = some n) : (sizeOf t).run P w = .ok n w := by
  unfold sizeP at h
  split at h
  · rename_i i hi
    cases h
    simp [sizeOf, typeInfo, hi]
  · cases h
theorem run_zeroP {t : TypeId} {z : Value} (h : zeroP P t = some z) : (zeroValue t).run P w = .ok z w := by
  unfold zeroP at h
  split at h
  · rename_i i hi
    simp [zeroValue, typeInfo, hi, h]
  · cases h
end

/-! ### load, store -/
def loadV (P : Program) (t : TypeId) (h : Heap) : Value → Option (Bool × Value)
  | .pointer (some ⟨b, o, none⟩) =>
    match h.get b with
    | some (.row _ _ cells) =>
      match isAggP P t with
      | some true =>
        match sizeP P t with
        | some n => some (decide (o + n ≤ cells.length), .agg ⟨(cells.drop o).take n⟩)
        | none => none
      | some false => some (decide (o < cells.length), cells.getD o undef)
      | none => none
    | _ => none
  | _ => none

theorem extract_rel {E : Emap} {cells : List Value} {c : Array Value} {k o n : Nat} (hl : k + cells.length ≤ c.size) (hn : o + n ≤ cells.length)
    (hv : ∀ i, i < cells.length → VR E (cells.getD i undef) (c.getD (k + i) undef)) : VRs E ⟨(cells.drop o).take n⟩ (c.extract (k + o) (k + o + n)) := by
  refine ⟨?_, fun i h1 h2 => ?_⟩
  · have : (⟨(cells.drop o).take n⟩ : Array Value).size = min n (cells.length - o) := by simp
    rw [this]; simp; omega
  · have hi : i < n := by
      have : (⟨(cells.drop o).take n⟩ : Array Value).size = min n (cells.length - o) := by simp
      rw [this] at h1; omega
    have := hv (o + i) (by omega)
    rw [List.getD_eq_getElem?_getD, List.getElem?_eq_getElem (by omega), Array.getD_eq_getD_getElem?, Array.getElem?_eq_getElem (by omega)] at this
    simpa [Nat.add_assoc] using this

theorem loadV_sound {P : Program} {E : Emap} {h : Heap} {w : World} {t : TypeId} {v v' r : Value} (hw : WR E h w) (hl : loadV P t h v = some (true, r)) (hv : VR E v v') :
    ∃ r', (Instr.loadAt t v').run P w = .ok r' w ∧ VR E r r' := by
  unfold loadV at hl
  split at hl
  · rename_i b o
    cases hv with
    | ptr hp =>
      rename_i p
      split at hl
      · rename_i rw_ es cells hb
        obtain ⟨p', hp', c, e, fz, h1, h2, h3, h4⟩ := hw.obj b _ hb
        rw [hp] at hp'; cases hp'
        split at hl
        · rename_i ha
          split at hl
          · rename_i n hn
            simp only [Option.some.injEq, Prod.mk.injEq, decide_eq_true_eq] at hl
            obtain ⟨hle, rfl⟩ := hl
            refine ⟨.agg (c.extract (p.base + o) (p.base + o + n)), ?_, ?_⟩
            · simp only [Instr.loadAt, Instr.sureAddr, Sem.run_bind, Sem.run_pure, Result.andThen_ok, loadVar, run_isAgg ha, run_sizeP hn, if_true]
              rw [run_loadCells h1 (by omega)]
              simp
            · have hx := extract_rel h2 hle h3
              exact .agg hx.1 hx.2
          · cases hl
        · rename_i ha
          simp only [Option.some.injEq, Prod.mk.injEq, decide_eq_true_eq] at hl
          obtain ⟨hle, rfl⟩ := hl
          refine ⟨c.getD (p.base + o) undef, ?_, h3 o hle⟩
          simp only [Instr.loadAt, Instr.sureAddr, Sem.run_bind, Sem.run_pure, Result.andThen_ok, loadVar, run_isAgg ha, Bool.false_eq_true, if_false]
          exact run_load_at h1 (by omega)
        · cases hl
      · cases hl
  · cases hl

def oneC : Value → Bool
  | .agg _ | .tuple _ => false
  | _ => true
theorem oneC_eq (v : Value) : oneC v = v.oneCell' := by cases v <;> rfl

def storeV (P : Program) (t : TypeId) (h : Heap) (addr v : Value) : Option (Bool × Heap) :=
  match addr with
  | .pointer (some ⟨b, o, none⟩) =>
    match h.get b with
    | some (.row true es cells) =>
      match sizeP P t with
      | some n => some (decide (v.cells.toList.length = n) && (decide (o + n ≤ cells.length) && v.cells.toList.all oneC), h.set b (some (.row true es (putAll cells o v.cells.toList))))
      | none => none
    | _ => none
  | _ => none

theorem VRs.getD {E : Emap} {c c' : Array Value} (h : VRs E c c') (i : Nat) : VR E (c.toList.getD i undef) (c'.toList.getD i undef) := by
  rw [List.getD_eq_getElem?_getD, List.getD_eq_getElem?_getD]
  by_cases hi : i < c.size
  · have hi' : i < c'.size := by rw [← h.1]; exact hi
    rw [List.getElem?_eq_getElem (by simpa using hi), List.getElem?_eq_getElem (by simpa using hi')]
    simpa using h.2 i hi hi'
  · have hi' : ¬ i < c'.size := by rw [← h.1]; exact hi
    rw [List.getElem?_eq_none (by simpa using hi), List.getElem?_eq_none (by simpa using hi')]
    exact VR.undef

theorem VR.cells {E : Emap} {v v' : Value} (h : VR E v v') : VRs E v.cells v'.cells := by
  cases h with
  | agg hc hh => exact ⟨hc, hh⟩
  | bool b => exact ⟨rfl, fun i h1 h2 => by simp [Value.cells] at h1; subst h1; exact .bool b⟩
  | int k n => exact ⟨rfl, fun i h1 h2 => by simp [Value.cells] at h1; subst h1; exact .int k n⟩
  | string s => exact ⟨rfl, fun i h1 h2 => by simp [Value.cells] at h1; subst h1; exact .string s⟩
  | ptr0 => exact ⟨rfl, fun i h1 h2 => by simp [Value.cells] at h1; subst h1; exact .ptr0⟩
  | ptr h => exact ⟨rfl, fun i h1 h2 => by simp [Value.cells] at h1; subst h1; exact .ptr h⟩
  | slice0 l c => exact ⟨rfl, fun i h1 h2 => by simp [Value.cells] at h1; subst h1; exact .slice0 l c⟩
  | slice h hl ho => exact ⟨rfl, fun i h1 h2 => by simp [Value.cells] at h1; subst h1; exact .slice h hl ho⟩
  | map0 => exact ⟨rfl, fun i h1 h2 => by simp [Value.cells] at h1; subst h1; exact .map0⟩
  | map h => exact ⟨rfl, fun i h1 h2 => by simp [Value.cells] at h1; subst h1; exact .map h⟩
  | func fn a b c d => exact ⟨rfl, fun i h1 h2 => by simp [Value.cells] at h1; subst h1; exact .func fn a b c d⟩
  | nilFunc => exact ⟨rfl, fun i h1 h2 => by simp [Value.cells] at h1; subst h1; exact .nilFunc⟩
  | nilIface => exact ⟨rfl, fun i h1 h2 => by simp [Value.cells] at h1; subst h1; exact .nilIface⟩
  | iface t h => exact ⟨rfl, fun i h1 h2 => by simp [Value.cells] at h1; subst h1; exact .iface t h⟩
  | tuple a b => exact ⟨rfl, fun i h1 h2 => by simp [Value.cells] at h1; subst h1; exact .tuple a b⟩

theorem oneC_all {E : Emap} {c c' : Array Value} (h : VRs E c c') (ha : c.toList.all oneC = true) : ∀ v ∈ c'.toList, v.oneCell' = true := by
  intro v hv
  obtain ⟨i, hi, rfl⟩ := List.mem_iff_getElem.1 hv
  have hi' : i < c'.size := by simpa using hi
  have hi2 : i < c.size := by rw [h.1]; exact hi'
  have := h.2 i hi2 hi'
  rw [Array.getElem_toList, this.oneCell, ← oneC_eq]
  exact all_at ha i hi2

theorem storeV_sound {P : Program} {E : Emap} {h h' : Heap} {w : World} {t : TypeId} {x x' v v' : Value} (hw : WR E h w) (hl : storeV P t h x v = some (true, h')) (hx : VR E x x') (hv : VR E v v') :
    ∃ w', (Instr.storeAt t x' v').run P w = .ok () w' ∧ Tr E h w E h' w' := by
  unfold storeV at hl
  split at hl
  · rename_i b o
    cases hx with
    | ptr hp =>
      rename_i p
      split at hl
      · rename_i es cells hb
        obtain ⟨p', hp', c, e, fz, h1, h2, h3, h4⟩ := hw.obj b _ hb
        rw [hp] at hp'; cases hp'
        split at hl
        · rename_i n hn
          simp only [Option.some.injEq, Prod.mk.injEq, Bool.and_eq_true, decide_eq_true_eq] at hl
          obtain ⟨⟨hn1, hn2, hn3⟩, rfl⟩ := hl
          have hc := hv.cells
          have hsz : v'.cells.toList.length = v.cells.toList.length := by simpa using hc.1.symm
          obtain ⟨w', r1, r2, r3, r4, r5, r6, r7⟩ := run_storeCells (P := P) (b := p.block) (o := p.base + o) (e := e) (h4 rfl).2 v'.cells.toList 0 w c h1 (by omega) (oneC_all hc hn3)
          have hs2 : v'.cells.size = n := by rw [← hn1, ← hsz]; simp
          refine ⟨w', ?_, Tr.write hw hb rfl hp r2 r3 r4 r5 r6 ?_⟩
          · simp only [Instr.storeAt, Instr.sureAddr, Sem.run_bind, Sem.run_pure, Result.andThen_ok, storeVar, run_sizeP hn]
            rw [if_neg (by simpa using hs2)]
            simpa using r1
          · refine ⟨putAllA c (p.base + o) v'.cells.toList, e, fz, by simpa using r7, by rw [putAll_length, putAllA_size]; exact h2, fun i hi => ?_, fun _ => by rw [putAllA_size]; exact h4 rfl⟩
            rw [putAll_length] at hi
            exact putAll_rel _ _ _ _ _ hsz.symm (fun j => hc.getD j) h2 (by omega) h3 i hi
        · cases hl
      · cases hl
  · cases hl

/-! ### new variables and rows -/
def newRowV (h : Heap) (cells : List Value) (es : Nat) : Heap := h.new (.row true es cells)

theorem newRow_sound {E : Emap} {h : Heap} {w : World} (hw : WR E h w) (elem : TypeId) {cells : List Value} {c : Array Value} (es cap : Nat) (hl : cells.length = c.size)
    (hc : cap * es ≤ c.size) (hv : ∀ i, VR E (cells.getD i undef) (c.getD i undef)) :
    Tr E h w (upd E h.next ⟨w.heap.size, 0, cap⟩) (h.new (.row true es cells)) (w.alloc (.cells c elem)) := by
  refine Tr.new hw _ _ cap ?_
  have hn : E h.next = none := hw.fresh _ (Nat.le_refl _)
  refine ⟨c, elem, (0, 0), ?_, by simp; omega, fun i _ => ?_, fun _ => ⟨by simpa using hc, by simp⟩⟩
  · show (w.heap.push _)[w.heap.size]? = _
    simp
  · simpa using (hv i).mono (upd_ext hn)

theorem VRs.agetD {E : Emap} {c c' : Array Value} (h : VRs E c c') (i : Nat) : VR E (c.toList.getD i undef) (c'.getD i undef) := by
  have := h.getD i
  rwa [show c'.getD i undef = c'.toList.getD i undef from by simp [Array.getD_eq_getD_getElem?, List.getD_eq_getElem?_getD]]

theorem run_newVar {P : Program} {w : World} (t : TypeId) (v : Value) : (newVar t v).run P w = .ok ⟨w.heap.size, 0, none⟩ (w.alloc (.cells v.cells t)) := by
  simp [newVar, newRow, World.alloc_eq]

/-- 'box', 'alloc': a variable with a value. -/
theorem newVar_sound {P : Program} {E : Emap} {h : Heap} {w : World} (hw : WR E h w) (t : TypeId) {v v' : Value} (hv : VR E v v') :
    ∃ E' w', (newVar t v').run P w = .ok ⟨w.heap.size, 0, none⟩ w' ∧ Tr E h w E' (h.new (.row true 1 v.cells.toList)) w' ∧
      VR E' (.pointer (some ⟨h.next, 0, none⟩)) (.pointer (some ⟨w.heap.size, 0, none⟩)) := by
  have hc := hv.cells
  refine ⟨_, _, run_newVar t v', newRow_sound hw t 1 0 (by simpa using hc.1) (by omega) (fun i => hc.agetD i), ?_⟩
  exact VR.ptr (p := ⟨w.heap.size, 0, 0⟩) (upd_same _ _ _)

end Go.Ev
