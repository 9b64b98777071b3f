/- The ground of a small evaluator of Go's loaded code over a heap of named objects: values with names, how they stand to a world, steps of a world. No condition. -/
import Derived.Tactics
import Derived.Orders
import Derived.Below
import Derived.KernelRfl
namespace Go.Ev
open Go.RowKit

/-- Where an object lies: its block, the offset of its first cell, how many elements there is room for. -/
structure Place where
  block : Nat
  base : Nat
  cap : Nat

abbrev Emap := Nat → Option Place

/-- A slice whose start is told as this has no room at all. -/
def noCap : Nat := 18446744073709551616
def capOf (p : Place) (c : Nat) : Nat := if c = noCap then 0 else p.cap - c

/-- The named value `v` is the machine's value `v'` where names lie as `E` tells. -/
inductive VR (E : Emap) : Value → Value → Prop
  | bool (b : Bool) : VR E (.bool b) (.bool b)
  | int (k : IntKind) (n : Int) : VR E (.int k n) (.int k n)
  | string (s : ByteArray) : VR E (.string s) (.string s)
  | ptr0 : VR E (.pointer none) (.pointer none)
  | ptr {b o : Nat} {p : Place} (h : E b = some p) : VR E (.pointer (some ⟨b, o, none⟩)) (.pointer (some ⟨p.block, p.base + o, none⟩))
  | slice0 (l c : Nat) : VR E (.slice none l c) (.slice none l c)
  | slice {b o o' l c : Nat} {p : Place} (h : E b = some p) (hl : l ≤ capOf p c) (ho : capOf p c ≠ 0 → o' = p.base + o) : VR E (.slice (some ⟨b, o, none⟩) l c) (.slice (some ⟨p.block, o', none⟩) l (capOf p c))
  | map0 : VR E (.map none) (.map none)
  | map {r : Nat} {p : Place} (h : E r = some p) : VR E (.map (some r)) (.map (some p.block))
  | func (fn : Fn) {a a' c c' : Array Value} (ha : a.size = a'.size) (h : ∀ i (h1 : i < a.size) (h2 : i < a'.size), VR E a[i] a'[i])
      (hc : c.size = c'.size) (h' : ∀ i (h1 : i < c.size) (h2 : i < c'.size), VR E c[i] c'[i]) : VR E (.func fn a c) (.func fn a' c')
  | nilFunc : VR E .nilFunc .nilFunc
  | nilIface : VR E .nilIface .nilIface
  | iface (t : TypeId) {v v' : Value} (h : VR E v v') : VR E (.iface t v) (.iface t v')
  | agg {c c' : Array Value} (hc : c.size = c'.size) (h : ∀ i (h1 : i < c.size) (h2 : i < c'.size), VR E c[i] c'[i]) : VR E (.agg c) (.agg c')
  | tuple {c c' : Array Value} (hc : c.size = c'.size) (h : ∀ i (h1 : i < c.size) (h2 : i < c'.size), VR E c[i] c'[i]) : VR E (.tuple c) (.tuple c')

/-- Two rows of values. -/
def VRs (E : Emap) (c c' : Array Value) : Prop := c.size = c'.size ∧ ∀ i (h1 : i < c.size) (h2 : i < c'.size), VR E c[i] c'[i]

theorem VR.mono {E E' : Emap} (he : ∀ b p, E b = some p → E' b = some p) {v v' : Value} (h : VR E v v') : VR E' v v' := by
  induction h with
  | bool b => exact .bool b
  | int k n => exact .int k n
  | string s => exact .string s
  | ptr0 => exact .ptr0
  | ptr h => exact .ptr (he _ _ h)
  | slice0 l c => exact .slice0 l c
  | slice h hl ho => exact .slice (he _ _ h) hl ho
  | map0 => exact .map0
  | map h => exact .map (he _ _ h)
  | func fn ha _ hc _ ih1 ih2 => exact .func fn ha ih1 hc ih2
  | nilFunc => exact .nilFunc
  | nilIface => exact .nilIface
  | iface t _ ih => exact .iface t ih
  | agg hc _ ih => exact .agg hc ih
  | tuple hc _ ih => exact .tuple hc ih

theorem VRs.mono {E E' : Emap} (he : ∀ b p, E b = some p → E' b = some p) {c c' : Array Value} (h : VRs E c c') : VRs E' c c' :=
  ⟨h.1, fun i h1 h2 => (h.2 i h1 h2).mono he⟩

theorem VR.undef {E : Emap} : VR E undef undef := .tuple rfl (fun i h1 _ => absurd h1 (by simp))

/-- A value in which there is no name. -/
def closed0 : Value → Bool
  | .bool _ | .int _ _ | .string _ | .pointer none | .slice none _ _ | .map none | .nilFunc | .nilIface => true
  | _ => false
def closed1 : Value → Bool
  | .agg c => c.toList.all closed0
  | v => closed0 v
def closedV : Value → Bool
  | .agg c | .tuple c => c.toList.all closed0
  | .iface _ v => closed1 v
  | .func _ a c => a.toList.all closed0 && c.toList.all closed0
  | v => closed0 v

theorem VR.of_closed0 {E : Emap} {v : Value} (h : closed0 v = true) : VR E v v := by
  cases v with
  | bool b => exact .bool b
  | int k n => exact .int k n
  | string s => exact .string s
  | pointer a => cases a with
    | none => exact .ptr0
    | some a => simp [closed0] at h
  | slice a l c => cases a with
    | none => exact .slice0 l c
    | some a => simp [closed0] at h
  | map r => cases r with
    | none => exact .map0
    | some r => simp [closed0] at h
  | nilFunc => exact .nilFunc
  | nilIface => exact .nilIface
  | _ => simp [closed0] at h

theorem all_at {c : Array Value} {f : Value → Bool} (h : c.toList.all f = true) (i : Nat) (h1 : i < c.size) : f c[i] = true := by
  rw [List.all_eq_true] at h
  exact h _ (by simp)

theorem VR.of_closed1 {E : Emap} {v : Value} (h : closed1 v = true) : VR E v v := by
  cases v with
  | agg c => exact .agg rfl fun i h1 _ => .of_closed0 (all_at h i h1)
  | _ => exact .of_closed0 h

theorem VR.of_closed {E : Emap} {v : Value} (h : closedV v = true) : VR E v v := by
  cases v with
  | agg c => exact .agg rfl fun i h1 _ => .of_closed0 (all_at h i h1)
  | tuple c => exact .tuple rfl fun i h1 _ => .of_closed0 (all_at h i h1)
  | iface t v => exact .iface t (.of_closed1 h)
  | func fn a c =>
    simp only [closedV, Bool.and_eq_true] at h
    exact .func fn rfl (fun i h1 _ => .of_closed0 (all_at h.1 i h1)) rfl (fun i h1 _ => .of_closed0 (all_at h.2 i h1))
  | bool b => exact .of_closed0 h
  | int k n => exact .of_closed0 h
  | string s => exact .of_closed0 h
  | pointer a => exact .of_closed0 h
  | slice a l c => exact .of_closed0 h
  | map r => exact .of_closed0 h
  | nilFunc => exact .of_closed0 h
  | nilIface => exact .of_closed0 h
  | _ => simp [closedV, closed0] at h

theorem VR.eq_of_closed0 {E : Emap} {v v' : Value} (h : closed0 v = true) (hv : VR E v v') : v' = v := by
  cases hv <;> first | rfl | simp [closed0] at h

theorem arr_eq {E : Emap} {c c' : Array Value} (hc : c.size = c'.size) (h : ∀ i (h1 : i < c.size) (h2 : i < c'.size), VR E c[i] c'[i])
    (hall : c.toList.all closed0 = true) : c' = c := by
  apply Array.ext
  · exact hc.symm
  · intro i h1 h2
    exact VR.eq_of_closed0 (all_at hall i h2) (h i h2 h1)

theorem VR.eq_of_closed1 {E : Emap} {v v' : Value} (h : closed1 v = true) (hv : VR E v v') : v' = v := by
  cases hv with
  | agg hc hh => rw [arr_eq hc hh h]
  | _ => first | rfl | simp [closed1, closed0] at h

theorem VR.eq_of_closed {E : Emap} {v v' : Value} (h : closedV v = true) (hv : VR E v v') : v' = v := by
  cases hv with
  | agg hc hh => rw [arr_eq hc hh h]
  | tuple hc hh => rw [arr_eq hc hh h]
  | iface t hv => rw [VR.eq_of_closed1 h hv]
  | func fn ha h1 hc h2 =>
    simp only [closedV, Bool.and_eq_true] at h
    rw [arr_eq ha h1 h.1, arr_eq hc h2 h.2]
  | _ => first | rfl | simp [closedV, closed0] at h

/-- An object: a row of cells (may it be written? how many cells an element has), or a map. -/
inductive AObj where
  | row (rw : Bool) (es : Nat) (cells : List Value)
  | map (ents : List (Value × Value))

def AObj.rw : AObj → Bool
  | .row rw _ _ => rw
  | .map _ => true

structure Heap where
  over : List (Nat × Option AObj)
  base : Nat → Option AObj
  next : Nat

def getL : List (Nat × Option AObj) → (Nat → Option AObj) → Nat → Option AObj
  | [], f, b => f b
  | (c, o) :: r, f, b => match Nat.beq c b with | true => o | false => getL r f b
def setL : List (Nat × Option AObj) → Nat → Option AObj → List (Nat × Option AObj)
  | [], b, o => [(b, o)]
  | (c, x) :: r, b, o => match Nat.beq c b with | true => (c, o) :: r | false => (c, x) :: setL r b o

def Heap.get (h : Heap) (b : Nat) : Option AObj := getL h.over h.base b
/-- What is known of a name is put anew. -/
def Heap.set (h : Heap) (b : Nat) (o : Option AObj) : Heap := { h with over := setL h.over b o }
/-- A new name. -/
def Heap.new (h : Heap) (o : AObj) : Heap := { h with over := setL h.over h.next (some o), next := h.next + 1 }

theorem getL_setL (f : Nat → Option AObj) (o : Option AObj) (b b' : Nat) : ∀ l, getL (setL l b o) f b' = if b' = b then o else getL l f b'
  | [] => by
    simp only [setL, getL]
    cases hb : Nat.beq b b' with
    | true => rw [if_pos (Nat.eq_of_beq_eq_true hb).symm]
    | false => rw [if_neg (fun h => Nat.ne_of_beq_eq_false hb h.symm)]
  | (c, x) :: r => by
    simp only [setL]
    cases hc : Nat.beq c b with
    | true =>
      have hcb : c = b := Nat.eq_of_beq_eq_true hc
      subst hcb
      simp only [getL]
      cases hb : Nat.beq c b' with
      | true => rw [if_pos (Nat.eq_of_beq_eq_true hb).symm]
      | false => rw [if_neg (fun h => Nat.ne_of_beq_eq_false hb h.symm)]
    | false =>
      have hcb : c ≠ b := Nat.ne_of_beq_eq_false hc
      simp only [getL]
      cases hb : Nat.beq c b' with
      | true => have e : c = b' := Nat.eq_of_beq_eq_true hb
                rw [if_neg (fun h => hcb (e.trans h))]
      | false => simp only [getL_setL f o b b' r]

theorem Heap.get_set (h : Heap) (b : Nat) (o : Option AObj) (b' : Nat) : (h.set b o).get b' = if b' = b then o else h.get b' := getL_setL _ _ _ _ _
theorem Heap.get_new (h : Heap) (o : AObj) (b' : Nat) : (h.new o).get b' = if b' = h.next then some o else h.get b' := getL_setL _ _ _ _ _

/-- The world holds the object at its place. -/
def Holds (E : Emap) (w : World) (p : Place) : AObj → Prop
  | .row rw es cells => ∃ (c : Array Value) (e : TypeId) (fz : Nat × Nat), w.heap[p.block]? = some (.cells c e fz) ∧ p.base + cells.length ≤ c.size ∧
      (∀ i, i < cells.length → VR E (cells.getD i undef) (c.getD (p.base + i) undef)) ∧ (rw = true → p.base + p.cap * es ≤ c.size ∧ fz.2 ≤ fz.1)
  | .map ents => ∃ (es : Array MapEntry) (clk : Nat), w.heap[p.block]? = some (.map es clk) ∧ es.size = ents.length ∧
      ∀ i (h1 : i < ents.length) (h2 : i < es.size), VR E ents[i].1 es[i].key ∧ VR E ents[i].2 es[i].val

theorem Holds.mono {E E' : Emap} (he : ∀ b p, E b = some p → E' b = some p) {w w' : World} {p : Place} {o : AObj} (h : Holds E w p o)
    (hw : w'.heap[p.block]? = w.heap[p.block]?) : Holds E' w' p o := by
  cases o with
  | row rw es cells =>
    obtain ⟨c, e, fz, h1, h2, h3, h4⟩ := h
    exact ⟨c, e, fz, hw.trans h1, h2, fun i hi => (h3 i hi).mono he, h4⟩
  | map ents =>
    obtain ⟨es, clk, h1, h2, h3⟩ := h
    exact ⟨es, clk, hw.trans h1, h2, fun i a b => ⟨(h3 i a b).1.mono he, (h3 i a b).2.mono he⟩⟩

structure WR (E : Emap) (h : Heap) (w : World) : Prop where
  obj : ∀ b o, h.get b = some o → ∃ p, E b = some p ∧ Holds E w p o
  sep : ∀ b b' o o' p p', b ≠ b' → h.get b = some o → h.get b' = some o' → o.rw = true → E b = some p → E b' = some p' → p.block ≠ p'.block
  dom : ∀ b p, E b = some p → p.block < w.heap.size
  fresh : ∀ b, h.next ≤ b → E b = none

/-- A step of the world, seen with names. -/
structure Tr (E : Emap) (h : Heap) (w : World) (E' : Emap) (h' : Heap) (w' : World) : Prop where
  wr : WR E' h' w'
  ext : ∀ b p, E b = some p → E' b = some p
  size : w.heap.size ≤ w'.heap.size
  os : w'.os = w.os
  tape : w'.tape = w.tape
  output : w'.output = w.output
  frame : ∀ r, r < w.heap.size → (∀ b o p, h.get b = some o → o.rw = true → E b = some p → p.block ≠ r) → w'.heap[r]? = w.heap[r]?
  prov : ∀ b o p, h'.get b = some o → E' b = some p → p.block < w.heap.size → ∃ b0 o0 p0, h.get b0 = some o0 ∧ (o.rw = true → o0.rw = true) ∧ E b0 = some p0 ∧ p0.block = p.block
  next : h.next ≤ h'.next
  old : ∀ b, b < h.next → E' b = E b

theorem Tr.refl {E : Emap} {h : Heap} {w : World} (hw : WR E h w) : Tr E h w E h w :=
  ⟨hw, fun _ _ h => h, Nat.le_refl _, rfl, rfl, rfl, fun _ _ _ => rfl, fun b o p h1 h3 _ => ⟨b, o, p, h1, id, h3, rfl⟩, Nat.le_refl _, fun _ _ => rfl⟩

theorem Tr.trans {E1 E2 E3 : Emap} {h1 h2 h3 : Heap} {w1 w2 w3 : World} (a : Tr E1 h1 w1 E2 h2 w2) (b : Tr E2 h2 w2 E3 h3 w3) : Tr E1 h1 w1 E3 h3 w3 where
  wr := b.wr
  ext := fun x p h => b.ext _ _ (a.ext _ _ h)
  size := Nat.le_trans a.size b.size
  os := b.os.trans a.os
  tape := b.tape.trans a.tape
  output := b.output.trans a.output
  frame := fun r hr hn => by
    rw [b.frame r (Nat.lt_of_lt_of_le hr a.size), a.frame r hr hn]
    intro x o p hx ho hp e
    obtain ⟨b0, o0, p0, k1, k2, k3, k4⟩ := a.prov x o p hx hp (by omega)
    exact hn b0 o0 p0 k1 (k2 ho) k3 (by omega)
  prov := fun x o p hx hp hl => by
    obtain ⟨b0, o0, p0, k1, k2, k3, k4⟩ := b.prov x o p hx hp (Nat.lt_of_lt_of_le hl a.size)
    obtain ⟨b1, o1, p1, m1, m2, m3, m4⟩ := a.prov b0 o0 p0 k1 k3 (by omega)
    exact ⟨b1, o1, p1, m1, fun h => m2 (k2 h), m3, by omega⟩
  next := Nat.le_trans a.next b.next
  old := fun x hx => (b.old x (Nat.lt_of_lt_of_le hx a.next)).trans (a.old x hx)

/-- A draw. -/
theorem Tr.drew {E : Emap} {h : Heap} {w : World} (hw : WR E h w) (n : Nat) : Tr E h w E h { w with drawn := n } where
  wr := ⟨fun b o hb => let ⟨p, h1, h2⟩ := hw.obj b o hb; ⟨p, h1, h2.mono (fun _ _ h => h) rfl⟩, hw.sep, hw.dom, hw.fresh⟩
  ext := fun _ _ h => h
  size := Nat.le_refl _
  os := rfl
  tape := rfl
  output := rfl
  frame := fun _ _ _ => rfl
  prov := fun b o p h1 h3 _ => ⟨b, o, p, h1, id, h3, rfl⟩
  next := Nat.le_refl _
  old := fun _ _ => rfl

/-- Slots. -/
def TR (E : Emap) (ts : List Value) (tm : Array Value) : Prop := tm.size = ts.length ∧ ∀ i, VR E (ts.getD i undef) (tm.getD i undef)

theorem TR.mono {E E' : Emap} (he : ∀ b p, E b = some p → E' b = some p) {ts : List Value} {tm : Array Value} (h : TR E ts tm) : TR E' ts tm :=
  ⟨h.1, fun i => (h.2 i).mono he⟩

/-- An operand's value; what is no constant without names has none. -/
def opv (ts : List Value) : Operand → Value
  | .tmp t => ts.getD t undef
  | .const v => v
  | .global g => .pointer (some ⟨g, 0, none⟩)
  | .func f => .func (.func f) #[] #[]
def opOk : Operand → Bool
  | .tmp _ => true
  | .const v => closedV v
  | .global _ => false
  | .func _ => true

theorem opv_rel {E : Emap} {ts : List Value} {a : Act} (h : TR E ts a.tmps) {x : Operand} (hx : opOk x = true) : VR E (opv ts x) (a.eval x) := by
  cases x with
  | tmp t => exact h.2 t
  | const v => exact VR.of_closed hx
  | global g => simp [opOk] at hx
  | func f => exact .func _ rfl (fun i h1 _ => absurd h1 (by simp)) rfl (fun i h1 _ => absurd h1 (by simp))

def putT (ts : List Value) (dst : Option Tmp) (v : Value) : List Value :=
  match dst with
  | some d => ts.set d v
  | none => ts

theorem getD_set (ts : List Value) (d i : Nat) (v : Value) : (ts.set d v).getD i undef = if i = d ∧ d < ts.length then v else ts.getD i undef := by
  simp only [List.getD_eq_getElem?_getD, List.getElem?_set]
  by_cases e : d = i
  · subst e
    by_cases hl : d < ts.length
    · simp [hl]
    · simp [hl]
  · have : ¬ (i = d ∧ d < ts.length) := fun h => e h.1.symm
    simp [e, this]

theorem agetD_set (tm : Array Value) (d i : Nat) (v : Value) : (tm.setIfInBounds d v).getD i undef = if i = d ∧ d < tm.size then v else tm.getD i undef := by
  simp only [Array.getD_eq_getD_getElem?, Array.getElem?_setIfInBounds]
  by_cases e : d = i
  · subst e
    by_cases hl : d < tm.size
    · simp [hl]
    · simp [hl]
  · have : ¬ (i = d ∧ d < tm.size) := fun h => e h.1.symm
    simp [e, this]

theorem TR.put {E : Emap} {ts : List Value} {a : Act} (h : TR E ts a.tmps) (dst : Option Tmp) {v v' : Value} (hv : VR E v v') : TR E (putT ts dst v) (a.put dst v').tmps := by
  cases dst with
  | none => exact h
  | some d =>
    refine ⟨by simp [putT, Act.put, h.1], fun i => ?_⟩
    simp only [putT, Act.put]
    rw [getD_set, agetD_set, h.1]
    split
    · exact hv
    · exact h.2 i

end Go.Ev
