/- One operation, whatever it is. No condition. -/
import Derived.Test.YtocjmepmbglhaaaEvJ
namespace Go.Ev

def allOk (l : List Operand) : Bool := l.all opOk

def closedOut (h : Heap) : Option Value → Option (Bool × Value × Heap)
  | some r => (match closedV r with
    | true => some (true, r, h)
    | false => none)
  | none => none

/-- The bytes of cells, as the machine takes them. -/
def bytesBody (cells : Array Value) : Sem Value := do
  let mut s := ByteArray.empty
  for c in cells do
    let .int .u8 n := c | stuck "bytesToString: byte expected"
    s := s.push (UInt8.ofNat n.toNat)
  pure (.string s)

def convV (P : Program) (src dst : TypeId) (h : Heap) (v : Value) : Option (Bool × Value × Heap) :=
  match v with
  | .slice (some ⟨b, o, none⟩) l _ =>
    match P.underlying src, P.underlying dst with
    | some (.slice e), some .string =>
      match P.underlying e, h.get b with
      | some (.int .u8), some (.row _ _ cells) =>
        match ((cells.drop o).take l).all closed0, pv P (bytesBody ⟨(cells.drop o).take l⟩) with
        | true, some (.string s) => some (decide (o + l ≤ cells.length), .string s, h)
        | _, _ => none
      | _, _ => none
    | _, _ => none
  | _ =>
    match closedV v with
    | true => closedOut h (pv P (convert src dst v))
    | false => none

def builtinV (P : Program) (b : Builtin) (tys : Array TypeId) (ty : TypeId) (args : List Value) (h : Heap) : Option (Bool × Value × Heap) :=
  match b, tys.toList, args with
  | .append, [sT, xT], [s, x] => appendV P sT xT s x h
  | .len, [t], [x] => (match lenV P t h x with
    | some r => some (true, r, h)
    | none => none)
  | .copy, [dT, _], [d, x] => copyV P dT d x h
  | .delete, [t, _], [m, k] => (match deleteV P t h m k with
    | some h' => some (true, undef, h')
    | none => none)
  | .max, _, _ => (match args.all closedV with
    | true => closedOut h (pv P (Builtin.max_ tys ty args.toArray))
    | false => none)
  | .min, _, _ => (match args.all closedV with
    | true => closedOut h (pv P (Builtin.min_ tys ty args.toArray))
    | false => none)
  | _, _, _ => none

def opArgs (ts : List Value) (l : List Operand) : List Value := l.map (opv ts)
def optArg (ts : List Value) : Option Operand → Option Value
  | none => none
  | some x => some (opv ts x)
def optOk : Option Operand → Bool
  | none => true
  | some x => opOk x
def opParts (ts : List Value) (l : List (Nat × Operand)) : List (Nat × Value) := l.map fun p => (p.1, opv ts p.2)

def isIface (P : Program) (t : TypeId) : Option Bool :=
  match P.underlying t with
  | some (.interface _) => some true
  | some _ => some false
  | none => none

def aop (P : Program) (o : Op) (ty : TypeId) (ts : List Value) (h : Heap) : Option (Bool × Value × Heap) :=
  match o with
  | .move x | .assign x => (match opOk x with
    | true => some (true, opv ts x, h)
    | false => none)
  | .pick c a b => (match opOk a && opOk b, opv ts c, opOk c with
    | true, .bool true, true => some (true, opv ts a, h)
    | true, .bool false, true => some (true, opv ts b, h)
    | _, _, _ => none)
  | .alloc t => (match zeroP P t with
    | some z => (match closedV z with
      | true => some (true, .pointer (some ⟨h.next, 0, none⟩), h.new (.row true 1 z.cells.toList))
      | false => none)
    | none => none)
  | .box _ x => (match opOk x with
    | true => some (true, .pointer (some ⟨h.next, 0, none⟩), h.new (.row true 1 (opv ts x).cells.toList))
    | false => none)
  | .build t ps => (match allOk (ps.toList.map (·.2)), buildV P t (opParts ts ps.toList) with
    | true, some v => some (true, v, h)
    | _, _ => none)
  | .buildSlice t n ps => (match allOk (ps.toList.map (·.2)) with
    | true => buildSliceV P t n (opParts ts ps.toList) h
    | false => none)
  | .load t a => (match opOk a, loadV P t h (opv ts a) with
    | true, some (c, v) => some (c, v, h)
    | _, _ => none)
  | .store t a x => (match opOk a && opOk x, storeV P t h (opv ts a) (opv ts x) with
    | true, some (c, h') => some (c, undef, h')
    | _, _ => none)
  | .nilCheck x => (match opOk x, opv ts x with
    | true, .pointer (some ⟨b, o, none⟩) => some (true, .pointer (some ⟨b, o, none⟩), h)
    | true, .func (.func f) a c => some (true, .func (.func f) a c, h)
    | _, _ => none)
  | .binOp op t x y _ => (match opOk x && opOk y, binV P op t x y (opv ts x) (opv ts y) with
    | true, some (c, r) => (match closedV r with
      | true => some (c, r, h)
      | false => none)
    | _, _ => none)
  | .unOp op _ x => (match opOk x && closedV (opv ts x) with
    | true => closedOut h (pv P (Op.unary op (opv ts x)))
    | false => none)
  | .convert src dst x => (match opOk x with
    | true => convV P src dst h (opv ts x)
    | false => none)
  | .makeInterface t x => (match opOk x, isIface P t with
    | true, some false => some (true, .iface t (opv ts x), h)
    | _, _ => none)
  | .makeFunc fn a c => (match allOk a.toList && allOk c.toList with
    | true => some (true, .func fn (opArgs ts a.toList).toArray (opArgs ts c.toList).toArray, h)
    | false => none)
  | .makeMap _ none => some (true, .map (some h.next), h.new (.map []))
  | .makeSlice t l c => (match opOk l && opOk c with
    | true => makeSliceV P t (opv ts l) (opv ts c) h
    | false => none)
  | .slice t x lo hi mx => (match opOk x && (optOk lo && (optOk hi && optOk mx)), sliceV P t (opv ts x) (optArg ts lo) (optArg ts hi) (optArg ts mx) with
    | true, some (c, v) => some (c, v, h)
    | _, _ => none)
  | .fieldAddr s x f => (match opOk x, fieldAtV P s f (opv ts x) with
    | true, some v => some (true, v, h)
    | _, _ => none)
  | .field t x f => (match opOk x, fieldV P t f (opv ts x) with
    | true, some (c, v) => some (c, v, h)
    | _, _ => none)
  | .indexAddr t x i => (match opOk x && opOk i, indexAtV P t (opv ts x) (opv ts i) with
    | true, some (c, v) => some (c, v, h)
    | _, _ => none)
  | .index t x i => (match opOk x && opOk i, indexV P t (opv ts x) (opv ts i) with
    | true, some (c, v) => some (c, v, h)
    | _, _ => none)
  | .lookup t x i ok => (match opOk x && opOk i, lookupV P t h (opv ts x) (opv ts i) ok with
    | true, some v => some (true, v, h)
    | _, _ => none)
  | .mapUpdate t m k x | .insert t m k x => (match opOk m && (opOk k && opOk x), updateV P t h (opv ts m) (opv ts k) (opv ts x) with
    | true, some (c, h') => some (c, undef, h')
    | _, _ => none)
  | .typeAssert x xt t ok => (match opOk x && closedV (opv ts x) with
    | true => closedOut h (pv P (Instr.typeAssert (opv ts x) xt t ok))
    | false => none)
  | .extract t i => (match opOk t, extractV i (opv ts t) with
    | true, some v => some (true, v, h)
    | _, _ => none)
  | .call c => (match c.callee with
    | .builtin b => (match allOk c.args.toList with
      | true => builtinV P b c.argTypes ty (opArgs ts c.args.toList) h
      | false => none)
    | _ => none)
  | _ => none

def quietB : Builtin → Bool
  | .len | .max | .min => true
  | _ => false

/-- Operations that leave all memory as it was. -/
def quietOp : Op → Bool
  | .move _ | .assign _ | .pick .. | .build .. | .load .. | .nilCheck _ | .binOp .. | .unOp .. | .convert .. | .makeInterface .. | .makeFunc .. | .slice .. | .fieldAddr .. | .field .. | .indexAddr .. | .index .. | .lookup .. | .typeAssert .. | .extract .. => true
  | .call c => (match c.callee with
    | .builtin b => quietB b
    | _ => false)
  | _ => false

/-- What an operation leaves: a value, or nothing. -/
def Left (E : Emap) (v : Value) (n : Next) : Prop := (∃ v', n = .value v' ∧ VR E v v') ∨ (n = .skip ∧ v = undef)

theorem bytesToString_eq (a : Addr) (l c : Nat) : Conv.bytesToString (.slice (some a) l c) = (do bytesBody (← loadCells a l)) := rfl

theorem convV_sound {P : Program} {E : Emap} {h h' : Heap} {w : World} {src dst : TypeId} {v v' r : Value} (hw : WR E h w) (hc : convV P src dst h v = some (true, r, h')) (hv : VR E v v') :
    (convert src dst v').run P w = .ok r w ∧ closedV r = true ∧ h' = h := by
  unfold convV at hc
  split at hc
  · rename_i b o l cc
    cases hv with
    | slice hp hle ho =>
      rename_i o' p
      split at hc
      case h_2 => cases hc
      rename_i e hs hd
      split at hc
      case h_2 => cases hc
      rename_i rw_ es cells he hg
      split at hc
      case h_2 => cases hc
      rename_i s hall hpv
      simp only [Option.some.injEq, Prod.mk.injEq, decide_eq_true_eq] at hc
      obtain ⟨hol, rfl, rfl⟩ := hc
      obtain ⟨p', hp', c, ee, fz, g1, g2, g3, g4⟩ := hw.obj b _ hg
      rw [hp] at hp'; cases hp'
      refine ⟨?_, rfl, rfl⟩
      have hlr : LR E ((cells.drop o).take l) (c.extract (p.base + o) (p.base + o + l)) := LR.extract g2 hol g3
      have heq : c.extract (p.base + o) (p.base + o + l) = ⟨(cells.drop o).take l⟩ := by
        have := hlr.to_VRs
        exact arr_eq this.1 this.2 hall
      have hld : (loadCells ⟨p.block, o', none⟩ l).run P w = .ok ⟨(cells.drop o).take l⟩ w := by
        by_cases hz : capOf p cc = 0
        · have hl0 : l = 0 := by omega
          subst hl0
          simp [loadCells, loadCellsFrom]
        · have := ho hz
          subst this
          rw [run_loadCells g1 (by omega), heq]
      simp only [convert, Sem.run_bind, run_underlying hs, run_underlying hd, Result.andThen_ok, run_underlying he, bytesToString_eq, hld]
      exact pv_run w _ hpv
  · rename_i hn
    split at hc
    · rename_i hcl
      rw [VR.eq_of_closed hcl hv]
      unfold closedOut at hc
      split at hc
      · rename_i r0 hpv
        split at hc
        · rename_i hcr
          cases hc
          exact ⟨pv_run w _ hpv, hcr, rfl⟩
        · cases hc
      · cases hc
    · cases hc

theorem closedOut_sound {P : Program} {h h' : Heap} {w : World} {s : Sem Value} {r : Value} {c : Bool} (hc : closedOut h (pv P s) = some (c, r, h')) : s.run P w = .ok r w ∧ closedV r = true ∧ h' = h := by
  unfold closedOut at hc
  split at hc
  · rename_i r0 hpv
    split at hc
    · rename_i hcr
      cases hc
      exact ⟨pv_run w _ hpv, hcr, rfl⟩
    · cases hc
  · cases hc

theorem parts_rel {E : Emap} {ts : List Value} {a : Act} (ht : TR E ts a.tmps) : ∀ (l : List (Nat × Operand)), allOk (l.map (·.2)) = true → PartsR E (opParts ts l) (l.map fun (i, x) => (i, a.eval x)) := by
  intro l
  induction l with
  | nil => intro _; exact .nil
  | cons p l ih =>
    intro h
    simp only [allOk, List.map_cons, List.all_cons, Bool.and_eq_true] at h
    exact .cons (opv_rel ht h.1) (ih h.2)

theorem args_rel {E : Emap} {ts : List Value} {a : Act} (ht : TR E ts a.tmps) (l : Array Operand) (h : allOk l.toList = true) : VRs E (opArgs ts l.toList).toArray (l.map a.eval) := by
  refine ⟨by simp [opArgs], fun i h1 h2 => ?_⟩
  simp only [opArgs, List.getElem_toArray, List.getElem_map, Array.getElem_map, Array.getElem_toList]
  refine opv_rel ht ?_
  unfold allOk at h
  rw [List.all_eq_true] at h
  exact h _ (by simp)

theorem opt_rel {E : Emap} {ts : List Value} {a : Act} (ht : TR E ts a.tmps) (x : Option Operand) (h : optOk x = true) : OR E (optArg ts x) (x.map a.eval) := by
  cases x with
  | none => exact .none
  | some x => exact .some (opv_rel ht h)

end Go.Ev
