/- The evaluator, laid out so that it is reckoned fast: it says what the plain one says. No condition. -/
import Derived.Test.YtocjmepmbglhaaaEvN
namespace Go.Ev

def lget {α : Type} : List α → Nat → Option α
  | [], _ => none
  | x :: r, n => match n with
    | 0 => some x
    | n + 1 => lget r n
theorem lget_eq {α : Type} : ∀ (l : List α) (n : Nat), lget l n = l[n]?
  | [], _ => by simp [lget]
  | x :: r, 0 => by simp [lget]
  | x :: r, n + 1 => by simp [lget, lget_eq r n]
theorem lget_arr {α : Type} (a : Array α) (n : Nat) : lget a.toList n = a[n]? := by rw [lget_eq]; simp
def gd : List Value → Nat → Value
  | [], _ => undef
  | x :: r, n => match n with
    | 0 => x
    | n + 1 => gd r n
theorem gd_eq : ∀ (l : List Value) (n : Nat), gd l n = l.getD n undef
  | [], _ => by simp [gd]
  | x :: r, 0 => by simp [gd]
  | x :: r, n + 1 => by simp [gd, gd_eq r n]

def infoQ (P : Program) (t : TypeId) : Option TypeInfo :=
  match lget P.types.toList t with
  | some i => some i
  | none => P.info? t
theorem infoQ_eq (P : Program) (t : TypeId) : infoQ P t = P.info? t := by
  unfold infoQ
  rw [lget_arr]
  split
  · rename_i i hi
    unfold Tables.info?
    have hlt : t < P.types.size := by
      rcases Nat.lt_or_ge t P.types.size with h | h
      · exact h
      · rw [Array.getElem?_eq_none h] at hi; cases hi
    rw [if_pos hlt, hi]
  · rfl
def undQ1 (P : Program) (d : TypeDesc) : Option TypeDesc :=
  match d with
  | .named _ u => (match infoQ P u with
    | some i => some i.desc
    | none => none)
  | d => some d
def undQ (P : Program) (t : TypeId) : Option TypeDesc :=
  match infoQ P t with
  | some i => undQ1 P i.desc
  | none => none
theorem undQ_eq (P : Program) (t : TypeId) : undQ P t = P.underlying t := by
  unfold undQ undQ1 Program.underlying
  rw [infoQ_eq]
  cases h : P.info? t with
  | none => rfl
  | some i =>
    obtain ⟨d, _⟩ := i
    cases d <;> first | rfl | skip
    simp only [infoQ_eq]
    cases P.info? _ <;> rfl
def sizeQ (P : Program) (t : TypeId) : Option Nat :=
  match infoQ P t with
  | some i => some i.size
  | none => none
theorem sizeQ_eq (P : Program) (t : TypeId) : sizeQ P t = sizeP P t := by
  unfold sizeQ sizeP; rw [infoQ_eq]
  cases P.info? t <;> rfl
def aggQ (P : Program) (t : TypeId) : Option Bool :=
  match undQ P t with
  | some d => some (match d with
    | .struct _ => true
    | .array _ _ => true
    | _ => false)
  | none => none
theorem aggQ_eq (P : Program) (t : TypeId) : aggQ P t = isAggP P t := by
  unfold aggQ isAggP; rw [undQ_eq]
  cases P.underlying t with
  | none => rfl
  | some d => cases d <;> rfl

def okQ : Operand → Bool
  | .tmp _ => true
  | .const v => closedV v
  | .global _ => false
  | .func _ => true
theorem okQ_eq (x : Operand) : okQ x = opOk x := by cases x <;> rfl
def opQ (ts : List Value) : Operand → Value
  | .tmp t => gd ts t
  | .const v => v
  | .global g => .pointer (some ⟨g, 0, none⟩)
  | .func f => .func (.func f) #[] #[]
theorem opQ_eq (ts : List Value) (x : Operand) : opQ ts x = opv ts x := by cases x <;> first | rfl | exact gd_eq _ _

/-! ### the single operations -/
abbrev OV := Option (Bool × Value × Heap)

def loadQ1 (P : Program) (t : TypeId) (o : Nat) (cells : List Value) (h : Heap) : OV :=
  match aggQ P t with
  | some true => (match sizeQ P t with
    | some n => some (decide (o + n ≤ cells.length), .agg ⟨(cells.drop o).take n⟩, h)
    | none => none)
  | some false => some (decide (o < cells.length), gd cells o, h)
  | none => none
def loadQ2 (P : Program) (t : TypeId) (h : Heap) (o : Nat) (x : Option AObj) : OV :=
  match x with
  | some (.row _ _ cells) => loadQ1 P t o cells h
  | _ => none
def loadQ (P : Program) (t : TypeId) (h : Heap) (v : Value) : OV :=
  match v with
  | .pointer (some ⟨b, o, none⟩) => loadQ2 P t h o (h.get b)
  | _ => none
theorem loadQ_eq (P : Program) (t : TypeId) (h : Heap) (v : Value) : loadQ P t h v = (match loadV P t h v with | some (c, r) => some (c, r, h) | none => none) := by
  unfold loadQ loadV
  split
  · rename_i b o
    unfold loadQ2
    dsimp only
    cases h.get b with
    | none => rfl
    | some x =>
      cases x with
      | map e => rfl
      | row rw es cells =>
        simp only [loadQ1, aggQ_eq, sizeQ_eq, gd_eq]
        rcases isAggP P t with _ | _ | _
        · rfl
        · rfl
        · dsimp only
          cases sizeP P t <;> rfl
  · split
    · simp_all
    · rfl
def aLoad (P : Program) (t : TypeId) (a : Operand) (ts : List Value) (h : Heap) : OV :=
  match okQ a with
  | true => loadQ P t h (opQ ts a)
  | false => none

def fieldAtQ1 (P : Program) (b o : Nat) (x : Option Field) : Option Value :=
  match x with
  | some fd => (match sizeQ P fd.type with
    | some (_ + 1) => some (.pointer (some ⟨b, o + fd.offset, none⟩))
    | _ => none)
  | none => none
def fieldAtQ (P : Program) (s : TypeId) (f : Nat) (v : Value) : Option Value :=
  match v with
  | .pointer (some ⟨b, o, none⟩) => (match undQ P s with
    | some (.struct fields) => fieldAtQ1 P b o (lget fields.toList f)
    | _ => none)
  | _ => none
theorem fieldAtQ_eq (P : Program) (s : TypeId) (f : Nat) (v : Value) : fieldAtQ P s f v = fieldAtV P s f v := by
  unfold fieldAtQ fieldAtV
  split
  · simp only [undQ_eq, lget_arr, fieldAtQ1, sizeQ_eq]
    cases P.underlying s with
    | none => rfl
    | some d => cases d <;> rfl
  · split
    · simp_all
    · rfl
def aFieldAt (P : Program) (s : TypeId) (f : Nat) (x : Operand) (ts : List Value) (h : Heap) : OV :=
  match okQ x with
  | true => (match fieldAtQ P s f (opQ ts x) with
    | some v => some (true, v, h)
    | none => none)
  | false => none

def indexAtQ1 (P : Program) (elem : TypeId) (len b o : Nat) (i : Int) (h : Heap) : OV :=
  match sizeQ P elem with
  | some n => some (decide (0 ≤ i ∧ i < (len : Int)), .pointer (some ⟨b, o + i.toNat * n, none⟩), h)
  | none => none
def indexAtQ (P : Program) (t : TypeId) (x ix : Value) (h : Heap) : OV :=
  match ix with
  | .int _ i => (match undQ P t with
    | some (.slice elem) => (match x with
      | .slice (some ⟨b, o, none⟩) len _ => indexAtQ1 P elem len b o i h
      | _ => none)
    | some (.array len elem) => (match x with
      | .pointer (some ⟨b, o, none⟩) => indexAtQ1 P elem len b o i h
      | _ => none)
    | _ => none)
  | _ => none
theorem indexAtQ_eq (P : Program) (t : TypeId) (x ix : Value) (h : Heap) : indexAtQ P t x ix h = (match indexAtV P t x ix with | some (c, r) => some (c, r, h) | none => none) := by
  unfold indexAtQ indexAtV
  cases ix with
  | int k i =>
    simp only [undQ_eq, indexAtQ1, sizeQ_eq]
    cases hu : P.underlying t with
    | none => cases x <;> rfl
    | some d =>
      cases d with
      | slice elem =>
        cases x with
        | slice a l c =>
          cases a with
          | none => rfl
          | some a =>
            obtain ⟨b, o, s⟩ := a
            cases s with
            | none => dsimp only; cases sizeP P elem <;> rfl
            | some _ => rfl
        | _ => rfl
      | array len elem =>
        cases x with
        | pointer a =>
          cases a with
          | none => rfl
          | some a =>
            obtain ⟨b, o, s⟩ := a
            cases s with
            | none => dsimp only; cases sizeP P elem <;> rfl
            | some _ => rfl
        | _ => rfl
      | _ => cases x <;> rfl
  | _ => rfl
def aIndexAt (P : Program) (t : TypeId) (x i : Operand) (ts : List Value) (h : Heap) : OV :=
  match okQ x && okQ i with
  | true => indexAtQ P t (opQ ts x) (opQ ts i) h
  | false => none

/-! ### two numbers, two texts -/
def beqK : IntKind → IntKind → Bool
  | .i8, .i8 | .i16, .i16 | .i32, .i32 | .i64, .i64 | .u8, .u8 | .u16, .u16 | .u32, .u32 | .u64, .u64 => true
  | _, _ => false
theorem beqK_eq (k k' : IntKind) : beqK k k' = decide (k = k') := by cases k <;> cases k' <;> rfl
def ib (k : IntKind) (a b : Int) (op : BinOp) : Option Value :=
  match op with
  | .add => some (.int k (k.wrap (a + b)))
  | .sub => some (.int k (k.wrap (a - b)))
  | .mul => some (.int k (k.wrap (a * b)))
  | .eql => some (.bool (a == b))
  | .neq => some (.bool (a != b))
  | .lss => some (.bool (decide (a < b)))
  | .leq => some (.bool (decide (a ≤ b)))
  | .gtr => some (.bool (decide (a > b)))
  | .geq => some (.bool (decide (a ≥ b)))
  | _ => none
def leqB : List UInt8 → List UInt8 → Bool
  | [], [] => true
  | x :: r, y :: t => (match Nat.beq x.toNat y.toNat with
    | true => leqB r t
    | false => false)
  | _, _ => false
theorem leqB_eq : ∀ (a b : List UInt8), leqB a b = decide (a = b)
  | [], [] => by simp [leqB]
  | [], _ :: _ => by simp [leqB]
  | _ :: _, [] => by simp [leqB]
  | x :: r, y :: t => by
    simp only [leqB]
    cases h : Nat.beq x.toNat y.toNat with
    | true =>
      have := Nat.eq_of_beq_eq_true h
      have hx : x = y := UInt8.toNat_inj.1 this
      simp [leqB_eq r t, hx]
    | false =>
      have := Nat.ne_of_beq_eq_false h
      have hx : x ≠ y := fun e => this (by rw [e])
      simp [hx]
/-- Are two texts one? -/
def seqB (a b : ByteArray) : Bool := leqB a.data.toList b.data.toList
theorem seqB_iff (a b : ByteArray) : seqB a b = true ↔ a = b := by
  unfold seqB
  rw [leqB_eq, decide_eq_true_eq]
  constructor
  · intro h
    obtain ⟨⟨x⟩⟩ := a
    obtain ⟨⟨y⟩⟩ := b
    simp only at h
    rw [h]
  · intro h; rw [h]
theorem seqB_eq (a b : ByteArray) : seqB a b = (a.toList == b.toList) := by
  unfold seqB
  rw [leqB_eq, Go.ByteArray.toList_eq, Go.ByteArray.toList_eq, Bool.eq_iff_iff, decide_eq_true_eq, beq_iff_eq]

def binI (P : Program) (op : BinOp) (t : TypeId) (xo yo : Operand) (k : IntKind) (a : Int) (k' : IntKind) (b : Int) : Option (Bool × Value) :=
  match ib k a b op with
  | some v => (match beqK k k' with
    | true => some (true, v)
    | false => binV P op t xo yo (.int k a) (.int k' b))
  | none => binV P op t xo yo (.int k a) (.int k' b)
theorem binI_eq (P : Program) (op : BinOp) (t : TypeId) (xo yo : Operand) (k : IntKind) (a : Int) (k' : IntKind) (b : Int) : binI P op t xo yo k a k' b = binV P op t xo yo (.int k a) (.int k' b) := by
  unfold binI
  split
  · rename_i v hv
    split
    · rename_i hk
      rw [beqK_eq, decide_eq_true_eq] at hk
      subst hk
      cases op <;> simp only [ib] at hv <;> first | (cases hv; done) | skip
      all_goals
        cases hv
        simp [binV, closedV, closed0, eqGuard, binOp, pv, Op.intArith, Op.intCmp, bind, pure, Sem.bind]
    · rfl
  · rfl
def binS (P : Program) (op : BinOp) (t : TypeId) (xo yo : Operand) (a b : ByteArray) : Option (Bool × Value) :=
  match op with
  | .eql => some (true, .bool (seqB a b))
  | .neq => some (true, .bool (!seqB a b))
  | op => binV P op t xo yo (.string a) (.string b)
theorem binS_eq (P : Program) (op : BinOp) (t : TypeId) (xo yo : Operand) (a b : ByteArray) : binS P op t xo yo a b = binV P op t xo yo (.string a) (.string b) := by
  unfold binS
  split
  · simp [binV, closedV, closed0, eqGuard, binOp, pv, Op.stringOp, bind, pure, Sem.bind, seqB_eq]
  · simp [binV, closedV, closed0, eqGuard, binOp, pv, Op.stringOp, bind, pure, Sem.bind, seqB_eq]
  · rfl
def binQ (P : Program) (op : BinOp) (t : TypeId) (xo yo : Operand) (x y : Value) : Option (Bool × Value) :=
  match x with
  | .int k a => (match y with
    | .int k' b => binI P op t xo yo k a k' b
    | y => binV P op t xo yo (.int k a) y)
  | .string a => (match y with
    | .string b => binS P op t xo yo a b
    | y => binV P op t xo yo (.string a) y)
  | x => binV P op t xo yo x y
theorem binQ_eq (P : Program) (op : BinOp) (t : TypeId) (xo yo : Operand) (x y : Value) : binQ P op t xo yo x y = binV P op t xo yo x y := by
  cases x <;> cases y <;> first | rfl | exact binI_eq .. | exact binS_eq ..
def aBin (P : Program) (op : BinOp) (t : TypeId) (x y : Operand) (ts : List Value) (h : Heap) : OV :=
  match okQ x && okQ y with
  | true => (match binQ P op t x y (opQ ts x) (opQ ts y) with
    | some (c, r) => (match closedV r with
      | true => some (c, r, h)
      | false => none)
    | none => none)
  | false => none

def aMove (x : Operand) (ts : List Value) (h : Heap) : OV :=
  match okQ x with
  | true => some (true, opQ ts x, h)
  | false => none
def aExtract (x : Operand) (i : Nat) (ts : List Value) (h : Heap) : OV :=
  match okQ x with
  | true => (match opQ ts x with
    | .tuple vs => (match lget vs.toList i with
      | some v => some (true, v, h)
      | none => none)
    | _ => none)
  | false => none
def aBox (x : Operand) (ts : List Value) (h : Heap) : OV :=
  match okQ x with
  | true => some (true, .pointer (some ⟨h.next, 0, none⟩), h.new (.row true 1 (opQ ts x).cells.toList))
  | false => none
def zeroQ (P : Program) (t : TypeId) : Option Value :=
  match infoQ P t with
  | some i => i.zero
  | none => none
theorem zeroQ_eq (P : Program) (t : TypeId) : zeroQ P t = zeroP P t := by
  unfold zeroQ zeroP; rw [infoQ_eq]
  cases P.info? t <;> rfl
def aAlloc (P : Program) (t : TypeId) (h : Heap) : OV :=
  match zeroQ P t with
  | some z => (match closedV z with
    | true => some (true, .pointer (some ⟨h.next, 0, none⟩), h.new (.row true 1 z.cells.toList))
    | false => none)
  | none => none
def aNil (x : Operand) (ts : List Value) (h : Heap) : OV :=
  match okQ x with
  | true => (match opQ ts x with
    | .pointer (some ⟨b, o, none⟩) => some (true, .pointer (some ⟨b, o, none⟩), h)
    | .func (.func f) a c => some (true, .func (.func f) a c, h)
    | _ => none)
  | false => none
def storeQ1 (P : Program) (t : TypeId) (h : Heap) (b o : Nat) (v : Value) (x : Option AObj) : OV :=
  match x with
  | some (.row true es cells) => (match sizeQ P t with
    | some n => some (decide (v.cells.toList.length = n) && (decide (o + n ≤ cells.length) && v.cells.toList.all oneC), undef, h.set b (some (.row true es (putAll cells o v.cells.toList))))
    | none => none)
  | _ => none
def storeQ (P : Program) (t : TypeId) (h : Heap) (a v : Value) : OV :=
  match a with
  | .pointer (some ⟨b, o, none⟩) => storeQ1 P t h b o v (h.get b)
  | _ => none
theorem storeQ_eq (P : Program) (t : TypeId) (h : Heap) (a v : Value) : storeQ P t h a v = (match storeV P t h a v with | some (c, h') => some (c, undef, h') | none => none) := by
  unfold storeQ storeV
  split
  · rename_i b o
    unfold storeQ1
    dsimp only
    cases h.get b with
    | none => rfl
    | some x =>
      cases x with
      | map e => rfl
      | row rw es cells =>
        cases rw with
        | false => rfl
        | true =>
          simp only [sizeQ_eq]
          cases sizeP P t <;> rfl
  · split
    · simp_all
    · rfl
def aStore (P : Program) (t : TypeId) (a x : Operand) (ts : List Value) (h : Heap) : OV :=
  match okQ a && okQ x with
  | true => storeQ P t h (opQ ts a) (opQ ts x)
  | false => none

def aopQ (P : Program) (o : Op) (ty : TypeId) (ts : List Value) (h : Heap) : OV :=
  match o with
  | .move x => aMove x ts h
  | .assign x => aMove x ts h
  | .binOp op t x y _ => aBin P op t x y ts h
  | .extract x i => aExtract x i ts h
  | .load t a => aLoad P t a ts h
  | .store t a x => aStore P t a x ts h
  | .fieldAddr s x f => aFieldAt P s f x ts h
  | .indexAddr t x i => aIndexAt P t x i ts h
  | .box _ x => aBox x ts h
  | .alloc t => aAlloc P t h
  | .nilCheck x => aNil x ts h
  | o => aop P o ty ts h

theorem aopQ_eq (P : Program) (o : Op) (ty : TypeId) (ts : List Value) (h : Heap) : aopQ P o ty ts h = aop P o ty ts h := by
  cases o <;> try rfl
  · simp only [aopQ, aMove, aop, okQ_eq, opQ_eq]; cases opOk _ <;> rfl
  · simp only [aopQ, aMove, aop, okQ_eq, opQ_eq]; cases opOk _ <;> rfl
  · simp only [aopQ, aAlloc, aop, zeroQ_eq]; cases zeroP P _ <;> rfl
  · simp only [aopQ, aBox, aop, okQ_eq, opQ_eq]; cases opOk _ <;> rfl
  · simp only [aopQ, aLoad, aop, okQ_eq, opQ_eq, loadQ_eq]
    cases opOk _ <;> try rfl
    cases loadV P _ h _ <;> rfl
  · simp only [aopQ, aStore, aop, okQ_eq, opQ_eq, storeQ_eq]
    cases (opOk _ && opOk _) <;> try rfl
    cases storeV P _ h _ _ <;> rfl
  · rename_i x
    simp only [aopQ, aNil, aop, okQ_eq, opQ_eq]
    cases opOk x with
    | false => rfl
    | true =>
      cases opv ts x with
      | pointer a =>
        rcases a with _ | ⟨b, o, _ | _⟩ <;> rfl
      | func f a c => cases f <;> rfl
      | _ => rfl
  · simp only [aopQ, aBin, aop, okQ_eq, opQ_eq, binQ_eq]
    cases (opOk _ && opOk _) <;> try rfl
    cases binV P _ _ _ _ _ _ <;> rfl
  · simp only [aopQ, aFieldAt, aop, okQ_eq, opQ_eq, fieldAtQ_eq]
    cases opOk _ <;> try rfl
    cases fieldAtV P _ _ _ <;> rfl
  · simp only [aopQ, aIndexAt, aop, okQ_eq, opQ_eq, indexAtQ_eq]
    cases (opOk _ && opOk _) <;> try rfl
    cases indexAtV P _ _ _ <;> rfl
  · rename_i x i
    simp only [aopQ, aExtract, aop, okQ_eq, opQ_eq, extractV]
    cases opOk x <;> try rfl
    cases opv ts x <;> try rfl
    simp only [lget_arr]
    rename_i vs
    cases vs[i]? <;> rfl
end Go.Ev
