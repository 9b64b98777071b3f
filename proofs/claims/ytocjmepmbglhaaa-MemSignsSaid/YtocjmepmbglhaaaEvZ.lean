/- The evaluator by open recursion, fast: what it says the plain one says. No condition. -/
import Derived.Test.YtocjmepmbglhaaaEvY
namespace Go.Ev

abbrev KT := AOut → List Value → Heap → Hints → Prop
abbrev RT := Task → List Value → Heap → Hints → KT → Prop

def stepN (r : OV) (K : Value → Heap → Prop) : Prop :=
  match r with
  | some (c, v, h) => (match c with
    | true => K v h
    | false => False)
  | none => False
def stepH (x : Hint) (t : Hints) (r : OV) (K : Value → Heap → Hints → Prop) : Prop := step ((0, x) :: t) r K
def stepQ (hs : Hints) (r : OV) (K : Value → Heap → Hints → Prop) : Prop :=
  match hs with
  | [] => stepN r fun v h => K v h []
  | (n, x) :: t => (match n with
    | 0 => stepH x t r K
    | n + 1 => stepN r fun v h => K v h ((n, x) :: t))
theorem stepQ_eq (hs : Hints) (r : OV) (K : Value → Heap → Hints → Prop) : stepQ hs r K = step hs r K := by
  rcases hs with _ | ⟨⟨n, x⟩, t⟩
  · rcases r with _ | ⟨c, v, h⟩
    · rfl
    · cases c <;> rfl
  · cases n with
    | zero => rfl
    | succ n =>
      rcases r with _ | ⟨c, v, h⟩
      · cases x <;> rfl
      · cases c <;> cases x <;> rfl

def kSeq (r : RT) (b : Code) (K : KT) : KT := fun o ts h hs =>
  match o with
  | .normal => r (.code b) ts h hs K
  | .exit i => K (.exit i) ts h hs
  | .ret => K .ret ts h hs
def kBlock (id : Nat) (K : KT) : KT := fun o ts h hs =>
  match o with
  | .normal => K .normal ts h hs
  | .exit i => (match Nat.beq i id with
    | true => K .normal ts h hs
    | false => K (.exit i) ts h hs)
  | .ret => K .ret ts h hs
def kAgain (r : RT) (c : Code) (K : KT) : KT := fun o ts h hs =>
  match o with
  | .normal => r (.again c) ts h hs K
  | .exit i => K (.exit i) ts h hs
  | .ret => K .ret ts h hs
def fCond1 (r : RT) (v : Value) (a b : Code) (ts : List Value) (h : Heap) (hs : Hints) (K : KT) : Prop :=
  match v with
  | .bool x => (match x with
    | true => r (.code a) ts h hs K
    | false => r (.code b) ts h hs K)
  | _ => False
def fCond (r : RT) (c : Operand) (a b : Code) (ts : List Value) (h : Heap) (hs : Hints) (K : KT) : Prop :=
  match okQ c with
  | true => fCond1 r (opQ ts c) a b ts h hs K
  | false => False
def fLoop (P : Program) (r : RT) (c : Code) (ts : List Value) (h : Heap) (hs : Hints) (K : KT) : Prop :=
  match hs with
  | (0, .ctr) :: t => CodeOk P (.loop c) ts h fun o ts h => K o ts h t
  | _ => r (.again c) ts h hs K
def regB (ops : Array Oper) (n : Nat) : Bool := ordOk ops.toList (fullPi ops.toList (masks ops.toList [])) (masks ops.toList []) n
def regs : Code → List (Array Oper)
  | .region _ ops d => (match d with
    | true => [ops]
    | false => [])
  | .seq a b => regs a ++ regs b
  | .cond _ a b => regs a ++ regs b
  | .block _ c => regs c
  | .loop c => regs c
  | _ => []
/-- A function's regions of open order. -/
def opsAt (P : Program) (g k : Nat) : Array Oper :=
  match lget P.funcs.toList g with
  | some f => (match f.body with
    | some c => (match lget (regs c) k with
      | some x => x
      | none => #[])
    | none => #[])
  | none => #[]
def fRegion (r : RT) (ops : Array Oper) (ts : List Value) (h : Heap) (hs : Hints) (K : KT) : Prop :=
  regB ops ts.length = true ∧ r (.draw ops.toList (masks ops.toList []) (fullPi ops.toList (masks ops.toList [])) []) ts h hs K
def fCode (P : Program) (r : RT) (c : Code) (ts : List Value) (h : Heap) (hs : Hints) (K : KT) : Prop :=
  match c with
  | .skip => K .normal ts h hs
  | .region _ ops d => (match d with
    | false => r (.ops ops.toList ops.toList) ts h hs K
    | true => fRegion r ops ts h hs K)
  | .seq a b => r (.code a) ts h hs (kSeq r b K)
  | .cond c a b => fCond r c a b ts h hs K
  | .block id c => r (.code c) ts h hs (kBlock id K)
  | .loop c => fLoop P r c ts h hs K
  | .exit id => K (.exit id) ts h hs
  | .ret => K .ret ts h hs
  | .label _ => K .normal ts h hs
  | _ => False

def funQ (P : Program) (g : Nat) : Option Func := lget P.funcs.toList g
theorem funQ_eq (P : Program) (g : Nat) : funQ P g = P.funcs[g]? := lget_arr _ _
def bodyQ (P : Program) (g : Nat) : Bool :=
  match funQ P g with
  | some fn => fn.body.isSome
  | none => false
theorem bodyQ_eq (P : Program) (g : Nat) : bodyQ P g = hasBody P g := by
  unfold bodyQ hasBody; rw [funQ_eq]
  cases P.funcs[g]? <;> rfl

def argsQ (ts : List Value) : List Operand → List Value
  | [] => []
  | x :: r => opQ ts x :: argsQ ts r
theorem argsQ_eq (ts : List Value) (l : List Operand) : argsQ ts l = opArgs ts l := by
  induction l with
  | nil => rfl
  | cons x r ih =>
    show opQ ts x :: argsQ ts r = opv ts x :: opArgs ts r
    rw [ih, opQ_eq]
def allQ : List Operand → Bool
  | [] => true
  | x :: r => (match okQ x with
    | true => allQ r
    | false => false)
theorem allQ_eq (l : List Operand) : allQ l = allOk l := by
  induction l with
  | nil => rfl
  | cons x r ih =>
    simp only [allQ, okQ_eq, ih]
    show _ = (opOk x && allOk r)
    cases opOk x <;> rfl

/-- A slot is put, the row laid out. -/
noncomputable def setK (l : List Value) : Nat → Value → (List Value → Prop) → Prop :=
  List.rec (motive := fun _ => Nat → Value → (List Value → Prop) → Prop) (fun _ _ K => K []) (fun x l ih n v K => Nat.rec (motive := fun _ => Prop) (K (v :: l)) (fun n _ => ih n v fun l => K (x :: l)) n) l
theorem setK_eq : ∀ (l : List Value) (n : Nat) (v : Value) (K : List Value → Prop), setK l n v K = K (l.set n v)
  | [], _, _, _ => rfl
  | x :: l, 0, _, _ => rfl
  | x :: l, n + 1, v, K => by
    show setK l n v (fun l => K (x :: l)) = _
    rw [setK_eq l n v]; rfl
noncomputable def forceQ (v : Value) (K : Value → Prop) : Prop :=
  Value.rec (motive_1 := fun _ => Prop) (motive_2 := fun _ => PUnit) (motive_3 := fun _ => PUnit) (fun b => K (.bool b)) (fun k n => K (.int k n)) (fun k b => K (.float k b)) (fun k a b => K (.complex k a b)) (fun s => K (.string s)) (fun a => K (.pointer a)) (fun a l c => K (.slice a l c)) (fun r => K (.map r)) (fun r => K (.chan r)) (fun f a c _ _ => K (.func f a c)) (K .nilFunc) (fun t v _ => K (.iface t v)) (K .nilIface) (fun c _ => forceL1 c.toList fun l => K (.agg ⟨l⟩)) (fun c _ => forceL1 c.toList fun l => K (.tuple ⟨l⟩)) (fun _ _ => ⟨⟩) ⟨⟩ (fun _ _ _ _ => ⟨⟩) v
theorem forceQ_eq (v : Value) (K : Value → Prop) : forceQ v K = force v K := by
  cases v <;> rfl
noncomputable def putK (ts : List Value) (dst : Option Tmp) (v : Value) (K : List Value → Prop) : Prop :=
  match dst with
  | some d => setK ts d v K
  | none => K ts
theorem putK_eq (ts : List Value) (dst : Option Tmp) (v : Value) (K : List Value → Prop) : putK ts dst v K = K (putT ts dst v) := by
  cases dst with
  | none => rfl
  | some d => exact setK_eq ts d v K
def undefs : Nat → List Value → (List Value → Prop) → Prop
  | 0, l, K => K l
  | n + 1, l, K => undefs n (undef :: l) K
theorem undefs_eq : ∀ (n : Nat) (l : List Value) (K : List Value → Prop), undefs n l K = K (List.replicate n undef ++ l)
  | 0, l, K => rfl
  | n + 1, l, K => by
    rw [undefs, undefs_eq n]
    congr 1
    rw [List.replicate_succ']
    simp
def preK : List Value → List Value → (List Value → Prop) → Prop
  | [], l, K => K l
  | x :: r, l, K => preK r l fun l => K (x :: l)
theorem preK_eq : ∀ (a l : List Value) (K : List Value → Prop), preK a l K = K (a ++ l)
  | [], l, K => rfl
  | x :: r, l, K => by rw [preK, preK_eq r]; rfl
def initK (ts : List Value) (n : Nat) (K : List Value → Prop) : Prop := undefs (n - ts.length) [] fun l => preK ts l K
theorem initK_eq (ts : List Value) (n : Nat) (K : List Value → Prop) : initK ts n K = K (ts ++ List.replicate (n - ts.length) undef) := by
  unfold initK; rw [undefs_eq, preK_eq]; simp

noncomputable def kOp (r : RT) (all rest : List Oper) (dst : Option Tmp) (ts : List Value) (K : KT) : Value → Heap → Hints → Prop := fun v h hs =>
  forceQ v fun v => putK ts dst v fun ts => r (.ops all rest) ts h hs K
theorem kOp_eq (r : RT) (all rest : List Oper) (dst : Option Tmp) (ts : List Value) (K : KT) : kOp r all rest dst ts K = fun v h hs => force v fun v => r (.ops all rest) (putT ts dst v) h hs K := by
  funext v h hs; unfold kOp; simp only [putK_eq, forceQ_eq]
noncomputable def fCall2 (P : Program) (r : RT) (all rest : List Oper) (dst : Option Tmp) (g : Nat) (l : List Value) (ts : List Value) (h : Heap) (hs : Hints) (K : KT) : Prop :=
  match bodyQ P g with
  | true => forceL l fun l => r (.call g) l h hs fun _ v h hs => putK ts dst (v.getD 0 undef) fun ts => r (.ops all rest) ts h hs K
  | false => False
noncomputable def fCall1 (P : Program) (r : RT) (all rest : List Oper) (dst : Option Tmp) (f : Value) (args : List Operand) (ts : List Value) (h : Heap) (hs : Hints) (K : KT) : Prop :=
  match f with
  | .func fn first cap => (match fn with
    | .func g => fCall2 P r all rest dst g (first.toList ++ argsQ ts args ++ cap.toList) ts h hs K
    | _ => False)
  | _ => False
noncomputable def fCall (P : Program) (r : RT) (all rest : List Oper) (dst : Option Tmp) (f : Operand) (args : List Operand) (ts : List Value) (h : Heap) (hs : Hints) (K : KT) : Prop :=
  match okQ f with
  | true => (match allQ args with
    | true => fCall1 P r all rest dst (opQ ts f) args ts h hs K
    | false => False)
  | false => False
noncomputable def fOp (P : Program) (r : RT) (all rest : List Oper) (dst : Option Tmp) (ty : TypeId) (op : Op) (ts : List Value) (h : Heap) (hs : Hints) (K : KT) : Prop :=
  match op with
  | .call c => (match c.callee with
    | .value f => fCall P r all rest dst f c.args.toList ts h hs K
    | _ => stepQ hs (aop P (.call c) ty ts h) (kOp r all rest dst ts K))
  | op => stepQ hs (aopQ P op ty ts h) (kOp r all rest dst ts K)
noncomputable def fOps (P : Program) (r : RT) (all rest : List Oper) (ts : List Value) (h : Heap) (hs : Hints) (K : KT) : Prop :=
  match rest with
  | [] => K .normal ts h hs
  | o :: rest => (match o.guard with
    | none => fOp P r all rest o.dst o.type o.op ts h hs K
    | some _ => (match wantedV all o ts with
      | some true => fOp P r all rest o.dst o.type o.op ts h hs K
      | some false => r (.ops all rest) (putT ts o.dst undef) h hs K
      | none => False))

noncomputable def kDraw (r : RT) (all : List Oper) (T todo : List Nat) (log : Log) (e : Bool) (i : Nat) (dst : Option Tmp) (ts : List Value) (h0 : Heap) (K : KT) : Value → Heap → Hints → Prop := fun v h hs =>
  forceQ v fun v => putK ts dst v fun ts => r (.draw all T todo (log ++ [(i, e, h0)])) ts h hs K
theorem kDraw_eq (r : RT) (all : List Oper) (T todo : List Nat) (log : Log) (e : Bool) (i : Nat) (dst : Option Tmp) (ts : List Value) (h0 : Heap) (K : KT) :
    kDraw r all T todo log e i dst ts h0 K = fun v h hs => force v fun v => r (.draw all T todo (log ++ [(i, e, h0)])) (putT ts dst v) h hs K := by
  funext v h hs; unfold kDraw; simp only [putK_eq, forceQ_eq]
noncomputable def fDraw1 (P : Program) (r : RT) (all : List Oper) (T todo : List Nat) (log : Log) (i : Nat) (o : Oper) (kt : List Value) (ts : List Value) (h : Heap) (hs : Hints) (K : KT) : Prop :=
  match quietOp o.op with
  | true => readOk T i h log (readV kt h o.op)
      (stepQ hs (aopQ P o.op o.type kt (oneH h.next (readV kt h o.op))) fun v _ hs => kDraw r all T todo log false i o.dst ts h K v h hs)
  | false =>
    (match isEff o.op with
    | false => stepQ hs (aopQ P o.op o.type kt (oneH h.next none)) fun v post hs =>
        (match post.get h.next with
        | some obj => kDraw r all T todo log false i o.dst ts h K v (h.new obj) hs
        | none => False)
    | true =>
      (match o.op with
      | .call { callee := .value f, args := args, .. } =>
        (match hs with
        | (0, .callv v post) :: hs =>
          (match opOk f && allOk args.toList, calleeV (opv kt f) with
          | true, some (g, first, cap) => (match hasBody P g && Nat.ble h.next post.next with
            | true => CallOk P g (first ++ opArgs kt args.toList ++ cap) h (fun v2 h2 => v2 = v ∧ h2 = post) ∧
                r (.draw all T todo (log ++ [(i, true, h)])) (putT ts o.dst v) post hs K
            | false => False)
          | _, _ => False)
        | (0, .callp v) :: hs =>
          (match opOk f && allOk args.toList, calleeV (opv kt f) with
          | true, some (g, first, cap) => (match hasBody P g with
            | true => CallPure P g (first ++ opArgs kt args.toList ++ cap) v ∧
                r (.draw all T todo (log ++ [(i, true, h)])) (putT ts o.dst v) h hs K
            | false => False)
          | _, _ => False)
        | hs =>
          (match opOk f && allOk args.toList, calleeV (opv kt f) with
          | true, some (g, first, cap) => CallOk P g (first ++ opArgs kt args.toList ++ cap) h (fun _ _ => True) ∧ NoHint hs
          | _, _ => False))
      | op => stepQ hs (aopQ P op o.type kt h) fun v post hs =>
        (match Nat.ble h.next post.next with
        | true => kDraw r all T todo log true i o.dst ts h K v post hs
        | false => False)))
noncomputable def fDraw (P : Program) (r : RT) (all : List Oper) (T todo : List Nat) (log : Log) (ts : List Value) (h : Heap) (hs : Hints) (K : KT) : Prop :=
  match todo with
  | [] => K .normal ts h hs
  | i :: todo => (match lget all i with
    | none => False
    | some o => (match wantedV all o (keepT 0 (looks all o) ts) with
      | none => False
      | some false => r (.draw all T todo (log ++ [(i, false, h)])) (putT ts o.dst undef) h hs K
      | some true => fDraw1 P r all T todo log i o (keepT 0 (looks all o) ts) ts h hs K))

def fRes (P : Program) (fn : Func) (K : KT) : KT := fun o ts h hs =>
  match o with
  | .exit _ => False
  | _ => (match resV P ts h fn.results.toList with
    | some l => forceL l fun l => K .normal [resOf l] h hs
    | none => False)
def fBody (P : Program) (r : RT) (g : Nat) (ts : List Value) (h : Heap) (hs : Hints) (K : KT) : Prop :=
  match funQ P g with
  | some fn => (match fn.body with
    | some c => initK ts fn.ntmps fun ts => r (.code c) ts h hs (fRes P fn K)
    | none => False)
  | none => False
def fEnter (P : Program) (C : List Nat) (r : RT) (g : Nat) (ts : List Value) (h : Heap) (hs : Hints) (K : KT) : Prop :=
  match memN g C with
  | true =>
    (match hs with
    | (0, .callv v post) :: hs => CallOk P g ts h (fun v2 h2 => v2 = v ∧ h2 = post) ∧ K .normal [v] post hs
    | (0, .callp v) :: hs => CallPure P g ts v ∧ K .normal [v] h hs
    | _ => CallOk P g ts h fun v h => K .normal [v] h hs)
  | false => fBody P r g ts h hs K

noncomputable def evS (P : Program) (C : List Nat) (r : RT) : RT := fun t ts h hs K =>
  match t with
  | .code c => fCode P r c ts h hs K
  | .again c => r (.code c) ts h hs (kAgain r c K)
  | .ops all rest => fOps P r all rest ts h hs K
  | .call g => fEnter P C r g ts h hs K
  | .draw all T todo log => fDraw P r all T todo log ts h hs K

noncomputable def evQ (P : Program) (C : List Nat) (n : Nat) : RT := Nat.rec (fun _ _ _ _ _ => False) (fun _ r => evS P C r) n

theorem evS_eq (P : Program) (C : List Nat) (n : Nat) (t : Task) (ts : List Value) (h : Heap) (hs : Hints) (K : KT) : evS P C (ev P C n) t ts h hs K = ev P C (n + 1) t ts h hs K := by
  cases t with
  | code c =>
    cases c with
    | region id ops d =>
      cases d with
      | false => rfl
      | true =>
        simp only [evS, fCode, fRegion, ev, regB]
        cases ordOk ops.toList (fullPi ops.toList (masks ops.toList [])) (masks ops.toList []) ts.length <;> simp
    | cond c a b =>
      simp only [evS, fCode, fCond, ev, okQ_eq, opQ_eq]
      cases opOk c with
      | false => rfl
      | true =>
        cases opv ts c with
        | bool x => cases x <;> rfl
        | _ => rfl
    | _ => rfl
  | again c => rfl
  | ops all rest =>
    cases rest with
    | nil => rfl
    | cons o rest =>
      have key : ∀ (o : Oper), fOp P (ev P C n) all rest o.dst o.type o.op ts h hs K = (match o.op with
        | .call { callee := .value f, args := args, .. } =>
          (match opOk f && allOk args.toList, calleeV (opv ts f) with
          | true, some (g, first, cap) => (match hasBody P g with
            | true => forceL (first ++ opArgs ts args.toList ++ cap) fun l => ev P C n (.call g) l h hs fun _ r h hs => ev P C n (.ops all rest) (putT ts o.dst (r.getD 0 undef)) h hs K
            | false => False)
          | _, _ => False)
        | op => step hs (aop P op o.type ts h) fun v h hs => force v fun v => ev P C n (.ops all rest) (putT ts o.dst v) h hs K) := by
        intro o
        obtain ⟨dst, op, ty, pos, after, guard⟩ := o
        cases op with
        | call c =>
          obtain ⟨cal, args, tys⟩ := c
          cases cal with
          | value f =>
            simp only [fOp, fCall, okQ_eq, opQ_eq, allQ_eq]
            cases opOk f with
            | false => rfl
            | true =>
              cases allOk args.toList with
              | false => rfl
              | true =>
                simp only [fCall1, Bool.and_self]
                cases opv ts f with
                | func fn a c =>
                  cases fn with
                  | func g =>
                    simp only [fCall2, bodyQ_eq, argsQ_eq, calleeV, putK_eq]

                  | _ => rfl
                | _ => rfl
          | _ => simp only [fOp, stepQ_eq, kOp_eq]
        | _ => simp only [fOp, stepQ_eq, aopQ_eq, kOp_eq]
      simp only [evS, fOps, ev]
      rw [key]
      cases hg : o.guard with
      | none =>
        have hw : wantedV all o ts = some true := by unfold wantedV; rw [hg]
        rw [hw]
        cases o.op <;> rfl
      | some gw =>
        dsimp only
        rcases wantedV all o ts with _ | _ | _
        · rfl
        · rfl
        · cases o.op <;> rfl
  | call g =>
    simp only [evS, fEnter, ev]
    cases memN g C with
    | true => rfl
    | false =>
      simp only [fBody, funQ_eq]
      cases P.funcs[g]? with
      | none => rfl
      | some fn =>
        dsimp only
        cases fn.body with
        | none => rfl
        | some c =>
          simp only [initK_eq]
          congr 1
  | draw all T todo log =>
    cases todo with
    | nil => rfl
    | cons i todo =>
      simp only [evS, fDraw, ev, lget_eq]
      cases all[i]? with
      | none => rfl
      | some o =>
        dsimp only
        rcases wantedV all o (keepT 0 (looks all o) ts) with _ | _ | _
        · rfl
        · rfl
        · dsimp only
          obtain ⟨dst, op, ty, pos, after, guard⟩ := o
          simp only [fDraw1, stepQ_eq, aopQ_eq, kDraw_eq]
          cases quietOp op with
          | true => rfl
          | false =>
            dsimp only
            cases isEff op with
            | false => rfl
            | true => 
              dsimp only
              cases op with
              | call c =>
                obtain ⟨cal, args, tys⟩ := c
                cases cal <;> rfl
              | _ => rfl

theorem evQ_eq (P : Program) (C : List Nat) : ∀ n, evQ P C n = ev P C n := by
  intro n
  induction n with
  | zero => funext t ts h hs K; rfl
  | succ n ih =>
    funext t ts h hs K
    show evS P C (evQ P C n) t ts h hs K = _
    rw [ih, evS_eq]

theorem CallOk.of_evQ {P : Program} {C : List Nat} (hG : Good P) {n g : Nat} {args : List Value} {h : Heap} {hs : Hints} {Q : Value → Heap → Prop}
    (he : evQ P C n (.call g) args h hs fun _ r h' _ => Q (r.getD 0 undef) h') : CallOk P g args h Q := by
  rw [evQ_eq] at he
  exact CallOk.of_ev hG he
theorem CodeOk.of_evQ {P : Program} {C : List Nat} (hG : Good P) {n : Nat} {c : Code} {ts : List Value} {h : Heap} {hs : Hints} {Q : AOut → List Value → Heap → Prop}
    (he : evQ P C n (.code c) ts h hs fun o ts' h' _ => Q o ts' h') : CodeOk P c ts h Q := by
  rw [evQ_eq] at he
  exact CodeOk.of_ev hG he
end Go.Ev
