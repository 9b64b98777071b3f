/- The evaluator: code, operations in their order, calls; what it says is so of the machine. No condition. -/
import Derived.Test.YtocjmepmbglhaaaEvL
namespace Go.Ev

/-- How an operation is helped: its side condition is left to be shown; its value is told; its whole outcome is told; a call, or a loop, by what is known of it. -/
inductive Hint where
  | obl
  | val (v : Value)
  | all (v : Value) (h : Heap)
  | ctr
  | callv (v : Value) (h : Heap)
  | go
  | callp (v : Value)
  | dec (b : Bool)
  | split (l r : List (Nat × Hint))
abbrev Hints := List (Nat × Hint)

inductive AOut where
  | normal
  | exit (id : Nat)
  | ret

def AOut.toExit : AOut → Exit
  | .normal => .normal
  | .exit i => .exit i
  | .ret => .ret

/-- A value's head is reckoned ahead of what follows. -/
def force1 (v : Value) (K : Value → Prop) : Prop :=
  match v with
  | .bool b => K (.bool b)
  | .int k n => K (.int k n)
  | .float k b => K (.float k b)
  | .complex k a b => K (.complex k a b)
  | .string s => K (.string s)
  | .pointer a => K (.pointer a)
  | .slice a l c => K (.slice a l c)
  | .map r => K (.map r)
  | .chan r => K (.chan r)
  | .func f a c => K (.func f a c)
  | .nilFunc => K .nilFunc
  | .iface t v => K (.iface t v)
  | .nilIface => K .nilIface
  | .agg c => K (.agg c)
  | .tuple vs => K (.tuple vs)
theorem force1_eq (v : Value) (K : Value → Prop) : force1 v K = K v := by cases v <;> rfl

def forceL1 (l : List Value) (K : List Value → Prop) : Prop :=
  match l with
  | [] => K []
  | v :: r => force1 v fun v => forceL1 r fun r => K (v :: r)
theorem forceL1_eq (l : List Value) (K : List Value → Prop) : forceL1 l K = K l := by
  induction l generalizing K with
  | nil => rfl
  | cons v r ih => simp only [forceL1, force1_eq, ih]

/-- A structure's cells too. -/
def force (v : Value) (K : Value → Prop) : Prop :=
  match v with
  | .agg c => (match c with
    | ⟨l⟩ => forceL1 l fun l => K (.agg ⟨l⟩))
  | .tuple c => (match c with
    | ⟨l⟩ => forceL1 l fun l => K (.tuple ⟨l⟩))
  | v => force1 v K
theorem force_eq (v : Value) (K : Value → Prop) : force v K = K v := by
  unfold force
  split
  · exact forceL1_eq _ _
  · exact forceL1_eq _ _
  · exact force1_eq _ _

def forceL (l : List Value) (K : List Value → Prop) : Prop :=
  match l with
  | [] => K []
  | v :: r => force v fun v => forceL r fun r => K (v :: r)
theorem forceL_eq (l : List Value) (K : List Value → Prop) : forceL l K = K l := by
  induction l generalizing K with
  | nil => rfl
  | cons v r ih => simp only [forceL, force_eq, ih]

/-- One operation, with help. -/
def step (hs : Hints) (r : Option (Bool × Value × Heap)) (K : Value → Heap → Hints → Prop) : Prop :=
  match hs with
  | [] => (match r with
    | some (true, v, h) => K v h []
    | _ => False)
  | (n + 1, x) :: t => (match r with
    | some (true, v, h) => K v h ((n, x) :: t)
    | _ => False)
  | (0, .obl) :: t => (match r with
    | some (c, v, h) => c = true ∧ K v h t
    | _ => False)
  | (0, .val v') :: t => (match r with
    | some (c, v, h) => c = true ∧ v = v' ∧ K v' h t
    | _ => False)
  | (0, .all v h) :: t => r = some (true, v, h) ∧ K v h t
  | (0, .ctr) :: _ => False
  | (0, .callv _ _) :: _ => False
  | (0, .callp _) :: _ => False
  | (0, .go) :: t => (match r with
    | some (true, v, h) => K v h t
    | _ => False)
  | (0, .dec b) :: t => (match r with
    | some (true, .bool x, h) => x = b ∧ K (.bool b) h t
    | _ => False)
  | (0, .split l m) :: _ => (match r with
    | some (true, .bool x, h) => (x = true → K (.bool true) h l) ∧ (x = false → K (.bool false) h m)
    | _ => False)

theorem step_sound {hs : Hints} {r : Option (Bool × Value × Heap)} {K : Value → Heap → Hints → Prop} (h : step hs r K) : ∃ v h' hs', r = some (true, v, h') ∧ K v h' hs' := by
  unfold step at h
  split at h
  · split at h
    · exact ⟨_, _, _, rfl, h⟩
    · exact h.elim
  · split at h
    · exact ⟨_, _, _, rfl, h⟩
    · exact h.elim
  · split at h
    · obtain ⟨rfl, h⟩ := h
      exact ⟨_, _, _, rfl, h⟩
    · exact h.elim
  · split at h
    · obtain ⟨rfl, rfl, h⟩ := h
      exact ⟨_, _, _, rfl, h⟩
    · exact h.elim
  · exact ⟨_, _, _, h.1, h.2⟩
  · exact h.elim
  · exact h.elim
  · exact h.elim
  · split at h
    · exact ⟨_, _, _, rfl, h⟩
    · exact h.elim
  · split at h
    · obtain ⟨rfl, h⟩ := h
      exact ⟨_, _, _, rfl, h⟩
    · exact h.elim
  · split at h
    · rename_i x _
      cases x
      · exact ⟨_, _, _, rfl, h.2 rfl⟩
      · exact ⟨_, _, _, rfl, h.1 rfl⟩
    · exact h.elim

/-- Is an operation wanted (its guard)? none: that can't be said. -/
def wantedV (all : List Oper) (o : Oper) (ts : List Value) : Option Bool :=
  match o.guard with
  | none => some true
  | some (j, want) =>
    match all[j]? with
    | some oj =>
      match oj.dst with
      | some d => (match ts.getD d undef with
        | .bool b => some (b == want)
        | .tuple _ => some false
        | _ => none)
      | none => none
    | none => none

theorem wantedV_sound {E : Emap} {all : List Oper} {o : Oper} {ts : List Value} {a : Act} {b : Bool} (ht : TR E ts a.tmps) (h : wantedV all o ts = some b) : Region.wanted o (yielded all.toArray a.tmps) = b := by
  unfold wantedV at h
  unfold Region.wanted
  split at h
  · rename_i hg
    cases h
    rw [hg]
  · rename_i j want hg
    rw [hg]
    split at h
    · rename_i oj hj
      split at h
      · rename_i d hd
        have hr := ht.2 d
        have hy : ∀ v, a.tmps.getD d undef = v → yielded all.toArray a.tmps j = (match v with | .bool b => some b | _ => none) := by
          intro v hv
          unfold yielded
          simp only [List.getElem?_toArray, hj, Option.bind_some, hd]
          rw [Array.getD_eq_getD_getElem?] at hv
          cases hx : a.tmps[d]? with
          | none => rw [hx] at hv; simp only [Option.getD_none] at hv; subst hv; rfl
          | some x => rw [hx] at hv; simp only [Option.getD_some] at hv; subst hv; cases x <;> rfl
        split at h
        · rename_i bb hb
          cases h
          rw [hb] at hr
          simp only [hy _ hr.bool_inv]
          cases bb <;> cases want <;> rfl
        · rename_i tt hb
          cases h
          rw [hb] at hr
          generalize hx : a.tmps.getD d undef = x at hr
          cases hr with
          | tuple _ _ =>
            simp only [hy _ hx]
            rfl
        · cases h
      · cases h
    · cases h

/-- Whom a call enters, with what is laid around its arguments. -/
def calleeV (fv : Value) : Option (Nat × List Value × List Value) :=
  match fv with
  | .func (.func g) first cap => some (g, first.toList, cap.toList)
  | _ => none

def hasBody (P : Program) (g : Nat) : Bool :=
  match P.funcs[g]? with
  | some fn => fn.body.isSome
  | none => false

/-- What a function hands back. -/
def resV (P : Program) (ts : List Value) (h : Heap) : List ResultVar → Option (List Value)
  | [] => some []
  | .tmp t :: r => (match resV P ts h r with
    | some l => some (ts.getD t undef :: l)
    | none => none)
  | .cell a t :: r => (match loadV P t h (ts.getD a undef), resV P ts h r with
    | some (true, v), some l => some (v :: l)
    | _, _ => none)
def resOf (l : List Value) : Value :=
  match l with
  | [v] => v
  | l => .tuple l.toArray

/-- What is known of a call. -/
structure CallOk (P : Program) (g : Nat) (args : List Value) (h : Heap) (Q : Value → Heap → Prop) : Prop where
  run : ∀ E w cargs, WR E h w → VRs E args.toArray cargs → Calls P g cargs w fun e w' => ∃ v v' E' h', Q v h' ∧ e = .returned v' ∧ VR E' v v' ∧ Tr E h w E' h' w'

/-- A call that hands back a value, and leaves all memory as it is, wherever it is called. -/
def CallPure (P : Program) (g : Nat) (args : List Value) (v : Value) : Prop := ∀ h, CallOk P g args h fun v2 h2 => v2 = v ∧ h2 = h

/-- Where a hint lacks. -/
inductive NoHint : Hints → Prop

/-- What is known of a piece of code. -/
structure CodeOk (P : Program) (c : Code) (ts : List Value) (h : Heap) (Q : AOut → List Value → Heap → Prop) : Prop where
  run : ∀ E w a, WR E h w → TR E ts a.tmps → a.defers = [] → c.wp P (fun e a' w' => ∃ o E' ts' h', e = AOut.toExit o ∧ Q o ts' h' ∧ TR E' ts' a'.tmps ∧ a'.defers = [] ∧ Tr E h w E' h' w') a w

def memN (g : Nat) : List Nat → Bool
  | [] => false
  | x :: r => match Nat.beq g x with
    | true => true
    | false => memN g r

def looks (all : List Oper) (o : Oper) : List Nat := Oper.looksAt all.toArray o

def keepT : Nat → List Nat → List Value → List Value
  | _, _, [] => []
  | i, ls, v :: r => (match memN i ls with
    | true => v
    | false => undef) :: keepT (i + 1) ls r

def isEff (o : Op) : Bool := !quietOp o && (match o with
  | .alloc _ | .box .. | .buildSlice .. | .makeSlice .. | .makeMap _ none => false
  | _ => true)

def maskOf (T : List Nat) (o : Oper) : Nat := o.after.toList.foldl (fun s e => match Region.binds .any e with
  | true => s ||| (2 ^ e.on ||| T.getD e.on 0)
  | false => s) 0
def masks : List Oper → List Nat → List Nat
  | [], T => T
  | o :: r, T => masks r (T ++ [maskOf T o])

def ancB (T : List Nat) (i j : Nat) : Bool := (T.getD j 0).testBit i

def maskChk (T : List Nat) : List Oper → Nat → Bool
  | [], _ => true
  | o :: r, j => Nat.beq (T.getD j 0) (maskOf T o) && (o.after.toList.all (fun e => !Region.binds .any e || Nat.blt e.on j) && maskChk T r (j + 1))

def names (all : List Oper) (o : Oper) : List Nat := match o.dst with
  | some d => d :: looks all o
  | none => looks all o
def clash (all : List Oper) (x y : Oper) : Bool := match x.dst with
  | some d => memN d (names all y)
  | none => false

def notSelect : Op → Bool
  | .select .. => false
  | _ => true

def selfChk (T : List Nat) (n : Nat) (i : Nat) (o : Oper) : Bool :=
  !ancB T i i && ((match o.dst with
    | some d => Nat.blt d n
    | none => true) && notSelect o.op)
/-- `i` stands ahead of `k`. -/
def pairChk (all : List Oper) (T : List Nat) (i k : Nat) (x y : Oper) : Bool :=
  !Nat.beq i k && (!ancB T k i && ((!isEff y.op || ancB T i k) && (!(clash all x y || clash all y x) || (ancB T i k || ancB T k i))))

def tailChk (all : List Oper) (T : List Nat) (i : Nat) (x : Oper) : List Nat → Bool
  | [] => true
  | k :: r => (match all[k]? with
    | some y => pairChk all T i k x y
    | none => false) && tailChk all T i x r
def listChk (all : List Oper) (T : List Nat) (n : Nat) : List Nat → Bool
  | [] => true
  | i :: r => (match all[i]? with
    | some x => selfChk T n i x && tailChk all T i x r
    | none => false) && listChk all T n r
def coverChk (pi : List Nat) : Nat → Bool
  | 0 => true
  | n + 1 => memN n pi && coverChk pi n

def ordOk (all : List Oper) (pi T : List Nat) (n : Nat) : Bool := Nat.beq T.length all.length && (maskChk T all 0 && (listChk all T n pi && coverChk pi all.length))

/-- An order in which what memory may turn by comes as early as it can, just behind what it hangs on. -/
def lazyPi (all : List Oper) (T : List Nat) : List Nat → List Nat → List Nat
  | [], had => had
  | j :: r, had =>
    match all[j]? with
    | some o => (match isEff o.op with
      | true => lazyPi all T r (had ++ (List.range all.length).filter (fun i => ancB T i j && !memN i had) ++ [j])
      | false => lazyPi all T r had)
    | none => had
def fullPi (all : List Oper) (T : List Nat) : List Nat :=
  let had := lazyPi all T (List.range all.length) []
  had ++ (List.range all.length).filter (fun i => !memN i had)

/-- A heap of one object, or none. -/
def oneH (n : Nat) : Option (Nat × AObj) → Heap
  | none => ⟨[], fun _ => none, n⟩
  | some (b, o) => ⟨[(b, some o)], fun _ => none, n⟩

/-- Which object an operation reads. -/
def rdOf (ts : List Value) : Op → Option Nat
  | .load _ a => (match opv ts a with
    | .pointer (some a) => some a.block
    | _ => none)
  | .lookup _ x _ _ => (match opv ts x with
    | .map (some r) => some r
    | _ => none)
  | .convert _ _ x => (match opv ts x with
    | .slice (some a) _ _ => some a.block
    | _ => none)
  | .call c => (match c.args.toList with
    | [x] => (match opv ts x with
      | .map (some r) => some r
      | _ => none)
    | _ => none)
  | _ => none
def readV (ts : List Value) (h : Heap) (o : Op) : Option (Nat × AObj) :=
  match rdOf ts o with
  | some b => (match h.get b with
    | some x => some (b, x)
    | none => none)
  | none => none

/-- What was told so far: the operation, may it have turned memory, the heap ahead of it. -/
abbrev Log := List (Nat × Bool × Heap)
/-- Behind the first ones, all of which an operation hangs on. -/
def logRest (T : List Nat) (i : Nat) : Log → Log
  | [] => []
  | (j, e, h) :: r => match ancB T j i with
    | true => logRest T i r
    | false => (j, e, h) :: r
def logNext (h : Heap) : Log → Nat
  | [] => h.next
  | (_, _, g) :: _ => g.next
def logReads (b : Nat) (o : AObj) : Log → Prop
  | [] => True
  | (_, true, h) :: r => h.get b = some o ∧ logReads b o r
  | (_, false, _) :: r => logReads b o r
def readOk (T : List Nat) (i : Nat) (h : Heap) (log : Log) (rd : Option (Nat × AObj)) (K : Prop) : Prop :=
  match rd with
  | none => K
  | some (b, o) => (match Nat.blt b (logNext h (logRest T i log)) with
    | true => (match (logRest T i log).any (·.2.1) with
      | true => logReads b o (logRest T i log) ∧ K
      | false => K)
    | false => False)

inductive Task where
  | code (c : Code)
  | again (c : Code)
  | ops (all rest : List Oper)
  | call (g : Nat)
  | draw (all : List Oper) (T todo : List Nat) (log : Log)

/-- `C`: the functions whose calls are taken by what is known of them. -/
def ev (P : Program) (C : List Nat) : Nat → Task → List Value → Heap → Hints → (AOut → List Value → Heap → Hints → Prop) → Prop
  | 0, _, _, _, _, _ => False
  | n + 1, .code c, ts, h, hs, K =>
    match c with
    | .skip => K .normal ts h hs
    | .region _ ops false => ev P C n (.ops ops.toList ops.toList) ts h hs K
    | .region _ ops true =>
      (match ordOk ops.toList (fullPi ops.toList (masks ops.toList [])) (masks ops.toList []) ts.length with
      | true => ev P C n (.draw ops.toList (masks ops.toList []) (fullPi ops.toList (masks ops.toList [])) []) ts h hs K
      | false => False)
    | .seq a b => ev P C n (.code a) ts h hs fun o ts h hs =>
      (match o with
      | .normal => ev P C n (.code b) ts h hs K
      | .exit i => K (.exit i) ts h hs
      | .ret => K .ret ts h hs)
    | .cond c a b =>
      (match opOk c, opv ts c with
      | true, .bool true => ev P C n (.code a) ts h hs K
      | true, .bool false => ev P C n (.code b) ts h hs K
      | _, _ => False)
    | .block id c => ev P C n (.code c) ts h hs fun o ts h hs =>
      (match o with
      | .normal => K .normal ts h hs
      | .exit i => (match Nat.beq i id with
        | true => K .normal ts h hs
        | false => K (.exit i) ts h hs)
      | .ret => K .ret ts h hs)
    | .loop c =>
      (match hs with
      | (0, .ctr) :: t => CodeOk P (.loop c) ts h fun o ts h => K o ts h t
      | _ => ev P C n (.again c) ts h hs K)
    | .exit id => K (.exit id) ts h hs
    | .ret => K .ret ts h hs
    | .label _ => K .normal ts h hs
    | _ => False
  | n + 1, .again c, ts, h, hs, K =>
    ev P C n (.code c) ts h hs fun o ts h hs =>
      (match o with
      | .normal => ev P C n (.again c) ts h hs K
      | .exit i => K (.exit i) ts h hs
      | .ret => K .ret ts h hs)
  | n + 1, .ops all rest, ts, h, hs, K =>
    match rest with
    | [] => K .normal ts h hs
    | o :: rest =>
      (match wantedV all o ts with
      | some true =>
        (match o.op with
        | .call { callee := .value f, args := args, .. } =>
          (match opOk f && allOk args.toList, calleeV (opv ts f) with
          | true, some (g, first, cap) => (match hasBody P g with
            | true => forceL (first ++ opArgs ts args.toList ++ cap) fun l => ev P C n (.call g) l h hs fun _ r h hs => ev P C n (.ops all rest) (putT ts o.dst (r.getD 0 undef)) h hs K
            | false => False)
          | _, _ => False)
        | op => step hs (aop P op o.type ts h) fun v h hs => force v fun v => ev P C n (.ops all rest) (putT ts o.dst v) h hs K)
      | some false => ev P C n (.ops all rest) (putT ts o.dst undef) h hs K
      | none => False)
  | n + 1, .draw all T todo log, ts, h, hs, K =>
    match todo with
    | [] => K .normal ts h hs
    | i :: todo =>
      (match all[i]? with
      | none => False
      | some o =>
        (match wantedV all o (keepT 0 (looks all o) ts) with
        | none => False
        | some false => ev P C n (.draw all T todo (log ++ [(i, false, h)])) (putT ts o.dst undef) h hs K
        | some true =>
          (match quietOp o.op with
          | true => readOk T i h log (readV (keepT 0 (looks all o) ts) h o.op)
              (step hs (aop P o.op o.type (keepT 0 (looks all o) ts) (oneH h.next (readV (keepT 0 (looks all o) ts) h o.op))) fun v _ hs =>
                force v fun v => ev P C n (.draw all T todo (log ++ [(i, false, h)])) (putT ts o.dst v) h hs K)
          | false =>
            (match isEff o.op with
            | false => step hs (aop P o.op o.type (keepT 0 (looks all o) ts) (oneH h.next none)) fun v post hs =>
                (match post.get h.next with
                | some obj => force v fun v => ev P C n (.draw all T todo (log ++ [(i, false, h)])) (putT ts o.dst v) (h.new obj) hs K
                | none => False)
            | true =>
              (match o.op with
              | .call { callee := .value f, args := args, .. } =>
                (match hs with
                | (0, .callv v post) :: hs =>
                  (match opOk f && allOk args.toList, calleeV (opv (keepT 0 (looks all o) ts) f) with
                  | true, some (g, first, cap) => (match hasBody P g && Nat.ble h.next post.next with
                    | true => CallOk P g (first ++ opArgs (keepT 0 (looks all o) ts) args.toList ++ cap) h (fun v2 h2 => v2 = v ∧ h2 = post) ∧
                        ev P C n (.draw all T todo (log ++ [(i, true, h)])) (putT ts o.dst v) post hs K
                    | false => False)
                  | _, _ => False)
                | (0, .callp v) :: hs =>
                  (match opOk f && allOk args.toList, calleeV (opv (keepT 0 (looks all o) ts) f) with
                  | true, some (g, first, cap) => (match hasBody P g with
                    | true => CallPure P g (first ++ opArgs (keepT 0 (looks all o) ts) args.toList ++ cap) v ∧
                        ev P C n (.draw all T todo (log ++ [(i, true, h)])) (putT ts o.dst v) h hs K
                    | false => False)
                  | _, _ => False)
                | hs =>
                  (match opOk f && allOk args.toList, calleeV (opv (keepT 0 (looks all o) ts) f) with
                  | true, some (g, first, cap) => CallOk P g (first ++ opArgs (keepT 0 (looks all o) ts) args.toList ++ cap) h (fun _ _ => True) ∧ NoHint hs
                  | _, _ => False))
              | op => step hs (aop P op o.type (keepT 0 (looks all o) ts) h) fun v post hs =>
                (match Nat.ble h.next post.next with
                | true => force v fun v => ev P C n (.draw all T todo (log ++ [(i, true, h)])) (putT ts o.dst v) post hs K
                | false => False))))))
  | n + 1, .call g, ts, h, hs, K =>
    match memN g C with
    | true =>
      (match hs with
      | (0, .callv v post) :: hs => CallOk P g ts h (fun v2 h2 => v2 = v ∧ h2 = post) ∧ K .normal [v] post hs
      | (0, .callp v) :: hs => CallPure P g ts v ∧ K .normal [v] h hs
      | _ => CallOk P g ts h fun v h => K .normal [v] h hs)
    | false =>
      (match P.funcs[g]? with
      | some fn =>
        (match fn.body with
        | some c => ev P C n (.code c) (ts ++ List.replicate (fn.ntmps - ts.length) undef) h hs fun o ts h hs =>
          (match o with
          | .exit _ => False
          | _ => (match resV P ts h fn.results.toList with
            | some l => forceL l fun l => K .normal [resOf l] h hs
            | none => False))
        | none => False)
      | none => False)

/-- No function with a body has the one name that the machine takes for itself. -/
def Plain (P : Program) : Prop := ∀ (g : Nat) (fn : Func), P.funcs[g]? = some fn → fn.body.isSome = true → (fn.name == "runtime.NumGoroutine") = false

theorem callFunc_run {P : Program} {w : World} {g : Nat} {fn : Func} {args : Array Value} (hf : P.funcs[g]? = some fn) (hb : fn.body.isSome = true) (hn : (fn.name == "runtime.NumGoroutine") = false) :
    (callFunc g args).run P w = .ok (.enter g args) w := by
  have hb' : fn.body.isNone = false := by cases h : fn.body <;> simp_all
  simp only [callFunc, Sem.run_bind, run_program, Result.andThen_ok, hf, hn, hb', Bool.false_eq_true, if_false, Sem.run_pure]

theorem resV_sound {P : Program} {E : Emap} {h : Heap} {w : World} {ts : List Value} {tm : Array Value} (hw : WR E h w) (ht : TR E ts tm) : ∀ (rs : List ResultVar) (l : List Value), resV P ts h rs = some l →
    ∃ l', (rs.mapM fun
      | .tmp t => pure (tm.getD t undef)
      | .cell a t => do loadVar t (← asAddr (tm.getD a undef)) : Sem (List Value)).run P w = .ok l' w ∧ VRs E l.toArray l'.toArray := by
  intro rs
  induction rs with
  | nil => intro l h; cases h; exact ⟨[], rfl, rfl, fun i h1 => absurd h1 (by simp)⟩
  | cons r rs ih =>
    intro l hl
    have cons_rel : ∀ (v v' : Value) (l l' : List Value), VR E v v' → VRs E l.toArray l'.toArray → VRs E (v :: l).toArray (v' :: l').toArray := by
      intro v v' l l' hv hl
      refine ⟨by simpa using hl.1, fun i h1 h2 => ?_⟩
      cases i with
      | zero => exact hv
      | succ i => exact hl.2 i (by simpa using h1) (by simpa using h2)
    cases r with
    | tmp t =>
      simp only [resV] at hl
      split at hl
      · rename_i l0 h0
        cases hl
        obtain ⟨l', h1, h2⟩ := ih l0 h0
        refine ⟨tm.getD t undef :: l', ?_, cons_rel _ _ _ _ (ht.2 t) h2⟩
        simp only [List.mapM_cons, Sem.run_bind, Sem.run_pure, Result.andThen_ok, h1]
      · cases hl
    | cell a t =>
      simp only [resV] at hl
      split at hl
      · rename_i v l0 hv h0
        cases hl
        obtain ⟨l', h1, h2⟩ := ih l0 h0
        obtain ⟨v', h3, h4⟩ := loadV_sound hw hv (ht.2 a)
        refine ⟨v' :: l', ?_, cons_rel _ _ _ _ h4 h2⟩
        have hp : ∃ b, tm.getD a undef = .pointer (some b) := by
          have hr := ht.2 a
          unfold loadV at hv
          split at hv
          · rename_i b o he
            rw [he] at hr
            generalize tm.getD a undef = x at hr
            cases hr
            exact ⟨_, rfl⟩
          · cases hv
        obtain ⟨b, hb⟩ := hp
        rw [hb] at h3
        simp only [Instr.loadAt, Instr.sureAddr, Sem.run_bind, Sem.run_pure, Result.andThen_ok] at h3
        have ha : (asAddr (.pointer (some b))).run P w = .ok b w := rfl
        simp only [List.mapM_cons, Sem.run_bind, Sem.run_pure, Result.andThen_ok, h1, hb, ha, h3]
      · cases hl

theorem results_sound {P : Program} {E : Emap} {h : Heap} {w : World} {ts : List Value} {tm : Array Value} {fn : Func} {l : List Value} (hw : WR E h w) (ht : TR E ts tm) (hr : resV P ts h fn.results.toList = some l) :
    ∃ v, (results fn tm).run P w = .ok v w ∧ VR E (resOf l) v := by
  obtain ⟨l', h1, h2⟩ := resV_sound (P := P) hw ht _ _ hr
  refine ⟨resOf l', ?_, ?_⟩
  · unfold results
    rw [Array.mapM_eq_mapM_toList]
    simp only [Sem.run_bind, Sem.run_map]
    refine (congrArg (fun r : Result (List Value) => (r.andThen fun a w' => (.ok a.toArray w' : Result (Array Value))).andThen fun vs w' => (pure (if h : vs.size = 1 then vs[0] else .tuple vs) : Sem Value).run P w') h1).trans ?_
    simp only [Result.andThen_ok, Sem.run_pure]
    congr 1
    match l' with
    | [] => rfl
    | [v] => rfl
    | _ :: _ :: _ => rfl
  · have hlen : l.length = l'.length := by simpa using h2.1
    match l, l', hlen with
    | [], [], _ => exact .tuple rfl fun i h1 => absurd h1 (by simp)
    | [v], [v'], _ => exact h2.2 0 (by simp) (by simp)
    | v :: x :: l, v' :: x' :: l', _ => exact .tuple h2.1 h2.2

theorem Act.put_defers' (a : Act) (d : Option Tmp) (v : Value) : (a.put d v).defers = a.defers := by cases d <;> rfl

end Go.Ev
