/- Operations whose order Go leaves open: what is told of one order holds of all. No condition. -/
import Derived.Test.YtocjmepmbglhaaaEvO
namespace Go.Ev

/-! ### one operation, by the slots that it looks at -/
theorem memN_mem (g : Nat) : ∀ l, memN g l = true ↔ g ∈ l
  | [] => by simp [memN]
  | x :: r => by
    simp only [memN]
    cases h : Nat.beq g x with
    | true => simp [Nat.eq_of_beq_eq_true h]
    | false =>
      have := Nat.ne_of_beq_eq_false h
      simp [this, memN_mem g r]

theorem keepT_length : ∀ (ts : List Value) (i : Nat) (ls : List Nat), (keepT i ls ts).length = ts.length
  | [], _, _ => rfl
  | _ :: r, i, ls => by simp [keepT, keepT_length r]
theorem keepT_getD : ∀ (ts : List Value) (i : Nat) (ls : List Nat) (k : Nat), (keepT i ls ts).getD k undef = if memN (i + k) ls = true then ts.getD k undef else undef
  | [], i, ls, k => by simp [keepT]
  | v :: r, i, ls, k => by
    cases k with
    | zero =>
      simp only [keepT, Nat.add_zero, List.getD_cons_zero]
      cases memN i ls <;> simp
    | succ k =>
      simp only [keepT, List.getD_cons_succ]
      rw [keepT_getD r (i + 1) ls k, show i + 1 + k = i + (k + 1) from by omega]

def keepA (ls : List Nat) (tm : Array Value) : Array Value := tm.mapIdx fun i v => if memN i ls = true then v else undef
theorem keepA_getD (ls : List Nat) (tm : Array Value) (k : Nat) : (keepA ls tm).getD k undef = if memN k ls = true then tm.getD k undef else undef := by
  unfold keepA
  rw [Array.getD_eq_getD_getElem?, Array.getElem?_mapIdx, Array.getD_eq_getD_getElem?]
  cases tm[k]? with
  | none => simp
  | some v => simp

/-- What is told of one operation. -/
inductive OpFact (P : Program) (all : List Oper) (o : Oper) (ts : List Value) (pre : Heap) : Value → Heap → Prop
  | skip (h : wantedV all o ts = some false) : OpFact P all o ts pre undef pre
  | op {v : Value} {post : Heap} (hw : wantedV all o ts = some true) (h : aop P o.op o.type ts pre = some (true, v, post)) : OpFact P all o ts pre v post
  | call {v : Value} {post : Heap} {f : Operand} {args : Array Operand} {tys : Array TypeId} {g : Nat} {first cap : List Value} (hw : wantedV all o ts = some true) (ho : o.op = .call { callee := .value f, args := args, argTypes := tys })
      (hok : (opOk f && allOk args.toList) = true) (hc : calleeV (opv ts f) = some (g, first, cap)) (hb : hasBody P g = true)
      (h : CallOk P g (first ++ opArgs ts args.toList ++ cap) pre fun v2 h2 => v2 = v ∧ h2 = post) : OpFact P all o ts pre v post

/-- What is told of an operation that leaves memory alone. -/
inductive QFact (P : Program) (all : List Oper) (o : Oper) (ts : List Value) (pre : Heap) : Value → Prop
  | skip (h : wantedV all o ts = some false) : QFact P all o ts pre undef
  | op {v : Value} {post : Heap} (hw : wantedV all o ts = some true) (hq : quietOp o.op = true) (h : aop P o.op o.type ts pre = some (true, v, post)) : QFact P all o ts pre v

theorem hasBody_some {P : Program} {g : Nat} (h : hasBody P g = true) : ∃ fn, P.funcs[g]? = some fn ∧ fn.body.isSome = true := by
  unfold hasBody at h
  split at h
  · rename_i fn hf; exact ⟨fn, hf, h⟩
  · cases h

theorem call_run {P : Program} (hP : Plain P) {E : Emap} {w : World} {ts : List Value} {a : Act} {o : Oper} {f : Operand} {args : Array Operand} {tys : Array TypeId} {g : Nat} {first cap : List Value} (ht : TR E ts a.tmps)
    (hop : o.op = .call { callee := .value f, args := args, argTypes := tys }) (hok : (opOk f && allOk args.toList) = true) (hcal : calleeV (opv ts f) = some (g, first, cap)) (hb : hasBody P g = true) :
    ∃ cargs, (execOp a.eval o).run P w = .ok (.enter g cargs) w ∧ VRs E (first ++ opArgs ts args.toList ++ cap).toArray cargs := by
  simp only [Bool.and_eq_true] at hok
  have hfr := opv_rel ht hok.1
  have hargs := args_rel ht args hok.2
  unfold calleeV at hcal
  split at hcal
  case h_2 => cases hcal
  rename_i g' first' cap' hfv
  cases hcal
  rw [hfv] at hfr
  generalize hfe : a.eval f = fe at hfr
  cases hfr with
  | func fn q1 q2 q3 q4 =>
    rename_i first2 cap2
    obtain ⟨fn, hf, hb⟩ := hasBody_some hb
    refine ⟨first2 ++ args.map a.eval ++ cap2, ?_, (((LR.of_VRs ⟨q1, q2⟩).append (LR.of_VRs hargs)).append (LR.of_VRs ⟨q3, q4⟩)).to_VRs⟩
    unfold execOp
    rw [hop]
    simp only [resolve, hfe, Deferred.ofValue, pure_bind, invoke]
    exact callFunc_run hf hb (hP g fn hf hb)

/-- The slots' tally for one operation. -/
def seen (all : List Oper) (o : Oper) (a : Act) : Act := { a with tmps := keepA (looks all o) a.tmps }

theorem seen_eval (all : List Oper) (o : Oper) (a : Act) (x : Operand) (hx : x ∈ o.op.operands) : (seen all o a).eval x = a.eval x := by
  cases x with
  | tmp t =>
    show (keepA (looks all o) a.tmps).getD t undef = a.tmps.getD t undef
    rw [keepA_getD, if_pos]
    rw [memN_mem]
    exact List.mem_append_left _ (List.mem_filterMap.2 ⟨.tmp t, by simpa using hx, rfl⟩)
  | _ => rfl

theorem seen_wanted (all : List Oper) (o : Oper) (a : Act) : Region.wanted o (yielded all.toArray (seen all o a).tmps) = Region.wanted o (yielded all.toArray a.tmps) := by
  unfold Region.wanted
  cases hg : o.guard with
  | none => rfl
  | some gw =>
    obtain ⟨g, want⟩ := gw
    have hy : yielded all.toArray (seen all o a).tmps g = yielded all.toArray a.tmps g := by
      unfold yielded
      cases ht : (all.toArray[g]?).bind (·.dst) with
      | none => rfl
      | some t =>
        have hm : memN t (looks all o) = true := by
          rw [memN_mem]
          unfold looks Oper.looksAt
          rw [hg]
          exact List.mem_append_right _ (by simp only [ht]; simp)
        simp only [Option.bind_some, seen, keepA, Array.getElem?_mapIdx, hm, if_true]
        cases a.tmps[t]? <;> rfl
    simp only [hy]

theorem opfact_sound {P : Program} (hP : Plain P) {all : List Oper} {i : Nat} {o : Oper} (hi : all[i]? = some o) (hsel : ∀ cs b, o.op ≠ .select cs b) {ts : List Value} {pre post : Heap} {v : Value}
    (hf : OpFact P all o (keepT 0 (looks all o) ts) pre v post) {E : Emap} {w : World} {a : Act} (hw : WR E pre w) (hs : a.tmps.size = ts.length) (ht : ∀ t, t ∈ looks all o → VR E (ts.getD t undef) (a.tmps.getD t undef))
    (Q : Exit → Act → World → Prop) (K : Act → World → Prop) (hK : ∀ E' w' v', VR E' v v' → Tr E pre w E' post w' → K (a.put o.dst v') w') : wpOp P all.toArray Q i K a w := by
  have hT : TR E (keepT 0 (looks all o) ts) (seen all o a).tmps := by
    refine ⟨by rw [keepT_length]; simp [seen, keepA, hs], fun t => ?_⟩
    rw [keepT_getD, Nat.zero_add]
    show VR E _ ((keepA (looks all o) a.tmps).getD t undef)
    rw [keepA_getD]
    split
    · rename_i hm; exact ht t ((memN_mem _ _).1 hm)
    · exact VR.undef
  have hex : execOp (seen all o a).eval o = execOp a.eval o := execOp_congr o hsel (fun x hx => seen_eval all o a x hx)
  unfold wpOp
  simp only [List.getElem?_toArray, hi]
  cases hf with
  | skip h =>
    have := wantedV_sound hT h
    rw [seen_wanted] at this
    rw [if_neg (by rw [this]; simp)]
    exact hK E w undef VR.undef (Tr.refl hw)
  | op hwn h =>
    have := wantedV_sound hT hwn
    rw [seen_wanted] at this
    rw [if_pos this]
    refine .inl ?_
    obtain ⟨E', w', nx, h1, h2, h3, _⟩ := aop_sound (a := seen all o a) hw hT h
    rw [hex] at h1
    unfold Oper.wp
    rw [h1]
    rcases h2 with ⟨v', rfl, hv⟩ | ⟨rfl, rfl⟩
    · exact hK E' w' v' hv h3
    · exact hK E' w' undef VR.undef h3
  | call hwn ho hok hc hb h =>
    have := wantedV_sound hT hwn
    rw [seen_wanted] at this
    rw [if_pos this]
    refine .inl ?_
    obtain ⟨cargs, h1, h2⟩ := call_run (w := w) hP hT ho hok hc hb
    rw [hex] at h1
    unfold Oper.wp
    rw [h1]
    refine (h.run E w cargs hw h2).mono fun e w' hx => ?_
    obtain ⟨v2, v', E', h', ⟨rfl, rfl⟩, rfl, k3, k4⟩ := hx
    exact hK E' w' v' k3 k4

theorem qfact_sound {P : Program} {all : List Oper} {i : Nat} {o : Oper} (hi : all[i]? = some o) (hsel : ∀ cs b, o.op ≠ .select cs b) {ts : List Value} {pre : Heap} {v : Value}
    (hf : QFact P all o (keepT 0 (looks all o) ts) pre v) {E : Emap} {w : World} {a : Act} (hw : WR E pre w) (hs : a.tmps.size = ts.length) (ht : ∀ t, t ∈ looks all o → VR E (ts.getD t undef) (a.tmps.getD t undef))
    (Q : Exit → Act → World → Prop) (K : Act → World → Prop) (hK : ∀ v', VR E v v' → K (a.put o.dst v') w) : wpOp P all.toArray Q i K a w := by
  have hT : TR E (keepT 0 (looks all o) ts) (seen all o a).tmps := by
    refine ⟨by rw [keepT_length]; simp [seen, keepA, hs], fun t => ?_⟩
    rw [keepT_getD, Nat.zero_add]
    show VR E _ ((keepA (looks all o) a.tmps).getD t undef)
    rw [keepA_getD]
    split
    · rename_i hm; exact ht t ((memN_mem _ _).1 hm)
    · exact VR.undef
  have hex : execOp (seen all o a).eval o = execOp a.eval o := execOp_congr o hsel (fun x hx => seen_eval all o a x hx)
  unfold wpOp
  simp only [List.getElem?_toArray, hi]
  cases hf with
  | skip h =>
    have := wantedV_sound hT h
    rw [seen_wanted] at this
    rw [if_neg (by rw [this]; simp)]
    exact hK undef VR.undef
  | op hwn hq h =>
    have := wantedV_sound hT hwn
    rw [seen_wanted] at this
    rw [if_pos this]
    refine .inl ?_
    obtain ⟨E', w', nx, h1, h2, h3, h4⟩ := aop_sound (a := seen all o a) hw hT h
    obtain ⟨rfl, rfl, _⟩ := h4 hq
    rw [hex] at h1
    unfold Oper.wp
    rw [h1]
    rcases h2 with ⟨v', rfl, hv⟩ | ⟨rfl, rfl⟩
    · exact hK v' hv
    · exact hK undef VR.undef

/-! ### the order in which they are told -/
inductive Kd where
  | same
  | new (o : AObj)
  | eff (p : Heap)

def Kd.isE : Kd → Bool
  | .eff _ => true
  | _ => false

structure Rec where
  i : Nat
  o : Oper
  v : Value
  pre : Heap
  k : Kd

def hStep (h : Heap) : Kd → Heap
  | .same => h
  | .new o => h.new o
  | .eff p => p

def hRun (h : Heap) (rs : List Rec) : Heap := rs.foldl (fun h r => hStep h r.k) h
def tRun (ts : List Value) (rs : List Rec) : List Value := rs.foldl (fun ts r => putT ts r.o.dst r.v) ts

def RecOk (P : Program) (all : List Oper) (ts : List Value) (h : Heap) (r : Rec) : Prop :=
  match r.k with
  | .same => QFact P all r.o (keepT 0 (looks all r.o) ts) r.pre r.v ∧ r.pre.next = h.next
  | .new obj => OpFact P all r.o (keepT 0 (looks all r.o) ts) r.pre r.v (r.pre.new obj) ∧ r.pre.next = h.next ∧ ∀ b, r.pre.get b = none
  | .eff p => OpFact P all r.o (keepT 0 (looks all r.o) ts) h r.v p ∧ r.pre = h ∧ h.next ≤ p.next

structure Ord (all : List Oper) (rs : List Rec) (n : Nat) (anc : Nat → Nat → Prop) : Prop where
  perm : ∀ i, i < all.length → ∃ (q : Nat) (r : Rec), rs[q]? = some r ∧ r.i = i
  inj : ∀ (q q' : Nat) (r r' : Rec), rs[q]? = some r → rs[q']? = some r' → r.i = r'.i → q = q'
  at_ : ∀ (q : Nat) (r : Rec), rs[q]? = some r → all[r.i]? = some r.o
  closed : ∀ S : Nat → Prop, (∀ (j : Nat) (o : Oper) (e : Edge), S j → all[j]? = some o → e ∈ o.after → Region.binds .any e = true → S e.on) → ∀ i j, anc i j → S j → S i
  direct : ∀ (j : Nat) (o : Oper) (e : Edge), all[j]? = some o → e ∈ o.after → Region.binds .any e = true → anc e.on j
  topo : ∀ (q q' : Nat) (r r' : Rec), rs[q]? = some r → rs[q']? = some r' → anc r.i r'.i → q < q'
  lazy : ∀ (q q' : Nat) (r r' : Rec), rs[q]? = some r → rs[q']? = some r' → r.k.isE = true → q' < q → anc r'.i r.i
  race : ∀ (q q' : Nat) (r r' : Rec) t, rs[q]? = some r → rs[q']? = some r' → q ≠ q' → r.o.dst = some t → (t ∈ looks all r'.o ∨ r'.o.dst = some t) → anc r.i r'.i ∨ anc r'.i r.i
  dst : ∀ (q : Nat) (r : Rec) t, rs[q]? = some r → r.o.dst = some t → t < n
  sel : ∀ (q : Nat) (r : Rec), rs[q]? = some r → ∀ cs b, r.o.op ≠ .select cs b
  on : ∀ (j : Nat) (o : Oper) (e : Edge), all[j]? = some o → e ∈ o.after → Region.binds .any e = true → e.on < all.length

/-- What is read is there at each time at which it may be read. -/
def Reads (h0 : Heap) (rs : List Rec) (anc : Nat → Nat → Prop) : Prop :=
  ∀ (q : Nat) (r : Rec), rs[q]? = some r → r.k = .same → ∀ b o, r.pre.get b = some o →
    (hRun h0 (rs.take q)).get b = some o ∧ ∃ s, s ≤ q ∧ (∀ (j : Nat) (rj : Rec), j < s → rs[j]? = some rj → anc rj.i r.i) ∧ b < (hRun h0 (rs.take s)).next ∧
      ∀ (j : Nat) (rj : Rec), s ≤ j → j < q → rs[j]? = some rj → rj.k.isE = true → (hRun h0 (rs.take j)).get b = some o

theorem hRun_succ (h0 : Heap) {rs : List Rec} {q : Nat} {r : Rec} (hq : rs[q]? = some r) : hRun h0 (rs.take (q + 1)) = hStep (hRun h0 (rs.take q)) r.k := by
  unfold hRun
  rw [List.take_add_one, hq]
  simp
theorem tRun_succ (ts : List Value) {rs : List Rec} {q : Nat} {r : Rec} (hq : rs[q]? = some r) : tRun ts (rs.take (q + 1)) = putT (tRun ts (rs.take q)) r.o.dst r.v := by
  unfold tRun
  rw [List.take_add_one, hq]
  simp

end Go.Ev
