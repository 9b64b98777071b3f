/- More operations on named values and objects: reckoning, comparing with nil, slices, rows that are made. No condition. -/
import Derived.Test.YtocjmepmbglhaaaEvC
import Derived.Laws.StructEq
namespace Go.Ev

/-! ### parts of a struct, an array, a tuple -/
def partV (P : Program) (t : TypeId) (cs : Array Value) (off : Nat) : Option (Bool × Value) :=
  match isAggP P t with
  | some true =>
    match sizeP P t with
    | some n => some (true, .agg (cs.extract off (off + n)))
    | none => none
  | some false => some (decide (off < cs.size), cs.getD off undef)
  | none => none

theorem VRs.extract {E : Emap} {c c' : Array Value} (h : VRs E c c') (a b : Nat) : VRs E (c.extract a b) (c'.extract a b) := by
  refine ⟨by simp [h.1], fun i h1 h2 => ?_⟩
  simp only [Array.getElem_extract]
  exact h.2 _ _ _

theorem partV_sound {P : Program} {E : Emap} {w : World} {t : TypeId} {cs cs' : Array Value} {off : Nat} {r : Value} (h : partV P t cs off = some (true, r)) (hc : VRs E cs cs') :
    ∃ r', (part t cs' off).run P w = .ok r' w ∧ VR E r r' := by
  unfold partV at h
  split at h
  · rename_i ha
    split at h
    · rename_i n hn
      cases h
      have hx := hc.extract off (off + n)
      refine ⟨.agg (cs'.extract off (off + n)), ?_, .agg hx.1 hx.2⟩
      simp [part, run_isAgg ha, run_sizeP hn]
    · cases h
  · rename_i ha
    simp only [Option.some.injEq, Prod.mk.injEq, decide_eq_true_eq] at h
    obtain ⟨hlt, rfl⟩ := h
    have hlt' : off < cs'.size := by rw [← hc.1]; exact hlt
    refine ⟨cs'[off], ?_, ?_⟩
    · simp [part, run_isAgg ha, hlt']
    · have := hc.2 off hlt hlt'
      simpa [Array.getD_eq_getD_getElem?, hlt] using this
  · cases h

theorem partV_run {P : Program} {w : World} {t : TypeId} {cs : Array Value} {off : Nat} {r : Value} (h : partV P t cs off = some (true, r)) : (part t cs off).run P w = .ok r w := by
  unfold partV at h
  split at h
  · rename_i ha
    split at h
    · rename_i n hn
      cases h
      simp [part, run_isAgg ha, run_sizeP hn]
    · cases h
  · rename_i ha
    simp only [Option.some.injEq, Prod.mk.injEq, decide_eq_true_eq] at h
    obtain ⟨hlt, rfl⟩ := h
    simp [part, run_isAgg ha, hlt, Array.getD_eq_getD_getElem?]
  · cases h

/-! ### two operands -/
def nilEq (d : TypeDesc) : Value → Value → Option Bool
  | .pointer (some ⟨_, _, none⟩), .pointer none => match d with | .pointer _ => some false | _ => none
  | .pointer none, .pointer (some ⟨_, _, none⟩) => match d with | .pointer _ => some false | _ => none
  | .slice (some _) _ _, .slice none _ _ => match d with | .slice _ => some false | _ => none
  | .slice none _ _, .slice (some _) _ _ => match d with | .slice _ => some false | _ => none
  | .map (some _), .map none => match d with | .map _ _ => some false | _ => none
  | .map none, .map (some _) => match d with | .map _ _ => some false | _ => none
  | _, _ => none

/-- Are two structs' parts the same? -/
def eqFsV (P : Program) (eq : TypeId → Value → Value → Option Bool) (xs ys : Array Value) : List Field → Option Bool
  | [] => some true
  | f :: fs =>
    match f.name == "_" with
    | true => eqFsV P eq xs ys fs
    | false =>
      match partV P f.type xs f.offset, partV P f.type ys f.offset with
      | some (true, a), some (true, b) =>
        match eq f.type a b, eqFsV P eq xs ys fs with
        | some r, some s => some (r && s)
        | _, _ => none
      | _, _ => none

def eqV (P : Program) : Nat → TypeId → Value → Value → Option Bool
  | 0, _, _, _ => none
  | d + 1, t, x, y =>
    match P.underlying t, x, y with
    | some .bool, .bool a, .bool b => some (a == b)
    | some (.int _), .int k a, .int k' b => (match decide (k = k') with
      | true => some (a == b)
      | false => none)
    | some .string, .string a, .string b => some (a == b)
    | some (.struct fs), .agg xs, .agg ys => (match P.stoodInHeld t with
      | false => eqFsV P (eqV P d) xs ys fs.toList
      | true => none)
    | _, _, _ => none

theorem eqV_sound {P : Program} : ∀ (d : Nat) (t : TypeId) (x y : Value) (r : Bool) (w : World), eqV P d t x y = some r → (Op.equalIn d t x y).run P w = .ok r w := by
  intro d
  induction d with
  | zero => intro t x y r w h; simp [eqV] at h
  | succ d ih =>
    intro t x y r w h
    simp only [eqV] at h
    split at h
    · rename_i hu
      cases h
      simp [Op.equalIn, run_underlying hu]
    · rename_i k a k' b hu
      split at h
      · rename_i hk
        cases h
        have hk' : k = k' := of_decide_eq_true hk
        simp [Op.equalIn, run_underlying hu, hk']
      · cases h
    · rename_i hu
      cases h
      simp [Op.equalIn, run_underlying hu]
    · rename_i fs xs ys hu
      split at h
      · rename_i hp
        have hf : P.fieldsOf t = fs := by simp [Program.fieldsOf, hu]
        rw [run_equalIn_struct (P := P) w d t xs ys (by rw [hf]; exact hu) hp, hf]
        clear hu hf hp
        generalize fs.toList = l at h
        induction l generalizing r with
        | nil => cases h; rfl
        | cons f l ihl =>
          simp only [eqFsV] at h
          split at h
          · rename_i hn
            rw [Op.eqFields, if_neg (by simpa using hn)]
            exact ihl _ h
          · rename_i hn
            split at h
            · rename_i a b ha hb
              split at h
              · rename_i r1 s1 h1 h2
                cases h
                rw [Op.eqFields, if_pos (by simpa using hn)]
                have pa : (part f.type xs f.offset).run P w = .ok a w := partV_run ha
                have pb : (part f.type ys f.offset).run P w = .ok b w := partV_run hb
                simp only [Sem.run_bind, pa, pb, Result.andThen_ok, ih _ _ _ _ w h1]
                cases r1
                · simp
                · simpa using ihl _ h2
              · cases h
            · cases h
      · cases h
    · cases h

def binV (P : Program) (op : BinOp) (t : TypeId) (xo yo : Operand) (x y : Value) : Option (Bool × Value) :=
  match closedV x && closedV y with
  | true =>
    match op, x, y with
    | .quo, .int k a, .int k' b => (match decide (k = k') with
      | true => some (decide (b ≠ 0), .int k (k.wrap (a.tdiv b)))
      | false => none)
    | .rem, .int k a, .int k' b => (match decide (k = k') with
      | true => some (decide (b ≠ 0), .int k (a.tmod b))
      | false => none)
    | .shl, .int k a, .int _ b => some (decide (0 ≤ b), .int k (k.wrap (a * 2 ^ min b.toNat k.bits)))
    | .shr, .int k a, .int _ b => some (decide (0 ≤ b), .int k (a.fdiv (2 ^ min b.toNat k.bits)))
    | .eql, .agg c, .agg d => (match pv P (eqGuard .eql t xo yo (.agg c) (.agg d)), eqV P 10000 t (.agg c) (.agg d) with
      | some _, some r => some (true, .bool r)
      | _, _ => none)
    | .neq, .agg c, .agg d => (match pv P (eqGuard .neq t xo yo (.agg c) (.agg d)), eqV P 10000 t (.agg c) (.agg d) with
      | some _, some r => some (true, .bool (!r))
      | _, _ => none)
    | op, x, y => (match pv P (do eqGuard op t xo yo x y; binOp op t x y) with
      | some v => some (true, v)
      | none => none)
  | false =>
    match P.underlying t with
    | some d =>
      match nilEq d x y, op with
      | some b, .eql => some (true, .bool b)
      | some b, .neq => some (true, .bool (!b))
      | _, _ => none
    | none => none

theorem nilEq_at {P : Program} {E : Emap} {w : World} {t : TypeId} {d : TypeDesc} {x y x' y' : Value} {b : Bool} (n : Nat) (hd : P.underlying t = some d) (h : nilEq d x y = some b) (hx : VR E x x') (hy : VR E y y') :
    (Op.equalIn (n + 1) t x' y').run P w = .ok b w := by
  unfold nilEq at h
  split at h
  all_goals first | (cases h; done) | skip
  all_goals
    split at h
    · cases h
      cases hx; cases hy
      simp [Op.equalIn, run_underlying hd]
    · cases h

theorem nilEq_guard {E : Emap} {t : TypeId} {d : TypeDesc} {x y x' y' : Value} {b : Bool} (h : nilEq d x y = some b) (hx : VR E x x') (hy : VR E y y') :
    (∀ op xo yo, eqGuard op t xo yo x' y' = pure ()) ∧ binOp .eql t x' y' = (do pure (.bool (← Op.equal t x' y'))) ∧ binOp .neq t x' y' = (do pure (.bool (!(← Op.equal t x' y')))) := by
  unfold nilEq at h
  split at h
  all_goals first | (cases h; done) | skip
  all_goals
    cases hx; cases hy
    exact ⟨fun op xo yo => by cases op <;> rfl, rfl, rfl⟩

theorem binV_sound {P : Program} {E : Emap} {w : World} {op : BinOp} {t : TypeId} {xo yo : Operand} {x y x' y' r : Value} (h : binV P op t xo yo x y = some (true, r)) (hx : VR E x x') (hy : VR E y y') :
    (do eqGuard op t xo yo x' y'; binOp op t x' y' : Sem Value).run P w = .ok r w := by
  unfold binV at h
  split at h
  · rename_i hc
    simp only [Bool.and_eq_true] at hc
    rw [VR.eq_of_closed hc.1 hx, VR.eq_of_closed hc.2 hy]
    split at h
    · split at h
      · rename_i k a k' b _ hk
        have hk' : k = k' := of_decide_eq_true hk
        subst hk'
        simp only [Option.some.injEq, Prod.mk.injEq, decide_eq_true_eq] at h
        obtain ⟨h0, rfl⟩ := h
        simp [eqGuard, binOp, Op.intDiv, h0]
      · cases h
    · split at h
      · rename_i k a k' b _ hk
        have hk' : k = k' := of_decide_eq_true hk
        subst hk'
        simp only [Option.some.injEq, Prod.mk.injEq, decide_eq_true_eq] at h
        obtain ⟨h0, rfl⟩ := h
        simp [eqGuard, binOp, Op.intDiv, h0]
      · cases h
    · simp only [Option.some.injEq, Prod.mk.injEq, decide_eq_true_eq] at h
      obtain ⟨h0, rfl⟩ := h
      rename_i k a k' b
      have : ¬ b < 0 := by omega
      simp [eqGuard, binOp, Op.shift, this]
    · simp only [Option.some.injEq, Prod.mk.injEq, decide_eq_true_eq] at h
      obtain ⟨h0, rfl⟩ := h
      rename_i k a k' b
      have : ¬ b < 0 := by omega
      simp [eqGuard, binOp, Op.shift, this]
    · split at h
      · rename_i u r0 hg he
        cases h
        have e1 := pv_run w _ hg
        have e2 : (Op.equal t _ _).run P w = .ok r0 w := eqV_sound 10000 _ _ _ _ w he
        simp only [Sem.run_bind, e1, Result.andThen_ok, binOp, e2, Sem.run_pure]
      · cases h
    · split at h
      · rename_i u r0 hg he
        cases h
        have e1 := pv_run w _ hg
        have e2 : (Op.equal t _ _).run P w = .ok r0 w := eqV_sound 10000 _ _ _ _ w he
        simp only [Sem.run_bind, e1, Result.andThen_ok, binOp, e2, Sem.run_pure]
      · cases h
    · split at h
      · rename_i hpv
        cases h
        exact pv_run w _ hpv
      · cases h
  · split at h
    · rename_i d hd
      have he : ∀ b, nilEq d x y = some b → (Op.equal t x' y').run P w = .ok b w := fun b hb => nilEq_at 9999 hd hb hx hy
      split at h
      · rename_i b hb
        cases h
        obtain ⟨h2, h3, h4⟩ := nilEq_guard (t := t) hb hx hy
        rw [h2, h3]
        simp [he b hb]
      · rename_i b hb
        cases h
        obtain ⟨h2, h3, h4⟩ := nilEq_guard (t := t) hb hx hy
        rw [h2, h4]
        simp [he b hb]
      · cases h
    · cases h

/-! ### addresses -/
def fieldAtV (P : Program) (s : TypeId) (f : Nat) : Value → Option Value
  | .pointer (some ⟨b, o, none⟩) =>
    match P.underlying s with
    | some (.struct fields) =>
      match fields[f]? with
      | some fd =>
        match sizeP P fd.type with
        | some (_ + 1) => some (.pointer (some ⟨b, o + fd.offset, none⟩))
        | _ => none
      | none => none
    | _ => none
  | _ => none

theorem fieldAtV_sound {P : Program} {E : Emap} {w : World} {s : TypeId} {f : Nat} {v v' r : Value} (h : fieldAtV P s f v = some r) (hv : VR E v v') :
    ∃ r', (Instr.fieldAt s v' f).run P w = .ok r' w ∧ VR E r r' := by
  unfold fieldAtV at h
  split at h
  · rename_i b o
    cases hv with
    | ptr hp =>
      rename_i p
      split at h
      · rename_i fields hu
        split at h
        · rename_i fd hf
          split at h
          · rename_i n hn
            cases h
            refine ⟨.pointer (some ⟨p.block, p.base + (o + fd.offset), none⟩), ?_, .ptr hp⟩
            simp [Instr.fieldAt, run_underlying hu, hf, Instr.sureAddr, fieldPlace, run_sizeP hn, add_none, Nat.add_assoc]
          · cases h
        · cases h
      · cases h
  · cases h

def indexAtV (P : Program) (t : TypeId) (x ix : Value) : Option (Bool × Value) :=
  match ix with
  | .int _ i =>
    match P.underlying t, x with
    | some (.slice elem), .slice (some ⟨b, o, none⟩) len _ =>
      match sizeP P elem with
      | some n => some (decide (0 ≤ i ∧ i < (len : Int)), .pointer (some ⟨b, o + i.toNat * n, none⟩))
      | none => none
    | some (.array len elem), .pointer (some ⟨b, o, none⟩) =>
      match sizeP P elem with
      | some n => some (decide (0 ≤ i ∧ i < (len : Int)), .pointer (some ⟨b, o + i.toNat * n, none⟩))
      | none => none
    | _, _ => none
  | _ => none

theorem indexAtV_sound {P : Program} {E : Emap} {w : World} {t : TypeId} {x x' ix ix' r : Value} (h : indexAtV P t x ix = some (true, r)) (hx : VR E x x') (hi : VR E ix ix') :
    ∃ r', (Instr.indexAt t x' ix').run P w = .ok r' w ∧ VR E r r' := by
  unfold indexAtV at h
  split at h
  · rename_i k i
    cases hi
    split at h
    · rename_i elem b o len cc hu
      cases hx with
      | slice hp hl ho =>
        rename_i o' p
        split at h
        · rename_i n hn
          simp only [Option.some.injEq, Prod.mk.injEq, decide_eq_true_eq] at h
          obtain ⟨hlt, rfl⟩ := h
          have : o' = p.base + o := ho (by omega)
          subst this
          refine ⟨.pointer (some ⟨p.block, p.base + (o + i.toNat * n), none⟩), ?_, .ptr hp⟩
          simp [Instr.indexAt, asIntOf, run_underlying hu, run_sizeP hn, hlt, add_none, Nat.add_assoc]
        · cases h
    · rename_i len elem b o hu
      cases hx with
      | ptr hp =>
        rename_i p
        split at h
        · rename_i n hn
          simp only [Option.some.injEq, Prod.mk.injEq, decide_eq_true_eq] at h
          obtain ⟨hlt, rfl⟩ := h
          refine ⟨.pointer (some ⟨p.block, p.base + (o + i.toNat * n), none⟩), ?_, .ptr hp⟩
          simp [Instr.indexAt, asIntOf, Instr.sureAddr, run_underlying hu, run_sizeP hn, hlt, add_none, Nat.add_assoc]
        · cases h
    · cases h
  · cases h

def fieldV (P : Program) (t : TypeId) (f : Nat) : Value → Option (Bool × Value)
  | .agg cs =>
    match P.underlying t with
    | some (.struct fields) =>
      match fields[f]? with
      | some fd => partV P fd.type cs fd.offset
      | none => none
    | _ => none
  | _ => none
theorem fieldV_sound {P : Program} {E : Emap} {w : World} {t : TypeId} {f : Nat} {v v' r : Value} (h : fieldV P t f v = some (true, r)) (hv : VR E v v') :
    ∃ r', (Instr.field t v' f).run P w = .ok r' w ∧ VR E r r' := by
  unfold fieldV at h
  split at h
  · rename_i cs
    cases hv with
    | agg hc hh =>
      rename_i cs'
      split at h
      · rename_i fields hu
        split at h
        · rename_i fd hf
          obtain ⟨r', h1, h2⟩ := partV_sound (w := w) h ⟨hc, hh⟩
          exact ⟨r', by simp [Instr.field, run_underlying hu, hf, asAgg, h1], h2⟩
        · cases h
      · cases h
  · cases h

def indexV (P : Program) (t : TypeId) (x ix : Value) : Option (Bool × Value) :=
  match ix with
  | .int _ i =>
    match P.underlying t, x with
    | some (.array len elem), .agg cs =>
      match sizeP P elem with
      | some n =>
        match partV P elem cs (i.toNat * n) with
        | some (b, r) => some (b && decide (0 ≤ i ∧ i < (len : Int)), r)
        | none => none
      | none => none
    | some .string, .string s => some (decide (0 ≤ i ∧ i < (s.size : Int)), .int .u8 (s.data.toList.getD i.toNat 0).toNat)
    | _, _ => none
  | _ => none
theorem indexV_sound {P : Program} {E : Emap} {w : World} {t : TypeId} {x x' ix ix' r : Value} (h : indexV P t x ix = some (true, r)) (hx : VR E x x') (hi : VR E ix ix') :
    ∃ r', (Instr.index t x' ix').run P w = .ok r' w ∧ VR E r r' := by
  unfold indexV at h
  split at h
  · rename_i k i
    cases hi
    split at h
    · rename_i len elem cs hu
      cases hx with
      | agg hc hh =>
        rename_i cs'
        split at h
        · rename_i n hn
          split at h
          · rename_i b r0 hp
            simp only [Option.some.injEq, Prod.mk.injEq, Bool.and_eq_true, decide_eq_true_eq] at h
            obtain ⟨⟨rfl, hlt⟩, rfl⟩ := h
            obtain ⟨r', h1, h2⟩ := partV_sound (w := w) hp ⟨hc, hh⟩
            exact ⟨r', by simp [Instr.index, asIntOf, run_underlying hu, hlt, run_sizeP hn, h1], h2⟩
          · cases h
        · cases h
    · rename_i s hu
      cases hx
      simp only [Option.some.injEq, Prod.mk.injEq, decide_eq_true_eq] at h
      obtain ⟨hlt, rfl⟩ := h
      refine ⟨_, ?_, .int _ _⟩
      have hl : i.toNat < s.size := by omega
      have hl' : i.toNat < s.data.size := hl
      have e : s[i.toNat]? = some (s.data.toList.getD i.toNat 0) := by
        rw [List.getD_eq_getElem?_getD, List.getElem?_eq_getElem (by simpa using hl')]
        rw [getElem?_pos s i.toNat hl]
        rfl
      simp only [Instr.index, asIntOf, Sem.run_bind, Sem.run_pure, Result.andThen_ok, run_underlying hu, hlt.1, if_true, e]
    · cases h
  · cases h

def extractV (ix : Nat) : Value → Option Value
  | .tuple vs => vs[ix]?
  | _ => none
theorem extractV_sound {P : Program} {E : Emap} {w : World} {ix : Nat} {v v' r : Value} (h : extractV ix v = some r) (hv : VR E v v') :
    ∃ r', (Instr.extract v' ix).run P w = .ok r' w ∧ VR E r r' := by
  unfold extractV at h
  split at h
  · rename_i vs
    cases hv with
    | tuple hc hh =>
      rename_i vs'
      obtain ⟨h1, h2⟩ := Array.getElem?_eq_some_iff.1 h
      have h1' : ix < vs'.size := by rw [← hc]; exact h1
      exact ⟨vs'[ix], by simp [Instr.extract, h1'], by rw [← h2]; exact hh ix h1 h1'⟩
  · cases h

end Go.Ev
