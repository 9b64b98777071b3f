/- Maps by keys without names. No condition. -/
import Derived.Test.YtocjmepmbglhaaaEvI
namespace Go.Ev

/-- The place of a key. -/
def findV (P : Program) (kt : TypeId) (key : Value) : List (Value × Value) → Nat → Option (Option Nat)
  | [], _ => some none
  | (k, _) :: es, i =>
    match closedV k with
    | false => none
    | true =>
      match pv P (Op.equal kt key k) with
      | some true => some (some i)
      | some false => findV P kt key es (i + 1)
      | none => none

/-- Entries of the machine that stand to named ones. -/
inductive ER (E : Emap) : List (Value × Value) → List MapEntry → Prop
  | nil : ER E [] []
  | cons {k v : Value} {e : MapEntry} {l : List (Value × Value)} {es : List MapEntry} (hk : VR E k e.key) (hv : VR E v e.val) (h : ER E l es) : ER E ((k, v) :: l) (e :: es)

theorem ER.of {E : Emap} : ∀ (l : List (Value × Value)) (es : List MapEntry), es.length = l.length → (∀ i (h1 : i < l.length) (h2 : i < es.length), VR E l[i].1 es[i].key ∧ VR E l[i].2 es[i].val) → ER E l es := by
  intro l
  induction l with
  | nil => intro es h _; cases es with
    | nil => exact .nil
    | cons _ _ => simp at h
  | cons p l ih =>
    intro es h hh
    cases es with
    | nil => simp at h
    | cons e es =>
      have h0 := hh 0 (by simp) (by simp)
      exact .cons h0.1 h0.2 (ih es (by simpa using h) fun i h1 h2 => hh (i + 1) (by simpa using h1) (by simpa using h2))

theorem ER.len {E : Emap} {l : List (Value × Value)} {es : List MapEntry} (h : ER E l es) : es.length = l.length := by
  induction h with
  | nil => rfl
  | cons _ _ _ ih => simp [ih]
theorem ER.isEmpty {E : Emap} {l : List (Value × Value)} {es : List MapEntry} (h : ER E l es) : es.isEmpty = l.isEmpty := by cases h <;> rfl
theorem ER.get {E : Emap} {l : List (Value × Value)} {es : List MapEntry} (h : ER E l es) : ∀ i (h1 : i < l.length) (h2 : i < es.length), VR E l[i].1 es[i].key ∧ VR E l[i].2 es[i].val := by
  induction h with
  | nil => intro i h1; simp at h1
  | cons hk hv _ ih =>
    intro i h1 h2
    cases i with
    | zero => exact ⟨hk, hv⟩
    | succ i => simpa using ih i (by simpa using h1) (by simpa using h2)
theorem ER.mono {E E' : Emap} (he : ∀ b p, E b = some p → E' b = some p) {l : List (Value × Value)} {es : List MapEntry} (h : ER E l es) : ER E' l es := by
  induction h with
  | nil => exact .nil
  | cons hk hv _ ih => exact .cons (hk.mono he) (hv.mono he) ih

theorem sameNow_equal {P : Program} {kt : TypeId} {d : TypeDesc} {a b : Value} {r r' : Bool} (hd : P.underlying kt = some d) (h : Instr.sameNow d a b = some r) (hp : pv P (Op.equal kt a b) = some r') : r = r' := by
  have he : ∀ n, (Op.equalIn (n + 1) kt a b).run P default = .ok r default := by
    intro n
    unfold Instr.sameNow at h
    split at h
    · rename_i k x k' y
      split at h
      · rename_i hk
        cases h
        simp [Op.equalIn, run_underlying hd, hk]
      · cases h
    · cases h
      simp [Op.equalIn, run_underlying hd]
    · cases h
      simp [Op.equalIn, run_underlying hd]
    · cases h
  have h1 : (Op.equal kt a b).run P default = .ok r default := he 9999
  rw [pv_run default _ hp] at h1
  cases h1
  rfl

theorem findNow_sound {P : Program} {E : Emap} {kt : TypeId} {d : TypeDesc} {key : Value} (hd : P.underlying kt = some d) : ∀ (l : List (Value × Value)) (es : List MapEntry) (i : Nat) (r : Option Nat) (r' : Option (Nat × Value)),
    ER E l es → findV P kt key l i = some r → Instr.findNow d key es i = some r' → (r = none ∧ r' = none) ∨ ∃ j e, r = some (i + j) ∧ es[j]? = some e ∧ r' = some (i + j, e.val) := by
  intro l
  induction l with
  | nil =>
    intro es i r r' h hf hn
    cases h; cases hf; cases hn
    exact .inl ⟨rfl, rfl⟩
  | cons p l ih =>
    intro es i r r' h hf hn
    cases h with
    | cons hk hv hh =>
      rename_i k v e es
      simp only [findV] at hf
      split at hf
      · cases hf
      · rename_i hck
        have hke := VR.eq_of_closed hck hk
        simp only [Instr.findNow, hke] at hn
        split at hf
        · rename_i heq
          cases hf
          split at hn
          · cases hn
            exact .inr ⟨0, e, rfl, rfl, rfl⟩
          · rename_i hs
            have := sameNow_equal hd hs heq
            cases this
          · cases hn
        · rename_i heq
          split at hn
          · rename_i hs
            have := sameNow_equal hd hs heq
            cases this
          · rcases ih es (i + 1) r r' hh hf hn with ⟨h1, h2⟩ | ⟨j, e', h1, h2, h3⟩
            · exact .inl ⟨h1, h2⟩
            · exact .inr ⟨j + 1, e', by rw [h1]; congr 1; omega, by simpa using h2, by rw [h3]; congr 2; omega⟩
          · cases hn
        · cases hf

theorem findAsking_sound {P : Program} {E : Emap} {w : World} {kt : TypeId} {key : Value} : ∀ (l : List (Value × Value)) (es : List MapEntry) (i : Nat) (r : Option Nat),
    ER E l es → findV P kt key l i = some r → ∃ r', (Instr.findAsking kt key es i).run P w = .ok r' w ∧ ((r = none ∧ r' = none) ∨ ∃ j e, r = some (i + j) ∧ es[j]? = some e ∧ r' = some (i + j, e.val)) := by
  intro l
  induction l with
  | nil =>
    intro es i r h hf
    cases h; cases hf
    exact ⟨none, rfl, .inl ⟨rfl, rfl⟩⟩
  | cons p l ih =>
    intro es i r h hf
    cases h with
    | cons hk hv hh =>
      rename_i k v e es
      simp only [findV] at hf
      split at hf
      · cases hf
      · rename_i hck
        have hke := VR.eq_of_closed hck hk
        split at hf
        · rename_i heq
          cases hf
          refine ⟨some (i, e.val), ?_, .inr ⟨0, e, rfl, rfl, rfl⟩⟩
          simp [Instr.findAsking, hke, pv_run w _ heq]
        · rename_i heq
          obtain ⟨r', h1, h2⟩ := ih es (i + 1) r hh hf
          refine ⟨r', ?_, ?_⟩
          · simp only [Instr.findAsking, hke, Sem.run_bind, pv_run w _ heq, Result.andThen_ok, Bool.false_eq_true, if_false, h1]
          · rcases h2 with ⟨h1, h2⟩ | ⟨j, e', h1, h2, h3⟩
            · exact .inl ⟨h1, h2⟩
            · exact .inr ⟨j + 1, e', by rw [h1]; congr 1; omega, by simpa using h2, by rw [h3]; congr 2; omega⟩
        · cases hf

theorem findKey_sound {P : Program} {E : Emap} {w : World} {kt : TypeId} {d : TypeDesc} {key : Value} (hd : P.underlying kt = some d) {l : List (Value × Value)} {es : List MapEntry} {r : Option Nat}
    (h : ER E l es) (hf : findV P kt key l 0 = some r) : ∃ r', (Instr.findKey kt key es).run P w = .ok r' w ∧ ((r = none ∧ r' = none) ∨ ∃ j e, r = some j ∧ es[j]? = some e ∧ r' = some (j, e.val)) := by
  unfold Instr.findKey
  simp only [Sem.run_bind, run_underlying hd, Result.andThen_ok]
  cases hn : Instr.findNow d key es 0 with
  | some r' =>
    refine ⟨r', rfl, ?_⟩
    rcases findNow_sound hd l es 0 r r' h hf hn with h1 | ⟨j, e, h1, h2, h3⟩
    · exact .inl h1
    · exact .inr ⟨j, e, by simpa using h1, h2, by simpa using h3⟩
  | none =>
    obtain ⟨r', h1, h2⟩ := findAsking_sound (w := w) l es 0 r h hf
    refine ⟨r', h1, ?_⟩
    rcases h2 with h1 | ⟨j, e, h1, h2, h3⟩
    · exact .inl h1
    · exact .inr ⟨j, e, by simpa using h1, h2, by simpa using h3⟩

/-- The entries of a map; none: the nil map. -/
def entsV (h : Heap) : Value → Option (List (Value × Value))
  | .map none => some []
  | .map (some r) =>
    match h.get r with
    | some (.map ents) => some ents
    | _ => none
  | _ => none

def lookupV (P : Program) (t : TypeId) (h : Heap) (x key : Value) (ok : Bool) : Option Value :=
  match P.underlying t with
  | some (.map kt et) =>
    match entsV h x, zeroP P et, closedV key, P.underlying kt with
    | some ents, some z, true, some _ =>
      match closedV z, pv P (Instr.checkKey ents.isEmpty 10000 kt key), findV P kt key ents 0 with
      | true, some _, some r =>
        let v : Value × Bool := match r with
          | some i => (match ents[i]? with
            | some e => (e.2, true)
            | none => (undef, false))
          | none => (z, false)
        some (match ok with
          | true => .tuple #[v.1, .bool v.2]
          | false => v.1)
      | _, _, _ => none
    | _, _, _, _ => none
  | _ => none

theorem lookupV_sound {P : Program} {E : Emap} {h : Heap} {w : World} {t : TypeId} {x x' key key' r : Value} {ok : Bool} (hw : WR E h w) (hl : lookupV P t h x key ok = some r) (hx : VR E x x') (hk : VR E key key') :
    ∃ r', (Instr.lookup t x' key' ok).run P w = .ok r' w ∧ VR E r r' := by
  unfold lookupV at hl
  split at hl
  case h_2 => cases hl
  rename_i kt et hu
  split at hl
  case h_2 => cases hl
  rename_i ents z d he hz hck hud
  have hke := VR.eq_of_closed hck hk
  subst hke
  split at hl
  case h_2 => cases hl
  rename_i u r0 hcz hchk hf
  -- what follows once the machine's entries are there
  have fin : ∀ es : Array MapEntry, ER E ents es.toList → ∃ r', (do
      Instr.checkKey es.isEmpty 10000 kt key'
      let (v, ok') ← match ← Instr.findKey kt key' es.toList with
        | some (_, v) => pure (v, true)
        | none => pure (← zeroValue et, false)
      pure (if ok = true then .tuple #[v, .bool ok'] else v) : Sem Value).run P w = .ok r' w ∧ VR E r r' := by
    intro es hER
    obtain ⟨r', h1, h2⟩ := findKey_sound (w := w) hud hER hf
    have hemp : es.isEmpty = ents.isEmpty := by
      rw [← Array.isEmpty_toList]
      exact hER.isEmpty
    simp only [Sem.run_bind, hemp, pv_run w _ hchk, Result.andThen_ok, h1]
    rcases h2 with ⟨rfl, rfl⟩ | ⟨j, e, rfl, h2, rfl⟩
    · simp only [Sem.run_bind, run_zeroP hz, Result.andThen_ok, Sem.run_pure]
      refine ⟨_, rfl, ?_⟩
      cases hl
      cases ok
      · exact VR.of_closed hcz
      · refine .tuple rfl fun i h1 h2 => ?_
        match i, h1 with
        | 0, _ => exact VR.of_closed hcz
        | 1, _ => exact .bool _
    · dsimp only
      refine ⟨_, rfl, ?_⟩
      have hjl : j < es.toList.length := by
        rcases Nat.lt_or_ge j es.toList.length with h | h
        · exact h
        · rw [List.getElem?_eq_none h] at h2; cases h2
      have hjl2 : j < ents.length := by rw [← hER.len]; exact hjl
      have hej : es.toList[j] = e := by
        rw [List.getElem?_eq_getElem hjl] at h2; exact Option.some.inj h2
      have hv := (hER.get j hjl2 hjl).2
      rw [hej] at hv
      simp only [List.getElem?_eq_getElem hjl2] at hl
      cases hl
      cases ok
      · exact hv
      · refine .tuple rfl fun i h1 h2 => ?_
        match i, h1 with
        | 0, _ => exact hv
        | 1, _ => exact .bool _
  unfold entsV at he
  split at he
  · cases he; cases hx
    obtain ⟨r', h1, h2⟩ := fin #[] .nil
    refine ⟨r', ?_, h2⟩
    simp only [Instr.lookup, Sem.run_bind, run_underlying hu, Result.andThen_ok, Sem.run_pure]
    simp only [Sem.run_bind] at h1
    exact h1
  · rename_i r1
    cases hx with
    | map hp =>
      split at he
      · rename_i ents' hg
        cases he
        obtain ⟨p', hp', es, clk, g1, g2, g3⟩ := hw.obj r1 _ hg
        rw [hp] at hp'; cases hp'
        obtain ⟨r', h1, h2⟩ := fin es (ER.of _ _ (by simpa using g2) (fun i h1 h2 => by simpa using g3 i h1 (by simpa using h2)))
        refine ⟨r', ?_, h2⟩
        simp only [Instr.lookup, Sem.run_bind, run_underlying hu, Result.andThen_ok, run_getObj g1, Sem.run_pure]
        simp only [Sem.run_bind] at h1
        exact h1
      · cases he
  · cases he

/-! ### a new entry, an entry anew, one gone -/
def updateV (P : Program) (t : TypeId) (h : Heap) (x key v : Value) : Option (Bool × Heap) :=
  match P.underlying t, x with
  | some (.map kt _), .map (some r) =>
    match h.get r, closedV key, P.underlying kt with
    | some (.map ents), true, some _ =>
      match pv P (Instr.checkKey false 10000 kt key), findV P kt key ents 0 with
      | some _, some none => some (true, h.set r (some (.map (ents ++ [(key, v)]))))
      | some _, some (some i) => some ((match ents[i]? with
          | some e => closedV e.1 && Instr.sameBits 10000 e.1 key
          | none => false), h.set r (some (.map (ents.set i (key, v)))))
      | _, _ => none
    | _, _, _ => none
  | _, _ => none

theorem run_setObj {P : Program} {w : World} {r : Nat} {es : Array MapEntry} {clk : Nat} {o : Obj} (h : w.heap[r]? = some (.map es clk)) : (setObj r o).run P w = .ok () { w with heap := w.heap.setIfInBounds r o } := by
  simp [setObj, Sem.run, h]

theorem map_write {E : Emap} {h : Heap} {w : World} (hw : WR E h w) {b : Nat} {ents ents' : List (Value × Value)} {p : Place} (hb : h.get b = some (.map ents)) (hp : E b = some p) {es' : Array MapEntry} {clk : Nat}
    (hER : ER E ents' es'.toList) : Tr E h w E (h.set b (some (.map ents'))) { w with heap := w.heap.setIfInBounds p.block (.map es' clk) } := by
  have hlt := hw.dom _ _ hp
  refine Tr.write hw hb rfl hp (by simp) rfl rfl rfl (fun r hr => ?_) ⟨es', clk, ?_, by simpa using hER.len, fun i h1 h2 => ?_⟩
  · show (w.heap.setIfInBounds p.block _)[r]? = _
    rw [Array.getElem?_setIfInBounds_ne (Ne.symm hr)]
  · show (w.heap.setIfInBounds p.block _)[p.block]? = _
    simp [hlt]
  · exact hER.get i h1 (by simpa using h2)

theorem ER.snoc {E : Emap} {l : List (Value × Value)} {es : List MapEntry} (h : ER E l es) {k v : Value} {e : MapEntry} (hk : VR E k e.key) (hv : VR E v e.val) : ER E (l ++ [(k, v)]) (es ++ [e]) := by
  induction h with
  | nil => exact .cons hk hv .nil
  | cons hk' hv' _ ih => exact .cons hk' hv' ih
theorem ER.set {E : Emap} {l : List (Value × Value)} {es : List MapEntry} (h : ER E l es) {k v : Value} {e : MapEntry} (hk : VR E k e.key) (hv : VR E v e.val) : ∀ i, ER E (l.set i (k, v)) (es.set i e) := by
  induction h with
  | nil => intro i; exact .nil
  | cons hk' hv' h ih =>
    intro i
    cases i with
    | zero => exact .cons hk hv h
    | succ i => exact .cons hk' hv' (ih i)
theorem ER.erase {E : Emap} {l : List (Value × Value)} {es : List MapEntry} (h : ER E l es) : ∀ i, ER E (l.eraseIdx i) (es.eraseIdx i) := by
  induction h with
  | nil => intro i; exact .nil
  | cons hk' hv' h ih =>
    intro i
    cases i with
    | zero => exact h
    | succ i => exact .cons hk' hv' (ih i)

theorem updateV_sound {P : Program} {E : Emap} {h h' : Heap} {w : World} {t : TypeId} {x x' key key' v v' : Value} (hw : WR E h w) (hl : updateV P t h x key v = some (true, h')) (hx : VR E x x') (hk : VR E key key') (hv : VR E v v') :
    ∃ w', (Instr.mapUpdate t x' key' v').run P w = .ok () w' ∧ Tr E h w E h' w' := by
  unfold updateV at hl
  split at hl
  case h_2 => cases hl
  rename_i kt et r hu
  split at hl
  case h_2 => cases hl
  rename_i ents d hg hck hud
  have hke := VR.eq_of_closed hck hk
  subst hke
  cases hx with
  | map hp =>
    rename_i p
    obtain ⟨p', hp', es, clk, g1, g2, g3⟩ := hw.obj r _ hg
    rw [hp] at hp'; cases hp'
    have hER : ER E ents es.toList := ER.of _ _ (by simpa using g2) (fun i h1 h2 => by simpa using g3 i h1 (by simpa using h2))
    split at hl
    · rename_i u hchk hf
      simp only [Option.some.injEq, Prod.mk.injEq] at hl
      obtain ⟨_, rfl⟩ := hl
      obtain ⟨r', h1, h2⟩ := findKey_sound (w := w) hud hER hf
      rcases h2 with ⟨_, rfl⟩ | ⟨j, e, h2, _⟩
      · refine ⟨{ w with heap := w.heap.setIfInBounds p.block (.map (es.push { key := key', val := v', born := clk }) (clk + 1)) }, ?_, map_write hw hg hp ?_⟩
        · simp only [Instr.mapUpdate, Sem.run_bind, run_underlying hu, Result.andThen_ok, run_getObj g1, pv_run w _ hchk, h1, run_setObj g1]
        · rw [Array.toList_push]
          exact hER.snoc hk hv
      · cases h2
    · rename_i u i hchk hf
      simp only [Option.some.injEq, Prod.mk.injEq] at hl
      obtain ⟨hc, rfl⟩ := hl
      obtain ⟨r', h1, h2⟩ := findKey_sound (w := w) hud hER hf
      rcases h2 with ⟨h2, _⟩ | ⟨j, e, h2, h3, rfl⟩
      · cases h2
      · cases h2
        have hjl : i < es.toList.length := by
          rcases Nat.lt_or_ge i es.toList.length with h | h
          · exact h
          · rw [List.getElem?_eq_none h] at h3; cases h3
        have hjl2 : i < ents.length := by rw [← hER.len]; exact hjl
        have hej : es.toList[i] = e := by
          rw [List.getElem?_eq_getElem hjl] at h3; exact Option.some.inj h3
        have hkk := (hER.get i hjl2 hjl).1
        rw [hej] at hkk
        simp only [List.getElem?_eq_getElem hjl2, Bool.and_eq_true] at hc
        have hek := VR.eq_of_closed hc.1 hkk
        have hsb : Instr.sameBits 10000 e.key key' = true := by rw [hek]; exact hc.2
        have hes : es[i]? = some e := by rw [← Array.getElem?_toList]; exact h3
        refine ⟨{ w with heap := w.heap.setIfInBounds p.block (.map (es.modify i fun e => { e with key := key', val := v' }) clk) }, ?_, map_write hw hg hp ?_⟩
        · simp only [Instr.mapUpdate, Sem.run_bind, run_underlying hu, Result.andThen_ok, run_getObj g1, pv_run w _ hchk, h1, hes, Option.map_some, Option.getD_some, Instr.keyThatStays, hsb, if_true, Sem.run_pure, run_setObj g1]
        · rw [Array.toList_modify]
          have : es.toList.modify i (fun e => { e with key := key', val := v' }) = es.toList.set i { e with key := key', val := v' } := by
            apply List.ext_getElem?
            intro j
            rw [List.getElem?_modify, List.getElem?_set]
            by_cases hij : i = j
            · subst hij
              simp [hes]
              exact hjl
            · simp [hij]
          rw [this]
          exact hER.set (e := { e with key := key', val := v' }) hk hv i
    · cases hl

def deleteV (P : Program) (t : TypeId) (h : Heap) (x key : Value) : Option Heap :=
  match P.underlying t, x with
  | some (.map kt _), .map (some r) =>
    match h.get r, closedV key, P.underlying kt with
    | some (.map ents), true, some _ =>
      match pv P (Instr.checkKey ents.isEmpty 10000 kt key), findV P kt key ents 0 with
      | some _, some none => some (h.set r (some (.map ents)))
      | some _, some (some i) => some (h.set r (some (.map (ents.eraseIdx i))))
      | _, _ => none
    | _, _, _ => none
  | _, _ => none

theorem deleteV_sound {P : Program} {E : Emap} {h h' : Heap} {w : World} {t ty : TypeId} {ts : Array TypeId} {x x' key key' : Value} (hw : WR E h w) (hl : deleteV P t h x key = some h') (ht : ts[0]? = some t) (hx : VR E x x') (hk : VR E key key') :
    ∃ w', (Builtin.delete_ ts ty #[x', key']).run P w = .ok (.tuple #[]) w' ∧ Tr E h w E h' w' := by
  unfold deleteV at hl
  split at hl
  case h_2 => cases hl
  rename_i kt et r hu
  split at hl
  case h_2 => cases hl
  rename_i ents d hg hck hud
  have hke := VR.eq_of_closed hck hk
  subst hke
  cases hx with
  | map hp =>
    rename_i p
    obtain ⟨p', hp', es, clk, g1, g2, g3⟩ := hw.obj r _ hg
    rw [hp] at hp'; cases hp'
    have hER : ER E ents es.toList := ER.of _ _ (by simpa using g2) (fun i h1 h2 => by simpa using g3 i h1 (by simpa using h2))
    have hemp : es.isEmpty = ents.isEmpty := by
      rw [← Array.isEmpty_toList]
      exact hER.isEmpty
    split at hl
    · rename_i u hchk hf
      cases hl
      obtain ⟨r', h1, h2⟩ := findKey_sound (w := w) hud hER hf
      rcases h2 with ⟨_, rfl⟩ | ⟨j, e, h2, _⟩
      · refine ⟨{ w with heap := w.heap.setIfInBounds p.block (.map es clk) }, ?_, map_write hw hg hp hER⟩
        simp only [Builtin.delete_, ht, List.getElem?_toArray, List.getElem?_cons_zero, List.getElem?_cons_succ, Sem.run_bind, run_underlying hu, Result.andThen_ok, run_getObj g1, hemp, pv_run w _ hchk, h1, run_setObj g1, Sem.run_pure]
      · cases h2
    · rename_i u i hchk hf
      cases hl
      obtain ⟨r', h1, h2⟩ := findKey_sound (w := w) hud hER hf
      rcases h2 with ⟨h2, _⟩ | ⟨j, e, h2, h3, rfl⟩
      · cases h2
      · cases h2
        refine ⟨{ w with heap := w.heap.setIfInBounds p.block (.map (es.eraseIdxIfInBounds i) clk) }, ?_, map_write hw hg hp ?_⟩
        · simp only [Builtin.delete_, ht, List.getElem?_toArray, List.getElem?_cons_zero, List.getElem?_cons_succ, Sem.run_bind, run_underlying hu, Result.andThen_ok, run_getObj g1, hemp, pv_run w _ hchk, h1, run_setObj g1, Sem.run_pure]
        · rw [Array.toList_eraseIdxIfInBounds]
          exact hER.erase i
    · cases hl

end Go.Ev
