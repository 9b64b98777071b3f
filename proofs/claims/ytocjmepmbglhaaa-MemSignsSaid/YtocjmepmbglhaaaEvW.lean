/- What the evaluator tells of one order, as records. No condition. -/
import Derived.Test.YtocjmepmbglhaaaEvV
namespace Go.Ev

theorem aop_new {P : Program} {o : Op} {ty : TypeId} {ts : List Value} {h h' : Heap} {c : Bool} {v : Value} (hq : quietOp o = false) (he : isEff o = false) (ha : aop P o ty ts h = some (c, v, h')) : ∃ obj, h' = h.new obj := by
  unfold isEff at he
  rw [hq] at he
  simp only [Bool.not_false, Bool.true_and] at he
  cases o <;> first | (exfalso; revert he; simp; done) | skip
  · -- alloc
    simp only [aop] at ha
    split at ha
    · split at ha
      · cases ha; exact ⟨_, rfl⟩
      · cases ha
    · cases ha
  · simp only [aop] at ha
    split at ha
    · cases ha; exact ⟨_, rfl⟩
    · cases ha
  · -- buildSlice
    simp only [aop] at ha
    split at ha
    · unfold buildSliceV at ha
      split at ha
      · split at ha
        · split at ha
          · split at ha
            · cases ha; exact ⟨_, rfl⟩
            · cases ha
          · cases ha
        · cases ha
      · cases ha
    · cases ha
  · -- makeMap
    rename_i t r
    cases r with
    | none => simp only [aop] at ha; cases ha; exact ⟨_, rfl⟩
    | some x => exfalso; revert he; simp
  · -- makeSlice
    simp only [aop] at ha
    split at ha
    · unfold makeSliceV at ha
      split at ha
      · split at ha
        · split at ha
          · split at ha
            · cases ha; exact ⟨_, rfl⟩
            · cases ha
          · cases ha
        · cases ha
      · cases ha
    · cases ha

theorem oneH_next (n : Nat) (r : Option (Nat × AObj)) : (oneH n r).next = n := by cases r <;> rfl
theorem oneH_get (n : Nat) (b : Nat) (o : AObj) (x : Nat) : (oneH n (some (b, o))).get x = if x = b then some o else none := by
  show getL [(b, some o)] (fun _ => none) x = _
  simp only [getL]
  cases h : Nat.beq b x with
  | true => rw [if_pos (Nat.eq_of_beq_eq_true h).symm]
  | false => rw [if_neg fun e => Nat.ne_of_beq_eq_false h e.symm]
theorem oneH_none (n : Nat) (x : Nat) : (oneH n none).get x = none := rfl

theorem readV_get {ts : List Value} {h : Heap} {o : Op} {b : Nat} {x : AObj} (hr : readV ts h o = some (b, x)) : h.get b = some x := by
  unfold readV at hr
  split at hr
  · split at hr
    · rename_i hg
      cases hr; exact hg
    · cases hr
  · cases hr

def logOf (h0 : Heap) (rs : List Rec) : Log := (rs.zipIdx).map fun (r, q) => (r.i, r.k.isE, hRun h0 (rs.take q))

theorem logOf_length (h0 : Heap) (rs : List Rec) : (logOf h0 rs).length = rs.length := by simp [logOf]
theorem logOf_get (h0 : Heap) (rs : List Rec) {q : Nat} {r : Rec} (hr : rs[q]? = some r) : (logOf h0 rs)[q]? = some (r.i, r.k.isE, hRun h0 (rs.take q)) := by
  simp [logOf, hr]
theorem logOf_snoc (h0 : Heap) (rs : List Rec) (r : Rec) : logOf h0 (rs ++ [r]) = logOf h0 rs ++ [(r.i, r.k.isE, hRun h0 rs)] := by
  unfold logOf
  rw [List.zipIdx_append, List.map_append]
  congr 1
  · apply List.map_congr_left
    intro x hx
    obtain ⟨y, q⟩ := x
    have hq : q < rs.length := by
      have := List.mem_zipIdx hx
      omega
    simp only [List.take_append_of_le_length (Nat.le_of_lt hq)]
  · simp

theorem logRest_split (T : List Nat) (i : Nat) : ∀ (l : Log), ∃ s, logRest T i l = l.drop s ∧ s ≤ l.length ∧ ∀ j x, j < s → l[j]? = some x → ancB T x.1 i = true := by
  intro l
  induction l with
  | nil => exact ⟨0, rfl, Nat.le_refl _, fun j x h => by omega⟩
  | cons x l ih =>
    obtain ⟨j, e, h⟩ := x
    simp only [logRest]
    cases ha : ancB T j i with
    | true =>
      obtain ⟨s, h1, h2, h3⟩ := ih
      refine ⟨s + 1, by simpa using h1, by simp; omega, fun k y hk hy => ?_⟩
      cases k with
      | zero => simp at hy; subst hy; exact ha
      | succ k => exact h3 k y (by omega) (by simpa using hy)
    | false => exact ⟨0, by simp, Nat.zero_le _, fun k y hk => by omega⟩

theorem logReads_at {b : Nat} {o : AObj} : ∀ (l : Log), logReads b o l → ∀ (j i : Nat) (h : Heap), l[j]? = some (i, true, h) → h.get b = some o := by
  intro l
  induction l with
  | nil => intro _ j i h hj; simp at hj
  | cons x l ih =>
    intro hl j i h hj
    obtain ⟨k, e, g⟩ := x
    cases e with
    | true =>
      simp only [logReads] at hl
      cases j with
      | zero => simp at hj; obtain ⟨_, rfl⟩ := hj; exact hl.1
      | succ j => exact ih hl.2 j i h (by simpa using hj)
    | false =>
      simp only [logReads] at hl
      cases j with
      | zero => simp at hj
      | succ j => exact ih hl j i h (by simpa using hj)

section
variable {P : Program} {C : List Nat} {all : List Oper} {T : List Nat} {ts0 : List Value} {h0 : Heap}

/-- What is known of the records so far. -/
structure Told (P : Program) (all : List Oper) (T : List Nat) (ts0 : List Value) (h0 : Heap) (rs : List Rec) : Prop where
  ok : AllOk P all ts0 h0 rs
  rd : Reads h0 rs (fun i j => ancB T i j = true)
  at_ : ∀ (q : Nat) (r : Rec), rs[q]? = some r → all[r.i]? = some r.o
  eff : ∀ (q : Nat) (r : Rec), rs[q]? = some r → r.k.isE = true → isEff r.o.op = true

theorem get_snoc {rs : List Rec} {r x : Rec} {q : Nat} (h : (rs ++ [r])[q]? = some x) : (q < rs.length ∧ rs[q]? = some x) ∨ (q = rs.length ∧ x = r) := by
  rcases Nat.lt_trichotomy q rs.length with hlt | heq | hgt
  · rw [List.getElem?_append_left hlt] at h; exact .inl ⟨hlt, h⟩
  · subst heq; rw [List.getElem?_append_right (Nat.le_refl _)] at h; simp at h; exact .inr ⟨rfl, h.symm⟩
  · rw [List.getElem?_eq_none (by simp; omega)] at h; cases h

theorem take_snoc_lt {rs : List Rec} {r : Rec} {q : Nat} (h : q ≤ rs.length) : (rs ++ [r]).take q = rs.take q := List.take_append_of_le_length h

theorem Told.snoc {rs : List Rec} (t : Told P all T ts0 h0 rs) {r : Rec} (hat : all[r.i]? = some r.o) (hok : RecOk P all (tRun ts0 rs) (hRun h0 rs) r) (hE : r.k.isE = true → isEff r.o.op = true)
    (hrd : r.k = .same → ∀ b o, r.pre.get b = some o → (hRun h0 rs).get b = some o ∧ ∃ s, s ≤ rs.length ∧ (∀ (j : Nat) (rj : Rec), j < s → rs[j]? = some rj → ancB T rj.i r.i = true) ∧ b < (hRun h0 (rs.take s)).next ∧
      ∀ (j : Nat) (rj : Rec), s ≤ j → j < rs.length → rs[j]? = some rj → rj.k.isE = true → (hRun h0 (rs.take j)).get b = some o) : Told P all T ts0 h0 (rs ++ [r]) := by
  refine ⟨fun q x hx => ?_, fun q x hx => ?_, fun q x hx => ?_, fun q x hx => ?_⟩
  · rcases get_snoc hx with ⟨h1, h2⟩ | ⟨rfl, rfl⟩
    · rw [take_snoc_lt (Nat.le_of_lt h1)]; exact t.ok q x h2
    · rw [take_snoc_lt (Nat.le_refl _), List.take_length]; exact hok
  · rcases get_snoc hx with ⟨h1, h2⟩ | ⟨rfl, rfl⟩
    · intro hk b o hb
      obtain ⟨g1, s, g2, g3, g4, g5⟩ := t.rd q x h2 hk b o hb
      refine ⟨by rw [take_snoc_lt (Nat.le_of_lt h1)]; exact g1, s, g2, fun j rj hj hrj => ?_, by rw [take_snoc_lt (by omega)]; exact g4, fun j rj hj1 hj2 hrj hEj => ?_⟩
      · rcases get_snoc hrj with ⟨_, k2⟩ | ⟨k1, _⟩
        · exact g3 j rj hj k2
        · omega
      · rcases get_snoc hrj with ⟨_, k2⟩ | ⟨k1, _⟩
        · rw [take_snoc_lt (by omega)]; exact g5 j rj hj1 hj2 k2 hEj
        · omega
    · intro hk b o hb
      obtain ⟨g1, s, g2, g3, g4, g5⟩ := hrd hk b o hb
      refine ⟨by rw [take_snoc_lt (Nat.le_refl _), List.take_length]; exact g1, s, g2, fun j rj hj hrj => ?_, by rw [take_snoc_lt g2]; exact g4, fun j rj hj1 hj2 hrj hEj => ?_⟩
      · rcases get_snoc hrj with ⟨_, k2⟩ | ⟨k1, _⟩
        · exact g3 j rj hj k2
        · omega
      · rcases get_snoc hrj with ⟨_, k2⟩ | ⟨k1, _⟩
        · rw [take_snoc_lt (by omega)]; exact g5 j rj hj1 hj2 k2 hEj
        · omega
  · rcases get_snoc hx with ⟨h1, h2⟩ | ⟨rfl, rfl⟩
    · exact t.at_ q x h2
    · exact hat
  · rcases get_snoc hx with ⟨h1, h2⟩ | ⟨rfl, rfl⟩
    · exact t.eff q x h2
    · exact hE

theorem tRun_snoc (ts : List Value) (rs : List Rec) (r : Rec) : tRun ts (rs ++ [r]) = putT (tRun ts rs) r.o.dst r.v := by simp [tRun]
theorem hRun_snoc (h : Heap) (rs : List Rec) (r : Rec) : hRun h (rs ++ [r]) = hStep (hRun h rs) r.k := by simp [hRun]

theorem readOk_out {i : Nat} {h : Heap} {log : Log} {rd : Option (Nat × AObj)} {K : Prop} (hr : readOk T i h log rd K) : K ∧ ∀ b o, rd = some (b, o) → b < logNext h (logRest T i log) ∧ ∀ (j k : Nat) (g : Heap), (logRest T i log)[j]? = some (k, true, g) → g.get b = some o := by
  unfold readOk at hr
  split at hr
  · exact ⟨hr, fun b o h => by cases h⟩
  · rename_i b o
    split at hr
    · rename_i hb
      have hb' : b < logNext h (logRest T i log) := by simpa [Nat.blt_eq] using hb
      split at hr
      · refine ⟨hr.2, fun b' o' he => ?_⟩
        cases he
        exact ⟨hb', fun j k g hj => logReads_at _ hr.1 j k g hj⟩
      · rename_i hany
        refine ⟨hr, fun b' o' he => ?_⟩
        cases he
        refine ⟨hb', fun j k g hj => ?_⟩
        exfalso
        have : (logRest T i log).any (·.2.1) = true := by
          rw [List.any_eq_true]
          exact ⟨_, List.mem_of_getElem? hj, rfl⟩
        rw [hany] at this; cases this
    · exact hr.elim

theorem draw_extract : ∀ (n : Nat) (todo : List Nat) (rs : List Rec) (hs : Hints) (K : AOut → List Value → Heap → Hints → Prop), Told P all T ts0 h0 rs →
    ev P C n (.draw all T todo (logOf h0 rs)) (tRun ts0 rs) (hRun h0 rs) hs K → ∃ rs', Told P all T ts0 h0 rs' ∧ rs'.map (·.i) = rs.map (·.i) ++ todo ∧ ∃ hs', K .normal (tRun ts0 rs') (hRun h0 rs') hs' := by
  intro n
  induction n with
  | zero => intro todo rs hs K _ he; exact he.elim
  | succ n ih =>
    intro todo rs hs K told he
    simp only [ev] at he
    cases todo with
    | nil => exact ⟨rs, told, by simp, hs, he⟩
    | cons i todo =>
      simp only at he
      split at he
      · exact he.elim
      rename_i o hi
      -- one record more, and on
      have go : ∀ (r : Rec) (hs' : Hints), r.i = i → r.o = o → Told P all T ts0 h0 (rs ++ [r]) → ev P C n (.draw all T todo (logOf h0 rs ++ [(i, r.k.isE, hRun h0 rs)])) (putT (tRun ts0 rs) o.dst r.v) (hStep (hRun h0 rs) r.k) hs' K →
          ∃ rs', Told P all T ts0 h0 rs' ∧ rs'.map (·.i) = rs.map (·.i) ++ i :: todo ∧ ∃ hs', K .normal (tRun ts0 rs') (hRun h0 rs') hs' := by
        intro r hs' hri hro ht hev
        obtain ⟨rs', k1, k2, k3⟩ := ih todo (rs ++ [r]) hs' K ht (by
          rw [logOf_snoc, tRun_snoc, hRun_snoc, hri, hro]
          exact hev)
        exact ⟨rs', k1, by rw [k2]; simp [hri], k3⟩
      split at he
      · exact he.elim
      · rename_i hw
        refine go ⟨i, o, undef, oneH (hRun h0 rs).next none, .same⟩ hs rfl rfl (told.snoc hi ⟨.skip hw, oneH_next _ _⟩ (fun h => by cases h) (fun _ b x hb => by rw [oneH_none] at hb; cases hb)) he
      · rename_i hw
        split at he
        · -- memory stays
          rename_i hq
          obtain ⟨he, hr⟩ := readOk_out he
          obtain ⟨v, post, hs', h1, h2⟩ := step_sound he
          rw [force_eq] at h2
          generalize hrv : readV (keepT 0 (looks all o) (tRun ts0 rs)) (hRun h0 rs) o.op = rv at h1 hr
          refine go ⟨i, o, v, oneH (hRun h0 rs).next rv, .same⟩ hs' rfl rfl (told.snoc hi ⟨.op hw hq h1, oneH_next _ _⟩ (fun h => by cases h) (fun _ b x hb => ?_)) h2
          cases rv with
          | none => rw [oneH_none] at hb; cases hb
          | some p =>
            obtain ⟨b1, x1⟩ := p
            rw [oneH_get] at hb
            split at hb
            · rename_i hbe
              subst hbe
              cases hb
              obtain ⟨r1, r2⟩ := hr b x rfl
              obtain ⟨s, s1, s2, s3⟩ := logRest_split T i (logOf h0 rs)
              rw [logOf_length] at s2
              refine ⟨readV_get hrv, s, s2, fun j rj hj hrj => ?_, ?_, fun j rj hj1 hj2 hrj hEj => ?_⟩
              · exact s3 j _ hj (logOf_get h0 rs hrj)
              · rw [s1] at r1
                rcases Nat.lt_or_ge s rs.length with hlt | hge
                · obtain ⟨rr, hrr⟩ : ∃ rr, rs[s]? = some rr := ⟨rs[s], List.getElem?_eq_getElem hlt⟩
                  have hls := logOf_get h0 rs hrr
                  have hd : (logOf h0 rs).drop s = (rr.i, rr.k.isE, hRun h0 (rs.take s)) :: (logOf h0 rs).drop (s + 1) := by
                    have hlt' : s < (logOf h0 rs).length := by rw [logOf_length]; exact hlt
                    rw [List.drop_eq_getElem_cons hlt']
                    rw [List.getElem?_eq_getElem hlt'] at hls
                    rw [Option.some.inj hls]
                  rw [hd] at r1
                  exact r1
                · have : (logOf h0 rs).drop s = [] := List.drop_eq_nil_of_le (by rw [logOf_length]; exact hge)
                  rw [this] at r1
                  rw [take_over hge]
                  exact r1
              · rw [s1] at r2
                refine r2 (j - s) rj.i _ ?_
                rw [List.getElem?_drop, show s + (j - s) = j from by omega, logOf_get h0 rs hrj, hEj]
            · cases hb
        · rename_i hq
          split at he
          · -- a new object
            rename_i hef
            obtain ⟨v, post, hs', h1, h2⟩ := step_sound he
            obtain ⟨obj, rfl⟩ := aop_new hq hef h1
            split at h2
            · rename_i obj' ho
              have : obj' = obj := by
                rw [Heap.get_new, oneH_next, if_pos rfl] at ho
                exact (Option.some.inj ho).symm
              subst this
              rw [force_eq] at h2
              exact go ⟨i, o, v, oneH (hRun h0 rs).next none, .new obj'⟩ hs' rfl rfl (told.snoc hi ⟨.op hw h1, oneH_next _ _, fun _ => rfl⟩ (fun h => by cases h) (fun h => by cases h)) h2
            · exact h2.elim
          · -- memory turns
            rename_i hef
            split at he
            · rename_i op f args tys hop
              split at he
              · rename_i v post hs'
                split at he
                · rename_i g first cap hok hcal
                  split at he
                  · rename_i hb
                    simp only [Bool.and_eq_true] at hb
                    have hnx : (hRun h0 rs).next ≤ post.next := Nat.le_of_ble_eq_true hb.2
                    exact go ⟨i, o, v, hRun h0 rs, .eff post⟩ hs' rfl rfl (told.snoc hi ⟨.call hw hop hok hcal hb.1 he.1, rfl, hnx⟩ (fun _ => hef) (fun h => by cases h)) he.2
                  · exact he.elim
                · exact he.elim
              · rename_i v hs'
                split at he
                · rename_i g first cap hok hcal
                  split at he
                  · rename_i hb
                    exact go ⟨i, o, v, hRun h0 rs, .eff (hRun h0 rs)⟩ hs' rfl rfl (told.snoc hi ⟨.call hw hop hok hcal hb (he.1 _), rfl, Nat.le_refl _⟩ (fun _ => hef) (fun h => by cases h)) he.2
                  · exact he.elim
                · exact he.elim
              · split at he
                · exact nomatch he.2
                · exact he.elim
            · obtain ⟨v, post, hs', h1, h2⟩ := step_sound he
              split at h2
              · rename_i hb
                rw [force_eq] at h2
                exact go ⟨i, o, v, hRun h0 rs, .eff post⟩ hs' rfl rfl (told.snoc hi ⟨.op hw h1, rfl, Nat.le_of_ble_eq_true hb⟩ (fun _ => hef) (fun h => by cases h)) h2
              · exact h2.elim

end
end Go.Ev
