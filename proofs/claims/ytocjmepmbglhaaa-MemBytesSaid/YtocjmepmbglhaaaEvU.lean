/- A region whose order is open: all its orders end as told. No condition. -/
import Derived.Test.YtocjmepmbglhaaaEvS
namespace Go.Ev

section
variable {P : Program} {all : List Oper} {rs : List Rec} {anc : Nat → Nat → Prop} {ts0 : List Value} {h0 : Heap}

/-- Places that are done. -/
def done (rs : List Rec) (listed : Array Bool) (q : Nat) : Prop := ∃ r, rs[q]? = some r ∧ listed.getD r.i false = true

def left (listed : Array Bool) (n : Nat) : Nat := (List.range n).countP fun i => !listed.getD i true

theorem countP_lt {p p' : Nat → Bool} : ∀ (l : List Nat) (i : Nat), i ∈ l → p i = true → p' i = false → (∀ x, p' x = true → p x = true) → l.countP p' < l.countP p := by
  intro l
  induction l with
  | nil => intro i h; simp at h
  | cons x l ih =>
    intro i hi h1 h2 h3
    rw [List.countP_cons, List.countP_cons]
    have hle : l.countP p' ≤ l.countP p := List.countP_mono_left fun y _ hy => h3 y hy
    rcases List.mem_cons.1 hi with h | h
    · subst h
      rw [h1, h2]; simp; omega
    · have := ih i h h1 h2 h3
      by_cases hx : p' x = true
      · rw [h3 x hx, hx]; simp; exact this
      · have : (if p' x = true then 1 else 0) = 0 := by rw [if_neg hx]
        omega

theorem draw_wpAny (hP : Plain P) (ord : Ord all rs ts0.length anc) (hok : AllOk P all ts0 h0 rs) (hrd : Reads h0 rs anc) {E0 : Emap} {w0 : World} (Q : Exit → Act → World → Prop)
    (hQ : ∀ e E hS a w, J P all rs ts0 h0 E0 w0 (fun q => q < rs.length) e E hS a w → Q .normal a w) :
    ∀ (fuel : Nat) (listed : Array Bool) (e : Nat) (E : Emap) (hS : Heap) (a : Act) (w : World), listed.size = all.length → left listed all.length ≤ fuel →
      (∀ (j : Nat) (o : Oper) (ed : Edge), listed.getD j false = true → all[j]? = some o → ed ∈ o.after → Region.binds .any ed = true → listed.getD ed.on false = true) →
      J P all rs ts0 h0 E0 w0 (done rs listed) e E hS a w → wpAny P .any all.toArray Q fuel listed a w := by
  -- if nothing is ready all is done
  have fin : ∀ (listed : Array Bool), listed.size = all.length → Region.ready .any all.toArray listed = [] → done rs listed = fun q => q < rs.length := by
    intro listed hsz hready
    have key : ∀ n, ∀ q, q < n → q < rs.length → done rs listed q := by
      intro n
      induction n with
      | zero => intro q h; omega
      | succ n ih =>
        intro q hqn hql
        by_cases hd : done rs listed q
        · exact hd
        · exfalso
          obtain ⟨r, hr⟩ : ∃ r, rs[q]? = some r := ⟨rs[q], List.getElem?_eq_getElem hql⟩
          have hat := ord.at_ q r hr
          have hil : r.i < all.length := by
            rcases Nat.lt_or_ge r.i all.length with h | h
            · exact h
            · rw [List.getElem?_eq_none h] at hat; cases hat
          have hlf : listed.getD r.i true = false := by
            have h1 : ¬ listed.getD r.i false = true := fun h => hd ⟨r, hr, h⟩
            rw [Array.getD_eq_getD_getElem?, Array.getElem?_eq_getElem (by omega)] at h1 ⊢
            simpa using h1
          have : r.i ∈ Region.ready .any all.toArray listed := by
            unfold Region.ready
            rw [List.mem_filter]
            refine ⟨by simpa using hil, ?_⟩
            rw [hlf]
            simp only [Bool.not_false, Bool.true_and, List.getElem?_toArray, hat, Option.map_some, Option.getD_some]
            rw [Array.all_eq_true']
            intro ed hed
            cases hb : Region.binds .any ed with
            | false => simp
            | true =>
              have hon := ord.on r.i r.o ed hat hed hb
              obtain ⟨q', r', h1, h2⟩ := ord.perm ed.on hon
              have hlt : q' < q := ord.topo q' q r' r h1 hr (by rw [h2]; exact ord.direct r.i r.o ed hat hed hb)
              obtain ⟨r2, h3, h4⟩ := ih q' (by omega) (by omega)
              rw [h1] at h3; cases h3
              rw [h2] at h4
              simp [h4]
          rw [hready] at this
          simp at this
    funext q
    apply propext
    refine ⟨fun ⟨r, hr, _⟩ => ?_, fun h => key (q + 1) q (by omega) h⟩
    rcases Nat.lt_or_ge q rs.length with h | h
    · exact h
    · rw [List.getElem?_eq_none h] at hr; cases hr
  intro fuel
  induction fuel with
  | zero =>
    intro listed e E hS a w hsz hl hcl j
    have hready : Region.ready .any all.toArray listed = [] := by
      rw [List.eq_nil_iff_forall_not_mem]
      intro i hi
      unfold Region.ready at hi
      rw [List.mem_filter] at hi
      have h1 := hi.1
      simp only [Bool.and_eq_true] at hi
      have : 0 < left listed all.length := by
        unfold left
        rw [List.countP_pos_iff]
        exact ⟨i, by simpa using h1, hi.2.1⟩
      omega
    refine ⟨hready, ?_⟩
    rw [fin listed hsz hready] at j
    exact hQ e E hS a w j
  | succ fuel ih =>
    intro listed e E hS a w hsz hl hcl j
    refine ⟨fun hready => ?_, fun i hi => ?_⟩
    · rw [fin listed hsz hready] at j
      exact hQ e E hS a w j
    · unfold Region.ready at hi
      rw [List.mem_filter] at hi
      obtain ⟨hir, hi⟩ := hi
      have hil : i < all.length := by simpa using hir
      simp only [Bool.and_eq_true, Bool.not_eq_true'] at hi
      obtain ⟨hi1, hi2⟩ := hi
      obtain ⟨q, r, hr, hri⟩ := ord.perm i hil
      have hat := ord.at_ q r hr
      rw [hri] at hat
      simp only [List.getElem?_toArray, hat, Option.map_some, Option.getD_some] at hi2
      rw [Array.all_eq_true'] at hi2
      have hif : listed.getD i false = false := by
        rw [Array.getD_eq_getD_getElem?, Array.getElem?_eq_getElem (by omega)] at hi1 ⊢
        simpa using hi1
      have hnS : ¬ done rs listed q := fun ⟨r2, h1, h2⟩ => by
        rw [hr] at h1; cases h1
        rw [hri, hif] at h2; cases h2
      have hclS : ∀ x y, anc x y → listed.getD y false = true → listed.getD x false = true := fun x y hxy hy =>
        ord.closed (fun z => listed.getD z false = true) (fun jj o ed h1 h2 h3 h4 => hcl jj o ed h1 h2 h3 h4) x y hxy hy
      have hget : ∀ x, (listed.setIfInBounds i true).getD x false = if x = i then true else listed.getD x false := by
        intro x
        rw [Array.getD_eq_getD_getElem?, Array.getElem?_setIfInBounds, Array.getD_eq_getD_getElem?]
        by_cases h : i = x
        · subst h; simp [hsz, hil]
        · simp [h, Ne.symm h]
      have hancI : ∀ x, anc x i → x ≠ i → listed.getD x false = true := by
        intro x hx hne
        have := ord.closed (fun z => (listed.setIfInBounds i true).getD z false = true) (fun jj o ed h1 h2 h3 h4 => by
          simp only [hget] at h1 ⊢
          split
          · rfl
          · split at h1
            · rename_i hji
              subst hji
              rw [hat] at h2; cases h2
              have := hi2 ed h3
              rw [h4] at this
              simpa using this
            · exact hcl jj o ed h1 h2 h3 h4) x i hx (by simp only [hget]; simp)
        simp only [hget, if_neg hne] at this
        exact this
      have hwp := j.step hP ord hok hrd (fun q1 q2 r1 r2 h1 h2 h3 h4 => by
          obtain ⟨r3, g1, g2⟩ := h4
          rw [h2] at g1; cases g1
          exact ⟨r1, h1, hclS _ _ h3 g2⟩) hr hnS (fun q1 r1 h1 h2 => by
          refine ⟨r1, h1, hancI r1.i (by rw [← hri]; exact h2) fun hh => ?_⟩
          have := ord.topo q1 q r1 r h1 hr h2
          have := ord.inj q1 q r1 r h1 hr (by rw [hh, hri])
          omega) Q (wpAny P .any all.toArray Q fuel (listed.setIfInBounds i true)) (fun e' E' hS' a' w' j' => by
          refine ih (listed.setIfInBounds i true) e' E' hS' a' w' (by simpa using hsz) ?_ ?_ ?_
          · have : left (listed.setIfInBounds i true) all.length < left listed all.length := by
              unfold left
              refine countP_lt _ i (by simpa using hil) (by simpa using hi1) ?_ fun x hx => ?_
              · rw [Array.getD_eq_getD_getElem?, Array.getElem?_setIfInBounds]; simp [hsz, hil]
              · rw [Array.getD_eq_getD_getElem?, Array.getElem?_setIfInBounds] at hx
                by_cases h : i = x
                · subst h; simp [hsz, hil] at hx
                · rw [if_neg h, ← Array.getD_eq_getD_getElem?] at hx
                  exact hx
            omega
          · intro jj o ed h1 h2 h3 h4
            rw [hget] at h1 ⊢
            split
            · rfl
            · split at h1
              · rename_i hji
                subst hji
                rw [hat] at h2; cases h2
                have := hi2 ed h3
                rw [h4] at this
                simpa using this
              · exact hcl jj o ed h1 h2 h3 h4
          · have hS : done rs (listed.setIfInBounds i true) = fun x => done rs listed x ∨ x = q := by
              funext x
              apply propext
              constructor
              · rintro ⟨r1, h1, h2⟩
                rw [hget] at h2
                split at h2
                · rename_i hh
                  exact .inr (ord.inj x q r1 r h1 hr (by rw [hh, hri]))
                · exact .inl ⟨r1, h1, h2⟩
              · rintro (⟨r1, h1, h2⟩ | h)
                · refine ⟨r1, h1, ?_⟩
                  rw [hget]; split
                  · rfl
                  · exact h2
                · subst h
                  exact ⟨r, hr, by rw [hget, if_pos hri]⟩
            rw [hS]
            exact j')
      rw [hri] at hwp
      exact hwp

end
end Go.Ev
