/- Any operation that may come next: all goes on as told. No condition. -/
import Derived.Test.YtocjmepmbglhaaaEvR
namespace Go.Ev

section
variable {P : Program} {all : List Oper} {rs : List Rec} {anc : Nat → Nat → Prop} {ts0 : List Value} {h0 : Heap}

theorem wr_empty {E : Emap} {w : World} (hd : ∀ b p, E b = some p → p.block < w.heap.size) {pre : Heap} (hp : ∀ b, pre.get b = none) : WR (cut E pre.next) pre w :=
  ⟨fun b o hb => (by rw [hp b] at hb; cases hb), fun b _ o _ _ _ _ hb => (by rw [hp b] at hb; cases hb), fun b p hb => hd b p (cut_some.1 hb).2, fun b hb => by unfold cut; rw [if_neg (by omega)]⟩

theorem J.step (hP : Plain P) (ord : Ord all rs ts0.length anc) (hok : AllOk P all ts0 h0 rs) (hrd : Reads h0 rs anc) {E0 E : Emap} {w0 w : World} {S : Nat → Prop} {e : Nat} {hS : Heap} {a : Act} (j : J P all rs ts0 h0 E0 w0 S e E hS a w)
    (hcl : ∀ (q q' : Nat) (r r' : Rec), rs[q]? = some r → rs[q']? = some r' → anc r.i r'.i → S q' → S q)
    {q : Nat} {r : Rec} (hr : rs[q]? = some r) (hnS : ¬ S q) (hanc : ∀ (q' : Nat) (r' : Rec), rs[q']? = some r' → anc r'.i r.i → S q')
    (Q : Exit → Act → World → Prop) (K : Act → World → Prop) (hK : ∀ e' E' hS' a' w', J P all rs ts0 h0 E0 w0 (fun x => S x ∨ x = q) e' E' hS' a' w' → K a' w') : wpOp P all.toArray Q r.i K a w := by
  have hle : e ≤ q := by
    rcases Nat.lt_or_ge q e with h | h
    · exact absurd (j.pre q h) hnS
    · exact h
  have hql : q < rs.length := by
    rcases Nat.lt_or_ge q rs.length with h | h
    · exact h
    · rw [List.getElem?_eq_none h] at hr; cases hr
  have hrok := hok q r hr
  have hat := ord.at_ q r hr
  have hsel := ord.sel q r hr
  have hlooks : ∀ t, t ∈ looks all r.o → VR (cut E (nx h0 rs q)) ((tRun ts0 (rs.take q)).getD t undef) (a.tmps.getD t undef) := fun t ht => j.looks_ok ord hok hcl hr hnS hanc ht
  have hsz : a.tmps.size = (tRun ts0 (rs.take q)).length := by rw [tRun_length]; exact j.len
  have lena : ∀ v', (a.put r.o.dst v').tmps.size = ts0.length := fun v' => by
    rw [← j.len]
    cases r.o.dst <;> simp [Act.put]
  have wdom := j.tr.wr.dom
  unfold RecOk at hrok
  split at hrok
  · -- memory stays
    rename_i hk
    obtain ⟨hf, hn⟩ := hrok
    have hn' : r.pre.next = nx h0 rs q := hn
    -- what is read is there
    have sub : ∀ b o, r.pre.get b = some o → b < r.pre.next ∧ hS.get b = some o ∧ ∀ p, E b = some p → Holds (cut E r.pre.next) w p o := by
      intro b o hb
      obtain ⟨g1, s, g2, g3, g4, g5⟩ := hrd q r hr hk b o hb
      -- as far on as s
      obtain ⟨e1, he1, he1q, hse1, j1⟩ : ∃ e1, e ≤ e1 ∧ e1 ≤ q ∧ s ≤ e1 ∧ J P all rs ts0 h0 E0 w0 S e1 E hS a w := by
        rcases Nat.lt_or_ge e s with h | h
        · refine ⟨e + (s - e), by omega, by omega, by omega, j.advance_to hok (s - e) e (by omega) fun k k1 k2 => ?_⟩
          have hkl : k < rs.length := by omega
          exact hanc k rs[k] (List.getElem?_eq_getElem hkl) (g3 k _ (by omega) (List.getElem?_eq_getElem hkl))
        · exact ⟨e, Nat.le_refl _, hle, h, j⟩
      have hb1 : b < nx h0 rs e1 := Nat.lt_of_lt_of_le g4 (nx_mono hok hse1)
      have hget := reads_back hok g4 g1 g5 (q - e1) e1 (by omega) hse1
      refine ⟨?_, ?_, fun p hp => ?_⟩
      · rw [hn']; exact Nat.lt_of_lt_of_le hb1 (nx_mono hok he1q)
      · rw [j1.low b hb1]; exact hget
      · rw [hn']
        exact (j1.lowH b o p hb1 (by rw [j1.low b hb1]; exact hget) hp).mono (cut_mono (nx_mono hok he1q) (fun _ _ h => h)) rfl
    have hw1 : WR (cut E r.pre.next) r.pre w := WRo.part j.tr.wr (fun b o hb => ⟨(sub b o hb).1, (sub b o hb).2.1⟩) (fun b o p hb hp => (sub b o hb).2.2 p hp)
    refine qfact_sound hat hsel hf hw1 hsz (fun t ht => by rw [hn']; exact hlooks t ht) Q K fun v' hv => ?_
    rw [hn'] at hv
    refine hK e E hS _ w ⟨j.le, fun x hx => .inl (j.pre x hx), fun x r' h1 h2 h3 => ?_, j.tr, j.low, j.lowH, fun x r' obj h1 h2 h3 h4 => ?_, j.top, fun b hb hx => ?_, j.old, by rw [Act.put_defers']; exact j.dfr, lena v', ?_⟩
    · rcases h3 with h3 | h3
      · exact j.non x r' h1 h2 h3
      · subst h3; rw [hr] at h2; cases h2; rw [hk]; rfl
    · rcases h3 with h3 | h3
      · exact j.mid x r' obj h1 h2 h3 h4
      · subst h3; rw [hr] at h2; cases h2; rw [hk] at h4; cases h4
    · exact j.high b hb fun x r' obj h1 h2 h3 h4 => hx x r' obj h1 h2 (.inl h3) h4
    · exact j.slots ord hcl hr hnS (fun _ _ h => h) (hv.mono (cut_mono (nx_step hok hr) (fun _ _ h => h)))
  · -- a new object
    rename_i obj hk
    obtain ⟨hf, hn, hemp⟩ := hrok
    have hn' : r.pre.next = nx h0 rs q := hn
    have hw1 : WR (cut E r.pre.next) r.pre w := wr_empty wdom hemp
    have hnew : nx h0 rs (q + 1) = nx h0 rs q + 1 := nx_new hr hk
    -- nobody has that name
    have hother : ∀ (x : Nat) (r' : Rec) (ob : AObj), rs[x]? = some r' → x ≠ q → r'.k = .new ob → nx h0 rs x ≠ nx h0 rs q := by
      intro x r' ob h1 h2 h3
      have hx := nx_new (h0 := h0) h1 h3
      rcases Nat.lt_or_ge x q with h | h
      · have := nx_mono (h0 := h0) hok (show x + 1 ≤ q by omega); omega
      · have := nx_mono (h0 := h0) hok (show q + 1 ≤ x by omega); omega
    have hfree : hS.get (nx h0 rs q) = none ∧ E (nx h0 rs q) = none := by
      refine j.high _ (nx_mono hok hle) fun x r' ob h1 h2 h3 h4 => ?_
      exact Ne.symm (hother x r' ob h2 (fun h => hnS (h ▸ h3)) h4)
    refine opfact_sound hP hat hsel hf hw1 hsz (fun t ht => by rw [hn']; exact hlooks t ht) Q K fun E1 w1 v' hv tr => ?_
    have hpn : (r.pre.new obj).next = nx h0 rs q + 1 := by show r.pre.next + 1 = _; rw [hn']
    have hgn : ∀ b, (r.pre.new obj).get b = if b = nx h0 rs q then some obj else none := fun b => by rw [Heap.get_new, hn', hemp b]
    let hS2 : Heap := hS.set (nx h0 rs q) (some obj)
    have hg2 : ∀ b, hS2.get b = if b = nx h0 rs q then some obj else hS.get b := fun b => Heap.get_set _ _ _ _
    obtain ⟨tro, up⟩ := Tr.lift (hS2 := hS2) j.tr.wr (h1 := r.pre) (fun b o hb => by rw [hemp b] at hb; cases hb) tr (fun b k1 k2 => by
        rw [hn'] at k1; rw [hpn] at k2
        have : b = nx h0 rs q := by omega
        subst this; exact hfree.2) (fun b o hb => by
        rw [hg2] at hb
        split at hb
        · rename_i h; left; rw [hgn, if_pos h]; exact hb
        · rename_i h; right; exact ⟨hb, hemp b, by rw [hn', hpn]; omega⟩)
    rw [hpn] at tro up
    have hheap : ∀ x, x < w.heap.size → w1.heap[x]? = w.heap[x]? := fun x hx => tr.frame x hx fun b o p hb => by rw [hemp b] at hb; cases hb
    have hE2 : ∀ b o p, hS.get b = some o → join E1 E (nx h0 rs q + 1) b = some p → E b = some p := by
      intro b o p hb hp
      obtain ⟨p0, hp0, _⟩ := j.tr.wr.obj b o hb
      rw [tro.ext _ _ hp0] at hp
      cases hp; exact hp0
    have hmono : ∀ n, ∀ b p, cut E n b = some p → cut (join E1 E (nx h0 rs q + 1)) n b = some p := fun n => cut_mono (Nat.le_refl _) tro.ext
    have hE1cut : ∀ b p, E1 b = some p → cut (join E1 E (nx h0 rs q + 1)) (nx h0 rs (q + 1)) b = some p := fun b p hb => by
      refine cut_some.2 ⟨?_, up b p hb⟩
      rw [hnew, ← hpn]
      rcases Nat.lt_or_ge b (r.pre.new obj).next with h | h
      · exact h
      · rw [tr.wr.fresh b h] at hb; cases hb
    refine hK e (join E1 E (nx h0 rs q + 1)) hS2 _ w1 ⟨j.le, fun x hx => .inl (j.pre x hx), fun x r' h1 h2 h3 => ?_, j.tr.trans tro, fun b hb => ?_, fun b o p hb ho hp => ?_, fun x r' ob h1 h2 h3 h4 => ?_, j.top, fun b hb hx => ?_, fun b hb => by
      have h0n : h0.next ≤ nx h0 rs q := by
        have : h0.next = nx h0 rs 0 := by simp [nx, hRun]
        rw [this]; exact nx_mono hok (Nat.zero_le _)
      unfold join
      rw [if_pos (by omega), tr.old b (by rw [hn']; omega)]
      unfold cut
      rw [if_pos (by rw [hn']; omega)]
      exact j.old b hb, by rw [Act.put_defers']; exact j.dfr, lena v', ?_⟩
    · rcases h3 with h3 | h3
      · exact j.non x r' h1 h2 h3
      · subst h3; rw [hr] at h2; cases h2; rw [hk]; rfl
    · have := nx_mono (h0 := h0) hok hle
      rw [hg2, if_neg (by omega)]; exact j.low b hb
    · have := nx_mono (h0 := h0) hok hle
      rw [hg2, if_neg (by omega)] at ho
      have hp' := hE2 b o p ho hp
      exact (j.lowH b o p hb ho hp').mono (hmono _) (hheap _ (wdom _ _ hp'))
    · rcases h3 with h3 | h3
      · obtain ⟨m1, m2⟩ := j.mid x r' ob h1 h2 h3 h4
        have hne := hother x r' ob h2 (fun h => hnS (h ▸ h3)) h4
        refine ⟨by rw [hg2, if_neg hne]; exact m1, fun p hp => ?_⟩
        have hp' := hE2 _ ob p m1 hp
        exact (m2 p hp').mono (hmono _) (hheap _ (wdom _ _ hp'))
      · subst h3; rw [hr] at h2; cases h2; rw [hk] at h4; cases h4
        refine ⟨by rw [hg2, if_pos rfl], fun p hp => ?_⟩
        obtain ⟨p0, hp0, hh⟩ := tr.wr.obj (nx h0 rs x) obj (by rw [hgn, if_pos rfl])
        have := up _ _ hp0
        rw [this] at hp; cases hp
        have := hh.of_cut hE1cut
        rwa [hnew] at this
    · have hbq : b ≠ nx h0 rs q := hx q r obj hle hr (.inr rfl) hk
      obtain ⟨k1, k2⟩ := j.high b hb fun x r' ob h1 h2 h3 h4 => hx x r' ob h1 h2 (.inl h3) h4
      refine ⟨by rw [hg2, if_neg hbq]; exact k1, ?_⟩
      unfold join
      split
      · rename_i hlt
        rw [tr.old b (by rw [hn']; omega)]
        unfold cut
        split <;> first | exact k2 | rfl
      · exact k2
    · exact j.slots ord hcl hr hnS tro.ext (hv.mono hE1cut)
  · -- memory turns
    rename_i p hk
    obtain ⟨hf, hpre, hnp⟩ := hrok
    have hkE : r.k.isE = true := by rw [hk]; rfl
    -- all that is told ahead is done
    have j1 : J P all rs ts0 h0 E0 w0 S q E hS a w := by
      have := j.advance_to hok (q - e) e (by omega) fun k k1 k2 => by
        have hkl : k < rs.length := by omega
        exact hanc k rs[k] (List.getElem?_eq_getElem hkl) (ord.lazy q k r _ hr (List.getElem?_eq_getElem hkl) hkE (by omega))
      rwa [show e + (q - e) = q from by omega] at this
    have hnq : nx h0 rs q = (hRun h0 (rs.take q)).next := rfl
    have hsub : ∀ b o, (hq h0 rs q).get b = some o → b < (hq h0 rs q).next ∧ hS.get b = some o := by
      intro b o hb
      have hlt : b < nx h0 rs q := by
        rcases Nat.lt_or_ge b (nx h0 rs q) with h | h
        · exact h
        · rw [j1.top b h] at hb; cases hb
      exact ⟨hlt, by rw [j1.low b hlt]; exact hb⟩
    have hw1 : WR (cut E (hq h0 rs q).next) (hq h0 rs q) w := WRo.part j.tr.wr hsub (fun b o pp hb hp => j1.lowH b o pp (hsub b o hb).1 (hsub b o hb).2 hp)
    have hnew : nx h0 rs (q + 1) = p.next := by unfold nx; rw [hRun_succ h0 hr, hk]; rfl
    have hhq : hq h0 rs (q + 1) = p := by unfold hq; rw [hRun_succ h0 hr, hk]; rfl
    refine opfact_sound hP hat hsel hf hw1 hsz (fun t ht => hlooks t ht) Q K fun E1 w1 v' hv tr => ?_
    let hS2 : Heap := ⟨[], fun b => if b < p.next then p.get b else hS.get b, 0⟩
    have hg2 : ∀ b, hS2.get b = if b < p.next then p.get b else hS.get b := fun b => rfl
    have hlate : ∀ (x : Nat), q + 1 ≤ x → p.next ≤ nx h0 rs x := fun x hx => by rw [← hnew]; exact nx_mono hok hx
    have hhigh : ∀ b, nx h0 rs q ≤ b → (∀ (x : Nat) (r' : Rec) (ob : AObj), q + 1 ≤ x → rs[x]? = some r' → S x → r'.k = .new ob → b ≠ nx h0 rs x) → hS.get b = none ∧ E b = none := by
      intro b hb hx
      refine j1.high b hb fun x r' ob h1 h2 h3 h4 => ?_
      by_cases h : x = q
      · subst h; exact absurd h3 hnS
      · exact hx x r' ob (by omega) h2 h3 h4
    obtain ⟨tro, up⟩ := Tr.lift (hS2 := hS2) j.tr.wr (h1 := hq h0 rs q) hsub tr (fun b k1 k2 =>
        (hhigh b k1 fun x r' ob h1 h2 h3 h4 => by have := hlate x h1; omega).2) (fun b o hb => by
        rw [hg2] at hb
        split at hb
        · left; exact hb
        · rename_i h
          right
          have hnp' : nx h0 rs q ≤ p.next := hnp
          exact ⟨hb, j1.top b (by omega), .inr (by omega)⟩)
    have hE1cut : ∀ b pp, E1 b = some pp → cut (join E1 E p.next) (nx h0 rs (q + 1)) b = some pp := fun b pp hb => by
      refine cut_some.2 ⟨?_, up b pp hb⟩
      rw [hnew]
      rcases Nat.lt_or_ge b p.next with h | h
      · exact h
      · rw [tr.wr.fresh b h] at hb; cases hb
    have hnp' : nx h0 rs q ≤ p.next := hnp
    refine hK (q + 1) (join E1 E p.next) hS2 _ w1 ⟨hql, fun x hx => ?_, fun x r' h1 h2 h3 => ?_, j.tr.trans tro, fun b hb => ?_, fun b o pp hb ho hp => ?_, fun x r' ob h1 h2 h3 h4 => ?_, fun b hb => ?_, fun b hb hx => ?_, fun b hb => by
      have h0n : h0.next ≤ nx h0 rs q := by
        have : h0.next = nx h0 rs 0 := by simp [nx, hRun]
        rw [this]; exact nx_mono hok (Nat.zero_le _)
      have hqn : (hq h0 rs q).next = nx h0 rs q := rfl
      unfold join
      rw [if_pos (by omega), tr.old b (by omega)]
      unfold cut
      rw [if_pos (by omega)]
      exact j.old b hb, by rw [Act.put_defers']; exact j.dfr, lena v', ?_⟩
    · by_cases h : x = q
      · exact .inr h
      · exact .inl (j1.pre x (by omega))
    · rcases h3 with h3 | h3
      · exact j1.non x r' (by omega) h2 h3
      · omega
    · rw [hnew] at hb
      rw [hg2, if_pos hb, hhq]
    · rw [hnew] at hb
      rw [hg2, if_pos hb] at ho
      obtain ⟨p0, hp0, hh⟩ := tr.wr.obj b o ho
      have := up _ _ hp0
      rw [this] at hp; cases hp
      exact hh.of_cut hE1cut
    · rcases h3 with h3 | h3
      · have hge := hlate x h1
        obtain ⟨m1, m2⟩ := j1.mid x r' ob (by omega) h2 h3 h4
        refine ⟨by rw [hg2, if_neg (by omega)]; exact m1, fun pp hp => ?_⟩
        have hp' : E (nx h0 rs x) = some pp := by
          unfold join at hp
          rwa [if_neg (by omega)] at hp
        refine (m2 pp hp').mono (cut_mono (Nat.le_refl _) tro.ext) ?_
        refine tr.frame _ (wdom _ _ hp') fun b o pb hb ho hpb => ?_
        have hne : b ≠ nx h0 rs x := by have := (hsub b o hb).1; have h2 : (hq h0 rs q).next = nx h0 rs q := rfl; omega
        exact j.tr.wr.sep b _ o ob pb pp hne (hsub b o hb).2 m1 ho (cut_some.1 hpb).2 hp'
      · omega
    · rw [hnew] at hb
      rw [hhq]
      cases hx : p.get b with
      | none => rfl
      | some o =>
        obtain ⟨p0, hp0, _⟩ := tr.wr.obj b o hx
        rw [tr.wr.fresh b hb] at hp0; cases hp0
    · rw [hnew] at hb
      obtain ⟨k1, k2⟩ := hhigh b (by omega) fun x r' ob h1 h2 h3 h4 => hx x r' ob h1 h2 (.inl h3) h4
      refine ⟨by rw [hg2, if_neg (by omega)]; exact k1, ?_⟩
      unfold join
      rw [if_neg (by omega)]; exact k2
    · exact j1.slots ord hcl hr hnS tro.ext (hv.mono hE1cut)

end
end Go.Ev
