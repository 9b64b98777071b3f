/- A region whose order is open, from one order told. No condition. -/
import Derived.Test.YtocjmepmbglhaaaEvU
namespace Go.Ev

section
variable {P : Program} {all : List Oper} {rs : List Rec} {anc : Nat → Nat → Prop} {ts0 : List Value} {h0 : Heap}

theorem draw_sound (hP : Plain P) (hm : P.follows .mixedOrders = true) (ord : Ord all rs ts0.length anc) (hok : AllOk P all ts0 h0 rs) (hrd : Reads h0 rs anc) {E0 : Emap} {w : World} {a : Act} (hw : WR E0 h0 w) (ht : TR E0 ts0 a.tmps) (hd : a.defers = [])
    {id : Nat} (Q : Exit → Act → World → Prop) (hQ : ∀ E' w' a', TR E' (tRun ts0 rs) a'.tmps → a'.defers = [] → Tr E0 h0 w E' (hRun h0 rs) w' → Q .normal a' w') : (Code.region id all.toArray true).wp P Q a w := by
  refine wp_region_any hm ?_
  have hw1 := (Tr.drew hw (w.drawn + 1)).wr
  have n0 : nx h0 rs 0 = h0.next := by simp [nx, hRun]
  have q0 : hq h0 rs 0 = h0 := by simp [hq, hRun]
  have top0 : ∀ b, h0.next ≤ b → h0.get b = none := fun b hb => by
    cases hx : h0.get b with
    | none => rfl
    | some o =>
      obtain ⟨p, hp, _⟩ := hw.obj b o hx
      rw [hw.fresh b hb] at hp; cases hp
  have hgf : ∀ j, (Array.replicate all.toArray.size false).getD j false = false := fun j => by
    rw [Array.getD_eq_getD_getElem?, Array.getElem?_replicate]
    split <;> rfl
  have hnone : ∀ q, ¬ done rs (Array.replicate all.toArray.size false) q := fun q ⟨r, _, h⟩ => by rw [hgf] at h; cases h
  have hcutE : ∀ b p, E0 b = some p → cut E0 h0.next b = some p := fun b p hb => by
    refine cut_some.2 ⟨?_, hb⟩
    rcases Nat.lt_or_ge b h0.next with h | h
    · exact h
    · rw [hw.fresh b h] at hb; cases hb
  refine draw_wpAny hP ord hok hrd (E0 := E0) (w0 := w) Q ?_ all.toArray.size (Array.replicate all.toArray.size false) 0 E0 h0 a { w with drawn := w.drawn + 1 } (by simp) ?_ (fun j o ed h1 => by rw [hgf] at h1; cases h1) ?_
  · -- all done
    intro e E hS a' w' j
    have jm : J P all rs ts0 h0 E0 w (fun q => q < rs.length) rs.length E hS a' w' := by
      have := j.advance_to hok (rs.length - e) e (by have := j.le; omega) (fun q h1 h2 => by have := j.le; omega)
      rwa [show e + (rs.length - e) = rs.length from by have := j.le; omega] at this
    have hqm : hq h0 rs rs.length = hRun h0 rs := by unfold hq; rw [take_over (Nat.le_refl _)]
    have hnm : nx h0 rs rs.length = (hRun h0 rs).next := by unfold nx; rw [take_over (Nat.le_refl _)]
    have hsub : ∀ b o, (hRun h0 rs).get b = some o → hS.get b = some o := by
      intro b o hb
      have hlt : b < nx h0 rs rs.length := by
        rcases Nat.lt_or_ge b (nx h0 rs rs.length) with h | h
        · exact h
        · have := jm.top b h
          rw [hqm, hb] at this; cases this
      rw [jm.low b hlt, hqm]; exact hb
    refine hQ E w' a' ⟨by rw [tRun_length]; exact jm.len, fun t => ?_⟩ jm.dfr ⟨⟨fun b o hb => jm.tr.wr.obj b o (hsub b o hb), fun b b' o o' p p' hne k1 k2 => jm.tr.wr.sep b b' o o' p p' hne (hsub _ _ k1) (hsub _ _ k2), jm.tr.wr.dom, fun b hb => ?_⟩,
      jm.tr.ext, jm.tr.size, jm.tr.os, jm.tr.tape, jm.tr.output, jm.tr.frame, fun b o p hb hp hl => jm.tr.prov b o p (hsub b o hb) hp hl, ?_, jm.old⟩
    · rcases jm.slot t with ⟨q1, r1, k1, k2, k3, k4, k5⟩ | ⟨k1, k2⟩
      · have := tRun_last (ts0 := ts0) (q := rs.length) k1 k3 (ord.dst q1 r1 t k1 k3) k2 (fun k r' a1 a2 a3 a4 => by
          have := k4 k r' a3 a2 a4; omega)
        rw [take_over (Nat.le_refl _)] at this
        rw [this]
        exact k5.mono cut_le
      · have := tRun_none (ts0 := ts0) (rs := rs) (q := rs.length) (t := t) (fun k r' a1 a2 => k1 k r' a2 a1)
        rw [take_over (Nat.le_refl _)] at this
        rw [this]
        exact k2.mono cut_le
    · exact (jm.high b (by rw [hnm]; exact hb) fun q r obj h1 h2 h3 => by
        rw [List.getElem?_eq_none h1] at h2; cases h2).2
    · rw [← hnm, ← n0]; exact nx_mono hok (Nat.zero_le _)
  · unfold left
    refine Nat.le_trans (List.countP_le_length) (by simp)
  · refine ⟨Nat.zero_le _, fun q h => by omega, fun q r _ _ h => absurd h (hnone q), TrO.drew hw.toO _, fun b _ => by rw [q0], fun b o p hb ho hp => ?_, fun q r obj _ _ h => absurd h (hnone q), fun b hb => by rw [q0]; rw [n0] at hb; exact top0 b hb,
      fun b hb _ => by rw [n0] at hb; exact ⟨top0 b hb, hw.fresh b hb⟩, fun _ _ => rfl, hd, ht.1, fun t => .inr ⟨fun q r _ h => absurd h (hnone q), (ht.2 t).mono hcutE⟩⟩
    rw [n0]
    obtain ⟨p', hp', hh⟩ := hw1.obj b o ho
    rw [hp] at hp'; cases hp'
    exact hh.of_cut hcutE

end

/-! ### the checks, by reckoning -/
theorem fold_mask (T : List Nat) (i : Nat) : ∀ (l : List Edge) (s : Nat), (l.foldl (fun s e => match Region.binds .any e with
  | true => s ||| (2 ^ e.on ||| T.getD e.on 0)
  | false => s) s).testBit i = true ↔ s.testBit i = true ∨ ∃ e, e ∈ l ∧ Region.binds .any e = true ∧ (e.on = i ∨ (T.getD e.on 0).testBit i = true) := by
  intro l
  induction l with
  | nil => intro s; simp
  | cons e l ih =>
    intro s
    rw [List.foldl_cons, ih]
    cases hb : Region.binds .any e with
    | true =>
      simp only [Nat.testBit_or, Bool.or_eq_true, Nat.testBit_two_pow, decide_eq_true_eq]
      constructor
      · rintro ((h | h | h) | ⟨e', h1, h2, h3⟩)
        · exact .inl h
        · exact .inr ⟨e, by simp, hb, .inl h⟩
        · exact .inr ⟨e, by simp, hb, .inr h⟩
        · exact .inr ⟨e', by simp [h1], h2, h3⟩
      · rintro (h | ⟨e', h1, h2, h3⟩)
        · exact .inl (.inl h)
        · rcases List.mem_cons.1 h1 with rfl | h1
          · rcases h3 with h3 | h3
            · exact .inl (.inr (.inl h3))
            · exact .inl (.inr (.inr h3))
          · exact .inr ⟨e', h1, h2, h3⟩
    | false =>
      constructor
      · rintro (h | ⟨e', h1, h2, h3⟩)
        · exact .inl h
        · exact .inr ⟨e', by simp [h1], h2, h3⟩
      · rintro (h | ⟨e', h1, h2, h3⟩)
        · exact .inl h
        · rcases List.mem_cons.1 h1 with rfl | h1
          · rw [hb] at h2; cases h2
          · exact .inr ⟨e', h1, h2, h3⟩

theorem maskChk_at {T : List Nat} : ∀ (l : List Oper) (k : Nat), maskChk T l k = true → ∀ j o, l[j]? = some o → T.getD (k + j) 0 = maskOf T o ∧ ∀ e, e ∈ o.after.toList → Region.binds .any e = true → e.on < k + j := by
  intro l
  induction l with
  | nil => intro k _ j o h; simp at h
  | cons x l ih =>
    intro k h j o hj
    simp only [maskChk, Bool.and_eq_true] at h
    cases j with
    | zero =>
      simp only [List.getElem?_cons_zero, Option.some.injEq] at hj
      subst hj
      refine ⟨Nat.eq_of_beq_eq_true h.1, fun e he hb => ?_⟩
      have := List.all_eq_true.1 h.2.1 e he
      rw [hb] at this
      simpa [Nat.blt_eq] using this
    | succ j =>
      have := ih (k + 1) h.2.2 j o (by simpa using hj)
      rwa [show k + 1 + j = k + (j + 1) from by omega] at this

theorem tailChk_at {all : List Oper} {T : List Nat} {i : Nat} {x : Oper} : ∀ (l : List Nat), tailChk all T i x l = true → ∀ (q k : Nat), l[q]? = some k → ∃ y, all[k]? = some y ∧ pairChk all T i k x y = true := by
  intro l
  induction l with
  | nil => intro _ q k h; simp at h
  | cons a l ih =>
    intro h q k hq
    simp only [tailChk, Bool.and_eq_true] at h
    cases q with
    | zero =>
      simp only [List.getElem?_cons_zero, Option.some.injEq] at hq
      subst hq
      have h1 := h.1
      split at h1
      · rename_i y hy; exact ⟨y, hy, h1⟩
      · cases h1
    | succ q => exact ih h.2 q k (by simpa using hq)

theorem listChk_at {all : List Oper} {T : List Nat} {n : Nat} : ∀ (l : List Nat), listChk all T n l = true → (∀ (q i : Nat), l[q]? = some i → ∃ x, all[i]? = some x ∧ selfChk T n i x = true) ∧
    ∀ (q q' i k : Nat), l[q]? = some i → l[q']? = some k → q < q' → ∃ x y, all[i]? = some x ∧ all[k]? = some y ∧ pairChk all T i k x y = true := by
  intro l
  induction l with
  | nil => intro _; exact ⟨fun q i h => by simp at h, fun q q' i k h => by simp at h⟩
  | cons a l ih =>
    intro h
    simp only [listChk, Bool.and_eq_true] at h
    obtain ⟨i1, i2⟩ := ih h.2
    have h1 := h.1
    split at h1
    · rename_i x hx
      simp only [Bool.and_eq_true] at h1
      refine ⟨fun q i hq => ?_, fun q q' i k hq hq' hlt => ?_⟩
      · cases q with
        | zero =>
          simp only [List.getElem?_cons_zero, Option.some.injEq] at hq
          subst hq
          exact ⟨x, hx, h1.1⟩
        | succ q => exact i1 q i (by simpa using hq)
      · cases q with
        | zero =>
          simp only [List.getElem?_cons_zero, Option.some.injEq] at hq
          subst hq
          cases q' with
          | zero => omega
          | succ q' =>
            obtain ⟨y, k1, k2⟩ := tailChk_at l h1.2 q' k (by simpa using hq')
            exact ⟨x, y, hx, k1, k2⟩
        | succ q =>
          cases q' with
          | zero => omega
          | succ q' => exact i2 q q' i k (by simpa using hq) (by simpa using hq') (by omega)
    · cases h1

theorem coverChk_at {pi : List Nat} : ∀ n, coverChk pi n = true → ∀ i, i < n → i ∈ pi := by
  intro n
  induction n with
  | zero => intro _ i h; omega
  | succ n ih =>
    intro h i hi
    simp only [coverChk, Bool.and_eq_true] at h
    by_cases e : i = n
    · subst e; exact (memN_mem _ _).1 h.1
    · exact ih h.2 i (by omega)

theorem names_mem {all : List Oper} {o : Oper} {t : Nat} (h : t ∈ looks all o ∨ o.dst = some t) : memN t (names all o) = true := by
  rw [memN_mem]
  unfold names
  split
  · rename_i d hd
    rcases h with h | h
    · exact List.mem_cons_of_mem _ h
    · rw [hd] at h; cases h; exact List.mem_cons_self
  · rename_i hd
    rcases h with h | h
    · exact h
    · rw [hd] at h; cases h

theorem Ord.of_chk {all : List Oper} {T : List Nat} {n : Nat} {rs : List Rec} (hc : ordOk all (rs.map (·.i)) T n = true) (hat : ∀ (q : Nat) (r : Rec), rs[q]? = some r → all[r.i]? = some r.o)
    (hE : ∀ (q : Nat) (r : Rec), rs[q]? = some r → r.k.isE = true → isEff r.o.op = true) : Ord all rs n (fun i j => ancB T i j = true) := by
  simp only [ordOk, Bool.and_eq_true] at hc
  obtain ⟨hTl, hm, hl, hcv⟩ := hc
  obtain ⟨l1, l2⟩ := listChk_at _ hl
  have hmap : ∀ (q : Nat) (r : Rec), rs[q]? = some r → (rs.map (·.i))[q]? = some r.i := fun q r h => by simp [h]
  have self : ∀ (q : Nat) (r : Rec), rs[q]? = some r → selfChk T n r.i r.o = true := fun q r h => by
    obtain ⟨x, k1, k2⟩ := l1 q r.i (hmap q r h)
    rw [hat q r h] at k1; cases k1; exact k2
  have pair : ∀ (q q' : Nat) (r r' : Rec), rs[q]? = some r → rs[q']? = some r' → q < q' → pairChk all T r.i r'.i r.o r'.o = true := fun q q' r r' h h' hlt => by
    obtain ⟨x, y, k1, k2, k3⟩ := l2 q q' r.i r'.i (hmap q r h) (hmap q' r' h') hlt
    rw [hat q r h] at k1; cases k1
    rw [hat q' r' h'] at k2; cases k2
    exact k3
  have msk : ∀ (j : Nat) (o : Oper), all[j]? = some o → T.getD j 0 = maskOf T o ∧ ∀ e, e ∈ o.after.toList → Region.binds .any e = true → e.on < j := fun j o h => by
    have := maskChk_at all 0 hm j o h
    rwa [Nat.zero_add] at this
  have bit : ∀ (i j : Nat) (o : Oper), all[j]? = some o → (ancB T i j = true ↔ ∃ e, e ∈ o.after.toList ∧ Region.binds .any e = true ∧ (e.on = i ∨ ancB T i e.on = true)) := fun i j o h => by
    unfold ancB
    rw [(msk j o h).1]
    unfold maskOf
    exact (fold_mask T i o.after.toList 0).trans (by simp)
  constructor
  · intro i hi
    have := coverChk_at _ hcv i hi
    rw [List.mem_map] at this
    obtain ⟨r, hr, rfl⟩ := this
    obtain ⟨q, hq, he⟩ := List.mem_iff_getElem.1 hr
    exact ⟨q, r, by rw [List.getElem?_eq_getElem hq, he], rfl⟩
  · intro q q' r r' h h' he
    rcases Nat.lt_trichotomy q q' with hlt | heq | hgt
    · have := pair q q' r r' h h' hlt
      simp [pairChk, he] at this
    · exact heq
    · have := pair q' q r' r h' h hgt
      simp [pairChk, he] at this
  · exact hat
  · intro S hS i j
    revert i
    induction j using Nat.strongRecOn with
    | _ j ih =>
      intro i hij hSj
      cases hj : all[j]? with
      | none =>
        exfalso
        have hlen : all.length ≤ j := by simpa using hj
        have : ancB T i j = false := by
          have hTl' := Nat.eq_of_beq_eq_true hTl
          unfold ancB
          rw [List.getD_eq_getElem?_getD, List.getElem?_eq_none (by omega)]
          simp
        rw [this] at hij; cases hij
      | some o =>
        obtain ⟨e, k1, k2, k3⟩ := (bit i j o hj).1 hij
        have hSe := hS j o e hSj hj (by simpa using k1) k2
        rcases k3 with k3 | k3
        · rw [← k3]; exact hSe
        · exact ih e.on ((msk j o hj).2 e k1 k2) i k3 hSe
  · intro j o e hj he hb
    exact (bit e.on j o hj).2 ⟨e, by simpa using he, hb, .inl rfl⟩
  · intro q q' r r' h h' ha
    rcases Nat.lt_trichotomy q q' with hlt | heq | hgt
    · exact hlt
    · subst heq
      rw [h] at h'; cases h'
      have := self q r h
      simp [selfChk, ha] at this
    · have := pair q' q r' r h' h hgt
      simp [pairChk, ha] at this
  · intro q q' r r' h h' hk hlt
    have := pair q' q r' r h' h hlt
    simp only [pairChk, Bool.and_eq_true, hE q r h hk, Bool.not_true, Bool.false_or] at this
    exact this.2.2.1
  · intro q q' r r' t h h' hne hd ht
    have hcl : clash all r.o r'.o = true := by
      unfold clash
      rw [hd]
      exact names_mem ht
    rcases Nat.lt_or_gt_of_ne hne with hlt | hgt
    · have := pair q q' r r' h h' hlt
      simp only [pairChk, Bool.and_eq_true, hcl, Bool.true_or, Bool.not_true, Bool.false_or, Bool.or_eq_true] at this
      exact this.2.2.2
    · have := pair q' q r' r h' h hgt
      simp only [pairChk, Bool.and_eq_true, hcl, Bool.or_true, Bool.not_true, Bool.false_or, Bool.or_eq_true] at this
      exact this.2.2.2.symm
  · intro q r t h hd
    have := self q r h
    simp only [selfChk, Bool.and_eq_true, hd] at this
    simpa [Nat.blt_eq] using this.2.1
  · intro q r h cs b he
    have := self q r h
    simp only [selfChk, Bool.and_eq_true, he, notSelect] at this
    simp at this
  · intro j o e hj he hb
    have h1 := (msk j o hj).2 e (by simpa using he) hb
    have : j < all.length := by
      rcases Nat.lt_or_ge j all.length with h | h
      · exact h
      · rw [List.getElem?_eq_none h] at hj; cases hj
    omega

end Go.Ev
