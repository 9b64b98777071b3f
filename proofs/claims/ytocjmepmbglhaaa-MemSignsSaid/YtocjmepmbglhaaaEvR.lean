/- One operation more is done, whichever may be. No condition. -/
import Derived.Test.YtocjmepmbglhaaaEvQ
namespace Go.Ev

section
variable {P : Program} {all : List Oper} {rs : List Rec} {anc : Nat → Nat → Prop} {ts0 : List Value} {h0 : Heap}

theorem tRun_length (ts : List Value) : ∀ (rs : List Rec), (tRun ts rs).length = ts.length := by
  intro rs
  unfold tRun
  induction rs generalizing ts with
  | nil => rfl
  | cons r rs ih =>
    simp only [List.foldl_cons]
    rw [ih]
    unfold putT
    split <;> simp

theorem putT_getD (ts : List Value) (d : Option Tmp) (v : Value) (t : Nat) : (putT ts d v).getD t undef = if d = some t ∧ t < ts.length then v else ts.getD t undef := by
  cases d with
  | none => simp [putT]
  | some d =>
    simp only [putT]
    rw [getD_set]
    by_cases h : t = d ∧ d < ts.length
    · obtain ⟨rfl, h⟩ := h
      rw [if_pos ⟨rfl, h⟩, if_pos ⟨rfl, h⟩]
    · rw [if_neg h, if_neg (fun x => h (by obtain ⟨e, l⟩ := x; cases e; exact ⟨rfl, l⟩))]

theorem tRun_none {q t : Nat} (h : ∀ (k : Nat) (r : Rec), k < q → rs[k]? = some r → r.o.dst ≠ some t) : (tRun ts0 (rs.take q)).getD t undef = ts0.getD t undef := by
  induction q with
  | zero => simp [tRun]
  | succ n ih =>
    cases hr : rs[n]? with
    | none =>
      have : rs.length ≤ n := by simpa using hr
      have e : rs.take (n + 1) = rs.take n := by rw [take_over (by omega), take_over this]
      rw [e]
      exact ih fun k r hk => h k r (by omega)
    | some r =>
      rw [tRun_succ ts0 hr, putT_getD, if_neg (fun x => h n r (by omega) hr x.1)]
      exact ih fun k r hk => h k r (by omega)

theorem tRun_last {q q1 t : Nat} {r1 : Rec} (h1 : rs[q1]? = some r1) (hd : r1.o.dst = some t) (ht : t < ts0.length) (hlt : q1 < q) (h : ∀ (k : Nat) (r : Rec), q1 < k → k < q → rs[k]? = some r → r.o.dst ≠ some t) :
    (tRun ts0 (rs.take q)).getD t undef = r1.v := by
  induction q with
  | zero => omega
  | succ n ih =>
    by_cases e : q1 = n
    · subst e
      rw [tRun_succ ts0 h1, putT_getD, if_pos ⟨hd, by rw [tRun_length]; exact ht⟩]
    · cases hr : rs[n]? with
      | none =>
        have : rs.length ≤ n := by simpa using hr
        have e2 : rs.take (n + 1) = rs.take n := by rw [take_over (by omega), take_over this]
        rw [e2]
        exact ih (by omega) fun k r a b => h k r a (by omega)
      | some r =>
        rw [tRun_succ ts0 hr, putT_getD, if_neg (fun x => h n r (by omega) (by omega) hr x.1)]
        exact ih (by omega) fun k r a b => h k r a (by omega)

theorem reads_back (hok : AllOk P all ts0 h0 rs) {b : Nat} {o : AObj} {s q : Nat} (hb : b < nx h0 rs s) (hq' : (hq h0 rs q).get b = some o)
    (hE : ∀ (j : Nat) (rj : Rec), s ≤ j → j < q → rs[j]? = some rj → rj.k.isE = true → (hq h0 rs j).get b = some o) : ∀ (k e : Nat), e + k = q → s ≤ e → (hq h0 rs e).get b = some o := by
  intro k
  induction k with
  | zero => intro e he _; have : e = q := by omega
            subst this; exact hq'
  | succ k ih =>
    intro e he hs
    have hn := ih (e + 1) (by omega) (by omega)
    cases hr : rs[e]? with
    | none =>
      have : rs.length ≤ e := by simpa using hr
      unfold hq at hn ⊢
      rw [take_over this]
      rwa [take_over (by omega)] at hn
    | some r =>
      have hstep : hq h0 rs (e + 1) = hStep (hq h0 rs e) r.k := hRun_succ h0 hr
      rw [hstep] at hn
      cases hk : r.k with
      | same => rw [hk] at hn; exact hn
      | new obj =>
        rw [hk] at hn
        simp only [hStep] at hn
        rw [Heap.get_new] at hn
        have h1 : nx h0 rs s ≤ nx h0 rs e := nx_mono hok hs
        have h2 : nx h0 rs e = (hq h0 rs e).next := rfl
        rw [if_neg (by omega)] at hn
        exact hn
      | eff p => exact hE e r hs (by omega) hr (by rw [hk]; rfl)

/-- The slots behind one operation more. -/
theorem J.slots (ord : Ord all rs ts0.length anc) {E0 E E2 : Emap} {w0 w : World} {S : Nat → Prop} {e : Nat} {hS : Heap} {a : Act} (j : J P all rs ts0 h0 E0 w0 S e E hS a w)
    (hcl : ∀ (q q' : Nat) (r r' : Rec), rs[q]? = some r → rs[q']? = some r' → anc r.i r'.i → S q' → S q)
    {q : Nat} {r : Rec} (hr : rs[q]? = some r) (hnS : ¬ S q) (ext : ∀ b p, E b = some p → E2 b = some p) {v' : Value} (hv : VR (cut E2 (nx h0 rs (q + 1))) r.v v') :
    ∀ t, (∃ (q1 : Nat) (r1 : Rec), rs[q1]? = some r1 ∧ (S q1 ∨ q1 = q) ∧ r1.o.dst = some t ∧ (∀ (q' : Nat) (r' : Rec), rs[q']? = some r' → (S q' ∨ q' = q) → r'.o.dst = some t → q' ≤ q1) ∧ VR (cut E2 (nx h0 rs (q1 + 1))) r1.v ((a.put r.o.dst v').tmps.getD t undef)) ∨
      ((∀ (q1 : Nat) (r1 : Rec), rs[q1]? = some r1 → (S q1 ∨ q1 = q) → r1.o.dst ≠ some t) ∧ VR (cut E2 h0.next) (ts0.getD t undef) ((a.put r.o.dst v').tmps.getD t undef)) := by
  intro t
  by_cases hd : r.o.dst = some t
  · refine .inl ⟨q, r, hr, .inr rfl, hd, fun q' r' h1 h2 h3 => ?_, ?_⟩
    · rcases h2 with h2 | h2
      · rcases ord.race q q' r r' t hr h1 (fun h => hnS (h ▸ h2)) hd (.inr h3) with h | h
        · exact absurd (hcl q q' r r' hr h1 h h2) hnS
        · have := ord.topo q' q r' r h1 hr h
          omega
      · omega
    · have ht := ord.dst q r t hr hd
      rw [hd]
      simp only [Act.put]
      rw [agetD_set, if_pos ⟨rfl, by rw [j.len]; exact ht⟩]
      exact hv
  · have same : (a.put r.o.dst v').tmps.getD t undef = a.tmps.getD t undef := by
      cases hx : r.o.dst with
      | none => rfl
      | some d =>
        simp only [Act.put]
        rw [agetD_set, if_neg (fun x => hd (by rw [hx, x.1]))]
    rw [same]
    rcases j.slot t with ⟨q1, r1, k1, k2, k3, k4, k5⟩ | ⟨k1, k2⟩
    · refine .inl ⟨q1, r1, k1, .inl k2, k3, fun q' r' h1 h2 h3 => ?_, k5.mono (cut_mono (Nat.le_refl _) ext)⟩
      rcases h2 with h2 | h2
      · exact k4 q' r' h1 h2 h3
      · subst h2; rw [hr] at h1; cases h1; exact absurd h3 hd
    · refine .inr ⟨fun q1 r1 h1 h2 => ?_, k2.mono (cut_mono (Nat.le_refl _) ext)⟩
      rcases h2 with h2 | h2
      · exact k1 q1 r1 h1 h2
      · subst h2; rw [hr] at h1; cases h1; exact hd

/-- What an operation looks at is as it was told. -/
theorem J.looks_ok (ord : Ord all rs ts0.length anc) (hok : AllOk P all ts0 h0 rs) {E0 E : Emap} {w0 w : World} {S : Nat → Prop} {e : Nat} {hS : Heap} {a : Act} (j : J P all rs ts0 h0 E0 w0 S e E hS a w)
    (hcl : ∀ (q q' : Nat) (r r' : Rec), rs[q]? = some r → rs[q']? = some r' → anc r.i r'.i → S q' → S q)
    {q : Nat} {r : Rec} (hr : rs[q]? = some r) (hnS : ¬ S q) (hanc : ∀ (q' : Nat) (r' : Rec), rs[q']? = some r' → anc r'.i r.i → S q') {t : Nat} (ht : t ∈ looks all r.o) :
    VR (cut E (nx h0 rs q)) ((tRun ts0 (rs.take q)).getD t undef) (a.tmps.getD t undef) := by
  have cmp : ∀ (q' : Nat) (r' : Rec), rs[q']? = some r' → r'.o.dst = some t → q' ≠ q → (q' < q ∧ S q') ∨ (q < q' ∧ ¬ S q') := by
    intro q' r' h1 h2 hne
    rcases ord.race q' q r' r t h1 hr hne h2 (.inl ht) with h | h
    · exact .inl ⟨ord.topo q' q r' r h1 hr h, hanc q' r' h1 h⟩
    · exact .inr ⟨ord.topo q q' r r' hr h1 h, fun hs => hnS (hcl q q' r r' hr h1 h hs)⟩
  rcases j.slot t with ⟨q1, r1, k1, k2, k3, k4, k5⟩ | ⟨k1, k2⟩
  · have hne : q1 ≠ q := fun h => hnS (h ▸ k2)
    have hlt : q1 < q := by
      rcases cmp q1 r1 k1 k3 hne with h | h
      · exact h.1
      · exact absurd k2 h.2
    rw [tRun_last k1 k3 (ord.dst q1 r1 t k1 k3) hlt (fun k r' a1 a2 a3 a4 => by
      rcases cmp k r' a3 a4 (by omega) with h | h
      · have := k4 k r' a3 h.2 a4; omega
      · omega)]
    exact k5.mono (cut_mono (nx_mono hok hlt) (fun _ _ h => h))
  · rw [tRun_none (fun k r' a1 a2 a3 => by
      rcases cmp k r' a2 a3 (by omega) with h | h
      · exact k1 k r' a2 h.2 a3
      · omega)]
    have : h0.next = nx h0 rs 0 := by simp [nx, hRun]
    rw [this] at k2
    exact k2.mono (cut_mono (nx_mono hok (Nat.zero_le _)) (fun _ _ h => h))

end
end Go.Ev
