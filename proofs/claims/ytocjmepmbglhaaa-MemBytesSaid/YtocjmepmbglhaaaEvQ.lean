/- Operations whose order Go leaves open, all of them. No condition. -/
import Derived.Test.YtocjmepmbglhaaaEvP
namespace Go.Ev

section
variable {P : Program} {all : List Oper} {rs : List Rec} {anc : Nat → Nat → Prop} {ts0 : List Value} {h0 : Heap}

/-- The names that there are ahead of a place. -/
def nx (h0 : Heap) (rs : List Rec) (q : Nat) : Nat := (hRun h0 (rs.take q)).next
def hq (h0 : Heap) (rs : List Rec) (q : Nat) : Heap := hRun h0 (rs.take q)

def AllOk (P : Program) (all : List Oper) (ts0 : List Value) (h0 : Heap) (rs : List Rec) : Prop :=
  ∀ (q : Nat) (r : Rec), rs[q]? = some r → RecOk P all (tRun ts0 (rs.take q)) (hRun h0 (rs.take q)) r

theorem nx_step (hok : AllOk P all ts0 h0 rs) {q : Nat} {r : Rec} (hr : rs[q]? = some r) : nx h0 rs q ≤ nx h0 rs (q + 1) := by
  have := hok q r hr
  unfold nx
  rw [hRun_succ h0 hr]
  unfold RecOk at this
  split at this <;> rename_i hk <;> rw [hk]
  · exact Nat.le_refl _
  · simp [hStep, Heap.new]
  · exact this.2.2

theorem take_over {q : Nat} (h : rs.length ≤ q) : rs.take q = rs := List.take_of_length_le h

theorem nx_mono (hok : AllOk P all ts0 h0 rs) {q q' : Nat} (h : q ≤ q') : nx h0 rs q ≤ nx h0 rs q' := by
  induction q' with
  | zero => have : q = 0 := by omega
            subst this; exact Nat.le_refl _
  | succ n ih =>
    by_cases e : q = n + 1
    · subst e; exact Nat.le_refl _
    · refine Nat.le_trans (ih (by omega)) ?_
      cases hr : rs[n]? with
      | some r => exact nx_step hok hr
      | none =>
        have : rs.length ≤ n := by simpa using hr
        unfold nx
        rw [take_over this, take_over (by omega)]
        exact Nat.le_refl _

theorem nx_new {q : Nat} {r : Rec} {obj : AObj} (hr : rs[q]? = some r) (hk : r.k = .new obj) : nx h0 rs (q + 1) = nx h0 rs q + 1 := by
  unfold nx
  rw [hRun_succ h0 hr, hk]
  rfl

/-- How things stand when just the operations in `S` are done. -/
structure J (P : Program) (all : List Oper) (rs : List Rec) (ts0 : List Value) (h0 : Heap) (E0 : Emap) (w0 : World) (S : Nat → Prop) (e : Nat) (E : Emap) (hS : Heap) (a : Act) (w : World) : Prop where
  le : e ≤ rs.length
  pre : ∀ q, q < e → S q
  non : ∀ (q : Nat) (r : Rec), e ≤ q → rs[q]? = some r → S q → r.k.isE = false
  tr : TrO E0 h0 w0 E hS w
  low : ∀ b, b < nx h0 rs e → hS.get b = (hq h0 rs e).get b
  lowH : ∀ b o p, b < nx h0 rs e → hS.get b = some o → E b = some p → Holds (cut E (nx h0 rs e)) w p o
  mid : ∀ (q : Nat) (r : Rec) obj, e ≤ q → rs[q]? = some r → S q → r.k = .new obj → hS.get (nx h0 rs q) = some obj ∧ ∀ p, E (nx h0 rs q) = some p → Holds (cut E (nx h0 rs q + 1)) w p obj
  top : ∀ b, nx h0 rs e ≤ b → (hq h0 rs e).get b = none
  high : ∀ b, nx h0 rs e ≤ b → (∀ (q : Nat) (r : Rec) obj, e ≤ q → rs[q]? = some r → S q → r.k = .new obj → b ≠ nx h0 rs q) → hS.get b = none ∧ E b = none
  old : ∀ b, b < h0.next → E b = E0 b
  dfr : a.defers = []
  len : a.tmps.size = ts0.length
  slot : ∀ t, (∃ (q : Nat) (r : Rec), rs[q]? = some r ∧ S q ∧ r.o.dst = some t ∧ (∀ (q' : Nat) (r' : Rec), rs[q']? = some r' → S q' → r'.o.dst = some t → q' ≤ q) ∧ VR (cut E (nx h0 rs (q + 1))) r.v (a.tmps.getD t undef)) ∨
    ((∀ (q : Nat) (r : Rec), rs[q]? = some r → S q → r.o.dst ≠ some t) ∧ VR (cut E h0.next) (ts0.getD t undef) (a.tmps.getD t undef))

/-- Further on: what is done already. -/
theorem J.advance (hok : AllOk P all ts0 h0 rs) {E0 E : Emap} {w0 w : World} {S : Nat → Prop} {e : Nat} {hS : Heap} {a : Act} (j : J P all rs ts0 h0 E0 w0 S e E hS a w) (he : e < rs.length) (hs : S e) :
    J P all rs ts0 h0 E0 w0 S (e + 1) E hS a w := by
  obtain ⟨r, hr⟩ : ∃ r, rs[e]? = some r := ⟨rs[e], List.getElem?_eq_getElem he⟩
  have hne := j.non e r (Nat.le_refl _) hr hs
  have hstep : hq h0 rs (e + 1) = hStep (hq h0 rs e) r.k := hRun_succ h0 hr
  have hge : ∀ q, e + 1 ≤ q → nx h0 rs (e + 1) ≤ nx h0 rs q := fun q hq' => nx_mono hok hq'
  cases hk : r.k with
  | eff p => rw [hk] at hne; simp [Kd.isE] at hne
  | same =>
    have hn : nx h0 rs (e + 1) = nx h0 rs e := by unfold nx; rw [hRun_succ h0 hr, hk]; rfl
    have hh : hq h0 rs (e + 1) = hq h0 rs e := by rw [hstep, hk]; rfl
    refine ⟨he, fun q hq' => ?_, fun q r' h1 h2 h3 => j.non q r' (by omega) h2 h3, j.tr, ?_, ?_, fun q r' obj h1 h2 h3 h4 => j.mid q r' obj (by omega) h2 h3 h4, by rw [hn, hh]; exact j.top, ?_, j.old, j.dfr, j.len, j.slot⟩
    · by_cases heq : q = e
      · subst heq; exact hs
      · exact j.pre q (by omega)
    · rw [hn, hh]; exact j.low
    · rw [hn]; exact j.lowH
    · rw [hn]
      intro b hb hx
      refine j.high b hb fun q r' obj h1 h2 h3 h4 => ?_
      by_cases heq : q = e
      · subst heq; rw [hr] at h2; cases h2; rw [hk] at h4; cases h4
      · exact hx q r' obj (by omega) h2 h3 h4
  | new obj =>
    have hn : nx h0 rs (e + 1) = nx h0 rs e + 1 := nx_new hr hk
    have hh : hq h0 rs (e + 1) = (hq h0 rs e).new obj := by rw [hstep, hk]; rfl
    obtain ⟨m1, m2⟩ := j.mid e r obj (Nat.le_refl _) hr hs hk
    refine ⟨he, fun q hq' => ?_, fun q r' h1 h2 h3 => j.non q r' (by omega) h2 h3, j.tr, ?_, ?_, fun q r' obj' h1 h2 h3 h4 => j.mid q r' obj' (by omega) h2 h3 h4, by
      rw [hn, hh]
      intro b hb
      rw [Heap.get_new]
      have : ¬ b = (hq h0 rs e).next := fun h => by
        have : nx h0 rs e = (hq h0 rs e).next := rfl
        omega
      rw [if_neg this]
      exact j.top b (by omega), ?_, j.old, j.dfr, j.len, j.slot⟩
    · by_cases heq : q = e
      · subst heq; exact hs
      · exact j.pre q (by omega)
    · rw [hn, hh]
      intro b hb
      rw [Heap.get_new]
      by_cases hbn : b = nx h0 rs e
      · have : b = (hq h0 rs e).next := hbn
        rw [if_pos this, hbn]; exact m1
      · have : ¬ b = (hq h0 rs e).next := hbn
        rw [if_neg this]; exact j.low b (by omega)
    · rw [hn]
      intro b o p hb ho hp
      by_cases hbn : b = nx h0 rs e
      · subst hbn
        rw [m1] at ho; cases ho
        exact m2 p hp
      · exact (j.lowH b o p (by omega) ho hp).mono (cut_mono (by omega) (fun _ _ h => h)) rfl
    · rw [hn]
      intro b hb hx
      refine j.high b (by omega) fun q r' obj' h1 h2 h3 h4 => ?_
      by_cases heq : q = e
      · subst heq; omega
      · exact hx q r' obj' (by omega) h2 h3 h4

theorem J.advance_to (hok : AllOk P all ts0 h0 rs) {E0 E : Emap} {w0 w : World} {S : Nat → Prop} {hS : Heap} {a : Act} : ∀ (k e : Nat), J P all rs ts0 h0 E0 w0 S e E hS a w → e + k ≤ rs.length → (∀ q, e ≤ q → q < e + k → S q) →
    J P all rs ts0 h0 E0 w0 S (e + k) E hS a w := by
  intro k
  induction k with
  | zero => intro e j _ _; exact j
  | succ k ih =>
    intro e j hl hs
    have := ih (e + 1) (j.advance hok (by omega) (hs e (Nat.le_refl _) (by omega))) (by omega) (fun q h1 h2 => hs q (by omega) (by omega))
    rwa [show e + 1 + k = e + (k + 1) from by omega] at this

end
end Go.Ev
