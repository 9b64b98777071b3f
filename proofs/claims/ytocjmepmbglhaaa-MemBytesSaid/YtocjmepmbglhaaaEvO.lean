/- Steps of the world seen from a part of the named objects: what lies beside that part stays. No condition. -/
import Derived.Test.YtocjmepmbglhaaaEvM
namespace Go.Ev

structure WRo (E : Emap) (h : Heap) (w : World) : Prop where
  obj : ∀ b o, h.get b = some o → ∃ p, E b = some p ∧ Holds E w p o
  sep : ∀ b b' o o' p p', b ≠ b' → h.get b = some o → h.get b' = some o' → o.rw = true → E b = some p → E b' = some p' → p.block ≠ p'.block
  dom : ∀ b p, E b = some p → p.block < w.heap.size

theorem WR.toO {E : Emap} {h : Heap} {w : World} (hw : WR E h w) : WRo E h w := ⟨hw.obj, hw.sep, hw.dom⟩

structure TrO (E : Emap) (h : Heap) (w : World) (E' : Emap) (h' : Heap) (w' : World) : Prop where
  wr : WRo E' h' w'
  ext : ∀ b p, E b = some p → E' b = some p
  size : w.heap.size ≤ w'.heap.size
  os : w'.os = w.os
  tape : w'.tape = w.tape
  output : w'.output = w.output
  frame : ∀ r, r < w.heap.size → (∀ b o p, h.get b = some o → o.rw = true → E b = some p → p.block ≠ r) → w'.heap[r]? = w.heap[r]?
  prov : ∀ b o p, h'.get b = some o → E' b = some p → p.block < w.heap.size → ∃ b0 o0 p0, h.get b0 = some o0 ∧ (o.rw = true → o0.rw = true) ∧ E b0 = some p0 ∧ p0.block = p.block

theorem TrO.refl {E : Emap} {h : Heap} {w : World} (hw : WRo E h w) : TrO E h w E h w :=
  ⟨hw, fun _ _ h => h, Nat.le_refl _, rfl, rfl, rfl, fun _ _ _ => rfl, fun b o p h1 h3 _ => ⟨b, o, p, h1, id, h3, rfl⟩⟩

theorem TrO.trans {E1 E2 E3 : Emap} {h1 h2 h3 : Heap} {w1 w2 w3 : World} (a : TrO E1 h1 w1 E2 h2 w2) (b : TrO E2 h2 w2 E3 h3 w3) : TrO E1 h1 w1 E3 h3 w3 where
  wr := b.wr
  ext := fun x p h => b.ext _ _ (a.ext _ _ h)
  size := Nat.le_trans a.size b.size
  os := b.os.trans a.os
  tape := b.tape.trans a.tape
  output := b.output.trans a.output
  frame := fun r hr hn => by
    rw [b.frame r (Nat.lt_of_lt_of_le hr a.size), a.frame r hr hn]
    intro x o p hx ho hp e
    obtain ⟨b0, o0, p0, k1, k2, k3, k4⟩ := a.prov x o p hx hp (by omega)
    exact hn b0 o0 p0 k1 (k2 ho) k3 (by omega)
  prov := fun x o p hx hp hl => by
    obtain ⟨b0, o0, p0, k1, k2, k3, k4⟩ := b.prov x o p hx hp (Nat.lt_of_lt_of_le hl a.size)
    obtain ⟨b1, o1, p1, m1, m2, m3, m4⟩ := a.prov b0 o0 p0 k1 k3 (by omega)
    exact ⟨b1, o1, p1, m1, fun h => m2 (k2 h), m3, by omega⟩

theorem TrO.drew {E : Emap} {h : Heap} {w : World} (hw : WRo E h w) (n : Nat) : TrO E h w E h { w with drawn := n } where
  wr := ⟨fun b o hb => let ⟨p, h1, h2⟩ := hw.obj b o hb; ⟨p, h1, h2.mono (fun _ _ h => h) rfl⟩, hw.sep, hw.dom⟩
  ext := fun _ _ h => h
  size := Nat.le_refl _
  os := rfl
  tape := rfl
  output := rfl
  frame := fun _ _ _ => rfl
  prov := fun b o p h1 h3 _ => ⟨b, o, p, h1, id, h3, rfl⟩

def cut (E : Emap) (n : Nat) : Emap := fun b => if b < n then E b else none
theorem cut_some {E : Emap} {n b : Nat} {p : Place} : cut E n b = some p ↔ b < n ∧ E b = some p := by
  unfold cut
  split
  · rename_i h; simp [h]
  · rename_i h; simp [h]
theorem cut_le {E : Emap} {n : Nat} : ∀ b p, cut E n b = some p → E b = some p := fun _ _ h => (cut_some.1 h).2
theorem cut_mono {E E' : Emap} {n n' : Nat} (hn : n ≤ n') (he : ∀ b p, E b = some p → E' b = some p) : ∀ b p, cut E n b = some p → cut E' n' b = some p :=
  fun _ _ h => cut_some.2 ⟨Nat.lt_of_lt_of_le (cut_some.1 h).1 hn, he _ _ (cut_some.1 h).2⟩

/-- The map behind a step that a part took. -/
def join (E1 E : Emap) (n : Nat) : Emap := fun b => if b < n then E1 b else E b

theorem Holds.of_cut {E E' : Emap} {w : World} {p : Place} {o : AObj} (h : Holds E w p o) (he : ∀ b q, E b = some q → E' b = some q) : Holds E' w p o := h.mono he rfl

/-- A part of the objects takes a step: all of them do. -/
theorem Tr.lift {E : Emap} {hS : Heap} {w : World} (hw : WRo E hS w) {h1 : Heap} (sub : ∀ b o, h1.get b = some o → b < h1.next ∧ hS.get b = some o)
    {E1 : Emap} {h1' : Heap} {w' : World} (tr : Tr (cut E h1.next) h1 w E1 h1' w') (hfree : ∀ b, h1.next ≤ b → b < h1'.next → E b = none) {hS2 : Heap}
    (h2 : ∀ b o, hS2.get b = some o → h1'.get b = some o ∨ (hS.get b = some o ∧ h1.get b = none ∧ (b < h1.next ∨ h1'.next ≤ b))) :
    TrO E hS w (join E1 E h1'.next) hS2 w' ∧ (∀ b p, E1 b = some p → join E1 E h1'.next b = some p) := by
  have hE1 : ∀ b p, E1 b = some p → b < h1'.next := fun b p hb => by
    rcases Nat.lt_or_ge b h1'.next with h | h
    · exact h
    · rw [tr.wr.fresh b h] at hb; cases hb
  have up : ∀ b p, E1 b = some p → join E1 E h1'.next b = some p := fun b p hb => by
    unfold join; rw [if_pos (hE1 b p hb)]; exact hb
  have ext : ∀ b p, E b = some p → join E1 E h1'.next b = some p := fun b p hb => by
    unfold join
    split
    · rename_i hlt
      by_cases hn : b < h1.next
      · exact tr.ext _ _ (cut_some.2 ⟨hn, hb⟩)
      · rw [hfree b (by omega) hlt] at hb; cases hb
    · exact hb
  -- a place beside the part
  have beside : ∀ b o p, hS.get b = some o → h1.get b = none → E b = some p → ∀ x ox px, h1.get x = some ox → ox.rw = true → cut E h1.next x = some px → px.block ≠ p.block := by
    intro b o p hb hn hp x ox px hx hr hpx
    have hxb : x ≠ b := fun e => by subst e; rw [hn] at hx; cases hx
    exact hw.sep x b ox o px p hxb (sub x ox hx).2 hb hr (cut_some.1 hpx).2 hp
  -- where a name of the new heap lies
  have place : ∀ b o p, hS2.get b = some o → join E1 E h1'.next b = some p → (h1'.get b = some o ∧ E1 b = some p) ∨ (hS.get b = some o ∧ h1.get b = none ∧ E b = some p) := by
    intro b o p hb hp
    rcases h2 b o hb with h | ⟨ha, hn, hr⟩
    · obtain ⟨q, hq, _⟩ := tr.wr.obj b o h
      have := up b q hq
      rw [this] at hp; cases hp
      exact .inl ⟨h, hq⟩
    · obtain ⟨q, hq, _⟩ := hw.obj b o ha
      have := ext b q hq
      rw [this] at hp; cases hp
      exact .inr ⟨ha, hn, hq⟩
  refine ⟨⟨⟨?_, ?_, ?_⟩, ext, tr.size, tr.os, tr.tape, tr.output, ?_, ?_⟩, up⟩
  · intro b o hb
    rcases h2 b o hb with h | ⟨ha, hn, hr⟩
    · obtain ⟨q, hq, hd⟩ := tr.wr.obj b o h
      exact ⟨q, up b q hq, hd.of_cut up⟩
    · obtain ⟨q, hq, hd⟩ := hw.obj b o ha
      refine ⟨q, ext b q hq, hd.mono ext ?_⟩
      exact tr.frame _ (hw.dom _ _ hq) fun x ox px hx hr hpx => beside b o q ha hn hq x ox px hx hr hpx
  · intro b b' o o' p p' hne k1 k2 hr e1 e2
    rcases place b o p k1 e1 with ⟨a1, a2⟩ | ⟨a1, a2, a3⟩
    · rcases place b' o' p' k2 e2 with ⟨c1, c2⟩ | ⟨c1, c2, c3⟩
      · exact tr.wr.sep _ _ _ _ _ _ hne a1 c1 hr a2 c2
      · by_cases hlt : p.block < w.heap.size
        · obtain ⟨b0, o0, p0, q1, q2, q3, q4⟩ := tr.prov b o p a1 a2 hlt
          rw [← q4]
          exact beside b' o' p' c1 c2 c3 b0 o0 p0 q1 (q2 hr) q3
        · have := hw.dom _ _ c3; omega
    · rcases place b' o' p' k2 e2 with ⟨c1, c2⟩ | ⟨c1, c2, c3⟩
      · by_cases hlt : p'.block < w.heap.size
        · obtain ⟨b0, o0, p0, q1, q2, q3, q4⟩ := tr.prov b' o' p' c1 c2 hlt
          rw [← q4]
          have hb0 : b0 ≠ b := fun e => by subst e; rw [a2] at q1; cases q1
          exact hw.sep b b0 o o0 p p0 (Ne.symm hb0) a1 (sub b0 o0 q1).2 hr a3 (cut_some.1 q3).2
        · have := hw.dom _ _ a3; omega
      · exact hw.sep _ _ _ _ _ _ hne a1 c1 hr a3 c3
  · intro b p hb
    unfold join at hb
    split at hb
    · exact tr.wr.dom _ _ hb
    · exact Nat.lt_of_lt_of_le (hw.dom _ _ hb) tr.size
  · intro r hr hn
    exact tr.frame r hr fun b o p hb ho hp => hn b o p (sub b o hb).2 ho (cut_some.1 hp).2
  · intro b o p hb hp hlt
    rcases place b o p hb hp with ⟨a1, a2⟩ | ⟨a1, a2, a3⟩
    · obtain ⟨b0, o0, p0, q1, q2, q3, q4⟩ := tr.prov b o p a1 a2 hlt
      exact ⟨b0, o0, p0, (sub b0 o0 q1).2, q2, (cut_some.1 q3).2, q4⟩
    · exact ⟨b, o, p, a1, id, a3, rfl⟩

/-- The part of a heap that is asked. -/
theorem WRo.part {E : Emap} {hS : Heap} {w : World} (hw : WRo E hS w) {h1 : Heap} (sub : ∀ b o, h1.get b = some o → b < h1.next ∧ hS.get b = some o)
    (hv : ∀ b o p, h1.get b = some o → E b = some p → Holds (cut E h1.next) w p o) : WR (cut E h1.next) h1 w := by
  refine ⟨fun b o hb => ?_, fun b b' o o' p p' hne k1 k2 hr e1 e2 => ?_, fun b p hb => hw.dom _ _ (cut_some.1 hb).2, fun b hb => ?_⟩
  · obtain ⟨p, hp, _⟩ := hw.obj b o (sub b o hb).2
    exact ⟨p, cut_some.2 ⟨(sub b o hb).1, hp⟩, hv b o p hb hp⟩
  · exact hw.sep _ _ _ _ _ _ hne (sub _ _ k1).2 (sub _ _ k2).2 hr (cut_some.1 e1).2 (cut_some.1 e2).2
  · unfold cut; rw [if_neg (by omega)]

end Go.Ev
