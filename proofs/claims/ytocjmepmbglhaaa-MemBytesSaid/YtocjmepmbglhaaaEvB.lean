/- The steps of the heap of named objects: a new object, a store, an append; reading and writing rows of cells. No condition. -/
import Derived.Test.YtocjmepmbglhaaaEvA
namespace Go.Ev

def upd (E : Emap) (b : Nat) (p : Place) : Emap := fun x => if x = b then some p else E x

theorem upd_same (E : Emap) (b : Nat) (p : Place) : upd E b p b = some p := by simp [upd]
theorem upd_ext {E : Emap} {b : Nat} {p : Place} (h : E b = none) : ∀ x q, E x = some q → upd E b p x = some q := by
  intro x q hx
  simp only [upd]
  split
  · rename_i e; subst e; rw [h] at hx; cases hx
  · exact hx
theorem upd_cases {E : Emap} {b : Nat} {p : Place} {x : Nat} {q : Place} (h : upd E b p x = some q) : (x = b ∧ q = p) ∨ (x ≠ b ∧ E x = some q) := by
  simp only [upd] at h
  split at h
  · rename_i e; exact .inl ⟨e, (Option.some.inj h).symm⟩
  · rename_i e; exact .inr ⟨e, h⟩

theorem alloc_size (w : World) (o : Obj) : (w.alloc o).heap.size = w.heap.size + 1 := by
  show (w.heap.push o).size = _
  exact Array.size_push _

/-- A new object in a new block. -/
theorem Tr.new {E : Emap} {h : Heap} {w : World} (hw : WR E h w) (ob : Obj) (o : AObj) (cap : Nat)
    (hh : Holds (upd E h.next ⟨w.heap.size, 0, cap⟩) (w.alloc ob) ⟨w.heap.size, 0, cap⟩ o) :
    Tr E h w (upd E h.next ⟨w.heap.size, 0, cap⟩) (h.new o) (w.alloc ob) := by
  have hn : E h.next = none := hw.fresh _ (Nat.le_refl _)
  have hext := upd_ext (p := ⟨w.heap.size, 0, cap⟩) hn
  have hold : ∀ r, r < w.heap.size → (w.alloc ob).heap[r]? = w.heap[r]? := fun r hr => Go.RowKit.Below.heap_alloc w ob r hr
  have hnn : ∀ b o', h.get b = some o' → b ≠ h.next := fun b o' hb e => by
    obtain ⟨p, hp, _⟩ := hw.obj b o' hb
    rw [e, hn] at hp; cases hp
  refine ⟨⟨?_, ?_, ?_, ?_⟩, hext, by rw [alloc_size]; omega, rfl, rfl, rfl, fun r hr _ => hold r hr, ?_, by simp [Heap.new], fun b hb => by simp only [upd]; rw [if_neg (by omega)]⟩
  · intro b o' hb
    rw [Heap.get_new] at hb
    split at hb
    · rename_i e; subst e; cases hb; exact ⟨_, upd_same _ _ _, hh⟩
    · obtain ⟨p, hp, hd⟩ := hw.obj b o' hb
      exact ⟨p, hext _ _ hp, hd.mono hext (hold _ (hw.dom _ _ hp))⟩
  · intro b b' o1 o2 p1 p2 hne h1 h2 hrw e1 e2
    rw [Heap.get_new] at h1 h2
    rcases upd_cases e1 with ⟨rfl, rfl⟩ | ⟨n1, f1⟩
    · rcases upd_cases e2 with ⟨rfl, rfl⟩ | ⟨n2, f2⟩
      · exact absurd rfl hne
      · have := hw.dom _ _ f2; simp; omega
    · rw [if_neg n1] at h1
      rcases upd_cases e2 with ⟨rfl, rfl⟩ | ⟨n2, f2⟩
      · have := hw.dom _ _ f1; simp; omega
      · rw [if_neg n2] at h2
        exact hw.sep _ _ _ _ _ _ hne h1 h2 hrw f1 f2
  · intro b p hb
    rcases upd_cases hb with ⟨rfl, rfl⟩ | ⟨n1, e1⟩
    · rw [alloc_size]; simp
    · have := hw.dom _ _ e1; rw [alloc_size]; omega
  · intro b hb
    simp only [Heap.new] at hb
    simp only [upd]
    rw [if_neg (by omega)]
    exact hw.fresh b (by omega)
  · intro b o' p hb hp hlt
    rw [Heap.get_new] at hb
    rcases upd_cases hp with ⟨rfl, rfl⟩ | ⟨n1, e1⟩
    · simp at hlt
    · rw [if_neg n1] at hb
      exact ⟨b, o', p, hb, id, e1, rfl⟩

/-- A store into an object. -/
theorem Tr.write {E : Emap} {h : Heap} {w : World} (hw : WR E h w) {b : Nat} {o o' : AObj} {p : Place} (hb : h.get b = some o) (hrw : o.rw = true) (hp : E b = some p)
    {w' : World} (hs : w'.heap.size = w.heap.size) (h1 : w'.os = w.os) (h2 : w'.tape = w.tape) (h3 : w'.output = w.output)
    (ho : ∀ r, r ≠ p.block → w'.heap[r]? = w.heap[r]?) (hh : Holds E w' p o') : Tr E h w E (h.set b (some o')) w' := by
  refine ⟨⟨?_, ?_, ?_, ?_⟩, fun _ _ h => h, by omega, h1, h2, h3, fun r hr hn => ho r fun e => hn b o p hb hrw hp e.symm, ?_, Nat.le_refl _, fun _ _ => rfl⟩
  · intro x o1 hx
    rw [Heap.get_set] at hx
    split at hx
    · rename_i e; subst e; cases hx; exact ⟨p, hp, hh⟩
    · rename_i e
      obtain ⟨q, hq, hd⟩ := hw.obj x o1 hx
      refine ⟨q, hq, hd.mono (fun _ _ h => h) (ho _ ?_)⟩
      exact (hw.sep b x o o1 p q (Ne.symm e) hb hx hrw hp hq).symm
  · intro x y o1 o2 p1 p2 hne k1 k2 hr e1 e2
    rw [Heap.get_set] at k1 k2
    split at k1
    · rename_i e
      subst e
      cases k1
      rw [if_neg (Ne.symm hne)] at k2
      exact hw.sep _ _ _ _ _ _ hne hb k2 hrw e1 e2
    · split at k2
      · rename_i e
        subst e
        cases k2
        exact hw.sep _ _ _ _ _ _ hne k1 hb hr e1 e2
      · exact hw.sep _ _ _ _ _ _ hne k1 k2 hr e1 e2
  · intro x q hq
    have := hw.dom x q hq
    omega
  · exact hw.fresh
  · intro x o1 q hx hq _
    rw [Heap.get_set] at hx
    split at hx
    · rename_i e; subst e; exact ⟨x, o, q, hb, fun _ => hrw, hq, rfl⟩
    · exact ⟨x, o1, q, hx, id, hq, rfl⟩

/-- The same row goes on under a new name (its place begins further on, and it has other cells); the old name is gone. -/
theorem Tr.rename {E : Emap} {h : Heap} {w : World} (hw : WR E h w) {b : Nat} {o o' : AObj} {p : Place} (hb : h.get b = some o) (hrw : o.rw = true) (hp : E b = some p)
    (q : Place) (hq : q.block = p.block)
    {w' : World} (hs : w'.heap.size = w.heap.size) (h1 : w'.os = w.os) (h2 : w'.tape = w.tape) (h3 : w'.output = w.output)
    (ho : ∀ r, r ≠ p.block → w'.heap[r]? = w.heap[r]?) (hh : Holds (upd E h.next q) w' q o') :
    Tr E h w (upd E h.next q) ((h.set b none).new o') w' := by
  have hn : E h.next = none := hw.fresh _ (Nat.le_refl _)
  have hext := upd_ext (p := q) hn
  have hbn : b ≠ h.next := fun e => by rw [e, hn] at hp; cases hp
  have getn : ∀ x, ((h.set b none).new o').get x = if x = h.next then some o' else if x = b then none else h.get x := by
    intro x; rw [Heap.get_new, Heap.get_set]; rfl
  refine ⟨⟨?_, ?_, ?_, ?_⟩, hext, by omega, h1, h2, h3, fun r hr hn => ho r fun e => hn b o p hb hrw hp e.symm, ?_, by simp [Heap.new, Heap.set], fun b hb => by simp only [upd]; rw [if_neg (by omega)]⟩
  · intro x o1 hx
    rw [getn] at hx
    split at hx
    · rename_i e; subst e; cases hx; exact ⟨q, upd_same _ _ _, hh⟩
    · split at hx
      · cases hx
      · rename_i e
        obtain ⟨r, hr, hd⟩ := hw.obj x o1 hx
        refine ⟨r, hext _ _ hr, hd.mono hext (ho _ ?_)⟩
        exact (hw.sep b x o o1 p r (Ne.symm e) hb hx hrw hp hr).symm
  · intro x y o1 o2 p1 p2 hne k1 k2 hr e1 e2
    rw [getn] at k1 k2
    rcases upd_cases e1 with ⟨rfl, rfl⟩ | ⟨n1, f1⟩
    · rcases upd_cases e2 with ⟨rfl, rfl⟩ | ⟨n2, f2⟩
      · exact absurd rfl hne
      · rw [if_neg n2] at k2
        split at k2
        · cases k2
        · rename_i e
          rw [hq]
          exact hw.sep _ _ _ _ _ _ (Ne.symm e) hb k2 hrw hp f2
    · rw [if_neg n1] at k1
      split at k1
      · cases k1
      · rename_i e
        rcases upd_cases e2 with ⟨rfl, rfl⟩ | ⟨n2, f2⟩
        · rw [hq]
          exact (hw.sep _ _ _ _ _ _ (Ne.symm e) hb k1 hrw hp f1).symm
        · rw [if_neg n2] at k2
          split at k2
          · cases k2
          · exact hw.sep _ _ _ _ _ _ hne k1 k2 hr f1 f2
  · intro x r hr
    rcases upd_cases hr with ⟨rfl, rfl⟩ | ⟨n1, e1⟩
    · rw [hq]; have := hw.dom b p hp; omega
    · have := hw.dom x r e1; omega
  · intro x hx
    simp only [Heap.new, Heap.set] at hx
    simp only [upd]
    rw [if_neg (by omega)]
    exact hw.fresh x (by omega)
  · intro x o1 r hx hrq _
    rw [getn] at hx
    rcases upd_cases hrq with ⟨rfl, rfl⟩ | ⟨n1, e1⟩
    · exact ⟨b, o, p, hb, fun _ => hrw, hp, hq.symm⟩
    · rw [if_neg n1] at hx
      split at hx
      · cases hx
      · exact ⟨x, o1, r, hx, id, e1, rfl⟩

/-- A name is forgotten. -/
theorem Tr.forget {E : Emap} {h : Heap} {w : World} (hw : WR E h w) (b : Nat) : Tr E h w E (h.set b none) w := by
  have getn : ∀ x o, (h.set b none).get x = some o → h.get x = some o := by
    intro x o hx; rw [Heap.get_set] at hx; split at hx
    · cases hx
    · exact hx
  exact ⟨⟨fun x o hx => hw.obj x o (getn x o hx), fun x y o1 o2 p1 p2 hne k1 k2 => hw.sep x y o1 o2 p1 p2 hne (getn _ _ k1) (getn _ _ k2), hw.dom, hw.fresh⟩,
    fun _ _ h => h, Nat.le_refl _, rfl, rfl, rfl, fun _ _ _ => rfl, fun x o p hx hp _ => ⟨x, o, p, getn x o hx, id, hp, rfl⟩, Nat.le_refl _, fun _ _ => rfl⟩

/-! ### Cells -/
theorem add_none (b o n : Nat) : (⟨b, o, none⟩ : Addr).add n = ⟨b, o + n, none⟩ := by
  unfold Addr.add
  split
  · rename_i h; subst h; rfl
  · rfl

theorem cell_at {w : World} {b o : Nat} {c : Array Value} {e : TypeId} {fz : Nat × Nat} (hw : w.heap[b]? = some (.cells c e fz)) (ho : o < c.size) :
    w.cell? ⟨b, o, none⟩ = some (c.getD o undef) := by
  simp [World.cell?, hw, ho]

theorem run_load_at {P : Program} {w : World} {b o : Nat} {c : Array Value} {e : TypeId} {fz : Nat × Nat} (hw : w.heap[b]? = some (.cells c e fz)) (ho : o < c.size) :
    (load ⟨b, o, none⟩).run P w = .ok (c.getD o undef) w := by
  rw [run_load, cell_at hw ho]

theorem run_loadCellsFrom {P : Program} {w : World} {b o : Nat} {c : Array Value} {e : TypeId} {fz : Nat × Nat} (hw : w.heap[b]? = some (.cells c e fz)) :
    ∀ (n i : Nat) (acc : Array Value), o + i + n ≤ c.size → (loadCellsFrom ⟨b, o, none⟩ i n acc).run P w = .ok (acc ++ c.extract (o + i) (o + i + n)) w := by
  intro n
  induction n with
  | zero => intro i acc _; simp [loadCellsFrom]; omega
  | succ n ih =>
    intro i acc hb
    simp only [loadCellsFrom, add_none, Sem.run_bind, run_load_at hw (show o + i < c.size by omega), Result.andThen_ok]
    rw [ih (i + 1) _ (by omega)]
    congr 1
    apply Array.ext'
    have h1 : o + i < c.toList.length := by simp; omega
    simp only [Array.toList_append, Array.toList_push, Array.toList_extract]
    rw [List.append_assoc]
    congr 1
    simp only [List.extract_eq_take_drop]
    rw [show o + i + (n + 1) - (o + i) = n + 1 from by omega, show o + (i + 1) + n - (o + (i + 1)) = n from by omega, List.drop_eq_getElem_cons h1]
    simp [Nat.add_assoc, show o + i < c.size from by omega]

theorem run_loadCells {P : Program} {w : World} {b o n : Nat} {c : Array Value} {e : TypeId} {fz : Nat × Nat} (hw : w.heap[b]? = some (.cells c e fz)) (hn : o + n ≤ c.size) :
    (loadCells ⟨b, o, none⟩ n).run P w = .ok (c.extract o (o + n)) w := by
  unfold loadCells
  rw [run_loadCellsFrom hw n 0 #[] (by omega)]
  simp

/-- Values put side by side into a row. -/
def putAll (c : List Value) (o : Nat) : List Value → List Value
  | [] => c
  | v :: vs => putAll (c.set o v) (o + 1) vs
def putAllA (c : Array Value) (o : Nat) : List Value → Array Value
  | [] => c
  | v :: vs => putAllA (c.setIfInBounds o v) (o + 1) vs

theorem putAll_length (c : List Value) (o : Nat) (vs : List Value) : (putAll c o vs).length = c.length := by
  induction vs generalizing c o with
  | nil => rfl
  | cons v vs ih => simp [putAll, ih]
theorem putAllA_size (c : Array Value) (o : Nat) (vs : List Value) : (putAllA c o vs).size = c.size := by
  induction vs generalizing c o with
  | nil => rfl
  | cons v vs ih => simp [putAllA, ih]

theorem VR.oneCell {E : Emap} {v v' : Value} (h : VR E v v') : v'.oneCell' = v.oneCell' := by cases h <;> rfl

theorem run_storeCells {P : Program} {b o : Nat} {e : TypeId} {fz : Nat × Nat} (hfz : fz.2 ≤ fz.1) :
    ∀ (vs : List Value) (i : Nat) (w : World) (c : Array Value), w.heap[b]? = some (.cells c e fz) → o + i + vs.length ≤ c.size → (∀ v ∈ vs, v.oneCell' = true) →
      ∃ w', (storeCells ⟨b, o, none⟩ vs i).run P w = .ok () w' ∧ w'.heap.size = w.heap.size ∧ w'.os = w.os ∧ w'.tape = w.tape ∧ w'.output = w.output ∧
        (∀ r, r ≠ b → w'.heap[r]? = w.heap[r]?) ∧ w'.heap[b]? = some (.cells (putAllA c (o + i) vs) e fz) := by
  intro vs
  induction vs with
  | nil => intro i w c hw _ _; exact ⟨w, rfl, rfl, rfl, rfl, rfl, fun _ _ => rfl, hw⟩
  | cons v vs ih =>
    intro i w c hw hb hv
    simp only [List.length_cons] at hb
    have hnf : w.frozen? ⟨b, o + i, none⟩ = false := by
      obtain ⟨lo, hi⟩ := fz
      simp only at hfz
      simp only [World.frozen?, hw]
      simp
      omega
    have h1 : (w.setCell ⟨b, o + i, none⟩ v).heap[b]? = some (.cells (c.setIfInBounds (o + i) v) e fz) := by
      simp [World.setCell, Array.getElem?_modify, hw]
    obtain ⟨w', r1, r2, r3, r4, r5, r6, r7⟩ := ih (i + 1) (w.setCell ⟨b, o + i, none⟩ v) (c.setIfInBounds (o + i) v) h1 (by simp; omega) (fun x hx => hv x (by simp [hx]))
    refine ⟨w', ?_, by rw [r2]; simp [World.setCell], r3, r4, r5, fun r hr => ?_, by rw [r7]; rfl⟩
    · simp only [storeCells, add_none, Sem.run_bind, run_store P w _ v .plain (hv v (by simp)), cell_at hw (show o + i < c.size by omega), hnf]
      simpa using r1
    · rw [r6 r hr]
      exact Go.RowKit.Below.heap_setCell _ _ _ _ (by simpa using hr)

theorem putAll_rel {E : Emap} {k : Nat} : ∀ (vs vs' : List Value) (c : List Value) (c' : Array Value) (o : Nat), vs.length = vs'.length → (∀ i, VR E (vs.getD i undef) (vs'.getD i undef)) →
    k + c.length ≤ c'.size → o + vs.length ≤ c.length → (∀ i, i < c.length → VR E (c.getD i undef) (c'.getD (k + i) undef)) →
    ∀ i, i < c.length → VR E ((putAll c o vs).getD i undef) ((putAllA c' (k + o) vs').getD (k + i) undef) := by
  intro vs
  induction vs with
  | nil => intro vs' c c' o hl _ _ _ h i hi; cases vs' with
    | nil => exact h i hi
    | cons _ _ => simp at hl
  | cons v vs ih =>
    intro vs' c c' o hl hv hk ho h i hi
    cases vs' with
    | nil => simp at hl
    | cons v' vs' =>
      simp only [List.length_cons] at hl ho
      simp only [putAll, putAllA]
      have := ih vs' (c.set o v) (c'.setIfInBounds (k + o) v') (o + 1) (by omega) (fun j => by simpa using hv (j + 1)) (by simpa using hk) (by simp; omega)
        (fun j hj => by
          rw [getD_set, agetD_set]
          by_cases e : j = o
          · subst e
            rw [if_pos ⟨rfl, by omega⟩, if_pos ⟨rfl, by omega⟩]
            simpa using hv 0
          · rw [if_neg (fun x => e x.1), if_neg (fun x => e (by omega))]
            exact h j (by simpa using hj)) i (by simpa using hi)
      rw [show k + o + 1 = k + (o + 1) from by omega]
      exact this

theorem putAllA_other : ∀ (vs : List Value) (c : Array Value) (o i : Nat), (i < o ∨ o + vs.length ≤ i) → (putAllA c o vs).getD i undef = c.getD i undef := by
  intro vs
  induction vs with
  | nil => intro c o i _; rfl
  | cons v vs ih =>
    intro c o i h
    simp only [List.length_cons] at h
    simp only [putAllA]
    rw [ih _ _ _ (by omega), agetD_set, if_neg (by omega)]
theorem putAllA_in : ∀ (vs : List Value) (c : Array Value) (o i : Nat), o + vs.length ≤ c.size → i < vs.length → (putAllA c o vs).getD (o + i) undef = vs.getD i undef := by
  intro vs
  induction vs with
  | nil => intro c o i _ h; simp at h
  | cons v vs ih =>
    intro c o i h hi
    simp only [List.length_cons] at h hi
    simp only [putAllA]
    cases i with
    | zero => rw [putAllA_other _ _ _ _ (by omega), agetD_set, if_pos ⟨by omega, by omega⟩]; simp
    | succ i => rw [show o + (i + 1) = o + 1 + i from by omega, ih _ _ _ (by simp; omega) (by omega)]; simp

end Go.Ev
