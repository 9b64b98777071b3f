/- append. No condition. -/
import Derived.Test.YtocjmepmbglhaaaEvG
namespace Go.Ev

theorem growBy_le (need : Nat) : ∀ (r c : Nat), 256 ≤ c → c ≤ 2 * need → Builtin.growBy need r c ≤ 2 * need := by
  intro r
  induction r with
  | zero => intro c _ h; exact h
  | succ r ih =>
    intro c h1 h2
    simp only [Builtin.growBy]
    split
    · exact h2
    · exact ih _ (by omega) (by omega)

theorem nextcap_le {need cap : Nat} (h : cap < need) : Builtin.nextslicecap need cap ≤ 2 * need := by
  unfold Builtin.nextslicecap
  split
  · omega
  · split
    · omega
    · exact growBy_le need 4 cap (by omega) (by omega)

theorem newRow_prefix {P : Program} {E : Emap} {h : Heap} {w : World} (hw : WR E h w) (elem : TypeId) {cells : List Value} {c d : Array Value} (es cap : Nat) (hl : LR E cells c) (hc : cap * es ≤ (c ++ d).size) :
    ∃ E' w', (newRow elem (c ++ d)).run P w = .ok ⟨w.heap.size, 0, none⟩ w' ∧ Tr E h w E' (h.new (.row true es cells)) w' ∧ E' h.next = some ⟨w.heap.size, 0, cap⟩ := by
  refine ⟨upd E h.next ⟨w.heap.size, 0, cap⟩, w.alloc (.cells (c ++ d) elem), by simp [newRow, World.alloc_eq], ?_, upd_same _ _ _⟩
  refine Tr.new hw _ _ cap ?_
  have hn : E h.next = none := hw.fresh _ (Nat.le_refl _)
  refine ⟨c ++ d, elem, (0, 0), ?_, by simp [hl.1], fun i hi => ?_, fun _ => ⟨by simpa using hc, by simp⟩⟩
  · show (w.heap.push _)[w.heap.size]? = _
    simp
  · have := (hl.2 i).mono (upd_ext (p := ⟨w.heap.size, 0, cap⟩) hn)
    have e : (c ++ d).getD (0 + i) undef = c.getD i undef := by
      rw [Nat.zero_add, Array.getD_eq_getD_getElem?, Array.getD_eq_getD_getElem?, Array.getElem?_append_left (by rw [← hl.1]; exact hi)]
    rw [e]
    exact this

def roomOk (by_ need : Nat) : Bool := decide (2 * need * by_ ≤ 281474976710656 ∧ need < 4611686018427387904)

def appendV (P : Program) (sT xT : TypeId) (s x : Value) (h : Heap) : Option (Bool × Value × Heap) :=
  match P.underlying sT, P.underlying xT with
  | _, some (.int _) => none
  | _, none => none
  | some (.slice elem), some _ =>
    match sizeP P elem, zeroP P elem, bytesP P elem with
    | some size, some z, some by_ =>
      match closedV z && (decide (z.cells.toList.length = size) && decide (0 < size)) with
      | false => none
      | true =>
        match firstV size h x with
        | none => none
        | some (cx, n, xs) =>
          match s with
          | .slice none l c =>
            match n with
            | 0 => some (cx && decide (l = 0 ∧ c = 0), .slice none 0 0, h)
            | n + 1 => some (cx && (decide (l = 0 ∧ c = 0) && roomOk by_ (n + 1)), .slice (some ⟨h.next, 0, none⟩) (n + 1) 0, h.new (.row true size xs))
          | .slice (some ⟨b, o, none⟩) l c =>
            match n with
            | 0 => some (cx, .slice (some ⟨b, o, none⟩) l c, h)
            | n + 1 =>
              match Nat.beq c noCap with
              | true => some (cx && (decide (l = 0) && roomOk by_ (n + 1)), .slice (some ⟨h.next, 0, none⟩) (n + 1) 0, h.new (.row true size xs))
              | false =>
                match h.get b with
                | some (.row true es cells) =>
                  some (cx && (decide (es = size ∧ o = c * size ∧ o + l * size ≤ cells.length) && (roomOk by_ (l + (n + 1)) && xs.all oneC)),
                    .slice (some ⟨h.next, 0, none⟩) (l + (n + 1)) 0, (h.set b none).new (.row true size ((cells.drop o).take (l * size) ++ xs)))
                | _ => none
          | _ => none
    | _, _, _ => none
  | _, _ => none

theorem run_bytesP {P : Program} {w : World} {t : TypeId} {n : Nat} (h : bytesP P t = some n) : (typeInfo t).run P w = .ok ((P.info? t).getD default) w ∧ ((P.info? t).getD default).bytes = n := by
  unfold bytesP at h
  split at h
  · rename_i i hi
    cases h
    simp [typeInfo, hi]
  · cases h

/-- The machine's append where there is room. -/
theorem append_room {P : Program} {w w' : World} {sT xT ty elem : TypeId} {d : TypeDesc} {size n l cap : Nat} {base : Option Addr} {x : Value} {c : Array Value} (hs : P.underlying sT = some (.slice elem)) (hx : P.underlying xT = some d) (hd : ∀ k, d ≠ .int k)
    (hz : sizeP P elem = some size) (hl : (Builtin.lenOf x).run P w = .ok n w) (hf : (Builtin.firstCells size n x).run P w = .ok c w) (hn : l + n ≤ cap)
    (hst : ∀ a, base = some a → (storeCells (a.add (l * size)) c.toList).run P w = .ok () w') (hb : base = none → w' = w) :
    (Builtin.append_ #[sT, xT] ty #[.slice base l cap, x]).run P w = .ok (.slice base (l + n) cap) w' := by
  cases base with
  | none =>
    obtain rfl := hb rfl
    simp [Builtin.append_, run_underlying hs, run_underlying hx, run_sizeP hz, hl, hn, hf]
  | some a =>
    simp [Builtin.append_, run_underlying hs, run_underlying hx, run_sizeP hz, hl, hn, hf, hst a rfl]

/-- The machine's append where there is no room. -/
theorem append_grow {P : Program} {w : World} {sT xT ty elem : TypeId} {d : TypeDesc} {size n l cap by_ : Nat} {z : Value} {base : Option Addr} {x : Value} {c0 c : Array Value} (hs : P.underlying sT = some (.slice elem)) (hx : P.underlying xT = some d) (hd : ∀ k, d ≠ .int k)
    (hz : sizeP P elem = some size) (hzv : zeroP P elem = some z) (hby : bytesP P elem = some by_) (hl : (Builtin.lenOf x).run P w = .ok n w) (hn : ¬ l + n ≤ cap) (hr : roomOk by_ (l + n) = true)
    (hf0 : ∀ m, (Builtin.firstCells size l (.slice base l cap)).run P { w with drawn := m } = .ok c0 { w with drawn := m }) (hf : ∀ m, (Builtin.firstCells size n x).run P { w with drawn := m } = .ok c { w with drawn := m }) :
    ∃ m newCap, l + n ≤ newCap ∧ ∀ a w', (newRow elem (c0 ++ c ++ Builtin.zeroCells z.cells (newCap - (l + n)))).run P { w with drawn := m } = .ok a w' →
      (Builtin.append_ #[sT, xT] ty #[.slice base l cap, x]).run P w = .ok (.slice (some a) (l + n) newCap) w' := by
  simp only [roomOk, decide_eq_true_eq] at hr
  have h1 : ¬ ((((l + n : Nat) : Int)) > IntKind.i64.max) := by simp [IntKind.max, IntKind.signed, IntKind.bits]; omega
  have hcap := nextcap_le (need := l + n) (cap := cap) (by omega)
  have h2 : ¬ (Builtin.nextslicecap (l + n) cap * by_ > 2 ^ 48) := by
    have := Nat.mul_le_mul_right by_ hcap
    omega
  refine ⟨w.drawn + 1, (Question.appendCap (l + n) cap elem).cut (w.tape w.drawn (.appendCap (l + n) cap elem)), by simp [Question.cut], fun a w' hrow => ?_⟩
  have hty := fun w => (run_bytesP (P := P) (w := w) hby).1
  have htb := (run_bytesP (P := P) (w := w) hby).2
  simp only [Builtin.append_, List.getElem?_toArray, List.getElem?_cons_zero, List.getElem?_cons_succ, Sem.run_bind, run_underlying hs, run_underlying hx, run_sizeP hz, Result.andThen_ok, Sem.run_pure, hl, if_neg hn, Bool.false_eq_true, if_false, hty, htb]
  rw [if_neg (fun h => h1 h.1)]
  simp only [if_false, h2, Sem.run_bind, run_choose, Question.forced, Bool.false_eq_true, Result.andThen_ok, hty, htb, run_askRoom, hf0, hf, Bool.not_false, if_true, run_zeroP hzv, hrow, Sem.run_pure]

theorem wr_drawn {E : Emap} {h : Heap} {w : World} (hw : WR E h w) (m : Nat) : WR E h { w with drawn := m } := (Tr.drew hw m).wr

theorem appendV_sound {P : Program} {E : Emap} {h h' : Heap} {w : World} {sT xT ty : TypeId} {s s' x x' r : Value} (hw : WR E h w) (ha : appendV P sT xT s x h = some (true, r, h')) (hs : VR E s s') (hx : VR E x x') :
    ∃ E' w' r', (Builtin.append_ #[sT, xT] ty #[s', x']).run P w = .ok r' w' ∧ VR E' r r' ∧ Tr E h w E' h' w' := by
  unfold appendV at ha
  split at ha
  · cases ha
  · cases ha
  rename_i elem d hnint hus hux
  have hd : ∀ k, d ≠ .int k := fun k e => hnint k e
  split at ha
  case h_2 => cases ha
  rename_i size z by_ hsz hzv hby
  split at ha
  · cases ha
  rename_i hc
  simp only [Bool.and_eq_true, decide_eq_true_eq] at hc
  obtain ⟨hcl, hzn, h0⟩ := hc
  have hzs : z.cells.size = size := by simpa using hzn
  split at ha
  · cases ha
  rename_i cx n xs hfv
  -- the parts of what is appended
  have key : cx = true → (Builtin.lenOf x').run P w = .ok n w ∧ ∃ c, LR E xs c ∧ c.size = n * size ∧ ∀ m, (Builtin.firstCells size n x').run P { w with drawn := m } = .ok c { w with drawn := m } := by
    rintro rfl
    obtain ⟨k1, c, k2, k3⟩ := firstV_sound (P := P) hw hfv hx
    have hcs : c.size = n * size := by rw [← k2.1, firstV_len hfv]
    refine ⟨k1, c, k2, hcs, fun m => ?_⟩
    have := k3 n m (Nat.le_refl _)
    rwa [← hcs, Array.extract_size] at this
  have zc : ∀ k, (Builtin.zeroCells z.cells k).size = k * size := fun k => by simp [Builtin.zeroCells, hzs]
  split at ha
  · rename_i l c
    cases hs
    split at ha
    · simp only [Option.some.injEq, Prod.mk.injEq, Bool.and_eq_true, decide_eq_true_eq] at ha
      obtain ⟨⟨hcx, rfl, rfl⟩, rfl, rfl⟩ := ha
      obtain ⟨k1, c, k2, k3, k4⟩ := key hcx
      refine ⟨E, w, .slice none 0 0, ?_, .slice0 0 0, Tr.refl hw⟩
      exact append_room (n := 0) (l := 0) hus hux hd hsz k1 (by simpa using k4 w.drawn) (by omega) (fun a h => by cases h) (fun _ => rfl)
    · rename_i n
      simp only [Option.some.injEq, Prod.mk.injEq, Bool.and_eq_true, decide_eq_true_eq] at ha
      obtain ⟨⟨hcx, ⟨rfl, rfl⟩, hr⟩, rfl, rfl⟩ := ha
      obtain ⟨k1, c, k2, k3, k4⟩ := key hcx
      obtain ⟨m, newCap, hge, hgrow⟩ := append_grow (ty := ty) (base := none) (l := 0) (cap := 0) (n := n + 1) (c0 := #[]) hus hux hd hsz hzv hby k1 (by omega) (by simpa using hr)
        (fun m => by simp [Builtin.firstCells]) k4
      have hw2 := wr_drawn hw m
      obtain ⟨E', w', e1, e2, e3⟩ := newRow_prefix (P := P) hw2 elem (cells := xs) (c := c) (d := Builtin.zeroCells z.cells (newCap - (0 + (n + 1)))) size newCap k2 (by
        rw [Array.size_append, zc, k3, ← Nat.add_mul]; exact Nat.mul_le_mul_right _ (by omega))
      refine ⟨E', w', _, hgrow _ _ (by simpa using e1), ?_, (Tr.drew hw m).trans e2⟩
      have hcap : capOf (⟨w.heap.size, 0, newCap⟩ : Place) 0 = newCap := by simp [capOf, noCap]
      have v := VR.slice (E := E') (o := 0) (o' := 0) (l := n + 1) (c := 0) e3 (by simp only [hcap]; omega) (fun _ => rfl)
      rw [show (0 + (n + 1)) = n + 1 from by omega]
      simpa [hcap] using v
  · rename_i b o l c
    cases hs with
    | slice hp hle ho =>
      rename_i o' p
      split at ha
      · simp only [Option.some.injEq, Prod.mk.injEq] at ha
        obtain ⟨hcx, rfl, rfl⟩ := ha
        obtain ⟨k1, d', k2, k3, k4⟩ := key hcx
        have hd0 : d' = #[] := by apply Array.eq_empty_of_size_eq_zero; rw [k3]; simp
        subst hd0
        refine ⟨E, w, .slice (some ⟨p.block, o', none⟩) l (capOf p c), ?_, .slice hp hle ho, Tr.refl hw⟩
        exact append_room (n := 0) (l := l) (c := #[]) hus hux hd hsz k1 (by simpa using k4 w.drawn) (by omega) (fun a h => by simp [storeCells]) (fun h => by cases h)
      · rename_i n
        split at ha
        · rename_i hnc
          have hc0 : c = noCap := Nat.eq_of_beq_eq_true hnc
          subst hc0
          simp only [Option.some.injEq, Prod.mk.injEq, Bool.and_eq_true, decide_eq_true_eq] at ha
          obtain ⟨⟨hcx, rfl, hr⟩, rfl, rfl⟩ := ha
          obtain ⟨k1, d', k2, k3, k4⟩ := key hcx
          have hcp : capOf p noCap = 0 := by simp [capOf]
          obtain ⟨m, newCap, hge, hgrow⟩ := append_grow (ty := ty) (base := some ⟨p.block, o', none⟩) (l := 0) (cap := capOf p noCap) (n := n + 1) (c0 := #[]) hus hux hd hsz hzv hby k1 (by omega) (by simpa using hr)
            (fun m => by simp [Builtin.firstCells, loadCells, loadCellsFrom]) k4
          have hw2 := wr_drawn hw m
          obtain ⟨E', w', e1, e2, e3⟩ := newRow_prefix (P := P) hw2 elem (cells := xs) (c := d') (d := Builtin.zeroCells z.cells (newCap - (0 + (n + 1)))) size newCap k2 (by
            rw [Array.size_append, zc, k3, ← Nat.add_mul]; exact Nat.mul_le_mul_right _ (by omega))
          refine ⟨E', w', _, hgrow _ _ (by simpa using e1), ?_, (Tr.drew hw m).trans e2⟩
          have hcap : capOf (⟨w.heap.size, 0, newCap⟩ : Place) 0 = newCap := by simp [capOf, noCap]
          have v := VR.slice (E := E') (o := 0) (o' := 0) (l := n + 1) (c := 0) e3 (by simp only [hcap]; omega) (fun _ => rfl)
          rw [show (0 + (n + 1)) = n + 1 from by omega]
          simpa [hcap] using v
        · rename_i hnc
          have hcn : c ≠ noCap := Nat.ne_of_beq_eq_false hnc
          split at ha
          case h_2 => cases ha
          rename_i es cells hb
          simp only [Option.some.injEq, Prod.mk.injEq, Bool.and_eq_true, decide_eq_true_eq] at ha
          obtain ⟨⟨hcx, ⟨rfl, hoc, hol⟩, hr, hone⟩, rfl, rfl⟩ := ha
          obtain ⟨k1, d', k2, k3, k4⟩ := key hcx
          obtain ⟨p', hp', cc, e, fz, g1, g2, g3, g4⟩ := hw.obj b _ hb
          rw [hp] at hp'; cases hp'
          have hcapof : capOf p c = p.cap - c := by simp [capOf, hcn]
          by_cases hroom : l + (n + 1) ≤ capOf p c
          · -- in place
            have hoo : o' = p.base + o := ho (by omega)
            subst hoo
            have hcp : c + (l + (n + 1)) ≤ p.cap := by omega
            have hmul : (c + (l + (n + 1))) * es ≤ p.cap * es := Nat.mul_le_mul_right _ hcp
            have hexp : (c + (l + (n + 1))) * es = o + l * es + (n + 1) * es := by rw [Nat.add_mul, Nat.add_mul, hoc]; omega
            have hfit := (g4 rfl).1
            have hdlen : d'.toList.length = (n + 1) * es := by simpa using k3
            have hxl : xs.length = (n + 1) * es := by rw [k2.1, k3]
            have hone' : ∀ v ∈ d'.toList, v.oneCell' = true := by
              have hv := k2.to_VRs
              exact oneC_all hv (by simpa using hone)
            obtain ⟨w', r1, r2, r3, r4, r5, r6, r7⟩ := run_storeCells (P := P) (b := p.block) (o := p.base + o + l * es) (e := e) (g4 rfl).2 d'.toList 0 w cc g1 (by omega) hone'
            refine ⟨upd E h.next ⟨p.block, p.base + o, capOf p c⟩, w', .slice (some ⟨p.block, p.base + o, none⟩) (l + (n + 1)) (capOf p c), ?_, ?_, ?_⟩
            · refine append_room (n := n + 1) (l := l) (c := d') hus hux hd hsz k1 (by simpa using k4 w.drawn) hroom (fun a h => ?_) (fun h => by cases h)
              cases h
              rw [add_none]
              exact r1
            · have hcap : capOf (⟨p.block, p.base + o, capOf p c⟩ : Place) 0 = capOf p c := by simp [capOf, noCap]
              have v := VR.slice (E := upd E h.next ⟨p.block, p.base + o, capOf p c⟩) (o := 0) (o' := p.base + o) (l := l + (n + 1)) (c := 0) (upd_same _ _ _) (by rw [hcap]; exact hroom) (fun _ => rfl)
              rwa [hcap] at v
            · refine Tr.rename hw hb rfl hp ⟨p.block, p.base + o, capOf p c⟩ rfl r2 r3 r4 r5 r6 ?_
              have hext := upd_ext (E := E) (b := h.next) (p := ⟨p.block, p.base + o, capOf p c⟩) (hw.fresh _ (Nat.le_refl _))
              refine ⟨putAllA cc (p.base + o + l * es) d'.toList, e, fz, by simpa using r7, ?_, fun i hi => ?_, fun _ => ⟨?_, (g4 rfl).2⟩⟩
              · rw [putAllA_size]
                simp only [List.length_append, List.length_take, List.length_drop, hxl]
                omega
              · simp only [List.length_append, List.length_take, List.length_drop, hxl] at hi
                have hmin : min (l * es) (cells.length - o) = l * es := by omega
                rw [hmin] at hi
                show VR _ _ ((putAllA cc (p.base + o + l * es) d'.toList).getD (p.base + o + i) undef)
                by_cases hil : i < l * es
                · rw [putAllA_other _ _ _ _ (by omega), List.getD_eq_getElem?_getD, List.getElem?_append_left (by simp; omega), List.getElem?_take, if_pos hil, List.getElem?_drop, ← List.getD_eq_getElem?_getD]
                  have := (g3 (o + i) (by omega)).mono hext
                  rwa [← Nat.add_assoc] at this
                · rw [show p.base + o + i = p.base + o + l * es + (i - l * es) from by omega, putAllA_in _ _ _ _ (by omega) (by omega)]
                  rw [List.getD_eq_getElem?_getD, List.getElem?_append_right (by simp; omega), ← List.getD_eq_getElem?_getD]
                  simp only [List.length_take, List.length_drop, hmin]
                  have := (k2.2 (i - l * es)).mono hext
                  rwa [show d'.getD (i - l * es) undef = d'.toList.getD (i - l * es) undef from by simp [Array.getD_eq_getD_getElem?, List.getD_eq_getElem?_getD]] at this
              · rw [putAllA_size, hcapof]
                have h1 : (p.cap - c) * es = p.cap * es - c * es := Nat.sub_mul _ _ _
                have h2 : c * es ≤ p.cap * es := Nat.mul_le_mul_right _ (by omega)
                simp only [h1]
                omega
          · -- anew
            have hold : LR E ((cells.drop o).take (l * es)) (cc.extract (p.base + o) (p.base + o + l * es)) := LR.extract g2 hol g3
            obtain ⟨m, newCap, hge, hgrow⟩ := append_grow (ty := ty) (base := some ⟨p.block, o', none⟩) (l := l) (cap := capOf p c) (n := n + 1) (c0 := cc.extract (p.base + o) (p.base + o + l * es)) hus hux hd hsz hzv hby k1 hroom hr
              (fun m => by
                simp only [Builtin.firstCells]
                by_cases hcz : capOf p c = 0
                · have hl0 : l = 0 := by omega
                  subst hl0
                  simp [loadCells, loadCellsFrom]
                  omega
                · have := ho hcz
                  subst this
                  exact run_loadCells (w := { w with drawn := m }) g1 (by omega)) k4
            have hw2 := (Tr.forget (wr_drawn hw m) b).wr
            obtain ⟨E', w', e1, e2, e3⟩ := newRow_prefix (P := P) hw2 elem (cells := (cells.drop o).take (l * es) ++ xs) (c := cc.extract (p.base + o) (p.base + o + l * es) ++ d') (d := Builtin.zeroCells z.cells (newCap - (l + (n + 1)))) es newCap (hold.append k2) (by
              rw [Array.size_append, Array.size_append, zc, k3, ← hold.1]
              simp only [List.length_take, List.length_drop]
              have hmin : min (l * es) (cells.length - o) = l * es := by omega
              rw [hmin, ← Nat.add_mul, ← Nat.add_mul]; exact Nat.mul_le_mul_right _ (by omega))
            refine ⟨E', w', _, hgrow _ _ e1, ?_, ((Tr.drew hw m).trans (Tr.forget (wr_drawn hw m) b)).trans e2⟩
            have hcap : capOf (⟨w.heap.size, 0, newCap⟩ : Place) 0 = newCap := by simp [capOf, noCap]
            have e3' : E' h.next = some ⟨w.heap.size, 0, newCap⟩ := e3
            have v := VR.slice (E := E') (o := 0) (o' := 0) (l := l + (n + 1)) (c := 0) e3' (by rw [hcap]; exact hge) (fun _ => rfl)
            rwa [hcap] at v
  · cases ha
  · cases ha

end Go.Ev
