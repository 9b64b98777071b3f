/- copy, len, maps over named objects. No condition. -/
import Derived.Test.YtocjmepmbglhaaaEvH
namespace Go.Ev

theorem agetD_toList (c : Array Value) (j : Nat) : c.getD j undef = c.toList.getD j undef := by
  rw [Array.getD_eq_getD_getElem?, List.getD_eq_getElem?_getD, Array.getElem?_toList]

/-! ### len -/
def lenV (P : Program) (t : TypeId) (h : Heap) (x : Value) : Option Value :=
  match P.underlying t, x with
  | some .string, .string s => some (.int .i64 s.size)
  | some (.array n _), _ => some (.int .i64 n)
  | some (.slice _), .slice _ n _ => some (.int .i64 n)
  | some (.map _ _), .map none => some (.int .i64 0)
  | some (.map _ _), .map (some r) =>
    match h.get r with
    | some (.map ents) => some (.int .i64 ents.length)
    | _ => none
  | _, _ => none

theorem run_getObj {P : Program} {w : World} {r : Nat} {es : Array MapEntry} {clk : Nat} (h : w.heap[r]? = some (.map es clk)) : (getObj r).run P w = .ok (.map es clk) w := by
  simp [getObj, Sem.run, h]

theorem lenV_sound {P : Program} {E : Emap} {h : Heap} {w : World} {t ty : TypeId} {x x' r : Value} (hw : WR E h w) (hl : lenV P t h x = some r) (hx : VR E x x') :
    (Builtin.len_ #[t] ty #[x']).run P w = .ok r w ∧ closedV r = true := by
  unfold lenV at hl
  split at hl
  · rename_i s hu
    cases hl; cases hx
    exact ⟨by simp [Builtin.len_, run_underlying hu, goInt], rfl⟩
  · rename_i n e hu
    cases hl
    exact ⟨by simp [Builtin.len_, run_underlying hu, goInt], rfl⟩
  · rename_i e b n c hu
    cases hl
    cases hx <;> exact ⟨by simp [Builtin.len_, run_underlying hu, goInt], rfl⟩
  · rename_i hu
    cases hl; cases hx
    exact ⟨by simp [Builtin.len_, run_underlying hu, goInt], rfl⟩
  · rename_i r0 hu
    cases hx with
    | map hp =>
      split at hl
      · rename_i ents hg
        cases hl
        obtain ⟨p', hp', es, clk, g1, g2, g3⟩ := hw.obj r0 _ hg
        rw [hp] at hp'; cases hp'
        exact ⟨by simp [Builtin.len_, run_underlying hu, goInt, run_getObj g1, g2], rfl⟩
      · cases hl
  · cases hl

/-! ### copy -/
def copyV (P : Program) (dT : TypeId) (d x : Value) (h : Heap) : Option (Bool × Value × Heap) :=
  match P.underlying dT with
  | some (.slice elem) =>
    match sizeP P elem with
    | some size =>
      match firstV size h x with
      | some (cx, n, xs) =>
        match d with
        | .slice none l _ => some (cx && decide (l = 0), .int .i64 0, h)
        | .slice (some ⟨b, o, none⟩) l _ =>
          match h.get b with
          | some (.row true es cells) =>
            some (cx && (decide (0 < size ∧ o + l * size ≤ cells.length) && (xs.take (min n l * size)).all oneC), .int .i64 (min n l : Nat),
              h.set b (some (.row true es (putAll cells o (xs.take (min n l * size))))))
          | _ => none
        | _ => none
      | none => none
    | none => none
  | _ => none

theorem copyV_sound {P : Program} {E : Emap} {h h' : Heap} {w : World} {dT xT ty : TypeId} {d d' x x' r : Value} (hw : WR E h w) (hc : copyV P dT d x h = some (true, r, h')) (hd : VR E d d') (hx : VR E x x') :
    ∃ w', (Builtin.copy_ #[dT, xT] ty #[d', x']).run P w = .ok r w' ∧ closedV r = true ∧ Tr E h w E h' w' := by
  unfold copyV at hc
  split at hc
  case h_2 => cases hc
  rename_i elem hu
  split at hc
  case h_2 => cases hc
  rename_i size hsz
  split at hc
  case h_2 => cases hc
  rename_i cx n xs hfv
  split at hc
  · rename_i l cc
    simp only [Option.some.injEq, Prod.mk.injEq, Bool.and_eq_true, decide_eq_true_eq] at hc
    obtain ⟨⟨rfl, rfl⟩, rfl, rfl⟩ := hc
    obtain ⟨k1, c, k2, k3⟩ := firstV_sound (P := P) hw hfv hx
    cases hd
    refine ⟨w, ?_, rfl, Tr.refl hw⟩
    have := k3 0 w.drawn (by omega)
    simp [Builtin.copy_, run_underlying hu, run_sizeP hsz, k1, goInt]
    simpa using congrArg (fun r => r.andThen fun _ w => (.ok (Value.int .i64 0) w : Result Value)) this
  · rename_i b o l cc
    split at hc
    case h_2 => cases hc
    rename_i es cells hb
    simp only [Option.some.injEq, Prod.mk.injEq, Bool.and_eq_true, decide_eq_true_eq] at hc
    obtain ⟨⟨rfl, ⟨h0, hol⟩, hone⟩, rfl, rfl⟩ := hc
    obtain ⟨k1, c, k2, k3⟩ := firstV_sound (P := P) hw hfv hx
    cases hd with
    | slice hp hle ho =>
      rename_i o' p
      obtain ⟨p', hp', ca, e, fz, g1, g2, g3, g4⟩ := hw.obj b _ hb
      rw [hp] at hp'; cases hp'
      have hm : min n l * size ≤ l * size := Nat.mul_le_mul_right _ (Nat.min_le_right _ _)
      have hm2 : min n l * size ≤ n * size := Nat.mul_le_mul_right _ (Nat.min_le_left _ _)
      have hcs : c.size = n * size := by rw [← k2.1, firstV_len hfv]
      have hlr : LR E (xs.take (min n l * size)) (c.extract 0 (min n l * size)) := k2.take _
      have hlen : (c.extract 0 (min n l * size)).toList.length = min n l * size := by simp; omega
      have hone' : ∀ v ∈ (c.extract 0 (min n l * size)).toList, v.oneCell' = true := oneC_all hlr.to_VRs (by simpa using hone)
      have hxl : (xs.take (min n l * size)).length = min n l * size := by rw [hlr.1]; simpa using hlen
      have hf := k3 (min n l) w.drawn (Nat.min_le_left _ _)
      have hrun : ∀ w', (storeCells ⟨p.block, o', none⟩ (c.extract 0 (min n l * size)).toList).run P w = .ok () w' →
          (Builtin.copy_ #[dT, xT] ty #[.slice (some ⟨p.block, o', none⟩) l (capOf p cc), x']).run P w = .ok (.int .i64 (min n l : Nat)) w' := by
        intro w' hs
        have hf' : (Builtin.firstCells size (min n l) x').run P w = .ok (c.extract 0 (min n l * size)) w := hf
        have e : Nat.min n l = min n l := rfl
        simp only [Builtin.copy_, List.getElem?_toArray, List.getElem?_cons_zero, List.getElem?_cons_succ, Sem.run_bind, run_underlying hu, Result.andThen_ok, k1, run_sizeP hsz, e, hf', hs, Sem.run_pure, goInt]
      by_cases hcz : capOf p cc = 0
      · have hl0 : l = 0 := by omega
        subst hl0
        refine ⟨w, hrun w (by simp [storeCells]), rfl, ?_⟩
        have e1 : xs.take (min n 0 * size) = [] := by simp
        rw [e1]
        simp only [putAll]
        exact Tr.write hw hb rfl hp rfl rfl rfl rfl (fun _ _ => rfl) ⟨ca, e, fz, g1, g2, g3, g4⟩
      · have := ho hcz
        subst this
        obtain ⟨w', r1, r2, r3, r4, r5, r6, r7⟩ := run_storeCells (P := P) (b := p.block) (o := p.base + o) (e := e) (g4 rfl).2 (c.extract 0 (min n l * size)).toList 0 w ca g1 (by omega) hone'
        refine ⟨w', hrun w' (by simpa using r1), rfl, Tr.write hw hb rfl hp r2 r3 r4 r5 r6 ?_⟩
        refine ⟨putAllA ca (p.base + o) (c.extract 0 (min n l * size)).toList, e, fz, by simpa using r7, by rw [putAll_length, putAllA_size]; exact g2, fun i hi => ?_, fun _ => by rw [putAllA_size]; exact g4 rfl⟩
        rw [putAll_length] at hi
        refine putAll_rel _ _ _ _ _ (by rw [hxl, hlen]) (fun j => ?_) g2 (by omega) g3 i hi
        have := hlr.2 j
        rwa [agetD_toList] at this
  · cases hc

end Go.Ev
