/- Each operation of the machine makes what is told of it. No condition. -/
import Derived.Test.YtocjmepmbglhaaaEvK
namespace Go.Ev

theorem all_closed_eq {E : Emap} {l : List Value} {c : Array Value} (h : VRs E l.toArray c) (ha : l.all closedV = true) : c = l.toArray := by
  apply Array.ext
  · exact h.1.symm
  · intro i h1 h2
    rw [List.all_eq_true] at ha
    exact VR.eq_of_closed (ha _ (by simp)) (h.2 i h2 h1)

theorem VRs.two {E : Emap} {x y : Value} {c : Array Value} (h : VRs E #[x, y] c) : ∃ x' y', c = #[x', y'] ∧ VR E x x' ∧ VR E y y' := by
  obtain ⟨hs, hh⟩ := h
  obtain ⟨l⟩ := c
  match l, hs with
  | [x', y'], _ => exact ⟨x', y', rfl, hh 0 (by simp) (by simp), hh 1 (by simp) (by simp)⟩
theorem VRs.one {E : Emap} {x : Value} {c : Array Value} (h : VRs E #[x] c) : ∃ x', c = #[x'] ∧ VR E x x' := by
  obtain ⟨hs, hh⟩ := h
  obtain ⟨l⟩ := c
  match l, hs with
  | [x'], _ => exact ⟨x', rfl, hh 0 (by simp) (by simp)⟩

theorem builtinV_sound {P : Program} {E : Emap} {h h' : Heap} {w : World} {b : Builtin} {tys : Array TypeId} {ty : TypeId} {args : List Value} {cs : Array Bool} {args' : Array Value} {r : Value} (hw : WR E h w)
    (hb : builtinV P b tys ty args h = some (true, r, h')) (ha : VRs E args.toArray args') :
    ∃ E' w' r', (builtin b tys ty cs args').run P w = .ok (.value r') w' ∧ VR E' r r' ∧ Tr E h w E' h' w' ∧ (quietB b = true → E' = E ∧ w' = w ∧ h' = h) := by
  obtain ⟨tl⟩ := tys
  unfold builtinV at hb
  split at hb
  · rename_i sT xT s x ht
    simp only at ht
    subst ht
    obtain ⟨s', x', rfl, hs, hx⟩ := ha.two
    obtain ⟨E', w', r', h1, h2, h3⟩ := appendV_sound (ty := ty) hw hb hs hx
    exact ⟨E', w', r', by simp [builtin, h1], h2, h3, fun hq => by simp [quietB] at hq⟩
  · rename_i t x ht
    simp only at ht
    subst ht
    obtain ⟨x', rfl, hx⟩ := ha.one
    split at hb
    · rename_i r0 hl
      cases hb
      obtain ⟨h1, h2⟩ := lenV_sound (ty := ty) hw hl hx
      exact ⟨E, w, r, by simp [builtin, h1], VR.of_closed h2, Tr.refl hw, fun _ => ⟨rfl, rfl, rfl⟩⟩
    · cases hb
  · rename_i dT xT d x ht
    simp only at ht
    subst ht
    obtain ⟨d', x', rfl, hd, hx⟩ := ha.two
    obtain ⟨w', h1, h2, h3⟩ := copyV_sound (ty := ty) (xT := xT) hw hb hd hx
    exact ⟨E, w', r, by simp [builtin, h1], VR.of_closed h2, h3, fun hq => by simp [quietB] at hq⟩
  · rename_i t kT m k ht
    simp only at ht
    subst ht
    obtain ⟨m', k', rfl, hm, hk⟩ := ha.two
    split at hb
    · rename_i h0 hl
      cases hb
      obtain ⟨w', h1, h2⟩ := deleteV_sound (ty := ty) (ts := ⟨[t, kT]⟩) hw hl rfl hm hk
      exact ⟨E, w', undef, by simp [builtin, h1, undef], VR.undef, h2, fun hq => by simp [quietB] at hq⟩
    · cases hb
  · split at hb
    · rename_i hall
      obtain ⟨h1, h2, rfl⟩ := closedOut_sound (w := w) hb
      rw [all_closed_eq ha hall]
      exact ⟨E, w, r, by simp [builtin, h1], VR.of_closed h2, Tr.refl hw, fun _ => ⟨rfl, rfl, rfl⟩⟩
    · cases hb
  · split at hb
    · rename_i hall
      obtain ⟨h1, h2, rfl⟩ := closedOut_sound (w := w) hb
      rw [all_closed_eq ha hall]
      exact ⟨E, w, r, by simp [builtin, h1], VR.of_closed h2, Tr.refl hw, fun _ => ⟨rfl, rfl, rfl⟩⟩
    · cases hb
  · cases hb

theorem isIface_sound {P : Program} {w : World} {t : TypeId} {x : Value} (h : isIface P t = some false) : (Instr.makeInterface t x).run P w = .ok (.iface t x) w := by
  unfold isIface at h
  split at h
  · cases h
  · rename_i d hn hu
    have : ∀ ms, d ≠ .interface ms := fun ms e => hn ms e
    cases d <;> simp [Instr.makeInterface, run_underlying hu]
    exact absurd rfl (this _)
  · cases h

theorem VR.bool_inv {E : Emap} {b : Bool} {v : Value} (h : VR E (.bool b) v) : v = .bool b := by cases h; rfl

theorem aop_sound {P : Program} {E : Emap} {h h' : Heap} {w : World} {ts : List Value} {a : Act} {o : Oper} {v : Value} (hw : WR E h w) (ht : TR E ts a.tmps) (ha : aop P o.op o.type ts h = some (true, v, h')) :
    ∃ E' w' n, (execOp a.eval o).run P w = .ok n w' ∧ Left E' v n ∧ Tr E h w E' h' w' ∧ (quietOp o.op = true → E' = E ∧ w' = w ∧ h' = h) := by
  obtain ⟨dst, op, ty, pos, after, guard⟩ := o
  simp only at ha
  unfold aop at ha
  split at ha
  · -- move
    rename_i x
    split at ha
    · rename_i hx
      cases ha
      exact ⟨E, w, .value (a.eval x), by simp [execOp], .inl ⟨_, rfl, opv_rel ht hx⟩, Tr.refl hw, fun _ => ⟨rfl, rfl, rfl⟩⟩
    · cases ha
  · -- assign
    rename_i x
    split at ha
    · rename_i hx
      cases ha
      exact ⟨E, w, .value (a.eval x), by simp [execOp], .inl ⟨_, rfl, opv_rel ht hx⟩, Tr.refl hw, fun _ => ⟨rfl, rfl, rfl⟩⟩
    · cases ha
  · -- pick
    rename_i c x y
    split at ha
    · rename_i hxy hc hco
      cases ha
      simp only [Bool.and_eq_true] at hxy
      have hv := opv_rel ht hco
      rw [hc] at hv
      have hv' := hv.bool_inv
      exact ⟨E, w, .value (a.eval x), by simp [execOp, hv', asBool], .inl ⟨_, rfl, opv_rel ht hxy.1⟩, Tr.refl hw, fun _ => ⟨rfl, rfl, rfl⟩⟩
    · rename_i hxy hc hco
      cases ha
      simp only [Bool.and_eq_true] at hxy
      have hv := opv_rel ht hco
      rw [hc] at hv
      have hv' := hv.bool_inv
      exact ⟨E, w, .value (a.eval y), by simp [execOp, hv', asBool], .inl ⟨_, rfl, opv_rel ht hxy.2⟩, Tr.refl hw, fun _ => ⟨rfl, rfl, rfl⟩⟩
    · cases ha
  · -- alloc
    rename_i t
    split at ha
    · rename_i z hz
      split at ha
      · rename_i hcl
        cases ha
        obtain ⟨E', w', h1, h2, h3⟩ := newVar_sound (P := P) hw t (VR.of_closed (E := E) hcl)
        refine ⟨E', w', _, ?_, .inl ⟨_, rfl, h3⟩, h2, fun hq => by simp [quietOp] at hq⟩
        simp [execOp, Instr.alloc, run_zeroP hz, h1]
      · cases ha
    · cases ha
  · -- box
    rename_i t x
    split at ha
    · rename_i hx
      cases ha
      obtain ⟨E', w', h1, h2, h3⟩ := newVar_sound (P := P) hw t (opv_rel ht hx)
      refine ⟨E', w', _, ?_, .inl ⟨_, rfl, h3⟩, h2, fun hq => by simp [quietOp] at hq⟩
      simp [execOp, Instr.box, h1]
    · cases ha
  · -- build
    rename_i t ps
    split at ha
    · rename_i r hok hb
      cases ha
      obtain ⟨r', h1, h2⟩ := buildV_sound (w := w) (ps' := ps.map fun (i, x) => (i, a.eval x)) hb (by simpa using parts_rel ht ps.toList hok)
      exact ⟨E, w, .value r', by simp [execOp, h1], .inl ⟨_, rfl, h2⟩, Tr.refl hw, fun _ => ⟨rfl, rfl, rfl⟩⟩
    · cases ha
  · -- buildSlice
    rename_i t n ps
    split at ha
    · rename_i hok
      obtain ⟨E', w', r', h1, h2, h3⟩ := buildSliceV_sound (ps' := ps.map fun (i, x) => (i, a.eval x)) hw ha (by simpa using parts_rel ht ps.toList hok)
      exact ⟨E', w', .value r', by simp [execOp, h1], .inl ⟨_, rfl, h2⟩, h3, fun hq => by simp [quietOp] at hq⟩
    · cases ha
  · -- load
    rename_i t x
    split at ha
    · rename_i c r hok hl
      cases ha
      obtain ⟨r', h1, h2⟩ := loadV_sound hw hl (opv_rel ht hok)
      exact ⟨E, w, .value r', by simp [execOp, h1], .inl ⟨_, rfl, h2⟩, Tr.refl hw, fun _ => ⟨rfl, rfl, rfl⟩⟩
    · cases ha
  · -- store
    rename_i t x y
    split at ha
    · rename_i c r hok hl
      cases ha
      simp only [Bool.and_eq_true] at hok
      obtain ⟨w', h1, h2⟩ := storeV_sound hw hl (opv_rel ht hok.1) (opv_rel ht hok.2)
      exact ⟨E, w', .skip, by simp [execOp, h1], .inr ⟨rfl, rfl⟩, h2, fun hq => by simp [quietOp] at hq⟩
    · cases ha
  · -- nilCheck
    rename_i x
    split at ha
    · rename_i b o hok hv
      cases ha
      have hr := opv_rel ht hok
      rw [hv] at hr
      generalize hx : a.eval x = y at hr
      cases hr with
      | ptr hp => exact ⟨E, w, _, by simp only [execOp, hx]; rfl, .inl ⟨_, rfl, .ptr hp⟩, Tr.refl hw, fun _ => ⟨rfl, rfl, rfl⟩⟩
    · rename_i f c1 c2 hok hv
      cases ha
      have hr := opv_rel ht hok
      rw [hv] at hr
      generalize hx : a.eval x = y at hr
      cases hr with
      | func fn q1 q2 q3 q4 => exact ⟨E, w, _, by simp only [execOp, hx]; rfl, .inl ⟨_, rfl, .func _ q1 q2 q3 q4⟩, Tr.refl hw, fun _ => ⟨rfl, rfl, rfl⟩⟩
    · cases ha
  · -- binOp
    rename_i op t x y yt
    split at ha
    · rename_i c r hok hb
      simp only [Bool.and_eq_true] at hok
      split at ha
      · rename_i hcl
        cases ha
        have h1 := binV_sound (w := w) hb (opv_rel ht hok.1) (opv_rel ht hok.2)
        refine ⟨E, w, .value v, ?_, .inl ⟨_, rfl, VR.of_closed hcl⟩, Tr.refl hw, fun _ => ⟨rfl, rfl, rfl⟩⟩
        simp only [execOp]
        rw [Sem.run_bind, h1]
        rfl
      · cases ha
    · cases ha
  · -- unOp
    rename_i op t x
    split at ha
    · rename_i hok
      simp only [Bool.and_eq_true] at hok
      obtain ⟨h1, h2, rfl⟩ := closedOut_sound (w := w) ha
      have := VR.eq_of_closed hok.2 (opv_rel ht hok.1)
      exact ⟨E, w, .value v, by simp [execOp, this, h1], .inl ⟨_, rfl, VR.of_closed h2⟩, Tr.refl hw, fun _ => ⟨rfl, rfl, rfl⟩⟩
    · cases ha
  · -- convert
    rename_i src d x
    split at ha
    · rename_i hok
      obtain ⟨h1, h2, rfl⟩ := convV_sound hw ha (opv_rel ht hok)
      exact ⟨E, w, .value v, by simp [execOp, h1], .inl ⟨_, rfl, VR.of_closed h2⟩, Tr.refl hw, fun _ => ⟨rfl, rfl, rfl⟩⟩
    · cases ha
  · -- makeInterface
    rename_i t x
    split at ha
    · rename_i hok hi
      cases ha
      exact ⟨E, w, .value (.iface t (a.eval x)), by simp [execOp, isIface_sound hi], .inl ⟨_, rfl, .iface t (opv_rel ht hok)⟩, Tr.refl hw, fun _ => ⟨rfl, rfl, rfl⟩⟩
    · cases ha
  · -- makeFunc
    rename_i fn c1 c2
    split at ha
    · rename_i hok
      cases ha
      simp only [Bool.and_eq_true] at hok
      have g1 := args_rel ht c1 hok.1
      have g2 := args_rel ht c2 hok.2
      exact ⟨E, w, .value (.func fn (c1.map a.eval) (c2.map a.eval)), by simp [execOp, Instr.makeFunc], .inl ⟨_, rfl, .func fn g1.1 g1.2 g2.1 g2.2⟩, Tr.refl hw, fun _ => ⟨rfl, rfl, rfl⟩⟩
    · cases ha
  · -- makeMap
    rename_i t
    cases ha
    have htr := Tr.new hw (.map #[] 0) (.map []) 0 ⟨#[], 0, by show (w.heap.push _)[w.heap.size]? = _; simp, rfl, fun i h1 => absurd h1 (by simp)⟩
    refine ⟨_, _, .value (.map (some w.heap.size)), ?_, .inl ⟨_, rfl, VR.map (p := ⟨w.heap.size, 0, 0⟩) (upd_same _ _ _)⟩, htr, fun hq => by simp [quietOp] at hq⟩
    simp [execOp, Instr.makeMap, World.alloc_eq]
  · -- makeSlice
    rename_i t l c
    split at ha
    · rename_i hok
      simp only [Bool.and_eq_true] at hok
      obtain ⟨E', w', r', h1, h2, h3⟩ := makeSliceV_sound hw ha (opv_rel ht hok.1) (opv_rel ht hok.2)
      exact ⟨E', w', .value r', by simp [execOp, h1], .inl ⟨_, rfl, h2⟩, h3, fun hq => by simp [quietOp] at hq⟩
    · cases ha
  · -- slice
    rename_i t x lo hi mx
    split at ha
    · rename_i c r hok hl
      cases ha
      simp only [Bool.and_eq_true] at hok
      obtain ⟨r', h1, h2⟩ := sliceV_sound (w := w) hl (opv_rel ht hok.1) (opt_rel ht lo hok.2.1) (opt_rel ht hi hok.2.2.1) (opt_rel ht mx hok.2.2.2)
      exact ⟨E, w, .value r', by simp [execOp, h1], .inl ⟨_, rfl, h2⟩, Tr.refl hw, fun _ => ⟨rfl, rfl, rfl⟩⟩
    · cases ha
  · -- fieldAddr
    rename_i t x f
    split at ha
    · rename_i r hok hl
      cases ha
      obtain ⟨r', h1, h2⟩ := fieldAtV_sound (w := w) hl (opv_rel ht hok)
      exact ⟨E, w, .value r', by simp [execOp, h1], .inl ⟨_, rfl, h2⟩, Tr.refl hw, fun _ => ⟨rfl, rfl, rfl⟩⟩
    · cases ha
  · -- field
    rename_i t x f
    split at ha
    · rename_i c r hok hl
      cases ha
      obtain ⟨r', h1, h2⟩ := fieldV_sound (w := w) hl (opv_rel ht hok)
      exact ⟨E, w, .value r', by simp [execOp, h1], .inl ⟨_, rfl, h2⟩, Tr.refl hw, fun _ => ⟨rfl, rfl, rfl⟩⟩
    · cases ha
  · -- indexAddr
    rename_i t x f
    split at ha
    · rename_i c r hok hl
      cases ha
      simp only [Bool.and_eq_true] at hok
      obtain ⟨r', h1, h2⟩ := indexAtV_sound (w := w) hl (opv_rel ht hok.1) (opv_rel ht hok.2)
      exact ⟨E, w, .value r', by simp [execOp, h1], .inl ⟨_, rfl, h2⟩, Tr.refl hw, fun _ => ⟨rfl, rfl, rfl⟩⟩
    · cases ha
  · -- index
    rename_i t x f
    split at ha
    · rename_i c r hok hl
      cases ha
      simp only [Bool.and_eq_true] at hok
      obtain ⟨r', h1, h2⟩ := indexV_sound (w := w) hl (opv_rel ht hok.1) (opv_rel ht hok.2)
      exact ⟨E, w, .value r', by simp [execOp, h1], .inl ⟨_, rfl, h2⟩, Tr.refl hw, fun _ => ⟨rfl, rfl, rfl⟩⟩
    · cases ha
  · -- lookup
    rename_i t x f ok
    split at ha
    · rename_i r hok hl
      cases ha
      simp only [Bool.and_eq_true] at hok
      obtain ⟨r', h1, h2⟩ := lookupV_sound hw hl (opv_rel ht hok.1) (opv_rel ht hok.2)
      exact ⟨E, w, .value r', by simp [execOp, h1], .inl ⟨_, rfl, h2⟩, Tr.refl hw, fun _ => ⟨rfl, rfl, rfl⟩⟩
    · cases ha
  · -- mapUpdate
    rename_i t m k x
    split at ha
    · rename_i c r hok hl
      cases ha
      simp only [Bool.and_eq_true] at hok
      obtain ⟨w', h1, h2⟩ := updateV_sound hw hl (opv_rel ht hok.1) (opv_rel ht hok.2.1) (opv_rel ht hok.2.2)
      exact ⟨E, w', .skip, by simp [execOp, h1], .inr ⟨rfl, rfl⟩, h2, fun hq => by simp [quietOp] at hq⟩
    · cases ha
  · -- insert
    rename_i t m k x
    split at ha
    · rename_i c r hok hl
      cases ha
      simp only [Bool.and_eq_true] at hok
      obtain ⟨w', h1, h2⟩ := updateV_sound hw hl (opv_rel ht hok.1) (opv_rel ht hok.2.1) (opv_rel ht hok.2.2)
      exact ⟨E, w', .skip, by simp [execOp, h1], .inr ⟨rfl, rfl⟩, h2, fun hq => by simp [quietOp] at hq⟩
    · cases ha
  · -- typeAssert
    rename_i x xt t ok
    split at ha
    · rename_i hok
      simp only [Bool.and_eq_true] at hok
      obtain ⟨h1, h2, rfl⟩ := closedOut_sound (w := w) ha
      have := VR.eq_of_closed hok.2 (opv_rel ht hok.1)
      exact ⟨E, w, .value v, by simp [execOp, this, h1], .inl ⟨_, rfl, VR.of_closed h2⟩, Tr.refl hw, fun _ => ⟨rfl, rfl, rfl⟩⟩
    · cases ha
  · -- extract
    rename_i x i
    split at ha
    · rename_i r hok hl
      cases ha
      obtain ⟨r', h1, h2⟩ := extractV_sound (P := P) (w := w) hl (opv_rel ht hok)
      exact ⟨E, w, .value r', by simp [execOp, h1], .inl ⟨_, rfl, h2⟩, Tr.refl hw, fun _ => ⟨rfl, rfl, rfl⟩⟩
    · cases ha
  · -- call of a builtin
    rename_i c
    split at ha
    · rename_i b hcal
      split at ha
      · rename_i hok
        obtain ⟨E', w', r', h1, h2, h3, h4⟩ := builtinV_sound (cs := c.args.map fun | .const _ => true | _ => false) hw ha (args_rel ht c.args hok)
        exact ⟨E', w', .value r', by simp [execOp, resolve, hcal, invoke]; exact h1, .inl ⟨_, rfl, h2⟩, h3, fun hq => h4 (by simpa [quietOp, hcal] using hq)⟩
      · cases ha
    · cases ha
  · cases ha

end Go.Ev
