/- What the evaluator says is so of the machine. No condition. -/
import Derived.Test.YtocjmepmbglhaaaEvW
namespace Go.Ev

/-- What is to be shown of a task. -/
def Holds1 (P : Program) (K : AOut → List Value → Heap → Hints → Prop) (ts : List Value) (h : Heap) : Task → Prop
  | .code c => ∀ E w a, WR E h w → TR E ts a.tmps → a.defers = [] → ∀ Q : Exit → Act → World → Prop,
      (∀ o ts' h' hs' E' w' a', K o ts' h' hs' → TR E' ts' a'.tmps → a'.defers = [] → Tr E h w E' h' w' → Q o.toExit a' w') → c.wp P Q a w
  | .again c => ∀ E w a, WR E h w → TR E ts a.tmps → a.defers = [] → ∀ Q : Exit → Act → World → Prop,
      (∀ o ts' h' hs' E' w' a', K o ts' h' hs' → TR E' ts' a'.tmps → a'.defers = [] → Tr E h w E' h' w' → Q o.toExit a' w') →
      ∀ (b : Frame) (k : List Item) (cs : List Frame), ∃ e a' w', Q e a' w' ∧ Arrives P (lone (b.at a (.code c :: .inLoop c :: k)) cs w) b k cs e a' w'
  | .ops all rest => ∀ E w a, WR E h w → TR E ts a.tmps → a.defers = [] → ∀ Q : Exit → Act → World → Prop,
      (∀ ts' h' hs' E' w' a', K .normal ts' h' hs' → TR E' ts' a'.tmps → a'.defers = [] → Tr E h w E' h' w' → Q .normal a' w') → wpList P all.toArray Q rest a w
  | .draw .. => True
  | .call g => ∀ E w cargs, WR E h w → VRs E ts.toArray cargs → Calls P g cargs w fun e w' => ∃ v v' E' h' hs', K .normal [v] h' hs' ∧ e = .returned v' ∧ VR E' v v' ∧ Tr E h w E' h' w'


/-- What is asked of a loaded program: no function takes the machine's own name; an order that is open is any. -/
structure Good (P : Program) : Prop where
  plain : Plain P
  mixed : P.follows .mixedOrders = true

theorem ev_sound {P : Program} {C : List Nat} (hG : Good P) : ∀ (n : Nat) (t : Task) (ts : List Value) (h : Heap) (hs : Hints) (K : AOut → List Value → Heap → Hints → Prop), ev P C n t ts h hs K → Holds1 P K ts h t := by
  intro n
  induction n with
  | zero => intro t ts h hs K he; exact he.elim
  | succ n ih =>
    intro t ts h hs K he
    cases t with
    | code c =>
      intro E w a hw ht hd Q hQ
      cases c with
      | skip =>
        simp only [ev] at he
        exact wp_skip (hQ _ _ _ _ _ _ _ he ht hd (Tr.refl hw))
      | region id ops draw =>
        cases draw with
        | false =>
          simp only [ev] at he
          refine wp_region_list ?_
          have := ih _ _ _ _ _ he E w a hw ht hd Q fun ts' h' hs' E' w' a' k1 k2 k3 k4 => hQ _ _ _ _ _ _ _ k1 k2 k3 k4
          simpa using this
        | true =>
          simp only [ev] at he
          split at he
          · rename_i hchk
            obtain ⟨rs, told, hmap, hs', hk⟩ := draw_extract (ts0 := ts) (h0 := h) n _ [] hs K ⟨fun q r hq => by simp at hq, fun q r hq => by simp at hq, fun q r hq => by simp at hq, fun q r hq => by simp at hq⟩ he
            rw [List.map_nil, List.nil_append] at hmap
            rw [← hmap] at hchk
            have ord := Ord.of_chk hchk told.at_ told.eff
            have := draw_sound (id := id) hG.plain hG.mixed ord told.ok told.rd hw ht hd Q fun E' w' a' k1 k2 k3 => hQ _ _ _ _ _ _ _ hk k1 k2 k3
            simpa using this
          · exact he.elim
      | seq x y =>
        simp only [ev] at he
        refine wp_seq ?_
        refine ih _ _ _ _ _ he E w a hw ht hd _ fun o ts' h' hs' E' w' a' k1 k2 k3 k4 => ?_
        cases o with
        | normal => exact ih _ _ _ _ _ k1 E' w' a' k4.wr k2 k3 Q fun o ts2 h2 hs2 E2 w2 a2 m1 m2 m3 m4 => hQ _ _ _ _ _ _ _ m1 m2 m3 (k4.trans m4)
        | exit i => exact hQ _ _ _ _ _ _ _ k1 k2 k3 k4
        | ret => exact hQ _ _ _ _ _ _ _ k1 k2 k3 k4
      | cond c x y =>
        simp only [ev] at he
        split at he
        · rename_i hok hv
          have hr := opv_rel ht hok
          rw [hv] at hr
          exact wp_cond_true hr.bool_inv (ih _ _ _ _ _ he E w a hw ht hd Q hQ)
        · rename_i hok hv
          have hr := opv_rel ht hok
          rw [hv] at hr
          exact wp_cond_false hr.bool_inv (ih _ _ _ _ _ he E w a hw ht hd Q hQ)
        · exact he.elim
      | block id c =>
        simp only [ev] at he
        refine wp_block ?_
        refine ih _ _ _ _ _ he E w a hw ht hd _ fun o ts' h' hs' E' w' a' k1 k2 k3 k4 => ?_
        cases o with
        | normal => exact hQ _ _ _ _ _ _ _ k1 k2 k3 k4
        | exit i =>
          simp only at k1
          simp only [AOut.toExit, Exit.inBlock]
          split at k1
          · rename_i hb
            rw [if_pos (Nat.eq_of_beq_eq_true hb)]
            exact hQ _ _ _ _ _ _ _ k1 k2 k3 k4
          · rename_i hb
            rw [if_neg (Nat.ne_of_beq_eq_false hb)]
            exact hQ _ _ _ _ _ _ _ k1 k2 k3 k4
        | ret => exact hQ _ _ _ _ _ _ _ k1 k2 k3 k4
      | loop c =>
        simp only [ev] at he
        split at he
        · have := he.run E w a hw ht hd
          refine Go.wp_mono this fun e a' w' hx => ?_
          obtain ⟨o, E', ts', h', rfl, k1, k2, k3, k4⟩ := hx
          exact hQ _ _ _ _ _ _ _ k1 k2 k3 k4
        · intro b k cs
          obtain ⟨e, a', w', hq, harr⟩ := ih _ _ _ _ _ he E w a hw ht hd Q hQ b k cs
          exact ⟨e, a', w', hq, .of_steps (.one step_loop) harr⟩
      | exit id =>
        simp only [ev] at he
        exact wp_exit (hQ _ _ _ _ _ _ _ he ht hd (Tr.refl hw))
      | ret =>
        simp only [ev] at he
        exact wp_ret (hQ _ _ _ _ _ _ _ he ht hd (Tr.refl hw))
      | label l =>
        simp only [ev] at he
        exact wp_label (hQ _ _ _ _ _ _ _ he ht hd (Tr.refl hw))
      | _ => simp only [ev] at he
    | again c =>
      intro E w a hw ht hd Q hQ b k cs
      simp only [ev] at he
      obtain ⟨e, a₁, w₁, hq, harr⟩ := ih _ _ _ _ _ he E w a hw ht hd
        (Exit.then (fun a1 w1 => ∀ (b : Frame) (k : List Item) (cs : List Frame), ∃ e a' w', Q e a' w' ∧ Arrives P (lone (b.at a1 (.code c :: .inLoop c :: k)) cs w1) b k cs e a' w') Q) (fun o ts' h' hs' E' w' a' k1 k2 k3 k4 => by
            cases o with
            | normal => exact ih _ _ _ _ _ k1 E' w' a' k4.wr k2 k3 Q fun o ts2 h2 hs2 E2 w2 a2 m1 m2 m3 m4 => hQ _ _ _ _ _ _ _ m1 m2 m3 (k4.trans m4)
            | exit i => exact hQ _ _ _ _ _ _ _ k1 k2 k3 k4
            | ret => exact hQ _ _ _ _ _ _ _ k1 k2 k3 k4) b (.inLoop c :: k) cs
      cases e with
      | normal =>
        obtain ⟨e₂, a₂, w₂, hq₂, harr₂⟩ := hq b k cs
        exact ⟨e₂, a₂, w₂, hq₂, .of_steps (Steps.trans harr (.one step_inLoop)) harr₂⟩
      | exit id => exact ⟨_, a₁, w₁, hq, .pass (x := .inLoop c) rfl (fun _ _ => .inl (by simp)) harr⟩
      | goto l => exact ⟨_, a₁, w₁, hq, .pass (x := .inLoop c) rfl (fun _ _ => .inl (by simp)) harr⟩
      | ret => exact ⟨_, a₁, w₁, hq, .pass (x := .inLoop c) rfl (fun _ _ => .inl (by simp)) harr⟩
      | panic ch => exact ⟨_, a₁, w₁, hq, .pass (x := .inLoop c) rfl (fun _ _ => .inl (by simp)) harr⟩
      | outgrown => exact ⟨_, a₁, w₁, hq, .pass (x := .inLoop c) rfl (fun _ _ => .inl (by simp)) harr⟩
    | ops all rest =>
      intro E w a hw ht hd Q hQ
      cases rest with
      | nil =>
        simp only [ev] at he
        exact hQ _ _ _ _ _ _ he ht hd (Tr.refl hw)
      | cons o rest =>
        simp only [ev] at he
        split at he
        · rename_i hwn
          have hwn' := wantedV_sound ht hwn
          simp only [wpList]
          rw [if_pos hwn']
          refine .inl ?_
          split at he
          · -- a call
            rename_i op f args tys hop
            split at he
            · rename_i g first cap hok hcal
              split at he
              case h_2 => exact he.elim
              rename_i hhb
              rw [forceL_eq] at he
              simp only [Bool.and_eq_true] at hok
              have hfr := opv_rel ht hok.1
              have hargs := args_rel ht args hok.2
              unfold calleeV at hcal
              split at hcal
              case h_2 => cases hcal
              rename_i g' first' cap' hfv
              cases hcal
              rw [hfv] at hfr
              generalize hfe : a.eval f = fe at hfr
              cases hfr with
              | func fn q1 q2 q3 q4 =>
                rename_i first2 cap2
                have hall : VRs E (first'.toList ++ opArgs ts args.toList ++ cap'.toList).toArray (first2 ++ args.map a.eval ++ cap2) := by
                  have := ((LR.of_VRs ⟨q1, q2⟩).append (LR.of_VRs hargs)).append (LR.of_VRs ⟨q3, q4⟩)
                  exact this.to_VRs
                have hbf : ∃ fn, P.funcs[g]? = some fn ∧ fn.body.isSome = true := by
                  unfold hasBody at hhb
                  split at hhb
                  · rename_i fn hf
                    exact ⟨fn, hf, hhb⟩
                  · cases hhb
                obtain ⟨fn, hf, hb⟩ := hbf
                have hrun : (execOp a.eval o).run P w = .ok (.enter g (first2 ++ args.map a.eval ++ cap2)) w := by
                  unfold execOp
                  rw [hop]
                  simp only [resolve, hfe, Deferred.ofValue, pure_bind, invoke]
                  exact callFunc_run hf hb (hG.plain g fn hf hb)
                unfold Oper.wp
                rw [hrun]
                refine (ih _ _ _ _ _ he E w _ hw hall).mono fun e w' hx => ?_
                obtain ⟨v, v', E', h', hs', k1, rfl, k3, k4⟩ := hx
                exact ih _ _ _ _ _ k1 E' w' (a.put o.dst v') k4.wr ((ht.mono k4.ext).put _ k3) (by rw [Act.put_defers', hd]) Q fun ts2 h2 hs2 E2 w2 a2 m1 m2 m3 m4 => hQ _ _ _ _ _ _ m1 m2 m3 (k4.trans m4)
            · exact he.elim
          · rename_i op hop
            obtain ⟨v, h', hs', hr, hk⟩ := step_sound he
            rw [force_eq] at hk
            obtain ⟨E', w', nx, h1, h2, h3, _⟩ := aop_sound hw ht hr
            unfold Oper.wp
            rw [h1]
            rcases h2 with ⟨v', rfl, hv⟩ | ⟨rfl, rfl⟩
            · exact ih _ _ _ _ _ hk E' w' (a.put o.dst v') h3.wr ((ht.mono h3.ext).put _ hv) (by rw [Act.put_defers', hd]) Q fun ts2 h2 hs2 E2 w2 a2 m1 m2 m3 m4 => hQ _ _ _ _ _ _ m1 m2 m3 (h3.trans m4)
            · exact ih _ _ _ _ _ hk E' w' (a.put o.dst undef) h3.wr ((ht.mono h3.ext).put _ VR.undef) (by rw [Act.put_defers', hd]) Q fun ts2 h2 hs2 E2 w2 a2 m1 m2 m3 m4 => hQ _ _ _ _ _ _ m1 m2 m3 (h3.trans m4)
        · rename_i hwn
          have hwn' := wantedV_sound ht hwn
          simp only [wpList]
          rw [if_neg (by rw [hwn']; simp)]
          exact ih _ _ _ _ _ he E w (a.put o.dst undef) hw (ht.put _ VR.undef) (by rw [Act.put_defers', hd]) Q hQ
        · exact he.elim
    | draw all T todo log => exact trivial
    | call g =>
      intro E w cargs hw ha
      simp only [ev] at he
      split at he
      · split at he
        · refine (he.1.run E w cargs hw ha).mono fun e w' hx => ?_
          obtain ⟨v2, v', E', h2, ⟨rfl, rfl⟩, k2, k3, k4⟩ := hx
          exact ⟨_, v', E', _, _, he.2, k2, k3, k4⟩
        · refine ((he.1 _).run E w cargs hw ha).mono fun e w' hx => ?_
          obtain ⟨v2, v', E', h2, ⟨rfl, rfl⟩, k2, k3, k4⟩ := hx
          exact ⟨_, v', E', _, _, he.2, k2, k3, k4⟩
        · refine (he.run E w cargs hw ha).mono fun e w' hx => ?_
          obtain ⟨v, v', E', h', k1, k2, k3, k4⟩ := hx
          exact ⟨v, v', E', h', _, k1, k2, k3, k4⟩
      · split at he
        · rename_i fn hf
          split at he
          · rename_i c hb
            refine calls_of_wp hf hb ?_
            have ht0 : TR E (ts ++ List.replicate (fn.ntmps - ts.length) undef) (cargs ++ Array.replicate (fn.ntmps - cargs.size) undef) := by
              have hl : cargs.size = ts.length := by simpa using ha.1.symm
              have h1 := (LR.of_VRs ha).append (m := List.replicate (fn.ntmps - ts.length) undef) (d := Array.replicate (fn.ntmps - cargs.size) undef) ⟨by simp [hl], fun i => by
                rw [hl, List.getD_eq_getElem?_getD, Array.getD_eq_getD_getElem?, List.getElem?_replicate, Array.getElem?_replicate]
                split <;> exact VR.undef⟩
              exact ⟨h1.1.symm, h1.2⟩
            refine ih _ _ _ _ _ he E w ⟨_, []⟩ hw ht0 rfl _ fun o ts' h' hs' E' w' a' k1 k2 k3 k4 => ?_
            have hres : ∀ l, resV P ts' h' fn.results.toList = some l → ∃ v, (results fn a'.tmps).run P w' = .ok v w' ∧ VR E' (resOf l) v := fun l hl => results_sound k4.wr k2 hl
            cases o with
            | exit i => exact k1.elim
            | normal =>
              simp only at k1
              split at k1
              · rename_i l hl
                rw [forceL_eq] at k1
                obtain ⟨v, g1, g2⟩ := hres l hl
                exact bodyPost_end g1 k3 ⟨_, _, _, _, _, k1, rfl, g2, k4⟩
              · exact k1.elim
            | ret =>
              simp only at k1
              split at k1
              · rename_i l hl
                rw [forceL_eq] at k1
                obtain ⟨v, g1, g2⟩ := hres l hl
                exact bodyPost_ret g1 k3 ⟨_, _, _, _, _, k1, rfl, g2, k4⟩
              · exact k1.elim
          · exact he.elim
        · exact he.elim

theorem CallOk.of_ev {P : Program} {C : List Nat} (hG : Good P) {n g : Nat} {args : List Value} {h : Heap} {hs : Hints} {Q : Value → Heap → Prop}
    (he : ev P C n (.call g) args h hs fun _ r h' _ => Q (r.getD 0 undef) h') : CallOk P g args h Q := by
  refine ⟨fun E w cargs hw ha => ?_⟩
  refine (ev_sound hG n _ _ _ _ _ he E w cargs hw ha).mono fun e w' hx => ?_
  obtain ⟨v, v', E', h', hs', k1, k2, k3, k4⟩ := hx
  exact ⟨v, v', E', h', k1, k2, k3, k4⟩

theorem CodeOk.of_ev {P : Program} {C : List Nat} (hG : Good P) {n : Nat} {c : Code} {ts : List Value} {h : Heap} {hs : Hints} {Q : AOut → List Value → Heap → Prop}
    (he : ev P C n (.code c) ts h hs fun o ts' h' _ => Q o ts' h') : CodeOk P c ts h Q := by
  refine ⟨fun E w a hw ht hd => ?_⟩
  refine ev_sound hG n _ _ _ _ _ he E w a hw ht hd _ fun o ts' h' hs' E' w' a' k1 k2 k3 k4 => ⟨o, E', ts', h', rfl, k1, k2, k3, k4⟩

end Go.Ev
