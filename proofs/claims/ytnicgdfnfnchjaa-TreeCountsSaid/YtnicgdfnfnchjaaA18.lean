/-
  Regions, branches, entering a function and leaving it.
-/
import Derived.Test.YtnicgdfnfnchjaaA17
set_option linter.unusedVariables false
namespace Go.Abs

section
variable {P : Program} {σ σ' : Sg} {s : St} {nt : Nat} {a : Act} {w w' : World}

/-- One operation, over whatever follows. -/
theorem vop_sound {c : Cfg} {o : Oper} {K : St → Prop} {Q : AExit → St → Prop} (h : vop P c o K Q s) {σ : Sg} {a : Act} {w : World} (hr : RelS σ s c.nt a w) {next : Act → World → Prop} {QQ : Exit → Act → World → Prop}
    (hn : ∀ s' σ' a' w', K s' → RelS σ' s' c.nt a' w' → Post σ σ' w w' → next a' w') (hQ : ∀ v s' σ' x a' w', Q (.panic v) s' → Rel σ' v x → RelS σ' s' c.nt a' w' → Post σ σ' w w' → QQ (.panic [{ v := x, recovered := false }]) a' w') :
    o.wp P a w next QQ := by
  unfold vop at h
  split at h
  · rename_i hany
    obtain ⟨b, hb⟩ := anyB_run hr hany
    unfold Oper.wp
    rw [hb]
    exact hn _ σ _ w (h.2 b) (hr.put (.p (.bool b)) h.1) (.refl _ _)
  split at h
  · rename_i s' he
    obtain ⟨x, w', σ', h1, h2, h3⟩ := eff_does he σ a w hr
    unfold Oper.wp
    rcases h1 with h1 | ⟨h1, rfl⟩
    · rw [h1]; exact hn s' σ' _ w' h h2 h3
    · rw [h1]; exact hn s' σ' _ w' h h2 h3
  · rename_i f args he
    obtain ⟨hfree, hcall⟩ := h
    -- which operation it is
    have hop : ∃ cl, o.op = .call cl ∧ ∃ fo, cl.callee = .value fo ∧ ∃ first caps l, ev s fo = some (.fn f first caps) ∧ evs s cl.args.toList = some l ∧ args = first ++ l.map AV.strip ++ caps ∧ dstOk c.nt o.dst = true := by
      unfold eff at he
      split at he
      case h_12 cl hop =>
        refine ⟨cl, hop, ?_⟩
        split at he
        · exfalso; revert he; repeat' split
          all_goals first | (intro he; exact Eff.ofSt_ne_call he) | simp
        · exfalso; revert he; repeat' split
          all_goals first | (intro he; exact Eff.ofSt_ne_call he) | simp
        · exfalso; revert he; repeat' split
          all_goals first | (intro he; exact Eff.ofSt_ne_call he) | simp
        · rename_i fo hcal
          refine ⟨fo, hcal, ?_⟩
          split at he
          · rename_i g first caps l h1 h2
            split at he
            · rename_i hd
              simp only [Eff.call.injEq] at he
              obtain ⟨rfl, rfl⟩ := he
              exact ⟨first, caps, l, h1, h2, rfl, hd⟩
            · simp at he
          · simp at he
        · exact absurd he Eff.of_ne_call
      all_goals
        exfalso
        revert he
        repeat' split
        all_goals first | (intro he; simp at he; done) | (intro he; exact Eff.of_ne_call he) | (intro he; exact Eff.ofSt_ne_call he)
    obtain ⟨cl, hop, fo, hfo, first, caps, l, hfn, hl, rfl, hd⟩ := hop
    have hfr := ev_rel hr hfn
    obtain ⟨l1, l2⟩ := evs_rel hr hl
    generalize hfe : a.eval fo = fx at hfr
    cases hfr with | fn q1 q2 q3 q4 =>
    rename_i first' caps'
    let argsV : Array Value := first' ++ cl.args.map a.eval ++ caps'
    have hexec : (execOp a.eval o).run P w = .ok (.enter f argsV) w := by
      unfold execOp; rw [hop]
      simp only [resolve, hfo, hfe, Deferred.ofValue, Sem.run_bind, Sem.run_pure, Result.andThen_ok, invoke]
      exact hcall.1 _ _
    have hsize : argsV.size = (first ++ l.map AV.strip ++ caps).length := by
      simp only [argsV, Array.size_append, Array.size_map, List.length_append, List.length_map, q1, q2]
      simp at l1; rw [l1]
    have hvals : ∀ (i : Nat) (v : AV), (first ++ l.map AV.strip ++ caps)[i]? = some v → Rel σ v (argsV.getD i undef) := by
      intro i v hv
      have hl' : (cl.args.map a.eval).size = l.length := by simpa using l1
      rw [List.append_assoc, List.getElem?_append] at hv
      simp only [argsV, Array.getD_eq_getD_getElem?]
      rw [Array.append_assoc, Array.getElem?_append]
      split at hv
      · rename_i h1
        rw [if_pos (by rw [q1]; exact h1)]
        simpa [Array.getD_eq_getD_getElem?] using q3 i v hv
      · rename_i h1
        rw [if_neg (by rw [q1]; exact h1), Array.getElem?_append]
        rw [List.getElem?_append] at hv
        simp only [List.length_map] at hv
        split at hv
        · rename_i h2
          rw [if_pos (by rw [hl', q1]; exact h2)]
          rw [List.getElem?_map, Option.map_eq_some_iff] at hv
          obtain ⟨u, hu, rfl⟩ := hv
          have := (l2 _ u hu).strip
          rw [q1]
          simpa [Array.getD_eq_getD_getElem?] using this
        · rename_i h2
          rw [if_neg (by rw [hl', q1]; exact h2), hl', q1]
          simpa [Array.getD_eq_getD_getElem?] using q4 _ v hv
    have hk : ∀ k b, σ.heap.blk k = some b → ∃ id, k = .g id := fun k b h => by
      cases k with
      | g id => exact ⟨id, rfl⟩
      | l t => simp [Sg.heap] at h
    have ht : ∀ t x, σ.heap.tok t = some x → isCG t = true := fun t x h => by
      simp only [Sg.heap] at h
      split at h
      · rename_i h2; exact h2
      · simp at h
    have hc := hcall.2 σ.heap argsV w (hr.callee hsize hvals hfree) hk ht
    unfold Oper.wp
    rw [hexec]
    simp only [Oper.upon]
    refine hc.mono ?_
    rintro e w' ⟨r, G', σ', g1, g2, g3, g4, g5, g6⟩
    obtain ⟨b1, b2⟩ := hr.back g2 g3 g4 g5
    have jrel : ∀ {v : AV} {x : Value}, Rel σ' v x → v.free = true → Rel (σ.join σ') v x := fun {v x} h hv =>
      Rel.keep (σ := σ') (σ' := σ.join σ') (fun _ _ _ h => h) (fun k b hk hb => by cases k <;> simp_all [Sg.join, keyf]) (fun t x ht h => by simp at ht) h hv
    cases g1 with
    | ret hx hv => exact hn _ _ _ _ g6 (b1.put (jrel hx hv) hd) b2
    | panic hx hv => exact hQ _ _ _ _ _ _ g6 (jrel hx hv) b1 b2
  · rename_i v he
    have hop : ∃ x t u, o.op = .panic x ∧ ev s x = some (.iface t u) ∧ v = .iface t u := by
      unfold eff at he
      split at he
      case h_10 x hop =>
        split at he
        · rename_i t u hx
          simp only [Eff.pan.injEq] at he
          exact ⟨x, t, u, hop, hx, he.symm⟩
        · simp at he
      all_goals
        exfalso
        revert he
        repeat' split
        all_goals first | (intro he; simp at he; done) | (intro he; exact Eff.of_ne_pan he) | (intro he; exact Eff.ofSt_ne_pan he)
    obtain ⟨x, t, u, hop, hx, rfl⟩ := hop
    have hxr := ev_rel hr hx
    unfold Oper.wp
    have : (execOp a.eval o).run P w = .halt (.panic (a.eval x)) w := by
      simp only [execOp, hop]
      generalize a.eval x = y at hxr ⊢
      cases hxr
      simp only [Instr.panic, Sem.run_bind]
      rfl
    rw [this]
    exact hQ _ _ _ _ _ _ h hxr hr (.refl _ _)
  · exact h.elim

theorem guardVal_rel (hr : RelS σ s nt a w) {ops : Array Oper} {j : Nat} {b want : Bool} (h : guardVal ops s j want = some b) : yielded ops a.tmps j = some want ↔ b = want := by
  unfold guardVal at h
  split at h
  · rename_i d hd
    split at h
    · rename_i b' hg
      simp only [Option.some.injEq] at h; subst h
      obtain ⟨h1, h2⟩ := hr.vals _ _ hg
      have h3 := bool_inv h2
      have hlt : d < a.tmps.size := by rw [hr.sz]; exact h1
      have h4 : a.tmps[d]? = some (.bool b') := by
        simp [Array.getD_eq_getD_getElem?, hlt] at h3
        simp [hlt, h3]
      simp [yielded, hd, h4]
    · rename_i hg
      simp only [Option.some.injEq] at h; subst h
      obtain ⟨h1, h2⟩ := hr.vals _ _ hg
      have hlt : d < a.tmps.size := by rw [hr.sz]; exact h1
      have h4 : ∃ l, a.tmps[d]? = some (.tuple l) := by
        have h3 : a.tmps.getD d undef = a.tmps[d] := by simp [Array.getD_eq_getD_getElem?, hlt]
        rw [h3] at h2
        generalize hy : a.tmps[d] = y at h2
        cases h2 with | tuple q1 q2 => exact ⟨_, by rw [Array.getElem?_eq_getElem hlt, hy]⟩
      obtain ⟨l, h4⟩ := h4
      simp [yielded, hd, h4]
    · simp at h
  · simp at h

theorem vops_sound {c : Cfg} {ops : Array Oper} {Q : AExit → St → Prop} : ∀ (l : List Nat) (s : St), vops P c ops Q l s → ∀ σ a w, RelS σ s c.nt a w → wpOps P ops (Conc c.nt Q σ w) l a w
  | [], s, h, σ, a, w, hr => ⟨.normal, s, σ, .normal, hr, .refl _ _, h⟩
  | i :: rest, s, h, σ, a, w, hr => by
    have go : ∀ o, vop P c o (vops P c ops Q rest) Q s → o.wp P a w (wpOps P ops (Conc c.nt Q σ w) rest) (Conc c.nt Q σ w) := fun o h =>
      vop_sound h hr (fun s' σ' a' w' hk hr' hp => by
        have := vops_sound rest s' hk σ' a' w' hr'
        have mono : ∀ (l : List Nat) (a : Act) (w1 : World), wpOps P ops (Conc c.nt Q σ' w') l a w1 → wpOps P ops (Conc c.nt Q σ w) l a w1 := by
          intro l
          induction l with
          | nil => exact fun a w1 h => h.back hp
          | cons i rest ih =>
            intro a w1 h
            rw [wpOps_cons] at h ⊢
            unfold wpOp at h ⊢
            split
            · rename_i ho; simp only [ho] at h; exact ih _ _ h
            · rename_i o ho
              simp only [ho] at h
              split
              · rename_i hw
                simp only [hw, if_true] at h
                rcases h with h | ⟨h1, a0, w0, h2⟩
                · left
                  unfold Oper.wp at *
                  generalize (execOp a.eval o).run P w1 = r at *
                  cases r with
                  | ok n w2 =>
                    cases n <;> simp only [Oper.upon] at h ⊢ <;> first | exact ih _ _ h | exact h | skip
                    · exact Calls.mono h (fun e w3 he => by
                        cases e with
                        | returned v => exact ih _ _ he
                        | panicked ch => exact Conc.back hp he
                        | outgrown => obtain ⟨a0, w0, x, s', σ'', hx, _⟩ := he; cases hx)
                    · exact Rows.mono h (fun v w3 he => ih _ _ he)
                  | halt x w2 => cases x <;> simp only [Oper.upon] at h ⊢ <;> first | exact Conc.back hp h | exact h
                · obtain ⟨x, s', σ'', hx, _⟩ := h2; cases hx
              · rename_i hw; simp only [hw] at h; exact ih _ _ h
        exact mono rest a' w' this) (fun v s' σ' x a' w' hq hx hr' hp => ⟨_, s', σ', .panic hx, hr', hp, hq⟩)
    rw [wpOps_cons]
    unfold wpOp
    simp only [vops] at h
    split at h
    · exact h.elim
    · rename_i o ho
      simp only [ho]
      split at h
      · rename_i hg
        have hw : Region.wanted o (yielded ops a.tmps) = true := by simp [Region.wanted, hg]
        rw [hw]; exact .inl (go o h)
      · rename_i j want hg
        split at h
        · rename_i b hgv
          have hy := guardVal_rel hr hgv
          by_cases hb : b = want
          · have hw : Region.wanted o (yielded ops a.tmps) = true := by simp [Region.wanted, hg, hy, hb]
            rw [hw]; exact .inl (go o (h.1 hb))
          · have hw : Region.wanted o (yielded ops a.tmps) = false := by simp [Region.wanted, hg, hy, hb]
            rw [hw]
            simp only [Bool.false_eq_true, if_false]
            have hb' : b = !want := by cases b <;> cases want <;> simp_all
            obtain ⟨hd, hk⟩ := h.2 hb'
            exact vops_sound rest _ hk σ _ w (hr.put (.tuple rfl (by simp)) hd)
        · exact h.elim

end

section
variable {P : Program} {s : St} {c : Cfg} {Q : AExit → St → Prop}

theorem awp_region {id : Nat} {ops : Array Oper} (h : vops P c ops Q (List.range ops.size) s) : AWp P c.nt (.region id ops false) Q s :=
  fun σ a w hr => wp_region (vops_sound _ s h σ a w hr)

theorem awp_cond {x : Operand} {t e : Code} {b : Bool} (hx : ev s x = some (.p (.bool b))) (ht : b = true → AWp P c.nt t Q s) (he : b = false → AWp P c.nt e Q s) : AWp P c.nt (.cond x t e) Q s := by
  intro σ a w hr
  have := bool_inv (ev_rel hr hx)
  cases b
  · exact wp_cond this (he rfl σ a w hr)
  · exact wp_cond this (ht rfl σ a w hr)
end
end Go.Abs
