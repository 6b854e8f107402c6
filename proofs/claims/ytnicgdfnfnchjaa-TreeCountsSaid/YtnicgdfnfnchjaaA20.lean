/-
  Rules for walks: whole stretches of operations at once.
-/
import Derived.Test.YtnicgdfnfnchjaaA19
import Derived.StillTail
set_option linter.unusedVariables false
namespace Go.Abs

/-- Operations that need no contract, one behind the other. -/
def runE (P : Program) (c : Cfg) (ops : Array Oper) : List Oper → St → Option St
  | [], s => some s
  | o :: rest, s => match o.guard with
    | none => match eff P c s o with
      | .st s' => runE P c ops rest s'
      | _ => none
    | some (j, want) => match guardVal ops s j want with
      | some b => if b = want then match eff P c s o with
          | .st s' => runE P c ops rest s'
          | _ => none
        else if dstOk c.nt o.dst then runE P c ops rest (s.put o.dst (.tuple [])) else none
      | none => none

def vopsL (P : Program) (c : Cfg) (ops : Array Oper) (Q : AExit → St → Prop) : List Oper → St → Prop
  | [], s => Q .normal s
  | o :: rest, s => match o.guard with
    | none => vop P c o (vopsL P c ops Q rest) Q s
    | some (j, want) => match guardVal ops s j want with
      | some b => (b = want → vop P c o (vopsL P c ops Q rest) Q s) ∧ (b = (!want) → dstOk c.nt o.dst = true ∧ vopsL P c ops Q rest (s.put o.dst (.tuple [])))
      | none => False

section
variable {P : Program} {s s' : St} {c : Cfg} {Q : AExit → St → Prop} {ops : Array Oper}

theorem vop_mono {o : Oper} {K K' : St → Prop} (h : vop P c o K Q s) (hK : ∀ s, K s → K' s) : vop P c o K' Q s := by
  unfold vop at *
  split at h
  · rename_i hany; rw [if_pos hany]; exact ⟨h.1, fun b => hK _ (h.2 b)⟩
  rename_i hany
  rw [if_neg hany]
  split at h
  · exact hK _ h
  · refine ⟨h.1, h.2.mono fun r G' hr => ?_⟩
    cases r with
    | ret v => exact hK _ hr
    | panic v => exact hr
  · exact h
  · exact h

theorem vops_of_list : ∀ (l : List Oper) (k : Nat) (s : St), (∀ j, l[j]? = ops[k + j]?) → vopsL P c ops Q l s → vops P c ops Q (List.range' k l.length) s
  | [], k, s, _, h => h
  | o :: l, k, s, hl, h => by
    have h0 : ops[k]? = some o := by simpa using (hl 0).symm
    have ih : ∀ s, vopsL P c ops Q l s → vops P c ops Q (List.range' (k + 1) l.length) s := fun s => vops_of_list l (k + 1) s (fun j => by
      have := hl (j + 1); simpa [Nat.add_assoc, Nat.add_comm 1 j] using this)
    simp only [List.length_cons, List.range'_succ, vops, h0]
    simp only [vopsL] at h
    split
    · rename_i hg; simp only [hg] at h; exact vop_mono h ih
    · rename_i j want hg
      simp only [hg] at h
      split
      · rename_i b hb
        simp only [hb] at h
        exact ⟨fun e => vop_mono (h.1 e) ih, fun e => ⟨(h.2 e).1, ih _ (h.2 e).2⟩⟩
      · rename_i hb; simp only [hb] at h

theorem awp_ops {id : Nat} {l : List Oper} (h : vopsL P c l.toArray Q l s) : AWp P c.nt (.region id l.toArray false) Q s := by
  refine awp_region ?_
  have := vops_of_list (ops := l.toArray) l 0 s (by simp) h
  simpa [List.range_eq_range'] using this

theorem vopsL_run : ∀ {l r : List Oper} {s s' : St}, runE P c ops l s = some s' → vopsL P c ops Q r s' → vopsL P c ops Q (l ++ r) s
  | [], r, s, s', h, k => by simp only [runE, Option.some.injEq] at h; subst h; exact k
  | o :: l, r, s, s', h, k => by
    simp only [runE] at h
    simp only [List.cons_append, vopsL]
    have step : ∀ {K : St → Prop} {s₁ : St}, eff P c s o = .st s₁ → K s₁ → vop P c o K Q s := fun he hk => by unfold vop; rw [if_neg (fun ha => by rw [anyB_bad ha] at he; cases he), he]; exact hk
    split at h
    · split at h
      · rename_i s₁ he
        exact step he (vopsL_run h k)
      · simp at h
    · rename_i j want hg
      split at h
      · rename_i b hb
        split at h
        · rename_i hbw
          subst hbw
          split at h
          · rename_i s₁ he
            exact ⟨fun _ => step he (vopsL_run h k), fun e => by cases b <;> simp at e⟩
          · simp at h
        · rename_i hbw
          split at h
          · rename_i hd
            exact ⟨fun e => absurd e hbw, fun _ => ⟨hd, vopsL_run h k⟩⟩
          · simp at h
      · simp at h

/-- A region without calls. -/
theorem awp_run {id : Nat} {l : List Oper} (h : runE P c l.toArray l s = some s') (k : Q .normal s') : AWp P c.nt (.region id l.toArray false) Q s :=
  awp_ops (by simpa using vopsL_run (r := []) h (show vopsL P c l.toArray Q [] s' from k))

/-- n operations, then others. -/
theorem vopsL_take (n : Nat) {l : List Oper} (h : runE P c ops (l.take n) s = some s') (k : vopsL P c ops Q (l.drop n) s') : vopsL P c ops Q l s := by
  have := vopsL_run h k
  rwa [List.take_append_drop] at this

theorem vopsL_call {o : Oper} {l : List Oper} {f : FuncId} {args : List AV} (hg : o.guard = none) (he : eff P c s o = .call f args) (hf : args.all AV.free = true) {R : AEnd → List Blk → Prop} (hc : ACalls P f args s.G R)
    (k : ∀ r G', R r G' → match r with
      | .ret v => vopsL P c ops Q l (({ s with G := G' }.dis isC).put o.dst v)
      | .panic v => Q (.panic v) ({ s with G := G' }.dis isC)) : vopsL P c ops Q (o :: l) s := by
  simp only [vopsL, hg]
  unfold vop
  rw [if_neg (fun ha => by rw [anyB_bad ha] at he; cases he), he]
  exact ⟨hf, hc.mono k⟩

/-- A call that answers one value and leaves the heap as it says. -/
theorem vopsL_call1 {o : Oper} {l : List Oper} {f : FuncId} {args : List AV} {v : AV} {G' : List Blk} (hg : o.guard = none) (he : eff P c s o = .call f args) (hf : args.all AV.free = true) (hc : ACalls P f args s.G fun r G => r = .ret v ∧ G = G')
    (k : vopsL P c ops Q l (({ s with G := G' }.dis isC).put o.dst v)) : vopsL P c ops Q (o :: l) s :=
  vopsL_call hg he hf hc (by rintro r G ⟨rfl, rfl⟩; exact k)

/-- Either answer. -/
theorem vopsL_any {o : Oper} {l : List Oper} (hg : o.guard = none) (ha : anyB P s o = true) (hd : dstOk c.nt o.dst = true) (k : ∀ b, vopsL P c ops Q l (s.put o.dst (.p (.bool b)))) : vopsL P c ops Q (o :: l) s := by
  simp only [vopsL, hg]
  unfold vop
  rw [if_pos ha]
  exact ⟨hd, k⟩

theorem q_ret {K : St → Prop} (h : Q .ret s) : andThen K Q .ret s := h
theorem q_block {id : Nat} (h : Q .ret s) : inBlock id Q .ret s := h

theorem vopsL_done (k : Q .normal s) : vopsL P c ops Q [] s := k

theorem awp_if {x : Operand} {t e : Code} (b : Bool) (hx : ev s x = some (.p (.bool b))) (ht : b = true → AWp P c.nt t Q s) (he : b = false → AWp P c.nt e Q s) : AWp P c.nt (.cond x t e) Q s :=
  awp_cond hx ht he

/-! ### Regions of which the order is open -/

/-- Operations that change nothing but their slots. -/
def runV (P : Program) (c : Cfg) (ops : Array Oper) : List Oper → St → Option St
  | [], s => some s
  | o :: rest, s => match o.guard with
    | none => match avalB P s o with
      | some v => if dstOk c.nt o.dst then runV P c ops rest (s.put o.dst v) else none
      | none => none
    | some (j, want) => match guardVal ops s j want with
      | some b => if b = want then match avalB P s o with
          | some v => if dstOk c.nt o.dst then runV P c ops rest (s.put o.dst v) else none
          | none => none
        else if dstOk c.nt o.dst then runV P c ops rest (s.put o.dst (.tuple [])) else none
      | none => none

theorem runV_still {σ : Sg} {w : World} {Q : Act → Prop} : ∀ {l : List Oper} {s s' : St} {a : Act}, runV P c ops l s = some s' → RelS σ s c.nt a w → (∀ a', RelS σ s' c.nt a' w → Q a') → wpStill P ops w Q l a
  | [], s, s', a, h, hr, k => by simp only [runV, Option.some.injEq] at h; subst h; exact k _ hr
  | o :: l, s, s', a, h, hr, k => by
    simp only [runV] at h
    unfold wpStill
    have step : ∀ {v : AV}, avalB P s o = some v → dstOk c.nt o.dst = true → runV P c ops l (s.put o.dst v) = some s' → o.still P a w (wpStill P ops w Q l) := fun hv hd h => by
      obtain ⟨x, h1, h2⟩ := avalB_run hr hv
      unfold Oper.still
      rw [h1]
      exact ⟨rfl, runV_still h (hr.put h2 hd) k⟩
    split at h
    · rename_i hg
      have hw : Region.wanted o (yielded ops a.tmps) = true := by simp [Region.wanted, hg]
      rw [if_pos hw]
      split at h
      · rename_i v hv
        split at h
        · rename_i hd; exact step hv hd h
        · simp at h
      · simp at h
    · rename_i j want hg
      split at h
      · rename_i b hb
        have hy := guardVal_rel hr hb
        split at h
        · rename_i hbw
          have hw : Region.wanted o (yielded ops a.tmps) = true := by simp [Region.wanted, hg, hy, hbw]
          rw [if_pos hw]
          split at h
          · rename_i v hv
            split at h
            · rename_i hd; exact step hv hd h
            · simp at h
          · simp at h
        · rename_i hbw
          have hw : Region.wanted o (yielded ops a.tmps) = false := by simp [Region.wanted, hg, hy, hbw]
          rw [if_neg (by rw [hw]; simp)]
          split at h
          · rename_i hd
            exact runV_still h (hr.put (.tuple rfl (by simp)) hd) k
          · simp at h
      · simp at h

theorem RelS.draw {σ : Sg} {nt : Nat} {a : Act} {w : World} (hr : RelS σ s nt a w) (d : Nat) : RelS σ s nt a { w with drawn := d } :=
  ⟨hr.sz, hr.df, hr.vals, fun k blk h => by
      obtain ⟨b, h1, h2⟩ := hr.blks k blk h
      exact ⟨b, h1, by cases blk <;> exact h2⟩, hr.cinv, hr.gfree, hr.lfree, ⟨hr.wf.inj, hr.wf.injt, hr.wf.injtt, hr.wf.lt, hr.wf.tokw, hr.wf.blkI, hr.wf.imm⟩⟩

theorem Post.draw (σ : Sg) (w : World) (d : Nat) : Post σ σ w { w with drawn := d } :=
  ⟨fun _ _ _ h => h, fun _ _ _ h => .inl h, fun _ h => .inl h, fun _ _ h => h, fun _ _ _ => rfl, Nat.le_refl _, rfl, rfl, rfl, rfl, fun _ => rfl⟩

/-- A region whose order is open, of which all operations change nothing but slots. -/
theorem awp_still {id : Nat} {l : List Oper} (hm : P.follows .mixedOrders = true) (hB : Region.lexB .any l.toArray = true) (h : runV P c l.toArray l s = some s') (k : Q .normal s') : AWp P c.nt (.region id l.toArray true) Q s := by
  intro σ a w hr
  exact wp_region_still_lit hm hB (runV_still h (hr.draw _) fun a' hr' => ⟨.normal, s', σ, .normal, hr', .draw _ _ _, k⟩)

/-- A region whose order is open: n operations that change nothing but slots, and others that wait for one another. -/
theorem awp_tail {id : Nat} {l : List Oper} (n : Nat) (hm : P.follows .mixedOrders = true) (hB : Region.lexTailB .any l.toArray n = true) (h : runV P c l.toArray (l.take n) s = some s')
    (k : vopsL P c l.toArray Q (l.drop n) s') : AWp P c.nt (.region id l.toArray true) Q s := by
  intro σ a w hr
  refine wp_region_still_tail n hm hB (runV_still h (hr.draw _) fun a' hr' => ?_)
  have hl : ∀ j, (l.drop n)[j]? = l.toArray[n + j]? := fun j => by simp [List.getElem?_drop]
  have h1 := vops_sound _ s' (vops_of_list (ops := l.toArray) (l.drop n) n s' hl k) σ a' _ hr'
  rw [wpOps_eq_wpList _ _ hl] at h1
  have mono : ∀ (l' : List Oper) (a : Act) (w1 : World), wpList P l.toArray (Conc c.nt Q σ { w with drawn := w.drawn + 1 }) l' a w1 → wpList P l.toArray (Conc c.nt Q σ w) l' a w1 := by
    intro l'
    induction l' with
    | nil => exact fun a w1 h => h.back (.draw _ _ _)
    | cons o rest ih =>
      intro a w1 h
      unfold wpList at h ⊢
      split
      · rename_i hw
        rw [if_pos hw] at h
        rcases h with h | ⟨h1, a0, w0, h2⟩
        · left
          unfold Oper.wp at *
          generalize (execOp a.eval o).run P w1 = r at *
          cases r with
          | ok n w2 =>
            cases n <;> simp only [Oper.upon] at h ⊢ <;> first | exact ih _ _ h | exact h | skip
            · exact Calls.mono h (fun e w3 he => by
                cases e with
                | returned v => exact ih _ _ he
                | panicked ch => exact Conc.back (.draw _ _ _) he
                | outgrown => obtain ⟨a0, w0, x, s', σ'', hx, _⟩ := he; cases hx)
            · exact Rows.mono h (fun v w3 he => ih _ _ he)
          | halt x w2 => cases x <;> simp only [Oper.upon] at h ⊢ <;> first | exact Conc.back (.draw _ _ _) h | exact h
        · obtain ⟨x, s', σ'', hx, _⟩ := h2; cases hx
      · rename_i hw; rw [if_neg hw] at h; exact ih _ _ h
  exact mono _ _ _ h1
end
end Go.Abs
