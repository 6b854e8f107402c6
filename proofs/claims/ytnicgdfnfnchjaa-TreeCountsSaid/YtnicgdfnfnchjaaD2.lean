/-
  A deferred closure that recovers first.
-/
import Derived.Test.YtnicgdfnfnchjaaD1
set_option linter.unusedVariables false
namespace Go.Abs

/-- Behind a closure without answer. -/
def closedQ (P : Program) (gn : Func) (m : Nat) (K : List Blk → Prop) : AExit → St → Prop
  | .normal, s | .ret, s => match ares P gn s with
    | some v => cutOk m s.G v = true ∧ K (s.G.take m)
    | none => False
  | _, _ => False

section
variable {P : Program} {σ σ' : Sg} {s s' : St} {a : Act} {w : World} {c : Cfg} {ops : Array Oper} {Q : AExit → St → Prop}

theorem wpOpsS_of_wpOps {nt : Nat} {w0 : World} {QQ : Exit → Act → List Frame → World → Prop} {cs : List Frame} (hQ : ∀ e a' w', Conc nt Q σ w0 e a' w' → QQ e a' cs w') :
    ∀ (l : List Nat) (a : Act) (w : World), wpOps P ops (Conc nt Q σ w0) l a w → wpOpsS P ops QQ l a cs w := by
  intro l
  induction l with
  | nil => exact fun a w h => hQ _ _ _ h
  | cons i rest ih =>
    intro a w h
    rw [wpOps_cons] at h
    unfold wpOp at h
    unfold wpOpsS
    split
    · rename_i ho; simp only [ho] at h; exact ih _ _ h
    · rename_i o ho
      simp only [ho] at h
      split
      · rename_i hw
        simp only [hw, if_true] at h
        rcases h with h | ⟨h1, a0, w0, h2⟩
        · unfold Oper.wp at h
          split
          · rename_i w' hr; rw [hr] at h; exact h.elim
          · rename_i r hnr
            generalize (execOp a.eval o).run P w = r at *
            cases r with
            | ok n w2 =>
              cases n <;> simp only [Oper.upon] at h ⊢ <;> first | exact ih _ _ h | exact h | skip
              · exact Calls.mono h (fun e w3 he => by
                  cases e with
                  | returned v => exact ih _ _ he
                  | panicked ch => exact hQ _ _ _ he
                  | outgrown => obtain ⟨a0, w0, x, s', σ'', hx, _⟩ := he; cases hx)
              · exact Rows.mono h (fun v w3 he => ih _ _ he)
            | halt x w2 => cases x <;> simp only [Oper.upon] at h ⊢ <;> first | exact hQ _ _ _ h | exact h
        · obtain ⟨x, s', σ'', hx, _⟩ := h2; cases hx
      · rename_i hw; simp only [hw] at h; exact ih _ _ h

theorem adef_recover {g : FuncId} {gn : Func} {id : Nat} {rest : Code} {caps : List AV} {G : List Blk} {pv : Option AV} {K : List Blk → Prop} (c : Cfg) {o : Oper} {l : List Oper} {d : Nat} {ts : Array TypeId}
    (hf : P.funcs[g]? = some gn) (hb : gn.body = some (.seq (.region id (o :: l).toArray false) rest)) (hn : (gn.name == "runtime.NumGoroutine") = false) (hnt : gn.ntmps = c.nt) (ha : caps.length ≤ c.nt)
    (hop : o.op = .call { callee := .builtin .recover, args := #[], argTypes := ts }) (hdst : o.dst = some d) (hd : d < c.nt) (hgd : o.guard = none)
    (h : okG G → vopsL P c (o :: l).toArray (andThen (AWp P c.nt rest (closedQ P gn G.length K)) (closedQ P gn G.length K)) l ((St.args caps G).put (some d) (pv.getD (.p .nili)))) : ADef P g caps G pv K := by
  refine ⟨fun args' w => ?_, fun σ args' w u hr hk ht hu => ?_⟩
  · unfold callFunc
    have hn' : gn.name ≠ "runtime.NumGoroutine" := by simpa using hn
    simp [hf, hn', hb]
  have hG := okG_of hr
  have hsz : args'.size = caps.length := hr.sz
  have hr' : RelS σ (.args caps G) c.nt { tmps := args' ++ Array.replicate (gn.ntmps - args'.size) undef, defers := [] } w := by
    refine ⟨by simp [hsz]; omega, hr.df, fun t x h => ?_, hr.blks, hr.cinv, hr.gfree, hr.lfree, hr.wf⟩
    obtain ⟨h1, h2⟩ := hr.vals _ _ h
    have h1 : t < args'.size := by rw [hsz]; exact h1
    refine ⟨by omega, ?_⟩
    simpa [Array.getD_eq_getD_getElem?, Array.getElem?_append, h1] using h2
  have h0 : ∀ id b, σ.blk (.g id) = some b → id < G.length := fun id b h => by
    by_cases hid : G.length ≤ id
    · have := hr.gfree id hid
      rw [h] at this; simp at this
    · omega
  refine callsD_of_wpS hf hb fun c₀ cs hcu => ?_
  refine wpS_seq (wpS_region ?_)
  have hrange : List.range (o :: l).toArray.size = 0 :: List.range' 1 l.length := by simp [List.range_eq_range', List.range'_succ]
  rw [hrange]
  unfold wpOpsS
  simp only [show (o :: l).toArray[0]? = some o by simp]
  rw [if_pos (by simp [Region.wanted, hgd])]
  have hexec : (execOp ({ tmps := args' ++ Array.replicate (gn.ntmps - args'.size) undef, defers := [] } : Act).eval o).run P w = .ok .recover w := by
    unfold execOp; rw [hop]
    simp [resolve, invoke, builtin]
  rw [hexec]
  simp only
  -- what is behind, whatever was thrown
  have go : ∀ (c₁ : Frame) (y : Value), Rel σ (pv.getD (.p .nili)) y → (∃ u', c₁ = { c₀ with mode := u' } ∧ settle u' = .returning) →
      wpOpsS P (o :: l).toArray (Exit.thenS (rest.wpS P (bodyPostS P gn c₀ cs fun e u' w' => (∃ y, e = .returned y) ∧ settle u' = .returning ∧ ∃ G' σ', RelS σ' (.args [] G') 0 { tmps := #[], defers := [] } w' ∧ (∀ k b, σ'.blk k = some b → ∃ id, k = .g id) ∧ (∀ t x, σ'.tok t = some x → isCG t = true) ∧ Post σ σ' w w' ∧ K G'))
        (bodyPostS P gn c₀ cs fun e u' w' => (∃ y, e = .returned y) ∧ settle u' = .returning ∧ ∃ G' σ', RelS σ' (.args [] G') 0 { tmps := #[], defers := [] } w' ∧ (∀ k b, σ'.blk k = some b → ∃ id, k = .g id) ∧ (∀ t x, σ'.tok t = some x → isCG t = true) ∧ Post σ σ' w w' ∧ K G'))
        (List.range' 1 l.length) (({ tmps := args' ++ Array.replicate (gn.ntmps - args'.size) undef, defers := [] } : Act).put o.dst y) (c₁ :: cs) w := by
    rintro c₁ y hy ⟨u', rfl, hset⟩
    have hput := hr'.put (dst := some d) hy (by simp [dstOk, hd])
    rw [hdst]
    have hv := vops_of_list (ops := (o :: l).toArray) l 1 _ (fun j => by rw [Nat.add_comm]; simp) (h hG)
    have hw := vops_sound _ _ hv σ _ w hput
    -- a state at the end
    have fin : ∀ (a3 : Act) (w3 : World) (s3 : St) (σ3 : Sg), RelS σ3 s3 c.nt a3 w3 → Post σ σ3 w w3 → closedQ P gn G.length K .ret s3 →
        a3.defers = [] ∧ ∃ u'', ({ c₀ with mode := u' } :: cs : List Frame) = { c₀ with mode := u'' } :: cs ∧ ∃ v, (results gn a3.tmps).run P w3 = .ok v w3 ∧ (∃ y, Ending.returned v = .returned y) ∧ settle u'' = .returning ∧ ∃ G' σ', RelS σ' (.args [] G') 0 { tmps := #[], defers := [] } w3 ∧ (∀ k b, σ'.blk k = some b → ∃ id, k = .g id) ∧ (∀ t x, σ'.tok t = some x → isCG t = true) ∧ Post σ σ' w w3 ∧ K G' := by
      intro a3 w3 s3 σ3 hs hp hq
      simp only [closedQ] at hq
      split at hq
      · rename_i v hv
        obtain ⟨z, z1, z2⟩ := ares_run hs hv
        have hc := hq.1
        simp only [cutOk, Bool.and_eq_true] at hc
        refine ⟨hs.df.trans (hp.D.trans hr.df.symm), u', rfl, z, z1, ⟨_, rfl⟩, hset, _, σ3.cut G.length, hs.leave hc.1, fun k b h => ?_, fun t x h => ?_, hp.cut hr.df h0, hq.2⟩
        · cases k with
          | g id => exact ⟨id, rfl⟩
          | l t => simp [Sg.cut] at h
        · have := (cut_tok h).1
          cases t with
          | c k o => cases k <;> simp_all [tokm, isCG]
          | s t => simp [tokm] at this
          | n => simp [tokm] at this
      · exact hq.elim
    refine wpOpsS_of_wpOps ?_ _ _ _ hw
    rintro e a3 w3 ⟨x, s3, σ3, hx, hs, hp, hq⟩
    cases hx with
    | normal =>
      refine wpS_of_wp (wp_mono (hq σ3 a3 w3 hs) ?_)
      rintro e4 a4 w4 ⟨x4, s4, σ4, hx4, hs4, hp4, hq4⟩
      cases hx4 with
      | normal => exact fin a4 w4 s4 σ4 hs4 (hp.trans hp4) hq4
      | ret => exact fin a4 w4 s4 σ4 hs4 (hp.trans hp4) hq4
      | panic hv => exact hq4.elim
      | exit id => exact hq4.elim
      | goto l => exact hq4.elim
    | ret => exact fin a3 w3 s3 σ3 hs hp hq
    | panic hv => exact hq.elim
    | exit id => exact hq.elim
    | goto l => exact hq.elim
  cases pv with
  | none =>
    subst hu
    have : recoverD (c₀ :: cs) = none := by simp [recoverD, hcu]
    rw [this]
    exact go c₀ .nilIface (.p .nili) ⟨.returning, by rw [← hcu], rfl⟩
  | some v =>
    obtain ⟨x, hux, hx, hfree⟩ := hu
    have : recoverD (c₀ :: cs) = some (x, { c₀ with mode := .panicking ({ v := x, recovered := true } :: []) } :: cs) := by simp [recoverD, hcu, hux]
    rw [this]
    exact go _ x hx ⟨_, rfl, rfl⟩
end
end Go.Abs
