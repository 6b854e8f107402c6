/-
  Functions that defer a closure which recovers.
-/
import Derived.Test.YtnicgdfnfnchjaaA26
import Derived.Recover
set_option linter.unusedVariables false
namespace Go.Abs

/-- A closure that a function defers: what the frame's heap is behind it; whatever was thrown is caught. -/
def ADef (P : Program) (g : FuncId) (caps : List AV) (G : List Blk) (pv : Option AV) (K : List Blk → Prop) : Prop :=
  (∀ args' w, (callFunc g args').run P w = .ok (.enter g args') w) ∧
  ∀ σ args' w u, RelS σ (.args caps G) caps.length { tmps := args', defers := [] } w → (∀ k b, σ.blk k = some b → ∃ id, k = .g id) → (∀ t x, σ.tok t = some x → isCG t = true) →
    (match pv with | none => u = FrameMode.returning | some v => ∃ x, u = .panicking [{ v := x, recovered := false }] ∧ Rel σ v x ∧ v.free = true) →
    CallsD P g args' u w fun e u' w' => (∃ y, e = .returned y) ∧ settle u' = .returning ∧ ∃ G' σ', RelS σ' (.args [] G') 0 { tmps := #[], defers := [] } w' ∧ (∀ k b, σ'.blk k = some b → ∃ id, k = .g id) ∧ (∀ t x, σ'.tok t = some x → isCG t = true) ∧ Post σ σ' w w' ∧ K G'

/-- Behind the deferred closure. -/
def doneD (P : Program) (fn : Func) (m : Nat) (R : AEnd → List Blk → Prop) (s : St) (G1 : List Blk) : Prop :=
  match ares P fn ({ s with G := G1 }.dis isC) with
  | some v => cutOk m G1 v = true ∧ R (.ret v) (G1.take m)
  | none => False

def deferQ (P : Program) (fn : Func) (m : Nat) (g : FuncId) (caps : List AV) (R : AEnd → List Blk → Prop) : AExit → St → Prop
  | .normal, s | .ret, s => ADef P g caps s.G none (doneD P fn m R s)
  | .panic v, s => v.free = true ∧ ADef P g caps s.G (some v) (doneD P fn m R s)
  | _, _ => False

section
variable {P : Program} {σ σ' : Sg} {s s' : St} {a : Act} {w : World} {c : Cfg} {ops : Array Oper}

theorem Post.noD {D D' : List Deferred} {σ σ' : Sg} {w w' : World} (h : Post { σ with D := D } { σ' with D := D' } w w') (e : σ'.D = σ.D) : Post σ σ' w w' :=
  ⟨h.I, h.In, h.own, h.keys, h.frame, h.size, h.os, h.tape, h.output, e, h.fz⟩

/-- Operations of which the effect is reckoned, ahead of others. -/
theorem runE_wpList {Q : Exit → Act → World → Prop} {r : List Oper} : ∀ {l : List Oper} {s s' : St} {σ : Sg} {a : Act} {w : World}, runE P c ops l s = some s' → RelS σ s c.nt a w →
    (∀ σ' a' w', RelS σ' s' c.nt a' w' → Post σ σ' w w' → wpList P ops Q r a' w') → wpList P ops Q (l ++ r) a w
  | [], s, s', σ, a, w, h, hr, k => by simp only [runE, Option.some.injEq] at h; subst h; exact k σ a w hr (.refl _ _)
  | o :: l, s, s', σ, a, w, h, hr, k => by
    simp only [runE] at h
    simp only [List.cons_append, wpList]
    have go : ∀ {s₁ : St}, eff P c s o = .st s₁ → runE P c ops l s₁ = some s' → o.wp P a w (wpList P ops Q (l ++ r)) Q := fun he h => by
      obtain ⟨x, w', σ', h1, h2, h3⟩ := eff_does he σ a w hr
      unfold Oper.wp
      rcases h1 with h1 | ⟨h1, rfl⟩
      · rw [h1]; exact runE_wpList h h2 fun σ'' a' w'' hr' hp => k σ'' a' w'' hr' (h3.trans hp)
      · rw [h1]; exact runE_wpList h h2 fun σ'' a' w'' hr' hp => k σ'' a' w'' hr' (h3.trans hp)
    split at h
    · rename_i hg
      have hw : Region.wanted o (yielded ops a.tmps) = true := by simp [Region.wanted, hg]
      rw [if_pos hw]
      split at h
      · rename_i s₁ he; exact .inl (go he h)
      · simp at h
    · rename_i j want hg
      split at h
      · rename_i b hgv
        have hy := guardVal_rel hr hgv
        split at h
        · rename_i hb
          have hw : Region.wanted o (yielded ops a.tmps) = true := by simp [Region.wanted, hg, hy, hb]
          rw [if_pos hw]
          split at h
          · rename_i s₁ he; exact .inl (go he h)
          · simp at h
        · rename_i hb
          have hw : Region.wanted o (yielded ops a.tmps) = false := by simp [Region.wanted, hg, hy, hb]
          rw [hw]
          simp only [Bool.false_eq_true, if_false]
          split at h
          · rename_i hd
            exact runE_wpList h (hr.put (.tuple rfl (by simp)) hd) k
          · simp at h
      · simp at h

/-- A function that defers a closure. -/
theorem acalls_defer {f : FuncId} {fn : Func} {id0 id : Nat} {rest : Code} {args : List AV} {G : List Blk} {R : AEnd → List Blk → Prop} (c : Cfg) (l0 l1 l2 : List Oper) (o : Oper) {fo : Operand} {ts : Array TypeId} {g : FuncId} {caps : List AV} {s0 s1 s2 : St}
    (hf : P.funcs[f]? = some fn) (hb : fn.body = some (.seq (.region id0 l0.toArray false) (.seq (.region id (l1 ++ o :: l2).toArray false) rest))) (hn : (fn.name == "runtime.NumGoroutine") = false) (hnt : fn.ntmps = c.nt) (ha : args.length ≤ c.nt)
    (hop : o.op = .defer { callee := .value fo, args := #[], argTypes := ts }) (hgd : o.guard = none) (hdst : o.dst = none)
    (h00 : okG G → runE P c l0.toArray l0 (.args args G) = some s0) (h1 : okG G → runE P c (l1 ++ o :: l2).toArray l1 s0 = some s1) (hfo : okG G → ev s1 fo = some (.fn g [] caps)) (hfree : caps.all AV.free = true)
    (h2 : okG G → runE P c (l1 ++ o :: l2).toArray l2 s1 = some s2) (h3 : okG G → AWp P c.nt rest (deferQ P fn G.length g caps R) s2) : ACalls P f args G R := by
  refine ⟨fun args' w => ?_, fun σ args' w hr hk ht => ?_⟩
  · unfold callFunc
    have hn' : fn.name ≠ "runtime.NumGoroutine" := by simpa using hn
    simp [hf, hn', hb]
  refine calls_of_wp_defers hf hb ?_
  have hG := okG_of hr
  have hsz : args'.size = args.length := hr.sz
  have hr' : RelS σ (.args args G) c.nt { tmps := args' ++ Array.replicate (fn.ntmps - args'.size) undef, defers := [] } w := by
    refine ⟨by simp [hsz]; omega, hr.df, fun t x h => ?_, hr.blks, hr.cinv, hr.gfree, hr.lfree, hr.wf⟩
    obtain ⟨h1, h2⟩ := hr.vals _ _ h
    have h1 : t < args'.size := by rw [hsz]; exact h1
    refine ⟨by omega, ?_⟩
    simpa [Array.getD_eq_getD_getElem?, Array.getElem?_append, h1] using h2
  have h0 : ∀ id b, σ.blk (.g id) = some b → id < G.length := fun id b h => by
    by_cases hid : G.length ≤ id
    · have := hr.gfree id hid
      rw [h] at this; simp at this
    · omega
  refine wp_seq (wp_region ?_)
  have hrange0 : List.range l0.toArray.size = List.range' 0 l0.length := by simp [List.range_eq_range']
  rw [hrange0, wpOps_eq_wpList (ops := l0.toArray) l0 0 (by simp), show wpList P l0.toArray = fun Q l => wpList P l0.toArray Q l from rfl]
  show wpList P l0.toArray _ l0 _ w
  rw [show l0 = l0 ++ [] by simp]
  refine runE_wpList (r := []) (by simpa using h00 hG) hr' fun σ0 a0 w0 hr0 hp0 => ?_
  show (Code.seq (.region id (l1 ++ o :: l2).toArray false) rest).wp P _ a0 w0
  refine wp_seq (wp_region ?_)
  have hrange : List.range (l1 ++ o :: l2).toArray.size = List.range' 0 (l1 ++ o :: l2).length := by simp [List.range_eq_range']
  rw [hrange, wpOps_eq_wpList (ops := (l1 ++ o :: l2).toArray) (l1 ++ o :: l2) 0 (by simp)]
  refine runE_wpList (h1 hG) hr0 fun σ1 a1 w1 hr1 hp1' => ?_
  have hp1 := hp0.trans hp1'
  simp only [wpList]
  rw [if_pos (by simp [Region.wanted, hgd])]
  left
  have hfr := ev_rel hr1 (hfo hG)
  generalize hfe : a1.eval fo = fx at hfr
  cases hfr with | fn q1 q2 q3 q4 =>
  rename_i first' caps'
  have hfirst : first' = #[] := by simpa using q1
  subst hfirst
  let d : Deferred := { target := .fn (.func g) caps', args := #[] }
  have hexec : (execOp a1.eval o).run P w1 = .ok (.defer d) w1 := by
    unfold execOp; rw [hop]
    simp only [resolve, hfe, Deferred.ofValue, Sem.run_bind, Sem.run_pure, Result.andThen_ok]
    simp [d]
  unfold Oper.wp
  rw [hexec]
  simp only [Oper.upon, hdst, Act.put]
  have hD0 : σ.D = [] := hr.df.symm
  have hD1 : a1.defers = [] := hr1.df.trans (hp1.D.trans hD0)
  rw [hD1]
  have hr1' : RelS { σ1 with D := [d] } s1 c.nt { a1 with defers := [d] } w1 := ⟨hr1.sz, rfl, fun t x h => ⟨(hr1.vals t x h).1, Rel.mono (σ := σ1) (σ' := { σ1 with D := [d] }) (fun _ _ _ h => h) (fun _ _ h => h) (fun _ _ h => h) (hr1.vals t x h).2⟩, fun k blk h => by
      obtain ⟨b, q1, q2⟩ := hr1.blks k blk h
      refine ⟨b, q1, ?_⟩
      have hm : ∀ {v : AV} {x : Value}, Rel σ1 v x → Rel { σ1 with D := [d] } v x := fun h => Rel.mono (σ := σ1) (σ' := { σ1 with D := [d] }) (fun _ _ _ h => h) (fun _ _ h => h) (fun _ _ h => h) h
      cases blk with
      | cells cs => obtain ⟨c, T, g1, g2, g3⟩ := q2; exact ⟨c, T, g1, g2, fun j x hj => hm (g3 j x hj)⟩
      | map es n => obtain ⟨c, g1, g2, g3⟩ := q2; exact ⟨c, g1, g2, fun j k v n hj => ⟨(g3 j k v n hj).1, hm (g3 j k v n hj).2.1, (g3 j k v n hj).2.2⟩⟩
      | dead => trivial, hr1.cinv, hr1.gfree, hr1.lfree, ⟨hr1.wf.inj, hr1.wf.injt, hr1.wf.injtt, hr1.wf.lt, hr1.wf.tokw, hr1.wf.blkI, hr1.wf.imm⟩⟩
  rw [show l2 = l2 ++ [] by simp]
  refine runE_wpList (r := []) (by simpa using h2 hG) hr1' fun σ2 a2 w2 hr2 hp2 => ?_
  show rest.wp P _ a2 w2
  refine wp_mono (h3 hG σ2 a2 w2 hr2) ?_
  rintro e a3 w3 ⟨x, s3, σ3, hx, hs, hp3, hq⟩
  have hD3 : a3.defers = [d] := hs.df.trans (hp3.D.trans hp2.D)
  have hp13 : Post { σ1 with D := [d] } σ3 w1 w3 := hp2.trans hp3
  have hp03 : Post σ { σ3 with D := [] } w w3 := by
    have hp1' : Post { σ with D := [d] } { σ1 with D := [d] } w w1 := ⟨hp1.I, hp1.In, hp1.own, hp1.keys, hp1.frame, hp1.size, hp1.os, hp1.tape, hp1.output, rfl, hp1.fz⟩
    have := hp1'.trans hp13
    exact ⟨this.I, this.In, this.own, this.keys, this.frame, this.size, this.os, this.tape, this.output, by simp [hD0], this.fz⟩
  have hcaps : ∀ (i : Nat) (v : AV), caps[i]? = some v → Rel σ3 v (caps'.getD i undef) := fun i v hv =>
    Rel.keep (σ := σ1) (σ' := σ3) (f := keyf (.g 0)) (g := fun _ => false) hp13.I (fun k b hk hb => by
      cases k with
      | g id => exact hp13.keys _ _ hb
      | l t => simp [keyf] at hk) (fun t x ht => by simp at ht) (q4 i v hv) (List.all_eq_true.1 hfree v (List.mem_of_getElem? hv))
  have fin : ∀ (pv : Option AV) (u : FrameMode), u ≠ .run → (match pv with | none => u = FrameMode.returning | some v => ∃ x, u = .panicking [{ v := x, recovered := false }] ∧ Rel σ3 v x ∧ v.free = true) → ADef P g caps s3.G pv (doneD P fn G.length R s3) →
      Leaves P fn a3.tmps (fun e w' => ∃ r G' σ', RelR σ' r e ∧ RelS σ' (.args [] G') 0 { tmps := #[], defers := [] } w' ∧ (∀ k b, σ'.blk k = some b → ∃ id, k = .g id) ∧ (∀ t x, σ'.tok t = some x → isCG t = true) ∧ Post σ σ' w w' ∧ R r G') a3.defers u w3 := by
    intro pv u hu hpv hd
    rw [hD3]
    have hsN : RelS { σ3 with D := [] } s3 c.nt { a3 with defers := [] } w3 := ⟨hs.sz, rfl, fun t x h => ⟨(hs.vals t x h).1, Rel.mono (σ := σ3) (σ' := { σ3 with D := [] }) (fun _ _ _ h => h) (fun _ _ h => h) (fun _ _ h => h) (hs.vals t x h).2⟩, fun k blk h => by
      obtain ⟨b, q1, q2⟩ := hs.blks k blk h
      refine ⟨b, q1, ?_⟩
      have hm : ∀ {v : AV} {x : Value}, Rel σ3 v x → Rel { σ3 with D := [] } v x := fun h => Rel.mono (σ := σ3) (σ' := { σ3 with D := [] }) (fun _ _ _ h => h) (fun _ _ h => h) (fun _ _ h => h) h
      cases blk with
      | cells cs => obtain ⟨c, T, g1, g2, g3⟩ := q2; exact ⟨c, T, g1, g2, fun j x hj => hm (g3 j x hj)⟩
      | map es n => obtain ⟨c, g1, g2, g3⟩ := q2; exact ⟨c, g1, g2, fun j k v n hj => ⟨(g3 j k v n hj).1, hm (g3 j k v n hj).2.1, (g3 j k v n hj).2.2⟩⟩
      | dead => trivial, hs.cinv, hs.gfree, hs.lfree, ⟨hs.wf.inj, hs.wf.injt, hs.wf.injtt, hs.wf.lt, hs.wf.tokw, hs.wf.blkI, hs.wf.imm⟩⟩
    have hcaps0 : ∀ (i : Nat) (v : AV), caps[i]? = some v → Rel { σ3 with D := [] } v (caps'.getD i undef) := fun i v hv => Rel.mono (σ := σ3) (σ' := { σ3 with D := [] }) (fun _ _ _ h => h) (fun _ _ h => h) (fun _ _ h => h) (hcaps i v hv)
    have hcal := hsN.callee (args := caps) (args' := caps') q2 hcaps0 hfree
    have hk3 : ∀ k b, ({ σ3 with D := [] } : Sg).heap.blk k = some b → ∃ id, k = .g id := fun k b h => by
      cases k with
      | g id => exact ⟨id, rfl⟩
      | l t => simp [Sg.heap] at h
    have ht3 : ∀ t x, ({ σ3 with D := [] } : Sg).heap.tok t = some x → isCG t = true := fun t x h => by
      simp only [Sg.heap] at h
      split at h
      · rename_i h2; exact h2
      · simp at h
    have hcd := hd.2 _ caps' w3 u hcal hk3 ht3 (by
      cases pv with
      | none => exact hpv
      | some v =>
        obtain ⟨x, e1, e2, e3⟩ := hpv
        exact ⟨x, e1, Rel.heap (σ := { σ3 with D := [] }) (k := .g 0) (g := fun _ => false) (Rel.mono (σ := σ3) (σ' := { σ3 with D := [] }) (fun _ _ _ h => h) (fun _ _ h => h) (fun _ _ h => h) e2) e3 (fun t h => by simp at h), e3⟩)
    refine leaves_cons hu (f := g) (args := caps') ?_ ?_
    · simp only [invoke]
      rw [show (#[] : Array Value) ++ caps' = caps' by simp]
      exact hd.1 _ _
    · refine hcd.mono ?_
      rintro e u' w4 ⟨⟨y, rfl⟩, hset, G4, σ4, r1, r2, r3, r4, r5⟩
      simp only [hset]
      obtain ⟨b1, b2⟩ := hsN.back r1 r2 r3 r4
      unfold doneD at r5
      split at r5
      · rename_i v hv
        obtain ⟨z, z1, z2⟩ := ares_run b1 hv
        refine ⟨z, z1, ?_⟩
        have hc := r5.1
        simp only [cutOk, Bool.and_eq_true] at hc
        have hpT : Post σ ((({ σ3 with D := [] } : Sg).join σ4)) w w4 := hp03.trans b2
        refine ⟨.ret v, G4.take G.length, (({ σ3 with D := [] } : Sg).join σ4).cut G.length, .ret (z2.cut hc.2 (fun t h => by simp at h)) (chk_free hc.2), b1.leave hc.1, fun k b h => ?_, fun t x h => ?_, hpT.cut hr.df h0, r5.2⟩
        · cases k with
          | g id => exact ⟨id, rfl⟩
          | l t => simp [Sg.cut] at h
        · have := (cut_tok h).1
          cases t with
          | c k o => cases k <;> simp_all [tokm, isCG]
          | s t => simp [tokm] at this
          | n => simp [tokm] at this
      · exact r5.elim
  cases hx with
  | normal => exact fin none .returning (by simp) rfl hq
  | ret => exact fin none .returning (by simp) rfl hq
  | panic hv => exact fin (some _) _ (by simp) ⟨_, rfl, hv, hq.1⟩ hq.2
  | exit id => exact hq.elim
  | goto l => exact hq.elim
end
end Go.Abs
