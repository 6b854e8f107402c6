/-
  Regions whose order is open and in which calls stand: one walk serves every order.
-/
import Derived.Test.YtnicgdfnfnchjaaA24
import Derived.Test.YtnicgdfnfnchjaaF1
set_option linter.unusedVariables false
namespace Go.Abs

/-- Panics say nothing of the frame. -/
class PP (Q : AExit → St → Prop) : Prop where
  pp : ∀ v s, Q (.panic v) s → Q (.panic v) { s with ts := [] }

instance {K : St → Prop} {Q : AExit → St → Prop} [PP Q] : PP (andThen K Q) := ⟨fun v s h => PP.pp (Q := Q) v s h⟩
instance {id : Nat} {Q : AExit → St → Prop} [PP Q] : PP (inBlock id Q) := ⟨fun v s h => PP.pp (Q := Q) v s h⟩
instance {P : Program} {fn : Func} {m : Nat} {R : AEnd → List Blk → Prop} : PP (leaveQ P fn m R) := ⟨fun v s h => h⟩

section
variable {P : Program} {ops : Array Oper} {Q : Exit → Act → World → Prop} {md : Region.Mode} {S : World → Prop} {n : Nat}

/-- Whatever order is picked; S holds behind each of the first n operations. -/
def wpAnyN (P : Program) (md : Region.Mode) (ops : Array Oper) (Q : Exit → Act → World → Prop) (S : World → Prop) (n : Nat) : Nat → Array Bool → Act → World → Prop
  | 0, listed, a, w => Region.ready md ops listed = [] ∧ Q .normal a w
  | fuel + 1, listed, a, w => (Region.ready md ops listed = [] → Q .normal a w) ∧
    ∀ i ∈ Region.ready md ops listed, wpOp P ops Q i (fun a' w' => (i < n → S w') ∧ wpAnyN P md ops Q S n fuel (listed.setIfInBounds i true) a' w') a w

theorem wpAny_of_N : ∀ (fuel : Nat) (listed : Array Bool) (a : Act) (w : World), wpAnyN P md ops Q S n fuel listed a w → wpAny P md ops Q fuel listed a w
  | 0, _, _, _, h => h
  | fuel + 1, _, _, _, h => ⟨h.1, fun i hi => wpOp_mono (fun a' w' h' => wpAny_of_N fuel _ a' w' h'.2) (h.2 i hi)⟩

theorem wpAnyN_first {i : Nat} {oi : Oper} {v : Value} (hin : i < n) (hi : ops[i]? = some oi) (hsel : ∀ (j : Nat) (o : Oper) cs b, ops[j]? = some o → o.op ≠ .select cs b)
    (hQ : ∀ c a w, Q (.panic c) (a.put oi.dst v) w → Q (.panic c) a w) : ∀ (fuel : Nat) (listed : Array Bool) (a : Act) (w : World),
      (∀ j oj, ops[j]? = some oj → j ≠ i → listed.getD j true = false → (∀ e ∈ oj.after, Region.binds md e = true → e.on ≠ i) → oi.apart ops oj = true) →
      HeadInv md ops ops.size listed → (∀ j, n ≤ j → j < ops.size → Waits md ops i j) → i ∈ Region.ready md ops listed → YieldsIf P ops S oi v a → S w →
      wpAnyN P md ops Q S n fuel (listed.setIfInBounds i true) (a.put oi.dst v) w → wpAnyN P md ops Q S n (fuel + 1) listed a w := by
  intro fuel
  induction fuel with
  | zero =>
    intro listed a w _ _ _ hr hy hS H
    refine ⟨fun h => (by rw [h] at hr; cases hr), fun j hj => ?_⟩
    by_cases hji : j = i
    · subst hji; exact hy.wpOp hi hS ⟨fun _ => hS, H⟩
    · have := ready_mono hj hji
      rw [H.1] at this
      cases this
  | succ fuel ih =>
    intro listed a w hfree hcl hT hr hy hS H
    refine ⟨fun h => (by rw [h] at hr; cases hr), fun j hj => ?_⟩
    by_cases hji : j = i
    · subst hji; exact hy.wpOp hi hS ⟨fun _ => hS, H⟩
    · have h1 := H.2 j (ready_mono hj hji)
      obtain ⟨hjun, oj, hoj, hall⟩ := mem_ready.1 hj
      have hnot : ∀ e ∈ oj.after, Region.binds md e = true → e.on ≠ i := fun e he hb heq => by
        have h1 := hall e he hb
        have h0 := (mem_ready.1 hr).1
        rw [heq] at h1
        rcases Nat.lt_or_ge i listed.size with h' | h'
        · simp [h'] at h0 h1; rw [h0] at h1; cases h1
        · simp [Array.getElem?_eq_none h'] at h1
      have hap := hfree j oj hoj hji hjun hnot
      have hjs : j < ops.size := (Array.getElem?_eq_some_iff.1 hoj).1
      have hjn : j < n := by
        rcases Nat.lt_or_ge j n with h | h
        · exact h
        · have h1 := waits_listed hcl (hT j h hjs) oj hoj hall
          have h2 := (mem_ready.1 hr).1
          have h3 : listed.getD i false = true := h1
          rcases Nat.lt_or_ge i listed.size with h' | h'
          · simp [h'] at h2 h3; rw [h2] at h3; cases h3
          · simp [Array.getElem?_eq_none h'] at h3
      have h2 := wpOp_putIf hoj hap (fun cs b => hsel i oi cs b hi) (fun cs b => hsel j oj cs b hoj) hQ hy h1
      have hfree' : ∀ k ok, ops[k]? = some ok → k ≠ i → (listed.setIfInBounds j true).getD k true = false →
          (∀ e ∈ ok.after, Region.binds md e = true → e.on ≠ i) → oi.apart ops ok = true := fun k ok hk hki hun hno => by
        refine hfree k ok hk hki ?_ hno
        by_cases hjk : j = k
        · subst hjk; exact hjun
        · rw [getD_set_ne true hjk] at hun; exact hun
      refine wpOp_mono (fun a' w' h3 => ⟨fun _ => h3.2.1 hjn, ih (listed.setIfInBounds j true) a' w' hfree' (hcl.set hj hjs) hT (ready_mono hr (Ne.symm hji)) h3.1 (h3.2.1 hjn) ?_⟩) h2
      rw [Array.setIfInBounds_comm _ _ hji]
      exact h3.2.2
end

/-- May number i be taken first? -/
def takeOk (ops : Array Oper) (n : Nat) (listed : Array Bool) (i : Nat) : Bool :=
  decide (i < n) && freeF ops listed i && (readyF ops listed).contains i && lateF ops n i

abbrev Pend := List (Oper × AV)

/-- Nothing that is pending looks at this slot. -/
def safeP (ops : Array Oper) (pd : Pend) (dst : Option Nat) : Bool :=
  pd.all fun p => match dst with | some d => !(p.1.looksAt ops).contains d | none => true

/-- Is an operation carried out, as far as its guard tells? -/
def wantedB (ops : Array Oper) (s : St) (o : Oper) : Option Bool :=
  match o.guard with
  | none => some true
  | some (j, want) => (guardVal ops s j want).map (· == want)

/-- The operations that are taken first; those that read what others might turn are kept in mind. -/
def d2A (P : Program) (c : Cfg) (ops : Array Oper) (n : Nat) : List Nat → Array Bool → Pend → St → Option (Array Bool × Pend × St)
  | [], listed, pd, s => some (listed, pd, s)
  | i :: r, listed, pd, s => match ops[i]? with
    | some o => if takeOk ops n listed i && dstOk c.nt o.dst && safeP ops pd o.dst then match wantedB ops s o with
        | some true => match avalS P s o with
          | some v => d2A P c ops n r (listed.setIfInBounds i true) pd (s.put o.dst v)
          | none => match avalB P s o with
            | some v => if v.rigid && safeP ops [(o, v)] o.dst then d2A P c ops n r (listed.setIfInBounds i true) ((o, v) :: pd) (s.put o.dst v) else none
            | none => none
        | some false => d2A P c ops n r (listed.setIfInBounds i true) pd (s.put o.dst (.tuple []))
        | none => none
      else none
    | none => none

/-- What is pending is still worth the same. -/
def still (P : Program) (pd : Pend) (s : St) : Prop := ∀ p ∈ pd, avalB P s p.1 = some p.2

/-- An operation of the first n: it only reads, or calls. -/
def vopN (P : Program) (c : Cfg) (pd : Pend) (o : Oper) (K : St → Prop) (Q : AExit → St → Prop) (s : St) : Prop :=
  match avalB P s o with
  | some v => dstOk c.nt o.dst = true ∧ K (s.put o.dst v)
  | none => match eff P c s o with
    | .call f args => args.all AV.free = true ∧ ACalls P f args s.G fun r G' => match r with
      | .ret v => still P pd (({ s with G := G' }.dis isC).put o.dst v) ∧ K (({ s with G := G' }.dis isC).put o.dst v)
      | .panic v => Q (.panic v) ({ s with G := G' }.dis isC)
    | .st s' => match o.op with
      | .buildSlice _ _ _ => still P pd s' ∧ K s'
      | _ => False
    | _ => False

/-- In which order the others come: one behind the other, or either of two. -/
inductive Plan where
  | done
  | one (i : Nat) (p : Plan)
  | two (i : Nat) (p : Plan) (j : Nat) (q : Plan)
  | fr (i : Nat) (p : Plan)

def Plan.size : Plan → Nat
  | .done => 0
  | .one _ p => p.size + 1
  | .two _ p _ _ => p.size + 1
  | .fr _ p => p.size + 1

def Plan.ge (n : Nat) : Plan → Bool
  | .done => true
  | .one i p => decide (n ≤ i) && p.ge n
  | .two i p j q => decide (n ≤ i) && decide (n ≤ j) && p.ge n && q.ge n
  | .fr i p => decide (n ≤ i) && p.ge n

/-- One of the others. -/
def d2S (P : Program) (c : Cfg) (ops : Array Oper) (n : Nat) (pd : Pend) (Q : AExit → St → Prop) (i : Nat) (ge : Bool) (K : St → Prop) (s : St) : Prop :=
  match ops[i]? with
    | none => False
    | some o => (i < n → safeP ops pd o.dst = true) ∧ match o.guard with
      | none => if i < n then vopN P c pd o K Q s else ge = true ∧ vop P c o K Q s
      | some (j, want) => match guardVal ops s j want with
        | some b => (b = want → if i < n then vopN P c pd o K Q s else ge = true ∧ vop P c o K Q s) ∧
            (b = (!want) → dstOk c.nt o.dst = true ∧ (if i < n then True else ge = true) ∧ K (s.put o.dst (.tuple [])))
        | none => False

def d2B (P : Program) (c : Cfg) (ops : Array Oper) (n : Nat) (pd : Pend) (Q : AExit → St → Prop) : Plan → Array Bool → St → Prop
  | .done, listed, s => readyF ops listed = [] ∧ ∃ s', Weak s s' ∧ Q .normal s'
  | .one i p, listed, s => readyF ops listed = [i] ∧ d2S P c ops n pd Q i (p.ge n) (d2B P c ops n pd Q p (listed.setIfInBounds i true)) s
  | .two i p j q, listed, s => readyF ops listed = [i, j] ∧ q.size = p.size ∧ d2S P c ops n pd Q i (p.ge n) (d2B P c ops n pd Q p (listed.setIfInBounds i true)) s ∧
      d2S P c ops n pd Q j (q.ge n) (d2B P c ops n pd Q q (listed.setIfInBounds j true)) s
  | .fr i p, listed, s => match ops[i]? with
    | none => False
    | some o => (takeOk ops n listed i && !(isLoad o.op) && dstOk c.nt o.dst && safeP ops pd o.dst) = true ∧ match wantedB ops s o with
      | some true => match avalS P s o with
        | some v => d2B P c ops n pd Q p (listed.setIfInBounds i true) (s.put o.dst v)
        | none => False
      | some false => d2B P c ops n pd Q p (listed.setIfInBounds i true) (s.put o.dst (.tuple []))
      | none => False

section
variable {P : Program} {σ σ' : Sg} {s s' : St} {nt : Nat} {a : Act} {w w' : World} {c : Cfg} {ops : Array Oper} {Q : AExit → St → Prop}

theorem Conc.take [PP Q] {σ : Sg} {w : World} {dst : Option Nat} {v : Value} {ch : List PanicEntry} {a : Act} {w' : World} (h : Conc nt Q σ w (.panic ch) (a.put dst v) w') : Conc nt Q σ w (.panic ch) a w' := by
  obtain ⟨x, s', σ', hx, hs, hp, hq⟩ := h
  cases hx with
  | panic hv =>
    refine ⟨_, { s' with ts := [] }, σ', .panic hv, ⟨?_, ?_, fun t x h => by simp [get] at h, hs.blks, hs.cinv, hs.gfree, hs.lfree, hs.wf⟩, hp, PP.pp _ _ hq⟩
    · have := hs.sz
      cases dst <;> simpa [Act.put] using this
    · have := hs.df
      cases dst <;> simpa [Act.put] using this

theorem vop_call {o : Oper} {f : FuncId} {args : List AV} (he : eff P c s o = .call f args) : ∃ cl, o.op = .call cl ∧ ∃ fo, cl.callee = .value fo ∧ ∃ first caps l, ev s fo = some (.fn f first caps) ∧ evs s cl.args.toList = some l ∧ args = first ++ l.map AV.strip ++ caps ∧ dstOk c.nt o.dst = true := by
  unfold eff at he
  split at he
  case h_12 cl hop =>
    refine ⟨cl, hop, ?_⟩
    split at he
    · exfalso; revert he; repeat' split
      all_goals first | (intro he; exact Eff.ofSt_ne_call he) | simp
    · exfalso; revert he; repeat' split
      all_goals first | (intro he; exact Eff.ofSt_ne_call he) | simp
    · exfalso; revert he; repeat' split
      all_goals first | (intro he; exact Eff.ofSt_ne_call he) | simp
    · rename_i fo hcal
      refine ⟨fo, hcal, ?_⟩
      split at he
      · rename_i g first caps l h1 h2
        split at he
        · rename_i hd
          simp only [Eff.call.injEq] at he
          obtain ⟨rfl, rfl⟩ := he
          exact ⟨first, caps, l, h1, h2, rfl, hd⟩
        · simp at he
      · simp at he
    · exact absurd he Eff.of_ne_call
  all_goals
    exfalso
    revert he
    repeat' split
    all_goals first | (intro he; simp at he; done) | (intro he; exact Eff.of_ne_call he) | (intro he; exact Eff.ofSt_ne_call he)

/-- A call, and that the frame's own variables stay. -/
theorem vcall_sound {o : Oper} {f : FuncId} {args : List AV} (he : eff P c s o = .call f args) (hfree : args.all AV.free = true) {K : St → Prop}
    (hcall : ACalls P f args s.G fun r G' => match r with
      | .ret v => K (({ s with G := G' }.dis isC).put o.dst v)
      | .panic v => Q (.panic v) ({ s with G := G' }.dis isC)) {σ : Sg} {a : Act} {w : World} (hr : RelS σ s c.nt a w) {next : Act → World → Prop} {QQ : Exit → Act → World → Prop}
    (hn : ∀ s' σ' a' w', K s' → RelS σ' s' c.nt a' w' → Post σ σ' w w' → (∀ t b, σ.blk (.l t) = some b → σ'.blk (.l t) = some b ∧ w'.heap[b]? = w.heap[b]?) → (∃ y, a' = a.put o.dst y) → next a' w')
    (hQ : ∀ v s' σ' x a' w', Q (.panic v) s' → Rel σ' v x → RelS σ' s' c.nt a' w' → Post σ σ' w w' → QQ (.panic [{ v := x, recovered := false }]) a' w') :
    o.wp P a w next QQ := by
  obtain ⟨cl, hop, fo, hfo, first, caps, l, hfn, hl, rfl, hd⟩ := vop_call he
  have hfr := ev_rel hr hfn
  obtain ⟨l1, l2⟩ := evs_rel hr hl
  generalize hfe : a.eval fo = fx at hfr
  cases hfr with | fn q1 q2 q3 q4 =>
  rename_i first' caps'
  let argsV : Array Value := first' ++ cl.args.map a.eval ++ caps'
  have hexec : (execOp a.eval o).run P w = .ok (.enter f argsV) w := by
    unfold execOp; rw [hop]
    simp only [resolve, hfo, hfe, Deferred.ofValue, Sem.run_bind, Sem.run_pure, Result.andThen_ok, invoke]
    exact hcall.1 _ _
  have hsize : argsV.size = (first ++ l.map AV.strip ++ caps).length := by
    simp only [argsV, Array.size_append, Array.size_map, List.length_append, List.length_map, q1, q2]
    simp at l1; rw [l1]
  have hvals : ∀ (i : Nat) (v : AV), (first ++ l.map AV.strip ++ caps)[i]? = some v → Rel σ v (argsV.getD i undef) := by
    intro i v hv
    have hl' : (cl.args.map a.eval).size = l.length := by simpa using l1
    rw [List.append_assoc, List.getElem?_append] at hv
    simp only [argsV, Array.getD_eq_getD_getElem?]
    rw [Array.append_assoc, Array.getElem?_append]
    split at hv
    · rename_i h1
      rw [if_pos (by rw [q1]; exact h1)]
      simpa [Array.getD_eq_getD_getElem?] using q3 i v hv
    · rename_i h1
      rw [if_neg (by rw [q1]; exact h1), Array.getElem?_append]
      rw [List.getElem?_append] at hv
      simp only [List.length_map] at hv
      split at hv
      · rename_i h2
        rw [if_pos (by rw [hl', q1]; exact h2)]
        rw [List.getElem?_map, Option.map_eq_some_iff] at hv
        obtain ⟨u, hu, rfl⟩ := hv
        have := (l2 _ u hu).strip
        rw [q1]
        simpa [Array.getD_eq_getD_getElem?] using this
      · rename_i h2
        rw [if_neg (by rw [hl', q1]; exact h2), hl', q1]
        simpa [Array.getD_eq_getD_getElem?] using q4 _ v hv
  have hk : ∀ k b, σ.heap.blk k = some b → ∃ id, k = .g id := fun k b h => by
    cases k with
    | g id => exact ⟨id, rfl⟩
    | l t => simp [Sg.heap] at h
  have ht : ∀ t x, σ.heap.tok t = some x → isCG t = true := fun t x h => by
    simp only [Sg.heap] at h
    split at h
    · rename_i h2; exact h2
    · simp at h
  have hc := hcall.2 σ.heap argsV w (hr.callee hsize hvals hfree) hk ht
  unfold Oper.wp
  rw [hexec]
  simp only [Oper.upon]
  refine hc.mono ?_
  rintro e w' ⟨r, G', σ', g1, g2, g3, g4, g5, g6⟩
  obtain ⟨b1, b2⟩ := hr.back g2 g3 g4 g5
  have jrel : ∀ {v : AV} {x : Value}, Rel σ' v x → v.free = true → Rel (σ.join σ') v x := fun {v x} h hv =>
    Rel.keep (σ := σ') (σ' := σ.join σ') (fun _ _ _ h => h) (fun k b hk hb => by cases k <;> simp_all [Sg.join, keyf]) (fun t x ht h => by simp at ht) h hv
  have hL : ∀ t b, σ.blk (.l t) = some b → (σ.join σ').blk (.l t) = some b ∧ w'.heap[b]? = w.heap[b]? := fun t b h => by
    refine ⟨h, g5.frame b (hr.wf.lt _ _ h) ?_⟩
    rintro (⟨k, h'⟩ | ⟨t', e', l', h'⟩)
    · cases k with
      | g id => have := hr.wf.inj _ _ _ h h'; simp at this
      | l t => simp [Sg.heap] at h'
    · simp only [Sg.heap] at h'
      split at h'
      · exact hr.wf.injt _ _ _ _ _ h h'
      · simp at h'
  cases g1 with
  | ret hx hv => exact hn _ _ _ _ g6 (b1.put (jrel hx hv) hd) b2 hL ⟨_, rfl⟩
  | panic hx hv => exact hQ _ _ _ _ _ _ g6 (jrel hx hv) b1 b2

/-- A new slice: the frame's own variables stay. -/
theorem vbuild_run {o : Oper} {t : TypeId} {len : Nat} {parts : Array (Nat × Operand)} (hop : o.op = .buildSlice t len parts) {s' : St} (he : eff P c s o = .st s') {σ : Sg} {a : Act} {w : World} (hr : RelS σ s c.nt a w) :
    ∃ x w' σ', (execOp a.eval o).run P w = .ok (.value x) w' ∧ RelS σ' s' c.nt (a.put o.dst x) w' ∧ Post σ σ' w w' ∧ ∀ t b, σ.blk (.l t) = some b → σ'.blk (.l t) = some b ∧ w'.heap[b]? = w.heap[b]? := by
  unfold eff at he
  rw [hop] at he
  simp only at he
  split at he
  · rename_i ps hps
    have hp := evParts_rel hr hps
    unfold Eff.of at he
    split at he
    · rename_i u hu
      rw [Option.map_eq_some_iff] at hu
      obtain ⟨rows, hrows, rfl⟩ := hu
      split at he
      · rename_i hd
        simp only [Eff.st.injEq] at he; subst he
        obtain ⟨cc, e, g1, g2, g3, g4, g5⟩ := abuildSlice_run hr hrows hp
        refine ⟨_, _, _, ?_, g2.put (.own g4 (.inl rfl)) hd, g3, fun t b h => ⟨h, heap_alloc _ _ _ (hr.wf.lt _ _ h)⟩⟩
        unfold execOp; rw [hop]
        show (do pure (Next.value (← Instr.buildSlice t len (parts.map fun x => (x.1, a.eval x.2)))) : Sem Next).run P w = _
        rw [Sem.run_bind, show (parts.map fun x => (x.1, a.eval x.2)) = (parts.toList.map fun x => (x.1, a.eval x.2)).toArray by cases parts; simp, g1]
        rfl
      · simp at he
    · simp at he
  · simp at he

/-- What holds while some operations are pending. -/
def SP (P : Program) (σb : Sg) (wb : World) (ap : Act) (pd : Pend) (w : World) : Prop :=
  SL σb wb w ∧ ∀ p ∈ pd, ∀ x, (execOp ap.eval p.1).run P wb = .ok (.value x) wb → (execOp ap.eval p.1).run P w = .ok (.value x) w

structure PInv (P : Program) (σb : Sg) (wb : World) (ap : Act) (pd : Pend) : Prop where
  sel : ∀ p ∈ pd, ∀ cs b, p.1.op ≠ .select cs b
  val : ∀ p ∈ pd, p.2.rigid = true ∧ ∃ x, (execOp ap.eval p.1).run P wb = .ok (.value x) wb ∧ Rel σb p.2 x

theorem wantedB_rel {σ : Sg} (hr : RelS σ s nt a w) {o : Oper} {b : Bool} (h : wantedB ops s o = some b) : Region.wanted o (yielded ops a.tmps) = b := by
  unfold wantedB at h
  unfold Region.wanted
  split at h
  · rename_i hg; simp only [hg]; simpa using h
  · rename_i j want hg
    rw [Option.map_eq_some_iff] at h
    obtain ⟨b', hb, rfl⟩ := h
    have := guardVal_rel hr hb
    simp only [hg]
    rw [Bool.eq_iff_iff]
    simpa using this

theorem safe_put {pd : Pend} {dst : Option Nat} (h : safeP ops pd dst = true) (hs : ∀ p ∈ pd, ∀ cs b, p.1.op ≠ .select cs b) (a : Act) (x : Value) : ∀ p ∈ pd, execOp (a.put dst x).eval p.1 = execOp a.eval p.1 := fun p hp =>
  execOp_put (ops := ops) p.1 (hs p hp) a dst x (fun d hd => by
    have := List.all_eq_true.1 h p hp
    subst hd
    simpa using this)

theorem d2S_sound {n : Nat} {σb : Sg} {wb : World} {ap : Act} {pd : Pend} (hpi : PInv P σb wb ap pd) {j : Nat} {ge : Bool} {K : St → Prop} {listed : Array Bool} {fuel : Nat} {s : St} (h : d2S P c ops n pd Q j ge K s)
    (ih : ∀ s, K s → ∀ σ a w, RelS σ s c.nt a w → Post σb σ wb w → (ge = true ∨ ((∀ t b, σb.blk (.l t) = some b → σ.blk (.l t) = some b) ∧ SP P σb wb ap pd w ∧ ∀ p ∈ pd, execOp a.eval p.1 = execOp ap.eval p.1)) →
      wpAnyN P .any ops (Conc c.nt Q σb wb) (SP P σb wb ap pd) n fuel (listed.setIfInBounds j true) a w)
    {σ : Sg} {a : Act} {w : World} (hr : RelS σ s c.nt a w) (hp : Post σb σ wb w) (hinv : (n ≤ j ∧ ge = true) ∨ ((∀ t b, σb.blk (.l t) = some b → σ.blk (.l t) = some b) ∧ SP P σb wb ap pd w ∧ ∀ p ∈ pd, execOp a.eval p.1 = execOp ap.eval p.1)) :
    wpOp P ops (Conc c.nt Q σb wb) j (fun a' w' => (j < n → SP P σb wb ap pd w') ∧ wpAnyN P .any ops (Conc c.nt Q σb wb) (SP P σb wb ap pd) n fuel (listed.setIfInBounds j true) a' w') a w := by
    unfold d2S at h
    split at h
    · exact h.elim
    · rename_i o ho
      obtain ⟨hsafe, h⟩ := h
      have getI : j < n → (∀ t b, σb.blk (.l t) = some b → σ.blk (.l t) = some b) ∧ SP P σb wb ap pd w ∧ ∀ p ∈ pd, execOp a.eval p.1 = execOp ap.eval p.1 := fun hin => by
        rcases hinv with h | h
        · exact absurd hin (Nat.not_lt.2 h.1)
        · exact h
      have keepE : j < n → ∀ y, ∀ p ∈ pd, execOp (a.put o.dst y).eval p.1 = execOp ap.eval p.1 := fun hin y p hp => by
        rw [safe_put (hsafe hin) hpi.sel a y p hp]; exact (getI hin).2.2 p hp
      have go : (if j < n then vopN P c pd o K Q s else ge = true ∧ vop P c o K Q s) →
          o.wp P a w (fun a' w' => (j < n → SP P σb wb ap pd w') ∧ wpAnyN P .any ops (Conc c.nt Q σb wb) (SP P σb wb ap pd) n fuel (listed.setIfInBounds j true) a' w') (Conc c.nt Q σb wb) := by
        intro h
        split at h
        · rename_i hin
          obtain ⟨hLk, hSL, hE⟩ := getI hin
          unfold vopN at h
          split at h
          · rename_i v hv
            obtain ⟨x, h1, h2⟩ := avalB_run hr hv
            unfold Oper.wp
            rw [h1]
            exact ⟨fun _ => hSL, ih _ h.2 σ _ w (hr.put h2 h.1) hp (.inr ⟨hLk, hSL, keepE hin x⟩)⟩
          · split at h
            · rename_i f args he
              refine vcall_sound (K := fun s' => still P pd s' ∧ K s') he h.1 h.2 hr (fun s' σ' a' w' hk hr' hp' hL ha' => ?_) (fun v s' σ' x a' w' hq hx hr' hp' => ⟨_, s', σ', .panic hx, hr', hp.trans hp', hq⟩)
              obtain ⟨y, rfl⟩ := ha'
              have hSL' : SP P σb wb ap pd w' := by
                refine ⟨⟨fun b o v h => hr'.wf.imm _ _ _ (hp'.I _ _ _ (hp.I _ _ _ h)), fun t b h => by
                  rw [(hL t b (hLk t b h)).2]; exact hSL.1.2 t b h⟩, fun p hpd x hx => ?_⟩
                obtain ⟨hrig, x0, hx0, hrel0⟩ := hpi.val p hpd
                obtain ⟨x2, hx2, hrel2⟩ := avalB_run hr' (hk.1 p hpd)
                rw [keepE hin y p hpd] at hx2
                rw [hx0] at hx
                have e1 : x0 = x := by simpa using hx
                have e2 := rigid_eq hrig hrel0 hrel2
                rw [← e1, e2]; exact hx2
              exact ⟨fun _ => hSL', ih _ hk.2 σ' _ w' hr' (hp.trans hp') (.inr ⟨fun t b h => (hL t b (hLk t b h)).1, hSL', keepE hin y⟩)⟩
            · rename_i s1 he
              split at h
              · rename_i t len parts hop
                obtain ⟨y, w', σ', h1, hr', hp', hL⟩ := vbuild_run hop he hr
                have hSL' : SP P σb wb ap pd w' := by
                  refine ⟨⟨fun b o v h => hr'.wf.imm _ _ _ (hp'.I _ _ _ (hp.I _ _ _ h)), fun t b h => by
                    rw [(hL t b (hLk t b h)).2]; exact hSL.1.2 t b h⟩, fun p hpd x hx => ?_⟩
                  obtain ⟨hrig, x0, hx0, hrel0⟩ := hpi.val p hpd
                  obtain ⟨x2, hx2, hrel2⟩ := avalB_run hr' (h.1 p hpd)
                  rw [keepE hin y p hpd] at hx2
                  rw [hx0] at hx
                  have e1 : x0 = x := by simpa using hx
                  have e2 := rigid_eq hrig hrel0 hrel2
                  rw [← e1, e2]; exact hx2
                unfold Oper.wp
                rw [h1]
                exact ⟨fun _ => hSL', ih _ h.2 σ' _ w' hr' (hp.trans hp') (.inr ⟨fun t b h => (hL t b (hLk t b h)).1, hSL', keepE hin y⟩)⟩
              · exact h.elim
            · exact h.elim
        · rename_i hin
          exact vop_sound h.2 hr (fun s' σ' a' w' hk hr' hp' => ⟨fun e => absurd e hin, ih _ hk σ' a' w' hr' (hp.trans hp') (.inl h.1)⟩) (fun v s' σ' x a' w' hq hx hr' hp' => ⟨_, s', σ', .panic hx, hr', hp.trans hp', hq⟩)
      split at h
      · rename_i hg
        have hw : Region.wanted o (yielded ops a.tmps) = true := by simp [Region.wanted, hg]
        unfold wpOp
        simp only [ho, hw, if_true]
        exact .inl (go h)
      · rename_i q want hg
        split at h
        · rename_i b hgv
          have hy := guardVal_rel hr hgv
          unfold wpOp
          simp only [ho]
          by_cases hb : b = want
          · have hw : Region.wanted o (yielded ops a.tmps) = true := by simp [Region.wanted, hg, hy, hb]
            rw [if_pos hw]; exact .inl (go (h.1 hb))
          · have hw : Region.wanted o (yielded ops a.tmps) = false := by simp [Region.wanted, hg, hy, hb]
            rw [if_neg (by rw [hw]; simp)]
            have hb' : b = !want := by cases b <;> cases want <;> simp_all
            obtain ⟨hd, hx, hk⟩ := h.2 hb'
            by_cases hin : j < n
            · obtain ⟨hLk, hSL, hE⟩ := getI hin
              exact ⟨fun _ => hSL, ih _ hk σ _ w (hr.put (.tuple rfl (by simp)) hd) hp (.inr ⟨hLk, hSL, keepE hin _⟩)⟩
            · rw [if_neg hin] at hx
              exact ⟨fun e => absurd e hin, ih _ hk σ _ w (hr.put (.tuple rfl (by simp)) hd) hp (.inl hx)⟩
        · exact h.elim


theorem ready_lt {listed : Array Bool} {i : Nat} (h : i ∈ Region.ready .any ops listed) : i < ops.size := by
  obtain ⟨_, o, ho, _⟩ := mem_ready.1 h
  exact (Array.getElem?_eq_some_iff.1 ho).1

/-- The later part of the walk. -/
theorem d2B_sound [PP Q] {n : Nat} {σb : Sg} {wb : World} {ap : Act} {pd : Pend} (hpi : PInv P σb wb ap pd) (hs : Region.noSelect ops = true) : ∀ (l : Plan) (listed : Array Bool) (s : St), HeadInv .any ops ops.size listed → d2B P c ops n pd Q l listed s → ∀ σ a w, RelS σ s c.nt a w → Post σb σ wb w →
    (l.ge n = true ∨ ((∀ t b, σb.blk (.l t) = some b → σ.blk (.l t) = some b) ∧ SP P σb wb ap pd w ∧ ∀ p ∈ pd, execOp a.eval p.1 = execOp ap.eval p.1)) → wpAnyN P .any ops (Conc c.nt Q σb wb) (SP P σb wb ap pd) n l.size listed a w
  | .done, listed, s, hls, h, σ, a, w, hr, hp, _ => by
    obtain ⟨h1, s', hw, hq⟩ := h
    rw [readyF_eq hls.size] at h1
    obtain ⟨σ', hr', hp'⟩ := hw _ _ _ _ hr
    exact ⟨h1, .normal, s', σ', .normal, hr', hp.trans hp', hq⟩
  | .one i p, listed, s, hls, h, σ, a, w, hr, hp, hinv => by
    obtain ⟨hrd, h⟩ := h
    rw [readyF_eq hls.size] at hrd
    refine ⟨fun he => (by rw [hrd] at he; cases he), fun j hj => ?_⟩
    rw [hrd] at hj
    have hji : j = i := by simpa using hj
    subst hji
    refine d2S_sound hpi h (fun s hk σ a w hr hp hi => d2B_sound hpi hs p _ s (hls.set (by rw [hrd]; simp) (ready_lt (by rw [hrd]; simp))) hk σ a w hr hp hi) hr hp (hinv.imp (fun h => ?_) id)
    simpa [Plan.ge] using h
  | .two i p j q, listed, s, hls, h, σ, a, w, hr, hp, hinv => by
    obtain ⟨hrd, hsz, h1, h2⟩ := h
    rw [readyF_eq hls.size] at hrd
    refine ⟨fun he => (by rw [hrd] at he; cases he), fun k hk => ?_⟩
    rw [hrd] at hk
    have hk2 : k = i ∨ k = j := by simpa using hk
    rcases hk2 with rfl | rfl
    · refine d2S_sound hpi h1 (fun s hk σ a w hr hp hi => d2B_sound hpi hs p _ s (hls.set (by rw [hrd]; simp) (ready_lt (by rw [hrd]; simp))) hk σ a w hr hp hi) hr hp (hinv.imp (fun h => ?_) id)
      simp only [Plan.ge, Bool.and_eq_true, decide_eq_true_eq] at h
      exact ⟨h.1.1.1, h.1.2⟩
    · refine d2S_sound hpi h2 (fun s hk σ a w hr hp hi => ?_) hr hp (hinv.imp (fun h => ?_) id)
      · have := d2B_sound hpi hs q _ s (hls.set (by rw [hrd]; simp) (ready_lt (by rw [hrd]; simp))) hk σ a w hr hp hi
        rwa [hsz] at this
      · simp only [Plan.ge, Bool.and_eq_true, decide_eq_true_eq] at h
        exact ⟨h.1.1.2, h.2⟩
  | .fr i p, listed, s, hls, h, σ, a, w, hr, hp, hinv => by
    simp only [d2B] at h
    split at h
    · exact h.elim
    · rename_i o ho
      obtain ⟨hc, h⟩ := h
      simp only [Bool.and_eq_true, takeOk, decide_eq_true_eq, Bool.not_eq_true'] at hc
      obtain ⟨⟨⟨⟨⟨⟨hin, hfr⟩, hrd⟩, htl⟩, hld⟩, hd⟩, hsafe⟩ := hc
      have hfr := freeF_free hls.size hfr
      rw [readyF_eq hls.size] at hrd
      have hrd' : i ∈ Region.ready .any ops listed := by simpa using hrd
      obtain ⟨hLk, hSP, hE⟩ := hinv.resolve_left (fun e => by simp only [Plan.ge, Bool.and_eq_true, decide_eq_true_eq] at e; omega)
      have take : ∀ (x : Value), YieldsIf P ops (SP P σb wb ap pd) o x a → wpAnyN P .any ops (Conc c.nt Q σb wb) (SP P σb wb ap pd) n p.size (listed.setIfInBounds i true) (a.put o.dst x) w →
          wpAnyN P .any ops (Conc c.nt Q σb wb) (SP P σb wb ap pd) n (p.size + 1) listed a w := fun x h1 ih =>
        wpAnyN_first hin ho (Region.noSelect_spec hs) (fun c a w => Conc.take) _ listed a w (fun j oj hj hne hun hno => Region.free_spec ho hfr j oj hj hne hun hno) hls (fun j hj hjs => (lateF_waits htl j hj hjs).resolve_left (by omega)) hrd' h1 hSP ih
      have keepE : ∀ y, ∀ q ∈ pd, execOp (a.put o.dst y).eval q.1 = execOp ap.eval q.1 := fun y q hq => by
        rw [safe_put hsafe hpi.sel a y q hq]; exact hE q hq
      have hls' := hls.set hrd' (ready_lt hrd')
      split at h
      · rename_i hwb
        have hw := wantedB_rel hr hwb
        split at h
        · rename_i v hv
          obtain ⟨x, h1, h2⟩ := avalS_run hr hv
          exact take x (.inl ⟨hw, fun w' _ => h1 w' (fun e => by rw [hld] at e; cases e)⟩) (d2B_sound hpi hs p _ _ hls' h σ _ w (hr.put h2 hd) hp (.inr ⟨hLk, hSP, keepE x⟩))
        · exact h.elim
      · rename_i hwb
        have hw := wantedB_rel hr hwb
        exact take undef (.inr ⟨hw, rfl⟩) (d2B_sound hpi hs p _ _ hls' h σ _ w (hr.put (.tuple rfl (by simp)) hd) hp (.inr ⟨hLk, hSP, keepE undef⟩))
      · exact h.elim

theorem SL.refl (hr : RelS σ s nt a w) : SL σ w w := ⟨fun b o v h => hr.wf.imm _ _ _ h, fun _ _ _ => rfl⟩

theorem d2A_inv {n : Nat} {listed' : Array Bool} {pd' : Pend} {s' : St} : ∀ (l : List Nat) (listed : Array Bool) (pd : Pend) (s : St), HeadInv .any ops ops.size listed → d2A P c ops n l listed pd s = some (listed', pd', s') → HeadInv .any ops ops.size listed'
  | [], listed, pd, s, hi, h => by simp only [d2A, Option.some.injEq, Prod.mk.injEq] at h; rw [← h.1]; exact hi
  | i :: l, listed, pd, s, hi, h => by
    simp only [d2A] at h
    split at h
    · split at h
      · rename_i hc
        simp only [Bool.and_eq_true, takeOk, decide_eq_true_eq] at hc
        have hrd := hc.1.1.1.2
        rw [readyF_eq hi.size] at hrd
        have hrd' : i ∈ Region.ready .any ops listed := by simpa using hrd
        have hi' := hi.set hrd' (ready_lt hrd')
        split at h
        · split at h
          · exact d2A_inv l _ _ _ hi' h
          · split at h
            · split at h
              · exact d2A_inv l _ _ _ hi' h
              · cases h
            · cases h
        · exact d2A_inv l _ _ _ hi' h
        · cases h
      · cases h
    · cases h

/-- The earlier part. -/
theorem d2A_sound [PP Q] {n : Nat} {σb : Sg} {wb : World} (hs : Region.noSelect ops = true) : ∀ (l : List Nat) (listed listed' : Array Bool) (pd pd' : Pend) (s s' : St) (a : Act), d2A P c ops n l listed pd s = some (listed', pd', s') → HeadInv .any ops ops.size listed → RelS σb s c.nt a wb → PInv P σb wb a pd →
    ∃ a', RelS σb s' c.nt a' wb ∧ PInv P σb wb a' pd' ∧ (∀ p ∈ pd, p ∈ pd' ∧ execOp a'.eval p.1 = execOp a.eval p.1) ∧
      ∀ fuel, wpAnyN P .any ops (Conc c.nt Q σb wb) (SP P σb wb a' pd') n fuel listed' a' wb → wpAnyN P .any ops (Conc c.nt Q σb wb) (SP P σb wb a' pd') n (fuel + l.length) listed a wb
  | [], listed, listed', pd, pd', s, s', a, h, hcl, hr, hpi => by
    simp only [d2A, Option.some.injEq, Prod.mk.injEq] at h
    obtain ⟨rfl, rfl, rfl⟩ := h
    exact ⟨a, hr, hpi, fun p hp => ⟨hp, rfl⟩, fun fuel h => h⟩
  | i :: l, listed, listed', pd, pd', s, s', a, h, hcl, hr, hpi => by
    simp only [d2A] at h
    split at h
    · rename_i o ho
      split at h
      · rename_i hc
        simp only [Bool.and_eq_true, takeOk, decide_eq_true_eq] at hc
        obtain ⟨⟨⟨⟨⟨hin, hfr⟩, hrd⟩, htl⟩, hd⟩, hsafe⟩ := hc
        have hfr := freeF_free hcl.size hfr
        rw [readyF_eq hcl.size] at hrd
        have hselo : ∀ cs b, o.op ≠ .select cs b := fun cs b => Region.noSelect_spec hs i o cs b ho
        have take : ∀ (x : Value) (S : World → Prop) (fuel : Nat), (YieldsIf P ops S o x a) → S wb →
            wpAnyN P .any ops (Conc c.nt Q σb wb) S n fuel (listed.setIfInBounds i true) (a.put o.dst x) wb → wpAnyN P .any ops (Conc c.nt Q σb wb) S n (fuel + 1) listed a wb := fun x S fuel h1 hS ih => by
          refine wpAnyN_first hin ho (Region.noSelect_spec hs) (fun c a w => Conc.take) _ listed a wb (fun j oj hj hne hun hno => Region.free_spec ho hfr j oj hj hne hun hno) hcl (fun j hj hjs => ?_) (by simpa using hrd) h1 hS ih
          exact (lateF_waits htl j hj hjs).resolve_left (by omega)
        have hio : i < ops.size := (Array.getElem?_eq_some_iff.1 ho).1
        have hcl' : HeadInv .any ops ops.size (listed.setIfInBounds i true) := hcl.set (by simpa using hrd) hio
        have hput : ∀ x, PInv P σb wb (a.put o.dst x) pd := fun x => ⟨hpi.sel, fun p hp => by
          rw [safe_put hsafe hpi.sel a x p hp]; exact hpi.val p hp⟩
        have hSPrefl : ∀ {a' : Act} {s' : St} {pd' : Pend}, RelS σb s' c.nt a' wb → SP P σb wb a' pd' wb := fun hr' => ⟨SL.refl hr', fun p hp x hx => hx⟩
        split at h
        · rename_i hwb
          have hw := wantedB_rel hr hwb
          split at h
          · rename_i v hv
            obtain ⟨x, h1, h2⟩ := avalS_run hr hv
            obtain ⟨a', q1, q2, q3, q4⟩ := d2A_sound hs l _ listed' pd pd' _ s' (a.put o.dst x) h hcl' (hr.put h2 hd) (hput x)
            refine ⟨a', q1, q2, fun p hp => ⟨(q3 p hp).1, by rw [(q3 p hp).2, safe_put hsafe hpi.sel a x p hp]⟩, fun fuel hk => ?_⟩
            rw [List.length_cons, ← Nat.add_assoc]
            exact take x _ _ (.inl ⟨hw, fun w' hw' => h1 w' (fun _ => hw'.1)⟩) (hSPrefl q1) (q4 fuel hk)
          · split at h
            · rename_i v hv
              split at h
              · rename_i hrs
                simp only [Bool.and_eq_true] at hrs
                obtain ⟨x, h1, h2⟩ := avalB_run hr hv
                have hself : execOp (a.put o.dst x).eval o = execOp a.eval o := safe_put hrs.2 (fun p hp => by simp at hp; subst hp; exact hselo) a x (o, v) (by simp)
                obtain ⟨a', q1, q2, q3, q4⟩ := d2A_sound hs l _ listed' ((o, v) :: pd) pd' _ s' (a.put o.dst x) h hcl' (hr.put h2 hd) ⟨fun p hp => by
                    rcases List.mem_cons.1 hp with rfl | hp
                    · exact hselo
                    · exact hpi.sel p hp, fun p hp => by
                    rcases List.mem_cons.1 hp with rfl | hp
                    · exact ⟨hrs.1, x, by rw [hself]; exact h1, h2⟩
                    · exact (hput x).val p hp⟩
                refine ⟨a', q1, q2, fun p hp => ⟨(q3 p (List.mem_cons_of_mem _ hp)).1, by rw [(q3 p (List.mem_cons_of_mem _ hp)).2, safe_put hsafe hpi.sel a x p hp]⟩, fun fuel hk => ?_⟩
                rw [List.length_cons, ← Nat.add_assoc]
                obtain ⟨q5, q6⟩ := q3 (o, v) (by simp)
                refine take x _ _ (.inl ⟨hw, fun w' hw' => ?_⟩) (hSPrefl q1) (q4 fuel hk)
                have := hw'.2 (o, v) q5 x (by rw [q6, hself]; exact h1)
                rwa [q6, hself] at this
              · simp at h
            · simp at h
        · rename_i hwb
          have hw := wantedB_rel hr hwb
          obtain ⟨a', q1, q2, q3, q4⟩ := d2A_sound hs l _ listed' pd pd' _ s' (a.put o.dst undef) h hcl' (hr.put (.tuple rfl (by simp)) hd) (hput undef)
          refine ⟨a', q1, q2, fun p hp => ⟨(q3 p hp).1, by rw [(q3 p hp).2, safe_put hsafe hpi.sel a undef p hp]⟩, fun fuel hk => ?_⟩
          rw [List.length_cons, ← Nat.add_assoc]
          exact take undef _ _ (.inr ⟨hw, rfl⟩) (hSPrefl q1) (q4 fuel hk)
        · simp at h
      · simp at h
    · simp at h

/-- Operations that come to the same in whatever world, taken first of all. -/
def d2F (P : Program) (c : Cfg) (ops : Array Oper) : List Nat → Array Bool → St → Option (Array Bool × St)
  | [], listed, s => some (listed, s)
  | i :: r, listed, s => match ops[i]? with
    | some o => if freeF ops listed i && (readyF ops listed).contains i && dstOk c.nt o.dst then match wantedB ops s o with
        | some true => if isLoad o.op then none else match avalS P s o with
          | some v => d2F P c ops r (listed.setIfInBounds i true) (s.put o.dst v)
          | none => none
        | some false => d2F P c ops r (listed.setIfInBounds i true) (s.put o.dst (.tuple []))
        | none => none
      else none
    | none => none

theorem d2F_sound [PP Q] {σb : Sg} {w₀ wb : World} (hs : Region.noSelect ops = true) : ∀ (l : List Nat) (listed listed' : Array Bool) (s s' : St) (a : Act) (fuel : Nat), d2F P c ops l listed s = some (listed', s') → HeadInv .any ops ops.size listed → RelS σb s c.nt a wb →
    (∀ a', RelS σb s' c.nt a' wb → HeadInv .any ops ops.size listed' → wpAny P .any ops (Conc c.nt Q σb w₀) fuel listed' a' wb) → wpAny P .any ops (Conc c.nt Q σb w₀) (fuel + l.length) listed a wb
  | [], listed, listed', s, s', a, fuel, h, hcl, hr, k => by
    simp only [d2F, Option.some.injEq, Prod.mk.injEq] at h
    obtain ⟨rfl, rfl⟩ := h
    exact k a hr hcl
  | i :: l, listed, listed', s, s', a, fuel, h, hcl, hr, k => by
    simp only [d2F] at h
    split at h
    · rename_i o ho
      split at h
      · rename_i hc
        simp only [Bool.and_eq_true] at hc
        obtain ⟨⟨hfr, hrd⟩, hd⟩ := hc
        have hfr := freeF_free hcl.size hfr
        rw [readyF_eq hcl.size] at hrd
        have hio : i < ops.size := (Array.getElem?_eq_some_iff.1 ho).1
        have hcl' : HeadInv .any ops ops.size (listed.setIfInBounds i true) := hcl.set (by simpa using hrd) hio
        rw [List.length_cons, ← Nat.add_assoc]
        split at h
        · rename_i hwb
          have hw := wantedB_rel hr hwb
          split at h
          · simp at h
          · rename_i hld
            split at h
            · rename_i v hv
              obtain ⟨x, h1, h2⟩ := avalS_run hr hv
              exact wpAny_take ho hs hfr hrd (fun c a w => Conc.take) (.inl ⟨hw, fun w' => h1 w' (fun e => absurd e hld)⟩) (d2F_sound hs l _ listed' _ s' (a.put o.dst x) fuel h hcl' (hr.put h2 hd) k)
            · simp at h
        · rename_i hwb
          have hw := wantedB_rel hr hwb
          exact wpAny_take ho hs hfr hrd (fun c a w => Conc.take) (.inr ⟨hw, rfl⟩) (d2F_sound hs l _ listed' _ s' (a.put o.dst undef) fuel h hcl' (hr.put (.tuple rfl (by simp)) hd) k)
        · simp at h
      · simp at h
    · simp at h

/-- A region whose order is open: first 'takes', then 'rest', one behind the other. -/
theorem awp_d2 [PP Q] {id : Nat} {l : List Oper} (n : Nat) (frees takes : List Nat) (rest : Plan) (hm : P.follows .mixedOrders = true) (hs : Region.noSelect l.toArray = true) (hl : rest.size + takes.length + frees.length = l.length) {listed0 listed : Array Bool} {s0 : St}
    (h0 : d2F P c l.toArray frees (Array.replicate l.length false) s = some (listed0, s0))
    {pd : Pend} (h : d2A P c l.toArray n takes listed0 [] s0 = some (listed, pd, s')) (k : d2B P c l.toArray n pd Q rest listed s') : AWp P c.nt (.region id l.toArray true) Q s := by
  intro σ a w hr
  have hr' := hr.draw (w.drawn + 1)
  have inv0 : HeadInv .any l.toArray l.toArray.size (Array.replicate l.length false) :=
    ⟨by simp, fun j oj _ hl => (by rw [getD_replicate_false] at hl; cases hl), fun t ht ht' => by omega⟩
  have goal := d2F_sound (Q := Q) (σb := σ) (w₀ := w) (wb := { w with drawn := w.drawn + 1 }) hs frees (Array.replicate l.length false) listed0 s s0 a (rest.size + takes.length) h0 inv0 hr' (fun a0 hr0 hcl0 => ?_)
  · rw [hl] at goal
    exact wp_region_any hm (by simpa using goal)
  obtain ⟨ap, q1, q2, -, q4⟩ := d2A_sound (Q := Q) (σb := σ) (wb := { w with drawn := w.drawn + 1 }) hs takes listed0 listed [] pd s0 s' a0 h hcl0 hr0 ⟨fun p hp => by simp at hp, fun p hp => by simp at hp⟩
  have key := q4 rest.size (d2B_sound q2 hs rest listed s' (d2A_inv _ _ _ _ hcl0 h) k σ ap _ q1 (.refl _ _) (.inr ⟨fun _ _ h => h, ⟨SL.refl q1, fun p hp x hx => hx⟩, fun p hp => rfl⟩))
  refine wpAny_of_N (S := SP P σ { w with drawn := w.drawn + 1 } ap pd) (n := n) _ _ _ _ ?_
  have mono : ∀ (fuel : Nat) (ls : Array Bool) (a : Act) (w1 : World), wpAnyN P .any l.toArray (Conc c.nt Q σ { w with drawn := w.drawn + 1 }) (SP P σ { w with drawn := w.drawn + 1 } ap pd) n fuel ls a w1 → wpAnyN P .any l.toArray (Conc c.nt Q σ w) (SP P σ { w with drawn := w.drawn + 1 } ap pd) n fuel ls a w1 := by
    intro fuel
    induction fuel with
    | zero => exact fun ls a w1 h => ⟨h.1, h.2.back (.draw _ _ _)⟩
    | succ fuel ih =>
      intro ls a w1 h
      refine ⟨fun e => (h.1 e).back (.draw _ _ _), fun i hi => ?_⟩
      have h := h.2 i hi
      unfold wpOp at h ⊢
      split
      · rename_i ho; simp only [ho] at h; exact ⟨h.1, ih _ _ _ h.2⟩
      · rename_i o ho
        simp only [ho] at h
        split
        · rename_i hw
          rw [if_pos hw] at h
          rcases h with h | ⟨h1, a0, w0, h2⟩
          · left
            unfold Oper.wp at *
            generalize (execOp a.eval o).run P w1 = r at *
            cases r with
            | ok nx w2 =>
              cases nx <;> simp only [Oper.upon] at h ⊢ <;> first | exact ⟨h.1, ih _ _ _ h.2⟩ | exact h | skip
              · exact Calls.mono h (fun e w3 he => by
                  cases e with
                  | returned v => exact ⟨he.1, ih _ _ _ he.2⟩
                  | panicked ch => exact Conc.back (.draw _ _ _) he
                  | outgrown => obtain ⟨a0, w0, x, s', σ'', hx, _⟩ := he; cases hx)
              · exact Rows.mono h (fun v w3 he => ⟨he.1, ih _ _ _ he.2⟩)
            | halt x w2 => cases x <;> simp only [Oper.upon] at h ⊢ <;> first | exact Conc.back (.draw _ _ _) h | exact h
          · obtain ⟨x, s', σ'', hx, _⟩ := h2; cases hx
        · rename_i hw; rw [if_neg hw] at h; exact ⟨h.1, ih _ _ _ h.2⟩
  exact mono _ _ _ _ key
end
end Go.Abs
