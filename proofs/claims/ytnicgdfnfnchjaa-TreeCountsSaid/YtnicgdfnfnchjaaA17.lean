/-
  What is to be shown of a function's text, reckoned off the text.
-/
import Derived.Test.YtnicgdfnfnchjaaA16
set_option linter.unusedVariables false
namespace Go.Abs

structure Cfg where
  nt : Nat
  heap : List Nat := []
  sym : Bool := false
  keep : Nat → Option Bool := fun _ => none
  told : Nat → Option Bool := fun _ => none

inductive Eff where
  | st (s : St)
  | call (f : FuncId) (args : List AV)
  | pan (v : AV)
  | bad

def Eff.of (nt : Nat) (s : St) (dst : Option Nat) : Option AV → Eff
  | some v => if dstOk nt dst then .st (s.put dst v) else .bad
  | none => .bad

def Eff.ofSt : Option St → Eff
  | some s => .st s
  | none => .bad

def sameOp : Operand → Operand → Bool
  | .tmp i, .tmp j => i == j
  | .const (.int _ n), .const (.int _ m) => n == m
  | _, _ => false

theorem sameOp_ev {s : St} {x y : Operand} (h : sameOp x y = true) {k : IntKind} {n : Int} (hx : ev s x = some (.p (.int k n))) : ∃ k', ev s y = some (.p (.int k' n)) := by
  unfold sameOp at h
  split at h
  · simp only [beq_iff_eq] at h; subst h; exact ⟨k, hx⟩
  · simp only [beq_iff_eq] at h; subst h
    simp only [ev, cv, Option.some.injEq, AV.p.injEq, PV.int.injEq] at hx
    obtain ⟨_, rfl⟩ := hx
    exact ⟨_, rfl⟩
  · simp at h

/-- 'x == nil', of a slice that has elements. -/
def anilcmp (P : Program) (s : St) (o : Oper) : Option AV :=
  match o.op with
  | .binOp op t x (.const (.slice none 0 0)) _ => match P.underlying t, ev s x, op with
    | some (.slice _), some (.p (.vec (_ :: _))), .eql => some (.p (.bool false))
    | some (.slice _), some (.p (.vec (_ :: _))), .neq => some (.p (.bool true))
    | _, _, _ => none
  | _ => none

def avalN (P : Program) (s : St) (o : Oper) : Option AV :=
  match anilcmp P s o with
  | some v => some v
  | none => aval P s o

theorem equal_nil {P : Program} {t e : TypeId} (h : P.underlying t = some (.slice e)) (a : Addr) (n k : Nat) (w : World) : (Op.equal t (.slice (some a) n k) (.slice none 0 0)).run P w = .ok false w := by
  show (Op.equalIn (9999 + 1) t (.slice (some a) n k) (.slice none 0 0)).run P w = _
  rw [Op.equalIn, Sem.run_bind, run_underlying h]
  rfl

theorem avalN_run {P : Program} {σ : Sg} {s : St} {nt : Nat} {a : Act} {w : World} (hr : RelS σ s nt a w) {o : Oper} {v : AV} (h : avalN P s o = some v) : ∃ x, (execOp a.eval o).run P w = .ok (.value x) w ∧ Rel σ v x := by
  unfold avalN at h
  split at h
  · rename_i v' hv
    simp only [Option.some.injEq] at h; subst h
    unfold anilcmp at hv
    split at hv
    · rename_i op t x y hop
      have key : ∀ e r rs, P.underlying t = some (.slice e) → ev s x = some (.p (.vec (r :: rs))) → ∃ ad n k, a.eval x = .slice (some ad) n k := by
        intro e r rs hu hx
        have hxr := ev_rel hr hx
        generalize a.eval x = z at hxr
        cases hxr with | p hxr => cases hxr with | vec => exact ⟨_, _, _, rfl⟩
      have hc : a.eval (.const (.slice none 0 0)) = .slice none 0 0 := rfl
      split at hv
      · rename_i e r rs hu hx
        simp only [Option.some.injEq] at hv; subst hv
        obtain ⟨ad, n, k, he⟩ := key _ _ _ hu hx
        refine ⟨.bool false, ?_, .p (.bool _)⟩
        unfold execOp; rw [hop]
        refine lift_val ?_
        rw [he, hc, Sem.run_bind, eqGuard_pure w (by simp)]
        simp only [Result.andThen_ok]
        show (do pure (Value.bool (← Op.equal t _ _))).run P w = _
        rw [Sem.run_bind, equal_nil hu]; rfl
      · rename_i e r rs hu hx
        simp only [Option.some.injEq] at hv; subst hv
        obtain ⟨ad, n, k, he⟩ := key _ _ _ hu hx
        refine ⟨.bool true, ?_, .p (.bool _)⟩
        unfold execOp; rw [hop]
        refine lift_val ?_
        rw [he, hc, Sem.run_bind, eqGuard_pure w (by simp)]
        simp only [Result.andThen_ok]
        show (do pure (Value.bool (!(← Op.equal t _ _)))).run P w = _
        rw [Sem.run_bind, equal_nil hu]; rfl
      · simp at hv
    · simp at hv
  · exact aval_run hr h

def eff (P : Program) (c : Cfg) (s : St) (o : Oper) : Eff :=
  match o.op with
  | .assign x => match ev s x, o.dst with
    | some (.own rows k), some d => if isC k = false ∧ d < c.nt then .st ((s.dis (appendTok d k)).put (some d) (.own rows (.s d))) else if d < c.nt then .st (s.put (some d) (.p (.vec rows))) else .bad
    | some v, dst => Eff.of c.nt s dst (some v)
    | none, _ => .bad
  | .store t x v => match ev s x, ev s v, o.dst with
    | some xv, some vv, none => Eff.ofSt (astoreT P s t x xv vv)
    | _, _, _ => .bad
  | .alloc t => match (azero P t).bind AV.cellsOf, o.dst with
    | some cs, some d => if d < c.nt then Eff.ofSt (newVarA c.heap (s.kill d) d cs) else .bad
    | _, _ => .bad
  | .box t x => match o.dst with
    | some d => match (ev (s.kill d) x).bind acells with
      | some cs => if d < c.nt then Eff.ofSt (newVarA c.heap (s.kill d) d cs) else .bad
      | none => .bad
    | _ => .bad
  | .build t parts => match evParts s parts.toList with
    | some ps => Eff.of c.nt s o.dst (abuild P t ps)
    | none => .bad
  | .buildSlice t len parts => match evParts s parts.toList with
    | some ps => Eff.of c.nt s o.dst ((abuildSlice P t len ps).map fun rows => .own rows .n)
    | none => .bad
  | .makeMap _ none => match o.dst with
    | some d => if d < c.nt then .st { ts := (d, .map s.G.length) :: s.ts, L := s.L, G := s.G ++ [.map [] 0] } else .bad
    | none => .bad
  | .mapUpdate t m k v => match ev s m, ev s k, ev s v, o.dst with
    | some mv, some kv, some vv, none => Eff.ofSt (aupdate P s t mv kv vv)
    | _, _, _, _ => .bad
  | .insert t m k v => match ev s m, ev s k, ev s v, o.dst with
    | some mv, some kv, some vv, none => Eff.ofSt (aupdate P s t mv kv vv)
    | _, _, _, _ => .bad
  | .panic x => match ev s x with
    | some (.iface t v) => .pan (.iface t v)
    | _ => .bad
  | .makeSlice t l m => match ev s l, o.dst with
    | some (.p (.int _ n)), some d => if sameOp l m ∧ d < c.nt then Eff.ofSt (amake P s d t n) else .bad
    | _, _ => .bad
  | .call cl => match cl.callee, cl.args.toList, cl.argTypes.toList with
    | .builtin .append, [b, x], [sT, xT] => match ev s b, ev s x, o.dst with
      | some bv, some xv, some d => if d < c.nt then if c.heap.contains d then Eff.ofSt (aappendF P s d sT xT bv xv) else match aappend P s sT xT bv xv with
        | some r => .st ((s.dis (appendTok d r.2)).put (some d) (.own r.1 (.s d)))
        | none => Eff.ofSt (aappendT P s d sT xT bv x) else .bad
      | _, _, _ => .bad
    | .builtin .copy, [x, y], [sT, _] => match ev s x, ev s y with
      | some xv, some yv => if dstOk c.nt o.dst then match acopy P s sT xv yv with
        | some r => .st (r.1.put o.dst (.p (.int .i64 r.2)))
        | none => .bad else .bad
      | _, _ => .bad
    | .builtin .clear, [x], [t] => match ev s x with
      | some xv => if dstOk c.nt o.dst then match aclear P s t xv with
        | some s' => .st (s'.put o.dst (.tuple []))
        | none => .bad else .bad
      | _ => .bad
    | .value f, args, _ => match ev s f, evs s args with
      | some (.fn g first caps), some l => if dstOk c.nt o.dst then .call g (first ++ l.map AV.strip ++ caps) else .bad
      | _, _ => .bad
    | _, _, _ => Eff.of c.nt s o.dst (aval P s o)
  | _ => Eff.of c.nt s o.dst (avalN P s o)

/-- 'x == nil' of a slice without elements: either may be. -/
def anyB (P : Program) (s : St) (o : Oper) : Bool :=
  match o.op with
  | .binOp op t x (.const (.slice none 0 0)) _ => match P.underlying t, ev s x, op with
    | some (.slice _), some (.p (.vec [])), .eql => true
    | some (.slice _), some (.p (.vec [])), .neq => true
    | _, _, _ => false
  | _ => false

theorem anyB_bad {P : Program} {c : Cfg} {s : St} {o : Oper} (h : anyB P s o = true) : eff P c s o = .bad := by
  unfold anyB at h
  split at h
  · rename_i op t x rt hop
    split at h
    · rename_i e hu hx
      have hk : ev s (.const (.slice none 0 0)) = some (.own [] .n) := rfl
      simp [eff, hop, avalN, anilcmp, aval, hu, hx, hk, abin, Eff.of]
    · rename_i e hu hx
      have hk : ev s (.const (.slice none 0 0)) = some (.own [] .n) := rfl
      simp [eff, hop, avalN, anilcmp, aval, hu, hx, hk, abin, Eff.of]
    · simp at h
  · simp at h

theorem anyB_run {P : Program} {σ : Sg} {s : St} {nt : Nat} {a : Act} {w : World} (hr : RelS σ s nt a w) {o : Oper} (h : anyB P s o = true) : ∃ b, (execOp a.eval o).run P w = .ok (.value (.bool b)) w := by
  unfold anyB at h
  split at h
  · rename_i op t x rt hop
    have hc : a.eval (.const (.slice none 0 0)) = .slice none 0 0 := rfl
    have key : ev s x = some (.p (.vec [])) → ∃ ad n k, a.eval x = .slice ad n k := by
      intro hx
      have hxr := ev_rel hr hx
      generalize a.eval x = z at hxr
      cases hxr with | p hxr => cases hxr <;> exact ⟨_, _, _, rfl⟩
    have eqb : ∀ e ad n k, P.underlying t = some (.slice e) → ∃ b, (Op.equal t (.slice ad n k) (.slice none 0 0)).run P w = .ok b w := by
      intro e ad n k hu
      cases ad with
      | none =>
        refine ⟨true, ?_⟩
        show (Op.equalIn (9999 + 1) t (.slice none n k) (.slice none 0 0)).run P w = _
        rw [Op.equalIn, Sem.run_bind, run_underlying hu]
        rfl
      | some ad => exact ⟨false, equal_nil hu ad n k w⟩
    split at h
    · rename_i e hu hx
      obtain ⟨ad, n, k, he⟩ := key hx
      obtain ⟨b, hb⟩ := eqb e ad n k hu
      refine ⟨b, ?_⟩
      unfold execOp; rw [hop]
      refine lift_val ?_
      rw [he, hc, Sem.run_bind, eqGuard_pure w (by simp)]
      simp only [Result.andThen_ok]
      show (do pure (Value.bool (← Op.equal t _ _))).run P w = _
      rw [Sem.run_bind, hb]; rfl
    · rename_i e hu hx
      obtain ⟨ad, n, k, he⟩ := key hx
      obtain ⟨b, hb⟩ := eqb e ad n k hu
      refine ⟨!b, ?_⟩
      unfold execOp; rw [hop]
      refine lift_val ?_
      rw [he, hc, Sem.run_bind, eqGuard_pure w (by simp)]
      simp only [Result.andThen_ok]
      show (do pure (Value.bool (!(← Op.equal t _ _)))).run P w = _
      rw [Sem.run_bind, hb]; rfl
    · simp at h
  · simp at h

def vop (P : Program) (c : Cfg) (o : Oper) (K : St → Prop) (Q : AExit → St → Prop) (s : St) : Prop :=
  if anyB P s o then dstOk c.nt o.dst = true ∧ ∀ b, K (s.put o.dst (.p (.bool b))) else
  match eff P c s o with
  | .st s' => K s'
  | .call f args => args.all AV.free = true ∧ ACalls P f args s.G fun r G' => match r with
    | .ret v => K (({ s with G := G' }.dis isC).put o.dst v)
    | .panic v => Q (.panic v) ({ s with G := G' }.dis isC)
  | .pan v => Q (.panic v) s
  | .bad => False

def guardVal (ops : Array Oper) (s : St) (j : Nat) (want : Bool) : Option Bool :=
  match (ops[j]?).bind (·.dst) with
  | some d => match get s.ts d with
    | some (.p (.bool b)) => some b
    | some (.tuple []) => some (!want)
    | _ => none
  | none => none

def vops (P : Program) (c : Cfg) (ops : Array Oper) (Q : AExit → St → Prop) : List Nat → St → Prop
  | [], s => Q .normal s
  | i :: rest, s => match ops[i]? with
    | none => False
    | some o => match o.guard with
      | none => vop P c o (vops P c ops Q rest) Q s
      | some (j, want) => match guardVal ops s j want with
        | some b => (b = want → vop P c o (vops P c ops Q rest) Q s) ∧ (b = (!want) → dstOk c.nt o.dst = true ∧ vops P c ops Q rest (s.put o.dst (.tuple [])))
        | none => False

section
variable {P : Program} {σ σ' : Sg} {s : St} {nt : Nat} {a : Act} {w w' : World}

theorem retok (hr : RelS σ s nt a w) {d : Nat} {k : Tok} (hkc : isC k = false) {rows : List (List PV)} {x : Value} (hb : Rel σ (.own rows k) x) :
    ∃ σ', RelS σ' (s.dis (appendTok d k)) nt a w ∧ Post σ σ' w w ∧ Rel σ' (.own rows (.s d)) x := by
  cases hb with | own hv ho =>
  rename_i ba len cap
  rcases ho with ho | ⟨b, o, sz', l, h3, h4, h5, h6, h7, h8⟩
  · exact ⟨σ, hr.turn (σ' := σ) _ (fun _ h => appendTok_isC h) (fun _ _ _ h => h) rfl (fun _ _ _ h => h) (fun _ _ _ => rfl) hr.wf, .refl _ _, .own hv (.inl ho)⟩
  · have hwf : WFS { σ with tok := tokApp σ d k (some (b, o + len * sz', l)) } w := by
      refine ⟨hr.wf.inj, fun k' t b' e l' e1 e2 => ?_, fun t t' b' e l1 e' l2 e1 e2 => ?_, hr.wf.lt, fun t b' e l' e1 => ?_, hr.wf.blkI, hr.wf.imm⟩
      · rcases tokApp_cases e2 with ⟨e3, _⟩ | ⟨_, e3⟩
        · exact hr.wf.injt _ _ _ _ _ e1 e3
        · cases e3; exact hr.wf.injt _ _ _ _ _ e1 h7
      · rcases tokApp_cases e1 with ⟨e3, e4⟩ | ⟨e3, e4⟩
        · rcases tokApp_cases e2 with ⟨e5, _⟩ | ⟨e5, e6⟩
          · exact hr.wf.injtt _ _ _ _ _ _ _ e3 e5
          · cases e6
            have := hr.wf.injtt _ _ _ _ _ _ _ e3 h7
            rw [this, appendTok_self hkc h3] at e4; simp at e4
        · rcases tokApp_cases e2 with ⟨e5, e6⟩ | ⟨e5, _⟩
          · cases e4
            have := hr.wf.injtt _ _ _ _ _ _ _ e5 h7
            rw [this, appendTok_self hkc h3] at e6; simp at e6
          · rw [e3, e5]
      · rcases tokApp_cases e1 with ⟨e3, _⟩ | ⟨_, e3⟩
        · exact hr.wf.tokw _ _ _ _ e3
        · cases e3; exact hr.wf.tokw _ _ _ _ h7
    refine ⟨{ σ with tok := tokApp σ d k (some (b, o + len * sz', l)) }, hr.turn (σ' := { σ with tok := tokApp σ d k (some (b, o + len * sz', l)) }) _ (fun _ h => appendTok_isC h) (fun _ _ _ h => h) rfl (fun t x hf h => tokApp_keep hf h) (fun _ _ _ => rfl) hwf, ?_, ?_⟩
    · refine ⟨fun _ _ _ h => h, fun _ _ _ h => .inl h, fun b' hb' => ?_, fun _ _ h => h, fun _ _ _ => rfl, Nat.le_refl _, rfl, rfl, rfl, rfl, fun _ => rfl⟩
      rcases hb' with ⟨k', hb'⟩ | ⟨t, e, l', hb'⟩
      · exact .inl (.inl ⟨k', hb'⟩)
      · rcases tokApp_cases hb' with ⟨e3, _⟩ | ⟨_, e3⟩
        · exact .inl (.inr ⟨t, e, l', e3⟩)
        · cases e3; exact .inl (.inr ⟨k, _, _, h7⟩)
    · exact .own hv (.inr ⟨b, o, sz', l, by simp, h4, h5, h6, by simp [tokApp], h8⟩)

theorem of_does {o : Oper} {c : Cfg} {v : Option AV} {s' : St} (h : Eff.of c.nt s o.dst v = .st s')
    (hv : ∀ u σ a w, v = some u → RelS σ s c.nt a w → ∃ x, (execOp a.eval o).run P w = .ok (.value x) w ∧ Rel σ u x) : Does P c.nt s o s' := by
  unfold Eff.of at h
  split at h
  · split at h
    · rename_i u hd
      simp only [Eff.st.injEq] at h; subst h
      intro σ a w hr
      obtain ⟨x, h1, h2⟩ := hv u σ a w rfl hr
      exact ⟨x, w, σ, .inl h1, hr.put h2 hd, .refl _ _⟩
    · simp at h
  · simp at h

theorem of_aval {o : Oper} {c : Cfg} {s' : St} (h : Eff.of c.nt s o.dst (aval P s o) = .st s') : Does P c.nt s o s' :=
  of_does h fun u σ a w hu hr => aval_run hr hu

theorem of_avalN {o : Oper} {c : Cfg} {s' : St} (h : Eff.of c.nt s o.dst (avalN P s o) = .st s') : Does P c.nt s o s' :=
  of_does h fun u σ a w hu hr => avalN_run hr hu

theorem ofSt_some {x : Option St} {s' : St} (h : Eff.ofSt x = .st s') : x = some s' := by
  cases x with
  | none => simp [Eff.ofSt] at h
  | some y => simp [Eff.ofSt] at h; rw [h]

theorem Eff.of_ne_call {nt : Nat} {d : Option Nat} {v : Option AV} {f : FuncId} {l : List AV} : Eff.of nt s d v ≠ .call f l := by
  unfold Eff.of; repeat' split
  all_goals simp
theorem Eff.of_ne_pan {nt : Nat} {d : Option Nat} {v : Option AV} {u : AV} : Eff.of nt s d v ≠ .pan u := by
  unfold Eff.of; repeat' split
  all_goals simp
theorem Eff.ofSt_ne_call {v : Option St} {f : FuncId} {l : List AV} : Eff.ofSt v ≠ .call f l := by cases v <;> simp [Eff.ofSt]
theorem Eff.ofSt_ne_pan {v : Option St} {u : AV} : Eff.ofSt v ≠ .pan u := by cases v <;> simp [Eff.ofSt]

/-- What changes nothing but its slot. -/
def avalB (P : Program) (s : St) (o : Oper) : Option AV :=
  match o.op with
  | .build t parts => (evParts s parts.toList).bind (abuild P t)
  | _ => aval P s o

theorem avalB_run (hr : RelS σ s nt a w) {o : Oper} {v : AV} (h : avalB P s o = some v) : ∃ x, (execOp a.eval o).run P w = .ok (.value x) w ∧ Rel σ v x := by
  unfold avalB at h
  split at h
  · rename_i t parts hop
    rw [Option.bind_eq_some_iff] at h
    obtain ⟨ps, hps, hu⟩ := h
    have hp := evParts_rel hr hps
    obtain ⟨r, h1, h2⟩ := abuild_run (P := P) (w := w) hu hp
    refine ⟨r, ?_, h2⟩
    unfold execOp; rw [hop]
    refine lift_val ?_
    rw [← h1]
    congr 2
    cases parts; simp
  · exact aval_run hr h

theorem eff_does {c : Cfg} {o : Oper} {s' : St} (h : eff P c s o = .st s') : Does P c.nt s o s' := by
  unfold eff at h
  split at h
  · rename_i x hop
    split at h
    · rename_i rows k d hx hd
      split at h
      · rename_i hc
        simp only [Eff.st.injEq] at h; subst h
        intro σ a w hr
        obtain ⟨σ', h1, h2, h3⟩ := retok (d := d) hr hc.1 (ev_rel hr hx)
        exact ⟨a.eval x, w, σ', .inl (by unfold execOp; rw [hop]; rfl), by rw [hd]; exact h1.put h3 (dst := some d) (by simp [dstOk, hc.2]), h2⟩
      · split at h
        · rename_i hdn
          simp only [Eff.st.injEq] at h; subst h
          intro σ a w hr
          exact ⟨a.eval x, w, σ, .inl (by unfold execOp; rw [hop]; rfl), by rw [hd]; exact hr.put (ev_rel hr hx).plain (dst := some d) (by simp [dstOk, hdn]), .refl _ _⟩
        · simp at h
    · rename_i v hx hne
      refine of_does (v := some v) h (fun u σ a w hu hr => ?_)
      simp only [Option.some.injEq] at hu; subst hu
      exact ⟨a.eval x, by unfold execOp; rw [hop]; rfl, ev_rel hr hx⟩
    · simp at h
  · rename_i t x v hop
    split at h
    · rename_i xv vv hx hv hd
      exact astoreT_does hop hd hx hv (ofSt_some h)
    · simp at h
  · rename_i t hop
    split at h
    · rename_i cs d hz hd
      split at h
      · rename_i hn
        rw [Option.bind_eq_some_iff] at hz
        obtain ⟨z, hz1, hz2⟩ := hz
        exact (alloc_does hop hd hn hz1 hz2 (ofSt_some h)).kill
      · simp at h
    · simp at h
  · rename_i t x hop
    split at h
    · rename_i d hd
      split at h
      · rename_i cs hz
        split at h
        · rename_i hn
          rw [Option.bind_eq_some_iff] at hz
          obtain ⟨z, hz1, hz2⟩ := hz
          exact (box_does hop hd hn hz1 hz2 (ofSt_some h)).kill
        · simp at h
      · simp at h
    · simp at h
  · rename_i t parts hop
    split at h
    · rename_i ps hps
      refine of_does h (fun u σ a w hu hr => ?_)
      have hp := evParts_rel hr hps
      obtain ⟨r, h1, h2⟩ := abuild_run (P := P) (w := w) hu hp
      refine ⟨r, ?_, h2⟩
      unfold execOp; rw [hop]
      refine lift_val ?_
      rw [← h1]
      congr 2
      cases parts; simp
    · simp at h
  · rename_i t len parts hop
    split at h
    · rename_i ps hps
      unfold Eff.of at h
      split at h
      · rename_i v hv
        split at h
        · rename_i hd
          simp only [Eff.st.injEq] at h; subst h
          rw [Option.map_eq_some_iff] at hv
          obtain ⟨rows, hrows, rfl⟩ := hv
          intro σ a w hr
          obtain ⟨c', e, g1, g2, g3, g4, g5⟩ := abuildSlice_run (P := P) hr hrows (evParts_rel hr hps)
          refine ⟨_, _, _, .inl ?_, g2.put (.own g4 (.inl rfl)) hd, g3⟩
          unfold execOp; rw [hop]
          show (do pure (Next.value (← Instr.buildSlice t len (parts.map fun x => (x.1, a.eval x.2)))) : Sem Next).run P w = _
          rw [Sem.run_bind, show (parts.map fun x => (x.1, a.eval x.2)) = (parts.toList.map fun x => (x.1, a.eval x.2)).toArray by cases parts; simp, g1]
          rfl
        · simp at h
      · simp at h
    · simp at h
  · rename_i t hop
    split at h
    · rename_i d hd
      split at h
      · rename_i hn
        simp only [Eff.st.injEq] at h; subst h
        exact makeMap_does hop hd hn
      · simp at h
    · simp at h
  · rename_i t m k v hop
    split at h
    · rename_i mv kv vv hm hk hv hd
      exact aupdate_does (.inl hop) hd hm hk hv (ofSt_some h)
    · simp at h
  · rename_i t m k v hop
    split at h
    · rename_i mv kv vv hm hk hv hd
      exact aupdate_does (.inr hop) hd hm hk hv (ofSt_some h)
    · simp at h
  · split at h <;> simp at h
  · rename_i t l m hop
    split at h
    · rename_i k n d hl hd
      split at h
      · rename_i hc
        obtain ⟨k', hm⟩ := sameOp_ev hc.1 hl
        exact amake_does hop hd hc.2 hl hm (ofSt_some h)
      · simp at h
    · simp at h
  · rename_i cl hop
    obtain ⟨callee, args, ats⟩ := cl
    simp only at h
    split at h
    · rename_i _ b x sT xT ha ht
      have hargs : args = #[b, x] := by rw [← Array.toList_inj]; exact ha
      have hats : ats = #[sT, xT] := by rw [← Array.toList_inj]; exact ht
      subst hargs; subst hats
      split at h
      · rename_i bv xv d hb hx hd
        split at h
        · rename_i hn
          split at h
          · exact aappendF_does hop hd hn hb hx (ofSt_some h)
          · split at h
            · rename_i r hr
              simp only [Eff.st.injEq] at h; subst h
              exact aappend_does hop hd hn hb hx hr
            · exact aappendT_does hop hd hn hb (ofSt_some h)
        · simp at h
      · simp at h
    · rename_i _ x y sT xT ha ht
      have hargs : args = #[x, y] := by rw [← Array.toList_inj]; exact ha
      have hats : ats = #[sT, xT] := by rw [← Array.toList_inj]; exact ht
      subst hargs; subst hats
      split at h
      · rename_i xv yv hx hy
        split at h
        · rename_i hd
          split at h
          · rename_i r hr
            simp only [Eff.st.injEq] at h; subst h
            exact acopy_does hop hd hx hy hr
          · simp at h
        · simp at h
      · simp at h
    · rename_i _ x t ha ht
      have hargs : args = #[x] := by rw [← Array.toList_inj]; exact ha
      have hats : ats = #[t] := by rw [← Array.toList_inj]; exact ht
      subst hargs; subst hats
      split at h
      · rename_i xv hx
        split at h
        · rename_i hd
          split at h
          · rename_i s1 hr
            simp only [Eff.st.injEq] at h; subst h
            exact aclear_does hop hd hx hr
          · simp at h
        · simp at h
      · simp at h
    · split at h
      · split at h <;> simp at h
      · simp at h
    · exact of_aval h
  · exact of_avalN h
end
end Go.Abs
