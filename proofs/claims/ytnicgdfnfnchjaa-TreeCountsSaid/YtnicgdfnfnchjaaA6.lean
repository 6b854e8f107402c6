/-
  All operations that only read: the model's run comes to what 'aval' says.
-/
import Derived.Test.YtnicgdfnfnchjaaA5
set_option linter.unusedVariables false
namespace Go.Abs

section
variable {P : Program} {σ : Sg} {s : St} {nt : Nat} {a : Act} {w : World}

theorem lift_val {m : Sem Value} {x : Value} {w : World} (h : m.run P w = .ok x w) : (do pure (Next.value (← m)) : Sem Next).run P w = .ok (.value x) w := by
  rw [Sem.run_bind, h]; rfl

theorem opt_none : OptRel σ none none := .none

theorem bool_inv {b : Bool} {x : Value} (h : Rel σ (.p (.bool b)) x) : x = .bool b := by
  cases h with | p h =>
  cases h; rfl

theorem aassert_run {t : TypeId} {ok : Bool} {u v : AV} {y : Value} (h : aassert P t ok u = some v) (hy : Rel σ u y) (xt : TypeId) : ∃ r, (Instr.typeAssert y xt t ok).run P w = .ok r w ∧ Rel σ v r := by
  unfold aassert at h
  split at h
  · cases h
  · cases h
  · rename_i d hd' hd
    have fails : (azero P t).map (fun z => AV.tuple [z, .p (.bool false)]) = some v → ok = true → ∃ r, (do pure (Value.tuple #[← zeroValue t, .bool false]) : Sem Value).run P w = .ok r w ∧ Rel σ v r := fun h _ => by
      rw [Option.map_eq_some_iff] at h
      obtain ⟨z, hz, rfl⟩ := h
      obtain ⟨z', h1, h2⟩ := azero_run (σ := σ) (w := w) hz
      refine ⟨.tuple #[z', .bool false], ?_, .tuple rfl fun i x hx => ?_⟩
      · rw [Sem.run_bind, h1]; rfl
      · match i with
        | 0 => simp at hx; subst hx; exact h2
        | 1 => simp at hx; subst hx; exact .p (.bool false)
        | i + 2 => simp at hx
    split at h
    · split at h
      · rename_i hok
        subst hok
        cases hy with | p hy =>
        cases hy
        obtain ⟨r, h1, h2⟩ := fails h rfl
        refine ⟨r, ?_, h2⟩
        rw [← h1]
        simp only [Instr.typeAssert, Sem.run_bind, run_underlying hd, Result.andThen_ok]
        cases d <;> first | exact (hd' _ rfl).elim | rfl | (simp; done)
      · cases h
    · rename_i t' u'
      cases hy with | iface hy =>
      rename_i y'
      split at h
      · rename_i ht
        simp only [Option.some.injEq] at h; subst h
        subst ht
        cases ok with
        | true =>
          refine ⟨.tuple #[y', .bool true], ?_, .tuple rfl fun i x hx => ?_⟩
          · simp only [Instr.typeAssert, Sem.run_bind, run_underlying hd, Result.andThen_ok]
            cases d <;> first | exact (hd' _ rfl).elim | (simp; done) | rfl
          · match i with
            | 0 => simp at hx; subst hx; exact hy
            | 1 => simp at hx; subst hx; exact .p (.bool true)
            | i + 2 => simp at hx
        | false =>
          refine ⟨y', ?_, hy⟩
          simp only [Instr.typeAssert, Sem.run_bind, run_underlying hd, Result.andThen_ok]
          cases d <;> first | exact (hd' _ rfl).elim | (simp; done) | rfl
      · rename_i ht
        split at h
        · rename_i hok
          subst hok
          obtain ⟨r, h1, h2⟩ := fails h rfl
          refine ⟨r, ?_, h2⟩
          rw [← h1]
          simp only [Instr.typeAssert, Sem.run_bind, run_underlying hd, Result.andThen_ok]
          cases d <;> first | exact (hd' _ rfl).elim | (simp [ht]; done)
        · cases h
    · cases h

theorem aval_run (hr : RelS σ s nt a w) {o : Oper} {v : AV} (h : aval P s o = some v) : ∃ x, (execOp a.eval o).run P w = .ok (.value x) w ∧ Rel σ v x := by
  obtain ⟨dst, op, type, pos, after, guard⟩ := o
  have lv : ∀ (m : Sem Value), (∃ r, m.run P w = .ok r w ∧ Rel σ v r) → ∃ x, (do pure (Next.value (← m)) : Sem Next).run P w = .ok (.value x) w ∧ Rel σ v x :=
    fun m ⟨r, h1, h2⟩ => ⟨r, lift_val h1, h2⟩
  cases op <;> simp only [aval] at h
  case move x => exact ⟨_, rfl, ev_rel hr h⟩
  case assign x => exact ⟨_, rfl, ev_rel hr h⟩
  case pick c x y =>
    split at h
    · rename_i hc
      exact ⟨a.eval x, by simp only [execOp, bool_inv (ev_rel hr hc), asBool]; rfl, ev_rel hr h⟩
    · rename_i hc
      exact ⟨a.eval y, by simp only [execOp, bool_inv (ev_rel hr hc), asBool]; rfl, ev_rel hr h⟩
    · simp at h
  case load t x =>
    rw [Option.bind_eq_some_iff] at h
    obtain ⟨l, hl, h⟩ := h
    rw [Option.bind_eq_some_iff] at hl
    obtain ⟨u, hu, hl⟩ := hl
    exact lv _ (aload_run h (cellsAt_rel hr (ev_rel hr hu) hl))
  case fieldAddr st x f =>
    rw [Option.bind_eq_some_iff] at h
    obtain ⟨u, hu, h⟩ := h
    exact lv _ (afield_run h (ev_rel hr hu))
  case indexAddr t x i =>
    split at h
    · rename_i u k n hu hn
      have hi := int_inv (ev_rel hr hn)
      exact lv _ (by show ∃ r, (Instr.indexAt t (a.eval x) (a.eval i)).run P w = _ ∧ _; rw [hi]; exact aindex_run h (ev_rel hr hu) k)
    · simp at h
  case nilCheck x =>
    rw [Option.bind_eq_some_iff] at h
    obtain ⟨u, hu, h⟩ := h
    exact ⟨_, anil_run h (ev_rel hr hu) _ x a.eval rfl rfl⟩
  case lookup t m i ok =>
    split at h
    · rename_i u k hu hk
      exact lv _ (alookup_run hr h (ev_rel hr hu) (ev_rel hr hk))
    · simp at h
  case binOp op t x y yt =>
    split at h
    · rename_i u k hu hk
      exact lv _ (abin_run h (ev_rel hr hu) (ev_rel hr hk) x y w)
    · simp at h
  case unOp op t x =>
    rw [Option.bind_eq_some_iff] at h
    obtain ⟨u, hu, h⟩ := h
    exact lv _ (aun_run h (ev_rel hr hu) w)
  case convert src dst x =>
    rw [Option.bind_eq_some_iff] at h
    obtain ⟨u, hu, h⟩ := h
    exact lv _ (aconv_run h (ev_rel hr hu))
  case extract x i =>
    split at h
    · rename_i l hl
      rw [Option.map_eq_some_iff] at h
      obtain ⟨u, hu, rfl⟩ := h
      have hx := ev_rel hr hl
      generalize hy : a.eval x = y at hx
      cases hx with | tuple h1 h2 =>
      rename_i l'
      have hlt : i < l'.size := by rw [h1]; exact (List.getElem?_eq_some_iff.1 hu).1
      refine lv _ ⟨l'.getD i undef, ?_, (h2 i u hu).ld⟩
      simp [hy, Instr.extract, hlt]
    · simp at h
  case makeInterface t x =>
    split at h
    · simp at h
    · simp at h
    · rename_i d hn1 hn2
      rw [Option.map_eq_some_iff] at h
      obtain ⟨u, hu, rfl⟩ := h
      cases hd : P.underlying t with
      | none => exact absurd hd hn2
      | some d =>
        refine lv _ ⟨.iface t (a.eval x), ?_, .iface (ev_rel hr hu).plain⟩
        simp only [Instr.makeInterface, Sem.run_bind, run_underlying hd, Result.andThen_ok]
        cases d <;> first | rfl | exact absurd hd (hn1 _)
  case makeFunc fn first caps =>
    cases fn <;> simp only [reduceCtorEq] at h
    split at h
    · rename_i l m hl hm
      simp only [Option.some.injEq] at h; subst h
      obtain ⟨h1, h2⟩ := evs_rel hr hl
      obtain ⟨h3, h4⟩ := evs_rel hr hm
      refine lv _ ⟨_, rfl, .fn (by simpa using h1) (by simpa using h3) (fun i x hx => ?_) (fun i x hx => ?_)⟩
      · have := h2 i x hx
        simpa [Array.getD_eq_getD_getElem?] using this
      · have := h4 i x hx
        simpa [Array.getD_eq_getD_getElem?] using this
    · simp at h
  case typeAssert x xt t ok =>
    rw [Option.bind_eq_some_iff] at h
    obtain ⟨u, hu, h⟩ := h
    exact lv _ (aassert_run h (ev_rel hr hu) xt)
  case slice t x lo hi mx =>
    rw [Option.bind_eq_some_iff] at h
    obtain ⟨u, hu, h⟩ := h
    split at h
    · exact lv _ (aslice_run h (ev_rel hr hu) .none .none .none)
    · rw [Option.bind_eq_some_iff] at h
      obtain ⟨l, hl, h⟩ := h
      exact lv _ (aslice_run h (ev_rel hr hu) (.some (ev_rel hr hl)) .none .none)
    · rw [Option.bind_eq_some_iff] at h
      obtain ⟨l, hl, h⟩ := h
      exact lv _ (aslice_run h (ev_rel hr hu) .none (.some (ev_rel hr hl)) .none)
    · rw [Option.bind_eq_some_iff] at h
      obtain ⟨l, hl, h⟩ := h
      rw [Option.bind_eq_some_iff] at h
      obtain ⟨m, hm, h⟩ := h
      exact lv _ (aslice_run h (ev_rel hr hu) .none (.some (ev_rel hr hl)) (.some (ev_rel hr hm)))
    · simp at h
  case call c =>
    obtain ⟨callee, args, ats⟩ := c
    simp only at h
    split at h
    · rename_i _ x h2
      have hargs : args = #[x] := by rw [← Array.toList_inj]; exact h2
      subst hargs
      split at h
      · rename_i t ht
        rw [Option.bind_eq_some_iff] at h
        obtain ⟨u, hu, h⟩ := h
        show ∃ y, (do pure (Next.value (← Builtin.len_ ats type ((#[x] : Array Operand).map a.eval))) : Sem Next).run P w = _ ∧ _
        rw [show (#[x] : Array Operand).map a.eval = #[a.eval x] by simp]
        exact lv _ (alen_run h (ev_rel hr hu) ats ht)
      · simp at h
    · rename_i _ x y h2
      have hargs : args = #[x, y] := by rw [← Array.toList_inj]; exact h2
      subst hargs
      split at h
      · rename_i u k hu hk
        show ∃ r, (do pure (Next.value (← Builtin.min_ ats type ((#[x, y] : Array Operand).map a.eval))) : Sem Next).run P w = _ ∧ _
        rw [show (#[x, y] : Array Operand).map a.eval = #[a.eval x, a.eval y] by simp]
        exact lv _ (by simpa using aminmax_run (P := P) (w := w) h (ev_rel hr hu) (ev_rel hr hk) ats type)
      · simp at h
    · rename_i _ x y h2
      have hargs : args = #[x, y] := by rw [← Array.toList_inj]; exact h2
      subst hargs
      split at h
      · rename_i u k hu hk
        show ∃ r, (do pure (Next.value (← Builtin.max_ ats type ((#[x, y] : Array Operand).map a.eval))) : Sem Next).run P w = _ ∧ _
        rw [show (#[x, y] : Array Operand).map a.eval = #[a.eval x, a.eval y] by simp]
        exact lv _ (by simpa using aminmax_run (P := P) (w := w) h (ev_rel hr hu) (ev_rel hr hk) ats type)
      · simp at h
    · simp at h
  all_goals simp at h
end
end Go.Abs
