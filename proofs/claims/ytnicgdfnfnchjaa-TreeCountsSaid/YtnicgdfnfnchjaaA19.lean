/-
  Entering a function and leaving it.
-/
import Derived.Test.YtnicgdfnfnchjaaA18
set_option linter.unusedVariables false
namespace Go.Abs

def Sg.cut (m : Nat) (σ : Sg) : Sg where
  I := σ.I
  blk := fun k => match k with | .g id => if id < m then σ.blk (.g id) else none | .l _ => none
  tok := fun t => match t with | .c (.g id) _ => if id < m then σ.tok t else none | _ => none

def keym (m : Nat) : Key → Bool
  | .g id => decide (id < m)
  | .l _ => false

def tokm (m : Nat) : Tok → Bool
  | .c (.g id) _ => decide (id < m)
  | _ => false

def Blk.okm (m : Nat) : Blk → Bool
  | .cells cs => AV.chks (keym m) (fun _ => true) cs
  | .map es _ => es.all fun e => e.2.1.chk (keym m) (fun _ => true)
  | .dead => true

def aresult (P : Program) (s : St) : ResultVar → Option AV
  | .tmp t => (get s.ts t).map AV.strip
  | .cell a t => (((get s.ts a).bind (cellsAt s)).bind (aload P t)).map AV.strip

def aresults (P : Program) (s : St) : List ResultVar → Option (List AV)
  | [] => some []
  | r :: l => match aresult P s r, aresults P s l with
    | some v, some vs => some (v :: vs)
    | _, _ => none

def ares (P : Program) (fn : Func) (s : St) : Option AV :=
  match aresults P s fn.results.toList with
  | some [v] => some v
  | some l => some (.tuple l)
  | none => none

def cutOk (m : Nat) (G : List Blk) (v : AV) : Bool := (G.take m).all (Blk.okm m) && v.chk (keym m) (fun _ => false)

def leaveQ (P : Program) (fn : Func) (m : Nat) (R : AEnd → List Blk → Prop) : AExit → St → Prop
  | .normal, s | .ret, s => match ares P fn s with
    | some v => cutOk m s.G v = true ∧ R (.ret v) (s.G.take m)
    | none => False
  | .panic v, s => cutOk m s.G v = true ∧ R (.panic v) (s.G.take m)
  | _, _ => False

section
variable {P : Program} {σ σ' : Sg} {s : St} {nt : Nat} {a : Act} {w w' : World}

theorem cut_tok {m : Nat} {t : Tok} {x} (h : (σ.cut m).tok t = some x) : tokm m t = true ∧ σ.tok t = some x := by
  unfold Sg.cut at h
  simp only at h
  split at h
  · rename_i id o
    split at h
    · rename_i hlt; exact ⟨by simp [tokm, hlt], h⟩
    · simp at h
  · simp at h

theorem tok_cut {m : Nat} {t : Tok} {x} (ht : tokm m t = true) (h : σ.tok t = some x) : (σ.cut m).tok t = some x := by
  cases t with
  | c k o =>
    cases k with
    | g id => simp only [tokm, decide_eq_true_eq] at ht; simp [Sg.cut, ht, h]
    | l t => simp [tokm] at ht
  | s t => simp [tokm] at ht
  | n => simp [tokm] at ht

theorem cut_blk {m : Nat} {k : Key} {b : Nat} (h : (σ.cut m).blk k = some b) : keym m k = true ∧ σ.blk k = some b := by
  cases k with
  | g id =>
    simp only [Sg.cut] at h
    split at h
    · rename_i hlt; exact ⟨by simp [keym, hlt], h⟩
    · simp at h
  | l t => simp [Sg.cut] at h

theorem blk_cut {m : Nat} {k : Key} {b : Nat} (hk : keym m k = true) (h : σ.blk k = some b) : (σ.cut m).blk k = some b := by
  cases k with
  | g id => simp only [keym, decide_eq_true_eq] at hk; simp [Sg.cut, hk, h]
  | l t => simp [keym] at hk

theorem cut_owns {m b : Nat} (h : (σ.cut m).Owns b) : σ.Owns b := by
  rcases h with ⟨k, h⟩ | ⟨t, e, l, h⟩
  · exact .inl ⟨k, (cut_blk h).2⟩
  · exact .inr ⟨t, e, l, (cut_tok h).2⟩

theorem WFS.cut (m : Nat) (h : WFS σ w) : WFS (σ.cut m) w :=
  ⟨fun k k' b h1 h2 => h.inj _ _ _ (cut_blk h1).2 (cut_blk h2).2, fun k t b e l h1 h2 => h.injt _ _ _ _ _ (cut_blk h1).2 (cut_tok h2).2,
    fun t t' b e l e' l' h1 h2 => h.injtt _ _ _ _ _ _ _ (cut_tok h1).2 (cut_tok h2).2, fun k b h1 => h.lt _ _ (cut_blk h1).2, fun t b e l h1 => h.tokw _ _ _ _ (cut_tok h1).2,
    fun k b o h1 => h.blkI _ _ _ (cut_blk h1).2, h.imm⟩

theorem Rel.cut {m : Nat} {v : AV} {x : Value} {g : Tok → Bool} (h : Rel σ v x) (hv : v.chk (keym m) g = true) (hg : ∀ t, g t = true → tokm m t = true) : Rel (σ.cut m) v x :=
  Rel.keep (σ := σ) (σ' := σ.cut m) (fun _ _ _ h => h) (fun k b hk hb => blk_cut hk hb) (fun t x ht h => tok_cut (hg t ht) h) h hv

/-- Out of a function. -/
theorem RelS.leave (hr : RelS σ s nt a w) {m : Nat} (hm : (s.G.take m).all (Blk.okm m) = true) :
    RelS (σ.cut m) (.args [] (s.G.take m)) 0 { tmps := #[], defers := [] } w := by
  have hG : ∀ {k : Key} {blk : Blk}, (St.args [] (s.G.take m)).look k = some blk → ∃ id, k = .g id ∧ id < m ∧ s.G[id]? = some blk ∧ blk.okm m = true := fun {k blk} h => by
    cases k with
    | g id =>
      have h : (s.G.take m)[id]? = some blk := h
      have hmem := List.mem_of_getElem? h
      rw [List.getElem?_take] at h
      split at h
      · rename_i hlt; exact ⟨id, rfl, hlt, h, List.all_eq_true.1 hm _ hmem⟩
      · simp at h
    | l t => simp [St.look, St.args, get] at h
  refine ⟨rfl, rfl, fun t x h => by simp [St.args, zipTs, get] at h, fun k blk h => ?_, fun k blk h => ?_, fun id h => ?_, fun t h => rfl, hr.wf.cut m⟩
  · obtain ⟨id, rfl, hlt, h1, h2⟩ := hG h
    obtain ⟨b, q1, q2⟩ := hr.blks (.g id) blk h1
    have hi := hr.cinv (.g id) blk h1
    refine ⟨b, blk_cut (by simp [keym, hlt]) q1, ?_⟩
    cases blk with
    | cells cs =>
      obtain ⟨c, T, g1, g2, g3⟩ := q2
      refine ⟨c, T, g1, g2, fun j x hj => ?_⟩
      have hx := AV.chks_get (show AV.chks (keym m) (fun _ => true) cs = true from h2) hj
      exact (g3 j x hj).cut (g := fun t => t == .c (.g id) j) (chk_imp (f := fun k => keym m k && keyf (.g id) k) (g := fun t => true && (t == .c (.g id) j)) (fun k hk => by simp at hk; exact hk.1) (fun t ht => by simpa using ht) _ (chk_and _ hx (hi j x hj)))
        (fun t ht => by simp at ht; subst ht; simp [tokm, hlt])
    | map es cl =>
      obtain ⟨c, g1, g2, g3⟩ := q2
      refine ⟨c, g1, g2, fun j k v n hj => ⟨(g3 j k v n hj).1, ?_, (g3 j k v n hj).2.2⟩⟩
      have hx := List.all_eq_true.1 (show es.all (fun e => e.2.1.chk (keym m) (fun _ => true)) = true from h2) _ (List.mem_of_getElem? hj)
      exact (g3 j k v n hj).2.1.cut (g := fun _ => false) (chk_imp (f := fun q => keym m q && keyf (.g id) q) (g := fun t => true && false) (fun k hk => by simp at hk; exact hk.1) (fun t ht => by simp at ht) _ (chk_and _ hx (hi j _ hj))) (fun t ht => by simp at ht)
    | dead => trivial
  · obtain ⟨id, rfl, hlt, h1, h2⟩ := hG h
    exact hr.cinv (.g id) blk h1
  · have h : (s.G.take m).length ≤ id := h
    simp only [Sg.cut]
    split
    · rename_i hlt
      rw [List.length_take] at h
      exact hr.gfree id (by omega)
    · rfl

theorem Post.cut {σ0 : Sg} {w0 : World} (hp : Post σ0 σ w0 w) {m : Nat} (hD : [] = σ0.D) (h0 : ∀ id b, σ0.blk (.g id) = some b → id < m) : Post σ0 (σ.cut m) w0 w :=
  ⟨hp.I, hp.In, fun b hb => hp.own b (cut_owns hb), fun id b h => blk_cut (by simp [keym, h0 _ _ h]) (hp.keys _ _ h), hp.frame, hp.size, hp.os, hp.tape, hp.output, hD, hp.fz⟩

theorem aresult_run (hr : RelS σ s nt a w) {r : ResultVar} {v : AV} (h : aresult P s r = some v) :
    ∃ x, (match r with | .tmp t => pure (a.tmps.getD t undef) | .cell q t => do loadVar t (← asAddr (a.tmps.getD q undef)) : Sem Value).run P w = .ok x w ∧ Rel σ v x := by
  cases r with
  | tmp t =>
    simp only [aresult, Option.map_eq_some_iff] at h
    obtain ⟨u, hu, rfl⟩ := h
    exact ⟨_, rfl, (hr.vals _ _ hu).2.strip⟩
  | cell q t =>
    simp only [aresult, Option.map_eq_some_iff, Option.bind_eq_some_iff] at h
    obtain ⟨v0, ⟨cs, ⟨u, hu, hc⟩, hl⟩, rfl⟩ := h
    obtain ⟨x, h1, h2⟩ := aload_run hl (cellsAt_rel hr (hr.vals _ _ hu).2 hc)
    refine ⟨x, ?_, h2.strip⟩
    obtain ⟨b, o, he, -⟩ := cellsAt_rel hr (hr.vals _ _ hu).2 hc
    rw [he] at h1
    simp only [he]
    simpa [Instr.loadAt, Instr.sureAddr, asAddr] using h1

theorem aresults_run (hr : RelS σ s nt a w) : ∀ {rs : List ResultVar} {l : List AV}, aresults P s rs = some l →
    ∃ xs, (rs.mapM (fun r => (match r with | .tmp t => pure (a.tmps.getD t undef) | .cell q t => do loadVar t (← asAddr (a.tmps.getD q undef)) : Sem Value))).run P w = .ok xs w ∧ xs.length = l.length ∧ ∀ (i : Nat) (v : AV), l[i]? = some v → Rel σ v (xs.toArray.getD i undef)
  | [], l, h => by simp [aresults] at h; subst h; exact ⟨[], rfl, rfl, by simp⟩
  | r :: rs, l, h => by
    simp only [aresults] at h
    split at h
    · rename_i v vs hv hvs
      simp only [Option.some.injEq] at h; subst h
      obtain ⟨x, h1, h2⟩ := aresult_run hr hv
      obtain ⟨xs, g1, g2, g3⟩ := aresults_run hr hvs
      refine ⟨x :: xs, ?_, by simp [g2], fun i u hu => ?_⟩
      · rw [List.mapM_cons]
        simp only [Sem.run_bind]
        rw [h1]
        simp only [Result.andThen_ok]
        rw [g1]
        rfl
      · cases i with
        | zero => simp at hu; subst hu; simpa using h2
        | succ i => simpa [Array.getD_eq_getD_getElem?] using g3 i u (by simpa using hu)
    · simp at h

theorem ares_run (hr : RelS σ s nt a w) {fn : Func} {v : AV} (h : ares P fn s = some v) : ∃ x, (results fn a.tmps).run P w = .ok x w ∧ Rel σ v x := by
  unfold ares at h
  have key : ∀ l, aresults P s fn.results.toList = some l → ∃ xs : Array Value, (fn.results.mapM (fun r => (match r with | .tmp t => pure (a.tmps.getD t undef) | .cell q t => do loadVar t (← asAddr (a.tmps.getD q undef)) : Sem Value))).run P w = .ok xs w ∧ xs.size = l.length ∧ ∀ (i : Nat) (v : AV), l[i]? = some v → Rel σ v (xs.getD i undef) := by
    intro l hl
    obtain ⟨xs, h1, h2, h3⟩ := aresults_run hr hl
    refine ⟨xs.toArray, ?_, by simpa using h2, h3⟩
    rw [Array.mapM_eq_mapM_toList, Sem.run_map, h1]
    rfl
  have res : ∀ xs : Array Value, (fn.results.mapM (fun r => (match r with | .tmp t => pure (a.tmps.getD t undef) | .cell q t => do loadVar t (← asAddr (a.tmps.getD q undef)) : Sem Value))).run P w = .ok xs w →
      (results fn a.tmps).run P w = .ok (if h : xs.size = 1 then xs[0] else .tuple xs) w := fun xs hx => by
    have : results fn a.tmps = (do
      let vs ← fn.results.mapM (fun r => (match r with | .tmp t => pure (a.tmps.getD t undef) | .cell q t => do loadVar t (← asAddr (a.tmps.getD q undef)) : Sem Value))
      pure (if h : vs.size = 1 then vs[0] else .tuple vs)) := rfl
    rw [this, Sem.run_bind, hx]
    rfl
  split at h
  · rename_i u hl
    simp only [Option.some.injEq] at h; subst h
    obtain ⟨xs, h1, h2, h3⟩ := key _ hl
    refine ⟨_, res xs h1, ?_⟩
    have h2 : xs.size = 1 := h2
    rw [dif_pos h2]
    have := h3 0 _ rfl
    simpa [Array.getD_eq_getD_getElem?, h2] using this
  · rename_i l hne hl
    simp only [Option.some.injEq] at h; subst h
    obtain ⟨xs, h1, h2, h3⟩ := key _ hl
    refine ⟨_, res xs h1, ?_⟩
    have : xs.size ≠ 1 := fun e => by
      rw [e] at h2
      match l, h2 with
      | [u], _ => exact hne u rfl
    rw [dif_neg this]
    exact .tuple h2 h3
  · simp at h

theorem chk_free {m : Nat} {v : AV} (h : v.chk (keym m) (fun _ => false) = true) : v.free = true :=
  chk_imp (fun k hk => by cases k <;> simp_all [keym, keyf]) (fun t h => h) v h

/-- A function by its text. -/
theorem acalls_enter {f : FuncId} {fn : Func} {c : Code} {args : List AV} {G : List Blk} {R : AEnd → List Blk → Prop} (m : Nat) (hf : P.funcs[f]? = some fn) (hb : fn.body = some c) (hn : (fn.name == "runtime.NumGoroutine") = false)
    (ha : args.length ≤ fn.ntmps) (hm : G.length ≤ m) (h : AWp P fn.ntmps c (leaveQ P fn m R) (.args args G)) : ACalls P f args G R := by
  refine ⟨fun args' w => ?_, fun σ args' w hr hk ht => ?_⟩
  · unfold callFunc
    have hn' : fn.name ≠ "runtime.NumGoroutine" := by simpa using hn
    simp [hf, hn', hb]
  · refine calls_of_wp hf hb ?_
    have hsz : args'.size = args.length := hr.sz
    have hr' : RelS σ (.args args G) fn.ntmps { tmps := args' ++ Array.replicate (fn.ntmps - args'.size) undef, defers := [] } w := by
      refine ⟨by simp [hsz]; omega, hr.df, fun t x h => ?_, hr.blks, hr.cinv, hr.gfree, hr.lfree, hr.wf⟩
      obtain ⟨h1, h2⟩ := hr.vals _ _ h
      have h1 : t < args'.size := by rw [hsz]; exact h1
      refine ⟨by omega, ?_⟩
      simpa [Array.getD_eq_getD_getElem?, Array.getElem?_append, h1] using h2
    have h0 : ∀ id b, σ.blk (.g id) = some b → id < m := fun id b h => by
      by_cases hid : G.length ≤ id
      · have := hr.gfree id hid
        rw [h] at this; simp at this
      · omega
    refine wp_mono (h σ _ w hr') ?_
    rintro e a' w' ⟨x, s', σ', hx, hs, hp, hq⟩
    have fin : ∀ {v : AV} {y : Value} (r : AEnd) (e : Ending), Rel σ' v y → cutOk m s'.G v = true → (∀ τ : Sg, Rel τ v y → v.free = true → RelR τ r e) → R r (s'.G.take m) →
        ∃ r G' τ, RelR τ r e ∧ RelS τ (.args [] G') 0 { tmps := #[], defers := [] } w' ∧ (∀ k b, τ.blk k = some b → ∃ id, k = .g id) ∧ (∀ t x, τ.tok t = some x → isCG t = true) ∧ Post σ τ w w' ∧ R r G' := by
      intro v y r e hv hc hR hq
      simp only [cutOk, Bool.and_eq_true] at hc
      refine ⟨r, _, σ'.cut m, hR _ (hv.cut hc.2 (fun t h => by simp at h)) (chk_free hc.2), hs.leave hc.1, fun k b h => ?_, fun t x h => ?_, hp.cut hr.df h0, hq⟩
      · cases k with
        | g id => exact ⟨id, rfl⟩
        | l t => simp [Sg.cut] at h
      · have := (cut_tok h).1
        cases t with
        | c k o => cases k <;> simp_all [tokm, isCG]
        | s t => simp [tokm] at this
        | n => simp [tokm] at this
    cases hx with
    | normal =>
      simp only [leaveQ] at hq
      split at hq
      · rename_i v hv
        obtain ⟨y, h1, h2⟩ := ares_run hs hv
        exact ⟨hs.df.trans (hp.D.trans hr.df.symm), y, h1, fin (.ret v) _ h2 hq.1 (fun _ h1 h2 => .ret h1 h2) hq.2⟩
      · exact hq.elim
    | ret =>
      simp only [leaveQ] at hq
      split at hq
      · rename_i v hv
        obtain ⟨y, h1, h2⟩ := ares_run hs hv
        exact ⟨hs.df.trans (hp.D.trans hr.df.symm), y, h1, fin (.ret v) _ h2 hq.1 (fun _ h1 h2 => .ret h1 h2) hq.2⟩
      · exact hq.elim
    | panic hv => exact ⟨hs.df.trans (hp.D.trans hr.df.symm), fin (.panic _) _ hv hq.1 (fun _ h1 h2 => .panic h1 h2) hq.2⟩
    | exit id => exact hq.elim
    | goto l => exact hq.elim
end
end Go.Abs
