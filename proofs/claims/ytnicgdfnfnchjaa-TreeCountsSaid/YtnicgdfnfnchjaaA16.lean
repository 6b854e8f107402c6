/-
  Contracts of functions over the abstract state; a call by its contract.
-/
import Derived.Test.YtnicgdfnfnchjaaB4
set_option linter.unusedVariables false
namespace Go.Abs

inductive AEnd where
  | ret (v : AV)
  | panic (v : AV)

/-- Data, or places of the heap alone; nobody's to append to. -/
def AV.free (v : AV) : Bool := v.chk (keyf (.g 0)) (fun _ => false)

inductive RelR (σ : Sg) : AEnd → Ending → Prop where
  | ret {v : AV} {x : Value} (h : Rel σ v x) (hv : v.free = true) : RelR σ (.ret v) (.returned x)
  | panic {v : AV} {x : Value} (h : Rel σ v x) (hv : v.free = true) : RelR σ (.panic v) (.panicked [{ v := x, recovered := false }])

def zipTs : Nat → List AV → TS
  | _, [] => []
  | i, v :: r => (i, v) :: zipTs (i + 1) r

def St.args (args : List AV) (G : List Blk) : St := { ts := zipTs 0 args, L := [], G := G }

/-- What is known of a call: its arguments are data or places of the heap G. -/
def ACalls (P : Program) (f : FuncId) (args : List AV) (G : List Blk) (R : AEnd → List Blk → Prop) : Prop :=
  (∀ args' w, (callFunc f args').run P w = .ok (.enter f args') w) ∧
  ∀ σ args' w, RelS σ (.args args G) args.length { tmps := args', defers := [] } w → (∀ k b, σ.blk k = some b → ∃ id, k = .g id) → (∀ t x, σ.tok t = some x → isCG t = true) →
    Calls P f args' w fun e w' => ∃ r G' σ', RelR σ' r e ∧ RelS σ' (.args [] G') 0 { tmps := #[], defers := [] } w' ∧ (∀ k b, σ'.blk k = some b → ∃ id, k = .g id) ∧ (∀ t x, σ'.tok t = some x → isCG t = true) ∧ Post σ σ' w w' ∧ R r G'

theorem ACalls.mono {P : Program} {f : FuncId} {args : List AV} {G : List Blk} {R R' : AEnd → List Blk → Prop} (h : ACalls P f args G R) (hR : ∀ r G', R r G' → R' r G') : ACalls P f args G R' :=
  ⟨h.1, fun σ args' w h1 h2 h3 => (h.2 σ args' w h1 h2 h3).mono fun e w' ⟨r, G', σ', q1, q2, q3, q4, q5, q6⟩ => ⟨r, G', σ', q1, q2, q3, q4, q5, hR _ _ q6⟩⟩

theorem get_zipTs : ∀ (args : List AV) (i t : Nat), get (zipTs i args) t = if i ≤ t then args[t - i]? else none
  | [], i, t => by simp [zipTs, get]
  | v :: r, i, t => by
    simp only [zipTs, get]
    split
    · rename_i e; subst e; simp
    · rename_i e
      rw [get_zipTs r (i + 1) t]
      split
      · rename_i h; rw [if_pos (by omega), show t - i = (t - (i + 1)) + 1 by omega]; simp
      · rename_i h
        by_cases h2 : i ≤ t
        · omega
        · rw [if_neg h2]

/-- What a callee sees of the state. -/
def Sg.heap (σ : Sg) : Sg where
  I := σ.I
  blk := fun k => match k with | .g id => σ.blk (.g id) | .l _ => none
  tok := fun t => if isCG t then σ.tok t else none

/-- Behind a call: the heap as the callee left it, the frame's own as it was. -/
def Sg.join (σ σ' : Sg) : Sg where
  I := σ'.I
  blk := fun k => match k with | .g id => σ'.blk (.g id) | .l t => σ.blk (.l t)
  tok := fun t => if isCG t then σ'.tok t else σ.tok t
  D := σ.D

section
variable {P : Program} {σ σ' : Sg} {s : St} {nt : Nat} {a : Act} {w w' : World}

theorem heap_owns {b : Nat} (h : σ.heap.Owns b) : σ.Owns b := by
  rcases h with ⟨k, h⟩ | ⟨t, e, l, h⟩
  · cases k with
    | g id => exact .inl ⟨_, h⟩
    | l t => simp [Sg.heap] at h
  · simp only [Sg.heap] at h
    split at h
    · exact .inr ⟨t, e, l, h⟩
    · simp at h

theorem WFS.heap (h : WFS σ w) : WFS σ.heap w := by
  have hb : ∀ k b, σ.heap.blk k = some b → σ.blk k = some b := fun k b h => by cases k <;> simp_all [Sg.heap]
  have ht : ∀ t x, σ.heap.tok t = some x → σ.tok t = some x := fun t x h => by
    simp only [Sg.heap] at h; split at h; exact h; simp at h
  exact ⟨fun k k' b h1 h2 => h.inj _ _ _ (hb _ _ h1) (hb _ _ h2), fun k t b e l h1 h2 => h.injt _ _ _ _ _ (hb _ _ h1) (ht _ _ h2),
    fun t t' b e l e' l' h1 h2 => h.injtt _ _ _ _ _ _ _ (ht _ _ h1) (ht _ _ h2), fun k b h1 => h.lt _ _ (hb _ _ h1), fun t b e l h1 => h.tokw _ _ _ _ (ht _ _ h1), fun k b o h1 => h.blkI _ _ _ (hb _ _ h1), h.imm⟩

theorem Rel.heap {v : AV} {x : Value} {k : Key} {g : Tok → Bool} (h : Rel σ v x) (hv : v.chk (keyf (.g 0)) g = true) (hg : ∀ t, g t = true → isCG t = true) : Rel σ.heap v x :=
  Rel.keep (σ := σ) (σ' := σ.heap) (fun _ _ _ h => h) (fun k b hk hb => by cases k <;> simp_all [Sg.heap, keyf]) (fun t x ht h => by simp [Sg.heap, hg t ht, h]) h hv

theorem keyf_g (a b : Nat) : keyf (.g a) = keyf (.g b) := by funext k; cases k <;> rfl

theorem RelB.heap {b id : Nat} {blk : Blk} (hi : BlkInv (.g id) blk) (h : RelB σ w b blk) : RelB σ.heap w b blk := by
  cases blk with
  | cells cs =>
    obtain ⟨c, T, h1, h2, h3⟩ := h
    exact ⟨c, T, h1, h2, fun j x hj => (h3 j x hj).heap (k := .g 0) (by rw [keyf_g 0 id]; exact hi j x hj) (fun t ht => by
      have : t = .c (.g id) j := by simpa using ht
      rw [this]; rfl)⟩
  | map es cl =>
    obtain ⟨c, h1, h2, h3⟩ := h
    exact ⟨c, h1, h2, fun j k v n hj => ⟨(h3 j k v n hj).1, (h3 j k v n hj).2.1.heap (k := .g 0) (by rw [keyf_g 0 id]; exact hi j _ hj) (fun t ht => by simp at ht), (h3 j k v n hj).2.2⟩⟩
  | dead => trivial

/-- Into a call. -/
theorem RelS.callee (hr : RelS σ s nt a w) {args : List AV} {args' : Array Value} (h1 : args'.size = args.length) (h2 : ∀ (i : Nat) (v : AV), args[i]? = some v → Rel σ v (args'.getD i undef)) (h3 : args.all AV.free = true) :
    RelS σ.heap (.args args s.G) args.length { tmps := args', defers := [] } w := by
  refine ⟨h1, rfl, fun t x h => ?_, fun k blk h => ?_, fun k blk h => ?_, fun id h => hr.gfree id h, fun t h => rfl, hr.wf.heap⟩
  · simp only [St.args, get_zipTs, Nat.zero_le, if_true, Nat.sub_zero] at h
    refine ⟨(List.getElem?_eq_some_iff.1 h).1, (h2 t x h).heap (k := .g 0) (List.all_eq_true.1 h3 x (List.mem_of_getElem? h)) (fun t ht => by simp at ht)⟩
  · cases k with
    | g id =>
      have h : s.G[id]? = some blk := h
      obtain ⟨b, q1, q2⟩ := hr.blks (.g id) blk h
      exact ⟨b, q1, q2.heap (hr.cinv (.g id) _ h)⟩
    | l t => simp [St.look, St.args, get] at h
  · cases k with
    | g id => exact hr.cinv (.g id) _ h
    | l t => simp [St.look, St.args, get] at h

/-- And back. -/
theorem RelS.back (hr : RelS σ s nt a w) {G' : List Blk} (hs : RelS σ' (.args [] G') 0 { tmps := #[], defers := [] } w') (hk : ∀ k b, σ'.blk k = some b → ∃ id, k = .g id) (ht : ∀ t x, σ'.tok t = some x → isCG t = true)
    (hp : Post σ.heap σ' w w') : RelS (σ.join σ') ({ s with G := G' }.dis isC) nt a w' ∧ Post σ (σ.join σ') w w' := by
  have notown : ∀ b, (∃ t, σ.blk (.l t) = some b) ∨ (∃ t e l, isCG t = false ∧ σ.tok t = some (b, e, l)) → ¬ σ.heap.Owns b ∧ b < w.heap.size := by
    rintro b (⟨t, h⟩ | ⟨t, e, l, h1, h⟩)
    · refine ⟨?_, hr.wf.lt _ _ h⟩
      rintro (⟨k, h'⟩ | ⟨t', e', l', h'⟩)
      · cases k with
        | g id => have := hr.wf.inj _ _ _ h h'; simp at this
        | l t => simp [Sg.heap] at h'
      · simp only [Sg.heap] at h'
        split at h'
        · exact hr.wf.injt _ _ _ _ _ h h'
        · simp at h'
    · obtain ⟨⟨c, T, h3, _⟩, _⟩ := hr.wf.tokw _ _ _ _ h
      refine ⟨?_, (Array.getElem?_eq_some_iff.1 h3).1⟩
      rintro (⟨k, h'⟩ | ⟨t', e', l', h'⟩)
      · cases k with
        | g id => exact hr.wf.injt _ _ _ _ _ h' h
        | l t => simp [Sg.heap] at h'
      · simp only [Sg.heap] at h'
        split at h'
        · rename_i h2
          have := hr.wf.injtt _ _ _ _ _ _ _ h h'
          rw [this, h2] at h1; simp at h1
        · simp at h'
  have own' : ∀ b, σ'.Owns b → σ.heap.Owns b ∨ w.heap.size ≤ b := hp.own
  have I0 : ∀ b o, ¬ σ.heap.Owns b → b < w.heap.size → σ.I b o = none → σ'.I b o = none := by
    intro b o h1 h2 h3
    cases e : σ'.I b o with
    | none => rfl
    | some v =>
      rcases hp.In _ _ _ e with e1 | e1 | e1
      · rw [show σ.heap.I = σ.I from rfl, h3] at e1; simp at e1
      · exact absurd e1 h1
      · omega
  have hI : ∀ b o v, σ.I b o = some v → (σ.join σ').I b o = some v := hp.I
  have hwf : WFS (σ.join σ') w' := by
    refine ⟨fun k1 k2 b e1 e2 => ?_, fun k t b e l e1 e2 => ?_, fun t1 t2 b e l e' l' e1 e2 => ?_, fun k b e1 => ?_, fun t b e l e1 => ?_, fun k b o e1 => ?_, hs.wf.imm⟩
    · cases k1 with
      | g i1 =>
        cases k2 with
        | g i2 => exact hs.wf.inj _ _ _ e1 e2
        | l t2 =>
          exfalso
          have := notown b (.inl ⟨t2, e2⟩)
          rcases own' b (.inl ⟨_, e1⟩) with h | h
          · exact this.1 h
          · omega
      | l t1 =>
        cases k2 with
        | g i2 =>
          exfalso
          have := notown b (.inl ⟨t1, e1⟩)
          rcases own' b (.inl ⟨_, e2⟩) with h | h
          · exact this.1 h
          · omega
        | l t2 => exact hr.wf.inj _ _ _ e1 e2
    · simp only [Sg.join] at e2
      split at e2
      · cases k with
        | g id => exact hs.wf.injt _ _ _ _ _ e1 e2
        | l t' =>
          have := notown b (.inl ⟨t', e1⟩)
          rcases own' b (.inr ⟨_, _, _, e2⟩) with h | h
          · exact this.1 h
          · omega
      · rename_i hc
        have := notown b (.inr ⟨t, e, l, by simpa using hc, e2⟩)
        cases k with
        | g id =>
          rcases own' b (.inl ⟨_, e1⟩) with h | h
          · exact this.1 h
          · omega
        | l t' => exact hr.wf.injt _ _ _ _ _ e1 e2
    · simp only [Sg.join] at e1 e2
      split at e1
      · split at e2
        · exact hs.wf.injtt _ _ _ _ _ _ _ e1 e2
        · rename_i hc
          exfalso
          have := notown b (.inr ⟨_, _, _, by simpa using hc, e2⟩)
          rcases own' b (.inr ⟨_, _, _, e1⟩) with h | h
          · exact this.1 h
          · omega
      · rename_i hc
        split at e2
        · exfalso
          have := notown b (.inr ⟨_, _, _, by simpa using hc, e1⟩)
          rcases own' b (.inr ⟨_, _, _, e2⟩) with h | h
          · exact this.1 h
          · omega
        · exact hr.wf.injtt _ _ _ _ _ _ _ e1 e2
    · cases k with
      | g id => exact hs.wf.lt _ _ e1
      | l t => exact Nat.lt_of_lt_of_le (hr.wf.lt _ _ e1) hp.size
    · simp only [Sg.join] at e1
      split at e1
      · exact hs.wf.tokw _ _ _ _ e1
      · rename_i hc
        have hno := notown b (.inr ⟨t, e, l, by simpa using hc, e1⟩)
        obtain ⟨⟨c, T, h3, h4⟩, h5⟩ := hr.wf.tokw _ _ _ _ e1
        exact ⟨⟨c, T, by rw [hp.frame _ hno.2 hno.1]; exact h3, h4⟩, fun o ho => I0 _ _ hno.1 hno.2 (h5 o ho)⟩
    · cases k with
      | g id => exact hs.wf.blkI _ _ _ e1
      | l t =>
        have hno := notown b (.inl ⟨t, e1⟩)
        exact I0 _ _ hno.1 hno.2 (hr.wf.blkI _ _ _ e1)
  refine ⟨⟨hr.sz, hr.df, fun t x h => ?_, fun k blk h => ?_, fun k blk h => ?_, fun id h => hs.gfree id h, fun t h => hr.lfree t h, hwf⟩, ?_⟩
  · simp only [St.dis, get_map, Option.map_eq_some_iff] at h
    obtain ⟨v, hv, rfl⟩ := h
    obtain ⟨h1, h2⟩ := hr.vals _ _ hv
    refine ⟨h1, (h2.dis isC).keep hI (fun k b _ h => ?_) (fun t x h1 h2 => ?_) (AV.dis_chk isC v)⟩
    · cases k with
      | g id => exact hp.keys _ _ h
      | l t => exact h
    · have : isCG t = false := by cases t <;> simp_all [isC, isCG]
      simp [Sg.join, this, h2]
  · rw [St.look_dis] at h
    cases k with
    | g id =>
      have h : G'[id]? = some blk := h
      obtain ⟨b, q1, q2⟩ := hs.blks (.g id) blk h
      have hi := hs.cinv (.g id) blk h
      refine ⟨b, q1, ?_⟩
      cases blk with
      | cells cs =>
        obtain ⟨c, T, g1, g2, g3⟩ := q2
        exact ⟨c, T, g1, g2, fun j x hj => Rel.keep (σ := σ') (σ' := σ.join σ') (fun _ _ _ h => h) (fun k b hk hb => by cases k <;> simp_all [Sg.join, keyf]) (fun t x ht h => by
          have : t = .c (.g id) j := by simpa using ht
          subst this; simpa [Sg.join, isCG] using h) (g3 j x hj) (hi j x hj)⟩
      | map es cl =>
        obtain ⟨c, g1, g2, g3⟩ := q2
        exact ⟨c, g1, g2, fun j k v n hj => ⟨(g3 j k v n hj).1.mono (fun _ _ _ h => h), Rel.keep (σ := σ') (σ' := σ.join σ') (fun _ _ _ h => h) (fun k b hk hb => by cases k <;> simp_all [Sg.join, keyf]) (fun t x ht h => by simp at ht) (g3 j k v n hj).2.1 (hi j _ hj), (g3 j k v n hj).2.2⟩⟩
      | dead => trivial
    | l t =>
      obtain ⟨b, q1, q2⟩ := hr.blks (.l t) blk h
      have hno := notown b (.inl ⟨t, q1⟩)
      refine ⟨b, q1, q2.turn (k := .l t) hI (fun k b h => ?_) (fun o x h => by simpa [Sg.join, isCG] using h) (hr.cinv (.l t) blk h) (fun _ => hp.frame _ hno.2 hno.1)⟩
      cases k with
      | g id => exact hp.keys _ _ h
      | l t => exact h
  · rw [St.look_dis] at h
    cases k with
    | g id => exact hs.cinv (.g id) blk h
    | l t => exact hr.cinv (.l t) blk h
  · refine ⟨hI, fun b o v e => ?_, fun b hb => ?_, fun id b e => hp.keys _ _ e, fun b hb hn => hp.frame b hb (fun h => hn (heap_owns h)), hp.size, hp.os, hp.tape, hp.output, rfl, hp.fz⟩
    · rcases hp.In _ _ _ e with e1 | e1 | e1
      · exact .inl e1
      · exact .inr (.inl (heap_owns e1))
      · exact .inr (.inr e1)
    · rcases hb with ⟨k, hb⟩ | ⟨t, e, l, hb⟩
      · cases k with
        | g id =>
          rcases own' b (.inl ⟨_, hb⟩) with h | h
          · exact .inl (heap_owns h)
          · exact .inr h
        | l t => exact .inl (.inl ⟨_, hb⟩)
      · simp only [Sg.join] at hb
        split at hb
        · rcases own' b (.inr ⟨_, _, _, hb⟩) with h | h
          · exact .inl (heap_owns h)
          · exact .inr h
        · exact .inl (.inr ⟨_, _, _, hb⟩)
end
end Go.Abs
