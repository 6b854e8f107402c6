/-
  Put together out of texts of this work: V0, X3, V1, V2, V3, V4, V5, V6, V7, V8, V9, X4, X5, V10, V11.
-/
import Derived.Test.YtnicgdfnfnchjaaRows
import Derived.Test.YtnicgdfnfnchjaaTvM2
set_option linter.unusedSimpArgs false
set_option linter.unusedVariables false
/-
  Tree code as data: expressions, statements, functions; their rows of cells.
-/
set_option linter.unusedVariables false
namespace Go.Abs

/-- Told slots are there. -/
def AllTs (s : St) : TS → Prop
  | [] => True
  | (t, x) :: r => get s.ts t = some x ∧ AllTs s r

theorem AllTs.get {s : St} : ∀ {l : TS}, AllTs s l → ∀ t x, get l t = some x → get s.ts t = some x
  | [], _, t, x, h => by cases h
  | (u, y) :: r, ha, t, x, h => by
    simp only [Go.Abs.get] at h
    split at h
    · rename_i e; subst e; cases h; exact ha.1
    · exact AllTs.get ha.2 t x h

theorem weakL {s : St} (l : TS) {L : LS} {G : List Blk} (h : AllTs s l) (hL : s.L = L) (hG : s.G = G) : Weak s { ts := l, L := L, G := G } := by
  have := weak_ts (s := s) l (fun t x h' => h.get t x h')
  rw [hL, hG] at this
  exact this

section
variable {P : Program} {s : St} {c : Cfg} {Q : AExit → St → Prop} {ops : Array Oper}

/-- A comparison: whatever it answers. -/
theorem vopsL_cmp {o : Oper} {l : List Oper} {op : BinOp} {t t' : TypeId} {x y : Operand} {b : Bool} {d : Nat} (hg : o.guard = none) (ho : o.op = .binOp op t x y t') (hd : o.dst = some d) (hn : d < c.nt) (hv : avalN P s o = some (.p (.bool b)))
    (k : ∀ b', b = b' → vopsL P c ops Q l (s.put (some d) (.p (.bool b')))) : vopsL P c ops Q (o :: l) s :=
  vopsL_st hg (eff_bool (b' := b) ho hd hn hv rfl) (k b rfl)

/-- An operation behind a guard that is known. -/
theorem vopsL_on {o : Oper} {l : List Oper} {j : Nat} {want : Bool} (hg : o.guard = some (j, want)) (hv : guardVal ops s j want = some want) (h : vop P c o (vopsL P c ops Q l) Q s) : vopsL P c ops Q (o :: l) s := by
  simp only [vopsL, hg, hv]
  exact ⟨fun _ => h, fun e => by cases want <;> simp at e⟩
end

section
variable {P : Program} {s s' : St} {c : Cfg} {Q : AExit → St → Prop} {ops : Array Oper}

theorem vopsL_cmpG {o : Oper} {l : List Oper} {op : BinOp} {t t' : TypeId} {x y : Operand} {b : Bool} {d j : Nat} {want : Bool} (hg : o.guard = some (j, want)) (hw : guardVal ops s j want = some want) (ho : o.op = .binOp op t x y t') (hd : o.dst = some d) (hn : d < c.nt) (hv : avalN P s o = some (.p (.bool b)))
    (k : ∀ b', b = b' → vopsL P c ops Q l (s.put (some d) (.p (.bool b')))) : vopsL P c ops Q (o :: l) s :=
  vopsL_on hg hw (vop_st (eff_bool (b' := b) ho hd hn hv rfl) (k b rfl))

/-- 'xs[i]' of a slice of data. -/
theorem vopsL_idx {o : Oper} {l : List Oper} {t e : TypeId} {x i : Operand} {rows : List (List PV)} {row : List PV} {k : IntKind} {n : Nat} {d : Nat} (hr : rows[n]? = some row) (hg : o.guard = none) (ho : o.op = .indexAddr t x i) (hd : o.dst = some d) (hn : d < c.nt)
    (ht : P.underlying t = some (.slice e)) (hx : ev s x = some (.p (.vec rows))) (hi : ev s i = some (.p (.int k n))) (hl : row.length = P.cellsOf e) (h0 : P.cellsOf e ≠ 0) (hk : vopsL P c ops Q l (s.put (some d) (.rop row))) : vopsL P c ops Q (o :: l) s :=
  vopsL_st hg (eff_index ho hd hn ht hx hi hr hl h0) hk
theorem vopsL_idxG {o : Oper} {l : List Oper} {t e : TypeId} {x i : Operand} {rows : List (List PV)} {row : List PV} {k : IntKind} {n : Nat} {d : Nat} {j : Nat} {want : Bool} (hr : rows[n]? = some row) (hg : o.guard = some (j, want)) (hw : guardVal ops s j want = some want) (ho : o.op = .indexAddr t x i) (hd : o.dst = some d) (hn : d < c.nt)
    (ht : P.underlying t = some (.slice e)) (hx : ev s x = some (.p (.vec rows))) (hi : ev s i = some (.p (.int k n))) (hl : row.length = P.cellsOf e) (h0 : P.cellsOf e ≠ 0) (hk : vopsL P c ops Q l (s.put (some d) (.rop row))) : vopsL P c ops Q (o :: l) s :=
  vopsL_on hg hw (vop_st (eff_index ho hd hn ht hx hi hr hl h0) hk)

/-- Operations that change nothing but their slots, one behind the other. -/
def vsl (P : Program) (c : Cfg) (ops : Array Oper) (K : St → Prop) : List Oper → St → Prop
  | [], s => K s
  | o :: rest, s => match o.guard with
    | none => ∃ v, avalB P s o = some v ∧ dstOk c.nt o.dst = true ∧ vsl P c ops K rest (s.put o.dst v)
    | some (j, want) => ∃ b, guardVal ops s j want = some b ∧ (b = want → ∃ v, avalB P s o = some v ∧ dstOk c.nt o.dst = true ∧ vsl P c ops K rest (s.put o.dst v)) ∧
        (b = (!want) → dstOk c.nt o.dst = true ∧ vsl P c ops K rest (s.put o.dst (.tuple [])))

theorem vsl_still {σ : Sg} {w : World} {K : St → Prop} {R : Act → Prop} (k : ∀ s' a', K s' → RelS σ s' c.nt a' w → R a') : ∀ {l : List Oper} {s : St} {a : Act}, vsl P c ops K l s → RelS σ s c.nt a w → wpStill P ops w R l a
  | [], s, a, h, hr => k _ _ h hr
  | o :: l, s, a, h, hr => by
    simp only [vsl] at h
    unfold wpStill
    have step : ∀ {v : AV}, avalB P s o = some v → dstOk c.nt o.dst = true → vsl P c ops K l (s.put o.dst v) → o.still P a w (wpStill P ops w R l) := fun hv hd h => by
      obtain ⟨x, h1, h2⟩ := avalB_run hr hv
      unfold Oper.still
      rw [h1]
      exact ⟨rfl, vsl_still k h (hr.put h2 hd)⟩
    split at h
    · rename_i hg
      have hw : Region.wanted o (yielded ops a.tmps) = true := by simp [Region.wanted, hg]
      rw [if_pos hw]
      obtain ⟨v, hv, hd, h⟩ := h
      exact step hv hd h
    · rename_i j want hg
      obtain ⟨b, hb, h1, h2⟩ := h
      have hy := guardVal_rel hr hb
      by_cases hbw : b = want
      · have hw : Region.wanted o (yielded ops a.tmps) = true := by simp [Region.wanted, hg, hy, hbw]
        rw [if_pos hw]
        obtain ⟨v, hv, hd, h⟩ := h1 hbw
        exact step hv hd h
      · have hw : Region.wanted o (yielded ops a.tmps) = false := by simp [Region.wanted, hg, hy, hbw]
        rw [if_neg (by rw [hw]; simp)]
        obtain ⟨hd, h⟩ := h2 (by cases b <;> cases want <;> simp at hbw ⊢)
        exact vsl_still k h (hr.put (.tuple rfl (by simp)) hd)

/-- A region of open order, of which all operations change nothing but slots. -/
theorem awp_sl {id : Nat} {l : List Oper} (hm : P.follows .mixedOrders = true) (hB : Region.lexB .any l.toArray = true) (h : vsl P c l.toArray (fun s => Q .normal s) l s) : AWp P c.nt (.region id l.toArray true) Q s := by
  intro σ a w hr
  exact wp_region_still_lit hm hB (vsl_still (fun s' a' hq hr' => ⟨.normal, s', σ, .normal, hr', .draw _ _ _, hq⟩) h (hr.draw _))

theorem vsl_op {o : Oper} {l : List Oper} {K : St → Prop} {v : AV} (hg : o.guard = none) (hv : avalB P s o = some v) (hd : dstOk c.nt o.dst = true) (k : vsl P c ops K l (s.put o.dst v)) : vsl P c ops K (o :: l) s := by
  simp only [vsl, hg]; exact ⟨v, hv, hd, k⟩
theorem vsl_opG {o : Oper} {l : List Oper} {K : St → Prop} {v : AV} {j : Nat} {want : Bool} (hg : o.guard = some (j, want)) (hw : guardVal ops s j want = some want) (hv : avalB P s o = some v) (hd : dstOk c.nt o.dst = true) (k : vsl P c ops K l (s.put o.dst v)) : vsl P c ops K (o :: l) s := by
  simp only [vsl, hg]; exact ⟨want, hw, fun _ => ⟨v, hv, hd, k⟩, fun e => by cases want <;> simp at e⟩
theorem vsl_offG {o : Oper} {l : List Oper} {K : St → Prop} {j : Nat} {want b : Bool} (hg : o.guard = some (j, want)) (hw : guardVal ops s j want = some b) (hb : b ≠ want) (hd : dstOk c.nt o.dst = true) (k : vsl P c ops K l (s.put o.dst (.tuple []))) : vsl P c ops K (o :: l) s := by
  simp only [vsl, hg]; exact ⟨b, hw, fun e => absurd e hb, fun _ => ⟨hd, k⟩⟩

theorem vsl_run {K : St → Prop} {r : List Oper} : ∀ {l : List Oper} {s s' : St}, runV P c ops l s = some s' → vsl P c ops K r s' → vsl P c ops K (l ++ r) s
  | [], s, s', h, k => by simp only [runV, Option.some.injEq] at h; subst h; exact k
  | o :: l, s, s', h, k => by
    simp only [runV] at h
    simp only [List.cons_append]
    split at h
    · rename_i hg
      split at h
      · rename_i v hv
        split at h
        · rename_i hd; exact vsl_op hg hv hd (vsl_run h k)
        · simp at h
      · simp at h
    · rename_i j want hg
      split at h
      · rename_i b hb
        split at h
        · rename_i hbw
          subst hbw
          split at h
          · rename_i v hv
            split at h
            · rename_i hd; exact vsl_opG hg hb hv hd (vsl_run h k)
            · simp at h
          · simp at h
        · rename_i hbw
          split at h
          · rename_i hd; exact vsl_offG hg hb hbw hd (vsl_run h k)
          · simp at h
      · simp at h

theorem vsl_take (n : Nat) {K : St → Prop} {l : List Oper} (h : runV P c ops (l.take n) s = some s') (k : vsl P c ops K (l.drop n) s') : vsl P c ops K l s := by
  have := vsl_run h k
  rwa [List.take_append_drop] at this

theorem vsl_done {K : St → Prop} (k : K s) : vsl P c ops K [] s := k

theorem vsl_cmp {o : Oper} {l : List Oper} {K : St → Prop} {b : Bool} (hg : o.guard = none) (hv : avalB P s o = some (.p (.bool b))) (hd : dstOk c.nt o.dst = true)
    (k : ∀ b', b = b' → vsl P c ops K l (s.put o.dst (.p (.bool b')))) : vsl P c ops K (o :: l) s := vsl_op hg hv hd (k b rfl)
theorem vsl_cmpG {o : Oper} {l : List Oper} {K : St → Prop} {b : Bool} {j : Nat} {want : Bool} (hg : o.guard = some (j, want)) (hw : guardVal ops s j want = some want) (hv : avalB P s o = some (.p (.bool b))) (hd : dstOk c.nt o.dst = true)
    (k : ∀ b', b = b' → vsl P c ops K l (s.put o.dst (.p (.bool b')))) : vsl P c ops K (o :: l) s := vsl_opG hg hw hv hd (k b rfl)

theorem avalB_index {o : Oper} {t e : TypeId} {x i : Operand} {rows : List (List PV)} {row : List PV} {k : IntKind} {n : Nat} (ho : o.op = .indexAddr t x i)
    (ht : P.underlying t = some (.slice e)) (hx : ev s x = some (.p (.vec rows))) (hi : ev s i = some (.p (.int k n))) (hr : rows[n]? = some row) (hl : row.length = P.cellsOf e) (h0 : P.cellsOf e ≠ 0) :
    avalB P s o = some (.rop row) := by
  simp [avalB, aval, ho, hx, hi, aindex, ht, hr, hl, h0]
theorem vsl_idx {o : Oper} {l : List Oper} {K : St → Prop} {t e : TypeId} {x i : Operand} {rows : List (List PV)} {row : List PV} {k : IntKind} {n : Nat} (hr : rows[n]? = some row) (hg : o.guard = none) (ho : o.op = .indexAddr t x i)
    (ht : P.underlying t = some (.slice e)) (hx : ev s x = some (.p (.vec rows))) (hi : ev s i = some (.p (.int k n))) (hl : row.length = P.cellsOf e) (h0 : P.cellsOf e ≠ 0) (hd : dstOk c.nt o.dst = true) (hk : vsl P c ops K l (s.put o.dst (.rop row))) : vsl P c ops K (o :: l) s :=
  vsl_op hg (avalB_index ho ht hx hi hr hl h0) hd hk
theorem vsl_idxG {o : Oper} {l : List Oper} {K : St → Prop} {t e : TypeId} {x i : Operand} {rows : List (List PV)} {row : List PV} {k : IntKind} {n : Nat} {j : Nat} {want : Bool} (hr : rows[n]? = some row) (hg : o.guard = some (j, want)) (hw : guardVal ops s j want = some want) (ho : o.op = .indexAddr t x i)
    (ht : P.underlying t = some (.slice e)) (hx : ev s x = some (.p (.vec rows))) (hi : ev s i = some (.p (.int k n))) (hl : row.length = P.cellsOf e) (h0 : P.cellsOf e ≠ 0) (hd : dstOk c.nt o.dst = true) (hk : vsl P c ops K l (s.put o.dst (.rop row))) : vsl P c ops K (o :: l) s :=
  vsl_opG hg hw (avalB_index ho ht hx hi hr hl h0) hd hk
end

/-- A function that answers v and leaves the heap. -/
def FnIs (P : Program) (f : FuncId) (args : List AV) (G : List Blk) (v : AV) : Prop := ACalls P f args G fun r G' => r = .ret v ∧ G' = G

theorem vopsL_fn {P : Program} {s : St} {c : Cfg} {Q : AExit → St → Prop} {ops : Array Oper} {o : Oper} {l : List Oper} {f : FuncId} {args : List AV} {v : AV} (hg : o.guard = none) (he : eff P c s o = .call f args) (hf : args.all AV.free = true) (hc : FnIs P f args s.G v)
    (k : vopsL P c ops Q l ((s.dis isC).put o.dst v)) : vopsL P c ops Q (o :: l) s :=
  vopsL_call hg he hf hc (by rintro r G ⟨rfl, rfl⟩; exact k)

theorem vopsL_fnG {P : Program} {s : St} {c : Cfg} {Q : AExit → St → Prop} {ops : Array Oper} {o : Oper} {l : List Oper} {f : FuncId} {args : List AV} {v : AV} {j : Nat} {want : Bool} (hg : o.guard = some (j, want)) (hw : guardVal ops s j want = some want) (he : eff P c s o = .call f args) (hf : args.all AV.free = true) (hc : FnIs P f args s.G v)
    (k : vopsL P c ops Q l ((s.dis isC).put o.dst v)) : vopsL P c ops Q (o :: l) s := by
  refine vopsL_on hg hw ?_
  unfold vop
  rw [if_neg (fun ha => by rw [anyB_bad ha] at he; cases he), he]
  exact ⟨hf, hc.mono (by rintro r G ⟨rfl, rfl⟩; exact k)⟩

/-- A block about a loop: a round's end, the block's end, any other end. -/
def forQ (id : Nat) (J K : St → Prop) (Q : AExit → St → Prop) : AExit → St → Prop
  | .normal, s => J s
  | .exit id', s => if id' = id then K s else Q (.exit id') s
  | e, s => Q e s

def Then (K : St → Prop) (s : St) : Prop := ∃ s', Weak s s' ∧ K s'

theorem awp_forE {P : Program} {nt : Nat} {id : Nat} {c : Code} {Q : AExit → St → Prop} {s : St} (I : Nat → St → Prop) (K : St → Prop) (n₀ : Nat) (h₀ : I n₀ s)
    (round : ∀ n s, I n s → AWp P nt c (forQ id (Then fun s' => ∃ n', n' < n ∧ I n' s') (Then K) Q) s) (k : ∀ s s', K s → Weak s' s → Q .normal s') : AWp P nt (.block id (.loop c)) Q s := by
  refine awp_block (awp_loop I n₀ h₀ fun n s hI => (round n s hI).mono ?_)
  intro e s' h
  cases e with
  | normal => obtain ⟨s'', hw, n', hn, h⟩ := h; exact ⟨n', s'', hn, hw, h⟩
  | exit id' =>
    show if id' = id then Q .normal s' else Q (.exit id') s'
    have h : if id' = id then Then K s' else Q (.exit id') s' := h
    split at h
    · rename_i e; rw [if_pos e]; obtain ⟨s'', hw, h⟩ := h; exact k _ _ h hw
    · rename_i e; rw [if_neg e]; exact h
  | goto l => exact h
  | ret => exact h
  | panic v => exact h

theorem awp_for {P : Program} {nt : Nat} {id : Nat} {c rest : Code} {Q : AExit → St → Prop} {s : St} (I : Nat → St → Prop) (K : St → Prop) (n₀ : Nat) (h₀ : I n₀ s)
    (round : ∀ n s, I n s → AWp P nt c (forQ id (Then fun s' => ∃ n', n' < n ∧ I n' s') (Then K) Q) s) (k : ∀ s, K s → AWp P nt rest Q s) : AWp P nt (.seq (.block id (.loop c)) rest) Q s := by
  refine awp_seq (awp_forE I K n₀ h₀ (fun n s hI => (round n s hI).mono ?_) fun s s' h hw => awp_weak hw (k s h))
  intro e s' h
  cases e with
  | normal => exact h
  | exit id' =>
    show if id' = id then Then K s' else Q (.exit id') s'
    exact h
  | goto l => exact h
  | ret => exact h
  | panic v => exact h

theorem awp_forA {P : Program} {nt : Nat} {id : Nat} {c rest : Code} {Q : AExit → St → Prop} {s : St} (I : Nat → St → Prop) (K : St → Prop) (n₀ : Nat) (h₀ : I n₀ s)
    (round : ∀ n s, I n s → AWp P nt c (forQ id (Then fun s' => ∃ n', n' < n ∧ I n' s') (Then K) (andThen (AWp P nt rest Q) Q)) s) (k : ∀ s, K s → AWp P nt rest Q s) : AWp P nt (.block id (.loop c)) (andThen (AWp P nt rest Q) Q) s :=
  awp_forE I K n₀ h₀ round fun s s' h hw => awp_weak hw (k s h)

/-- A loop behind which nothing comes. -/
theorem awp_forN {P : Program} {nt : Nat} {id : Nat} {c : Code} {Q : AExit → St → Prop} {s : St} (I : Nat → St → Prop) (n₀ : Nat) (h₀ : I n₀ s)
    (round : ∀ n s, I n s → AWp P nt c (forQ id (Then fun s' => ∃ n', n' < n ∧ I n' s') (fun s => Q .normal s) Q) s) : AWp P nt (.block id (.loop c)) Q s := by
  refine awp_block (awp_loop I n₀ h₀ fun n s hI => (round n s hI).mono ?_)
  intro e s' h
  cases e with
  | normal => obtain ⟨s'', hw, n', hn, h⟩ := h; exact ⟨n', s'', hn, hw, h⟩
  | exit id' => exact h
  | goto l => exact h
  | ret => exact h
  | panic v => exact h

theorem q_for {id : Nat} {J K : St → Prop} {Q : AExit → St → Prop} {s : St} (h : Q .ret s) : forQ id J K Q .ret s := h

theorem at_exit {id : Nat} {A J K : St → Prop} {Q : AExit → St → Prop} {s : St} (h : K s) : andThen A (forQ id J K Q) (.exit id) s := by
  show if id = id then K s else Q (.exit id) s
  rw [if_pos rfl]; exact h

/-- A stretch, and what is known behind it. -/
theorem awp_cut {P : Program} {nt : Nat} {x y : Code} {Q : AExit → St → Prop} {s : St} (K : St → Prop) (h : AWp P nt x (andThen (Then K) Q) s) (k : ∀ s, K s → AWp P nt y Q s) : AWp P nt (.seq x y) Q s := by
  refine awp_seq (h.mono ?_)
  intro e s' h
  cases e with
  | normal => obtain ⟨s'', hw, h⟩ := h; exact awp_weak hw (k _ h)
  | exit id' => exact h
  | goto l => exact h
  | ret => exact h
  | panic v => exact h

theorem wrap64 {x : Int} (h : -9223372036854775808 ≤ x ∧ x ≤ 9223372036854775807) : IntKind.wrap .i64 x = x := by
  simp [IntKind.wrap, IntKind.bits, IntKind.signed]
  omega
end Go.Abs


namespace Go.Proofs.Ytnicgdfnfnchjaa
open Go.Abs

abbrev j64 (n : Int) : PV := .int .i64 n

/-- An expression of tree code. -/
inductive E where
  | mk (op n : Int) (name : ByteArray) (kids : List E)

mutual
def E.row : E → List PV
  | .mk op n name kids => [j64 op, j64 n, .str name, .vec (E.rows kids)]
def E.rows : List E → List (List PV)
  | [] => []
  | e :: r => e.row :: E.rows r
end

mutual
def E.size : E → Nat
  | .mk _ _ _ kids => 1 + E.sizes kids
def E.sizes : List E → Nat
  | [] => 0
  | e :: r => e.size + E.sizes r
end

/-- A statement of tree code. -/
inductive S where
  | mk (op n : Int) (exprs : List E) (body other : List S)

mutual
def S.row : S → List PV
  | .mk op n exprs body other => [j64 op, j64 n, .vec (E.rows exprs), .vec (S.rows body), .vec (S.rows other)]
def S.rows : List S → List (List PV)
  | [] => []
  | e :: r => e.row :: S.rows r
end

mutual
def S.size : S → Nat
  | .mk _ _ exprs body other => 1 + E.sizes exprs + S.sizes body + S.sizes other
def S.sizes : List S → Nat
  | [] => 0
  | e :: r => e.size + S.sizes r
end

mutual
theorem E.ind1 {p : List E → Prop} (h : ∀ es, (∀ op n nm ks, E.mk op n nm ks ∈ es → p ks) → p es) : ∀ (e : E) (op n : Int) (nm : ByteArray) (ks : List E), e = .mk op n nm ks → p ks
  | .mk op' n' nm' ks', op, n, nm, ks, hk => by cases hk; exact h ks' (E.ind2 h ks')
theorem E.ind2 {p : List E → Prop} (h : ∀ es, (∀ op n nm ks, E.mk op n nm ks ∈ es → p ks) → p es) : ∀ (es : List E) (op n : Int) (nm : ByteArray) (ks : List E), E.mk op n nm ks ∈ es → p ks
  | [], op, n, nm, ks, hk => by cases hk
  | e :: es, op, n, nm, ks, hk => by
    rcases List.mem_cons.1 hk with hk | hk
    · exact E.ind1 h e op n nm ks hk.symm
    · exact E.ind2 h es op n nm ks hk
end
theorem E.ind {p : List E → Prop} (h : ∀ es, (∀ op n nm ks, E.mk op n nm ks ∈ es → p ks) → p es) (es : List E) : p es := h es (E.ind2 h es)

mutual
theorem S.ind1 {p : List S → Prop} (h : ∀ es, (∀ op n ex bo ot, S.mk op n ex bo ot ∈ es → p bo ∧ p ot) → p es) : ∀ (e : S) (op n : Int) (ex : List E) (bo ot : List S), e = .mk op n ex bo ot → p bo ∧ p ot
  | .mk op' n' ex' bo' ot', op, n, ex, bo, ot, hk => by cases hk; exact ⟨h bo' (S.ind2 h bo'), h ot' (S.ind2 h ot')⟩
theorem S.ind2 {p : List S → Prop} (h : ∀ es, (∀ op n ex bo ot, S.mk op n ex bo ot ∈ es → p bo ∧ p ot) → p es) : ∀ (es : List S) (op n : Int) (ex : List E) (bo ot : List S), S.mk op n ex bo ot ∈ es → p bo ∧ p ot
  | [], op, n, ex, bo, ot, hk => by cases hk
  | e :: es, op, n, ex, bo, ot, hk => by
    rcases List.mem_cons.1 hk with hk | hk
    · exact S.ind1 h e op n ex bo ot hk.symm
    · exact S.ind2 h es op n ex bo ot hk
end
theorem S.ind {p : List S → Prop} (h : ∀ es, (∀ op n ex bo ot, S.mk op n ex bo ot ∈ es → p bo ∧ p ot) → p es) (es : List S) : p es := h es (S.ind2 h es)

theorem E.rows_eq : ∀ l : List E, E.rows l = l.map E.row
  | [] => rfl
  | e :: r => by simp [E.rows, E.rows_eq r]
theorem S.rows_eq : ∀ l : List S, S.rows l = l.map S.row
  | [] => rfl
  | e :: r => by simp [S.rows, S.rows_eq r]
theorem E.rows_len (l : List E) : (E.rows l).length = l.length := by simp [E.rows_eq]
theorem S.rows_len (l : List S) : (S.rows l).length = l.length := by simp [S.rows_eq]
theorem E.rows_get {l : List E} {i : Nat} {e : E} (h : l[i]? = some e) : (E.rows l)[i]? = some e.row := by simp [E.rows_eq, h]
theorem S.rows_get {l : List S} {i : Nat} {e : S} (h : l[i]? = some e) : (S.rows l)[i]? = some e.row := by simp [S.rows_eq, h]
theorem E.sizes_append (l r : List E) : E.sizes (l ++ r) = E.sizes l + E.sizes r := by
  induction l with
  | nil => simp [E.sizes]
  | cons e l ih => simp [E.sizes, ih]; omega
theorem S.sizes_append (l r : List S) : S.sizes (l ++ r) = S.sizes l + S.sizes r := by
  induction l with
  | nil => simp [S.sizes]
  | cons e l ih => simp [S.sizes, ih]; omega
theorem E.size_pos (e : E) : 0 < e.size := by cases e; simp [E.size]; omega
theorem S.size_pos (e : S) : 0 < e.size := by cases e; simp [S.size]; omega
theorem E.len_le (l : List E) : l.length ≤ E.sizes l := by
  induction l with
  | nil => simp
  | cons e l ih => have := e.size_pos; simp only [List.length_cons, E.sizes]; omega
theorem S.len_le (l : List S) : l.length ≤ S.sizes l := by
  induction l with
  | nil => simp
  | cons e l ih => have := e.size_pos; simp only [List.length_cons, S.sizes]; omega
theorem take_succ {α : Type} {l : List α} {i : Nat} {e : α} (h : l[i]? = some e) : l.take (i + 1) = l.take i ++ [e] := by
  rw [List.take_add_one, h]; rfl
theorem E.sizes_take_succ {l : List E} {i : Nat} {e : E} (h : l[i]? = some e) : E.sizes (l.take (i + 1)) = E.sizes (l.take i) + e.size := by
  rw [take_succ h, E.sizes_append]; simp [E.sizes]
theorem S.sizes_take_succ {l : List S} {i : Nat} {e : S} (h : l[i]? = some e) : S.sizes (l.take (i + 1)) = S.sizes (l.take i) + e.size := by
  rw [take_succ h, S.sizes_append]; simp [S.sizes]
theorem E.sizes_take_le (l : List E) (i : Nat) : E.sizes (l.take i) ≤ E.sizes l := by
  have := E.sizes_append (l.take i) (l.drop i)
  rw [List.take_append_drop] at this; omega
theorem S.sizes_take_le (l : List S) (i : Nat) : S.sizes (l.take i) ≤ S.sizes l := by
  have := S.sizes_append (l.take i) (l.drop i)
  rw [List.take_append_drop] at this; omega

/-- What a count up to a number answers. -/
def Cut (size : Nat) (most n k : Int) : Prop := 0 ≤ n ∧ ((size ≤ most ∧ n = size) ∨ (most < size ∧ most < n ∧ n ≤ max (most + k) 0))
end Go.Proofs.Ytnicgdfnfnchjaa

/-
  Regions of open order of which the operations read, or call what leaves the heap as it was: whatever order is picked, the slots come to the same.
-/
set_option linter.unusedVariables false
namespace Go.Abs

section
variable {P : Program} {σ : Sg} {s s' : St} {nt : Nat} {a : Act} {w : World} {c : Cfg} {ops : Array Oper} {Q : AExit → St → Prop}

mutual
theorem dis_same : ∀ v : AV, v.chk (fun _ => true) (fun t => !isC t) = true → v.dis isC = v
  | .own rows k, h => by simp only [AV.chk, Bool.not_eq_true'] at h; simp [AV.dis, h]
  | .full rows, h => rfl
  | .fn q a b, h => by simp only [AV.chk, Bool.and_eq_true] at h; simp [AV.dis, diss_same a h.1, diss_same b h.2]
  | .iface t v, h => by simp only [AV.chk] at h; simp [AV.dis, dis_same v h]
  | .agg l, h => by simp only [AV.chk] at h; simp [AV.dis, diss_same l h]
  | .tuple l, h => by simp only [AV.chk] at h; simp [AV.dis, diss_same l h]
  | .p v, h => rfl
  | .ptr k o, h => rfl
  | .ref k a b c, h => rfl
  | .rop r, h => rfl
  | .map id, h => rfl
  | .undef, h => rfl
theorem diss_same : ∀ l : List AV, AV.chks (fun _ => true) (fun t => !isC t) l = true → AV.diss isC l = l
  | [], h => rfl
  | x :: r, h => by simp only [AV.chks, Bool.and_eq_true] at h; simp [AV.diss, dis_same x h.1, diss_same r h.2]
end

/-- What one operation comes to: it only reads, or it calls what leaves the heap as it was. -/
def EvTo (P : Program) (c : Cfg) (s : St) (o : Oper) (v : AV) : Prop :=
  avalB P s o = some v ∨ ∃ f args, eff P c s o = .call f args ∧ args.all AV.free = true ∧ FnIs P f args s.G v

def OpTo (P : Program) (c : Cfg) (ops : Array Oper) (s : St) (o : Oper) (v : AV) : Prop :=
  dstOk c.nt o.dst = true ∧ v.dis isC = v ∧ match o.guard with
  | none => EvTo P c s o v
  | some (j, want) => ∃ b, guardVal ops s j want = some b ∧ (b = want → EvTo P c s o v) ∧ (b = (!want) → v = .tuple [])

def vfn (P : Program) (c : Cfg) (ops : Array Oper) (K : St → Prop) : List Oper → St → Prop
  | [], s => K s
  | o :: rest, s => ∃ v, OpTo P c ops s o v ∧ vfn P c ops K rest (s.put o.dst v)

def tmpsOf (l : List Operand) : List Nat := l.filterMap fun | .tmp t => some t | _ => none

theorem mem_tmpsOf {l : List Operand} {t : Nat} (h : Operand.tmp t ∈ l) : t ∈ tmpsOf l := by
  unfold tmpsOf
  rw [List.mem_filterMap]
  exact ⟨_, h, rfl⟩

/-- Two states are alike where an operation looks. -/
structure Alike (ts : List Nat) (s s' : St) : Prop where
  L : s'.L = s.L
  G : s'.G = s.G
  g : ∀ t ∈ ts, get s'.ts t = get s.ts t

theorem Alike.ev {l : List Operand} (h : Alike (tmpsOf l) s s') {x : Operand} (hx : x ∈ l) : ev s' x = ev s x := by
  cases x with
  | tmp t => exact h.g t (mem_tmpsOf hx)
  | _ => rfl

theorem Alike.evs {l : List Operand} (h : Alike (tmpsOf l) s s') : ∀ {k : List Operand}, (∀ x ∈ k, x ∈ l) → evs s' k = evs s k
  | [], _ => rfl
  | x :: k, hk => by
    simp only [Go.Abs.evs]
    rw [h.ev (hk x (by simp)), Alike.evs h (k := k) (fun y hy => hk y (by simp [hy]))]

theorem Alike.look {ts : List Nat} (h : Alike ts s s') (k : Key) : s'.look k = s.look k := by
  cases k <;> simp [St.look, h.L, h.G]

theorem Alike.cellsAt {ts : List Nat} (h : Alike ts s s') (x : AV) : cellsAt s' x = cellsAt s x := by
  unfold Go.Abs.cellsAt
  split <;> simp [h.look]

theorem Alike.amapOf {ts : List Nat} (h : Alike ts s s') (x : AV) : amapOf s' x = amapOf s x := by
  unfold Go.Abs.amapOf
  split <;> simp [h.G]

theorem Alike.evParts {l : List Operand} (h : Alike (tmpsOf l) s s') : ∀ {k : List (Nat × Operand)}, (∀ x ∈ k, x.2 ∈ l) → evParts s' k = evParts s k
  | [], _ => rfl
  | (i, x) :: k, hk => by
    simp only [Go.Abs.evParts]
    rw [h.ev (hk (i, x) (by simp)), Alike.evParts h (k := k) (fun y hy => hk y (by simp [hy]))]

theorem Alike.alookup {ts : List Nat} (h : Alike ts s s') (t : TypeId) (m i : AV) (ok : Bool) : alookup P s' t m i ok = alookup P s t m i ok := by
  unfold Go.Abs.alookup
  rw [h.amapOf]

theorem avalB_alike {o : Oper} (h : Alike (tmpsOf o.op.operands.toList) s s') : avalB P s' o = avalB P s o := by
  have e : ∀ x ∈ o.op.operands.toList, ev s' x = ev s x := fun x hx => h.ev hx
  have hc : cellsAt s' = cellsAt s := funext h.cellsAt
  unfold avalB aval
  split
  · rename_i t parts hop
    rw [h.evParts]
    intro x hx
    rw [hop]
    simp only [Op.operands]
    exact List.mem_map_of_mem hx
  · cases ho : o.op with
    | move x => exact e x (by simp [ho, Op.operands])
    | assign x => exact e x (by simp [ho, Op.operands])
    | pick c a b =>
      simp only
      rw [e c (by simp [ho, Op.operands]), e a (by simp [ho, Op.operands]), e b (by simp [ho, Op.operands])]
    | load t x =>
      simp only
      rw [e x (by simp [ho, Op.operands]), hc]
    | fieldAddr st x f => simp only; rw [e x (by simp [ho, Op.operands])]
    | indexAddr t x i => simp only; rw [e x (by simp [ho, Op.operands]), e i (by simp [ho, Op.operands])]
    | nilCheck x => simp only; rw [e x (by simp [ho, Op.operands])]
    | lookup t m i ok =>
      simp only
      rw [e m (by simp [ho, Op.operands]), e i (by simp [ho, Op.operands])]
      simp only [h.alookup]
    | binOp op t x y t' => simp only; rw [e x (by simp [ho, Op.operands]), e y (by simp [ho, Op.operands])]
    | unOp op t x => simp only; rw [e x (by simp [ho, Op.operands])]
    | convert src dst x => simp only; rw [e x (by simp [ho, Op.operands])]
    | extract x i => simp only; rw [e x (by simp [ho, Op.operands])]
    | makeInterface t x => simp only; rw [e x (by simp [ho, Op.operands])]
    | typeAssert x t t' ok => simp only; rw [e x (by simp [ho, Op.operands])]
    | makeFunc fn first caps =>
      cases fn with
      | func f =>
        simp only
        rw [h.evs (k := first.toList) (fun x hx => by simp [ho, Op.operands, hx]), h.evs (k := caps.toList) (fun x hx => by simp [ho, Op.operands, hx])]
      | _ => rfl
    | slice t x lo hi mx =>
      simp only
      rw [e x (by simp [ho, Op.operands])]
      rcases lo with _ | l <;> rcases hi with _ | u <;> rcases mx with _ | m <;> simp only <;> try rfl
      · rw [e u (by simp [ho, Op.operands])]
      · rw [e u (by simp [ho, Op.operands]), e m (by simp [ho, Op.operands])]
      · rw [e l (by simp [ho, Op.operands])]
    | call cl =>
      simp only
      have ea : ∀ x ∈ cl.args.toList, ev s' x = ev s x := fun x hx => e x (by simp [ho, Op.operands, Call.operands]; exact .inr (by simpa using hx))
      split <;> rename_i h1 h2 <;> try simp only
      all_goals first
        | rw [ea _ (by rw [h2]; simp), ea _ (by rw [h2]; simp)]
        | rw [ea _ (by rw [h2]; simp)]
        | rfl
    | _ => rfl

theorem eff_call_alike {o : Oper} (h : Alike (tmpsOf o.op.operands.toList) s s') {f : FuncId} {args : List AV} (he : eff P c s o = .call f args) : eff P c s' o = .call f args := by
  obtain ⟨cl, hop, fo, hfo, first, caps, l, hfn, hl, rfl, hd⟩ := vop_call he
  have e : ∀ x ∈ o.op.operands.toList, ev s' x = ev s x := fun x hx => h.ev hx
  have h1 : ev s' fo = some (.fn f first caps) := by rw [e fo (by simp [hop, Op.operands, Call.operands, hfo]), hfn]
  have h2 : evs s' cl.args.toList = some l := by
    rw [h.evs (fun x hx => by simp [hop, Op.operands, Call.operands, hfo]; exact .inr (by simpa using hx)), hl]
  unfold eff
  simp only [hop, hfo]
  simp [h1, h2, hd]

theorem tmpsOf_looks {o : Oper} {ops : Array Oper} {t : Nat} (h : t ∈ tmpsOf o.op.operands.toList) : t ∈ o.looksAt ops := by
  unfold Oper.looksAt
  rw [List.mem_append]
  exact .inl h

theorem guardVal_alike {o : Oper} {j : Nat} {want : Bool} (hg : o.guard = some (j, want)) (h : Alike (o.looksAt ops) s s') : guardVal ops s' j want = guardVal ops s j want := by
  unfold guardVal
  cases hd : (ops[j]?).bind (·.dst) with
  | none => rfl
  | some d =>
    simp only
    rw [h.g d (by unfold Oper.looksAt; rw [List.mem_append]; right; simp [hg, hd])]

theorem OpTo.alike {o : Oper} {v : AV} (h : Alike (o.looksAt ops) s s') (ho : OpTo P c ops s o v) : OpTo P c ops s' o v := by
  have h' : Alike (tmpsOf o.op.operands.toList) s s' := ⟨h.L, h.G, fun t ht => h.g t (tmpsOf_looks ht)⟩
  have hE : EvTo P c s o v → EvTo P c s' o v := by
    rintro (h1 | ⟨f, args, h1, h2, h3⟩)
    · exact .inl (by rw [avalB_alike h', h1])
    · exact .inr ⟨f, args, eff_call_alike h' h1, h2, by rw [h.G]; exact h3⟩
  obtain ⟨h1, hv, h2⟩ := ho
  refine ⟨h1, hv, ?_⟩
  cases hg : o.guard with
  | none => simp only [hg] at h2 ⊢; exact hE h2
  | some p =>
    obtain ⟨j, want⟩ := p
    simp only [hg] at h2 ⊢
    obtain ⟨b, h3, h4, h5⟩ := h2
    exact ⟨b, by rw [guardVal_alike hg h, h3], fun e => hE (h4 e), h5⟩

def fnsB (ops : Array Oper) (n : Nat) : Bool :=
  (List.range n).all fun i => match ops[i]? with
    | none => false
    | some o => o.after.all (fun e => !Region.binds .any e || decide (e.on < i)) &&
      (List.range ops.size).all fun j => match ops[j]? with
        | none => true
        | some oj => match oj.dst with
          | none => true
          | some d => (!(o.looksAt ops).contains d || (decide (j < i) && o.after.any fun e => Region.binds .any e && e.on == j)) && (j == i || o.dst != some d)

theorem fnsB_spec {n : Nat} (h : fnsB ops n = true) {i : Nat} {o : Oper} (hi : i < n) (ho : ops[i]? = some o) :
    (∀ e ∈ o.after, Region.binds .any e = true → e.on < i) ∧ ∀ j oj d, ops[j]? = some oj → oj.dst = some d →
      (d ∈ o.looksAt ops → j < i ∧ ∃ e ∈ o.after, Region.binds .any e = true ∧ e.on = j) ∧ (j ≠ i → o.dst ≠ some d) := by
  have h1 := List.all_eq_true.1 h i (List.mem_range.2 hi)
  simp only [ho, Bool.and_eq_true] at h1
  refine ⟨fun e he hb => ?_, fun j oj d hj hd => ?_⟩
  · have := Array.all_eq_true'.1 h1.1 e he
    simpa [hb] using this
  · have h2 := List.all_eq_true.1 h1.2 j (List.mem_range.2 (Array.getElem?_eq_some_iff.1 hj).1)
    simp only [hj, hd, Bool.and_eq_true, Bool.or_eq_true, decide_eq_true_eq, Bool.not_eq_true', bne_iff_ne, beq_iff_eq] at h2
    refine ⟨fun hl => ?_, fun hne => ?_⟩
    · rcases h2.1 with h3 | h3
      · have : (o.looksAt ops).contains d = true := by simpa using hl
        rw [this] at h3; cases h3
      · refine ⟨h3.1, ?_⟩
        have := Array.any_eq_true'.1 h3.2
        obtain ⟨e, he, h4⟩ := this
        simp only [Bool.and_eq_true, beq_iff_eq] at h4
        exact ⟨e, he, h4.1, h4.2⟩
    · rcases h2.2 with h3 | h3
      · exact absurd h3 hne
      · exact h3

theorem get_put_ne {s : St} {d : Option Nat} {v : AV} {t : Nat} (h : d ≠ some t) : get (s.put d v).ts t = get s.ts t := by
  cases d with
  | none => rfl
  | some d => show get ((d, v) :: s.ts) t = _; simp only [get]; rw [if_neg (fun e => h (by rw [e]))]
theorem get_put_eq {s : St} {d : Nat} {v : AV} : get (s.put (some d) v).ts d = some v := by
  show get ((d, v) :: s.ts) d = _; simp [get]

theorem vfn_spec {K : St → Prop} {n : Nat} (hB : fnsB ops n = true) : ∀ (l : List Oper) (k : Nat) (s : St), (∀ j, j < l.length → l[j]? = ops[k + j]?) → k + l.length = n → vfn P c ops K l s →
    ∃ sF, K sF ∧ sF.L = s.L ∧ sF.G = s.G ∧ (∀ t, (∀ i o, k ≤ i → i < n → ops[i]? = some o → o.dst ≠ some t) → get sF.ts t = get s.ts t) ∧
      ∀ i o, k ≤ i → i < n → ops[i]? = some o → ∃ v, OpTo P c ops sF o v ∧ ∀ d, o.dst = some d → get sF.ts d = some v
  | [], k, s, hl, hk, h => ⟨s, h, rfl, rfl, fun _ _ => rfl, fun i o h1 h2 => by simp at hk; omega⟩
  | o :: l, k, s, hl, hk, h => by
    obtain ⟨v, ho, h⟩ := h
    have h0 : ops[k]? = some o := by simpa using (hl 0 (by simp)).symm
    have hkn : k < n := by simp only [List.length_cons] at hk; omega
    obtain ⟨sF, hK, hL, hG, hfr, hall⟩ := vfn_spec hB l (k + 1) (s.put o.dst v) (fun j hj => by have := hl (j + 1) (by simp; omega); simpa [Nat.add_assoc, Nat.add_comm 1 j] using this) (by simp only [List.length_cons] at hk; omega) h
    obtain ⟨-, hs⟩ := fnsB_spec hB hkn h0
    have hL' : sF.L = s.L := hL.trans (by cases o.dst <;> rfl)
    have hG' : sF.G = s.G := hG.trans (by cases o.dst <;> rfl)
    refine ⟨sF, hK, hL', hG', fun t ht => ?_, fun i oi hki hin hoi => ?_⟩
    · rw [hfr t (fun i oi h1 h2 h3 => ht i oi (by omega) h2 h3), get_put_ne (ht k o (Nat.le_refl _) hkn h0)]
    · by_cases hik : i = k
      · subst hik
        have := Option.some.inj (hoi.symm.trans h0)
        subst this
        refine ⟨v, ho.alike ⟨hL', hG', fun t ht => ?_⟩, fun d hd => ?_⟩
        · have e1 := hfr t (fun j oj h1 h2 h3 h4 => by have := ((hs j oj t h3 h4).1 ht).1; omega)
          have e2 := get_put_ne (s := s) (v := v) (d := oi.dst) (t := t) (fun h4 => by have := ((hs i oi t h0 h4).1 ht).1; omega)
          rw [e1, e2]
        · rw [hfr d (fun j oj h1 h2 h3 h4 => (hs j oj d h3 h4).2 (by omega) hd), hd, get_put_eq]
      · exact hall i oi (by omega) hin hoi

def cnt (listed : Array Bool) : Nat → Nat
  | 0 => 0
  | k + 1 => cnt listed k + if listed.getD k true then 0 else 1

theorem cnt_set {listed : Array Bool} {i : Nat} (hi : listed.getD i true = false) : ∀ k, cnt (listed.setIfInBounds i true) k + (if i < k then 1 else 0) = cnt listed k
  | 0 => by simp [cnt]
  | k + 1 => by
    have ih := cnt_set hi k
    simp only [cnt]
    by_cases hik : i = k
    · subst hik
      have hlt : i < listed.size := by
        rcases Nat.lt_or_ge i listed.size with h | h
        · exact h
        · simp [Array.getElem?_eq_none h] at hi
      have : (listed.setIfInBounds i true).getD i true = true := by simp [hlt]
      rw [this, hi]
      simp at ih ⊢
      omega
    · rw [getD_set_ne true hik]
      have : (i < k + 1) ↔ (i < k) := by omega
      simp only [this]
      omega

theorem cnt_zero {listed : Array Bool} : ∀ {k}, cnt listed k = 0 → ∀ j, j < k → listed.getD j true = true
  | 0, _, j, hj => by omega
  | k + 1, h, j, hj => by
    simp only [cnt] at h
    by_cases hjk : j = k
    · subst hjk
      cases hb : listed.getD j true with
      | true => rfl
      | false => rw [hb] at h; simp at h
    · exact cnt_zero (k := k) (by omega) j (by omega)

theorem cnt_pos {listed : Array Bool} : ∀ {k}, 0 < cnt listed k → ∃ j, j < k ∧ listed.getD j true = false ∧ ∀ i, i < j → listed.getD i true = true
  | 0, h => by simp [cnt] at h
  | k + 1, h => by
    by_cases h0 : 0 < cnt listed k
    · obtain ⟨j, h1, h2, h3⟩ := cnt_pos h0
      exact ⟨j, by omega, h2, h3⟩
    · refine ⟨k, by omega, ?_, fun i hi => cnt_zero (k := k) (by omega) i hi⟩
      simp only [cnt] at h
      cases hb : listed.getD k true with
      | true => rw [hb] at h; simp at h; omega
      | false => rfl

theorem RelS.alike {s s' : St} (hr : RelS σ s' nt a w) (hL : s'.L = s.L) (hG : s'.G = s.G) (hg : ∀ t, get s'.ts t = get s.ts t) : RelS σ s nt a w := by
  have hl : ∀ k, s.look k = s'.look k := fun k => by cases k <;> simp [St.look, hL, hG]
  exact ⟨hr.sz, hr.df, fun t x h => hr.vals t x (by rw [hg]; exact h), fun k blk h => hr.blks k blk (by rw [← hl]; exact h), fun k blk h => hr.cinv k blk (by rw [← hl]; exact h),
    fun id h => hr.gfree id (by rw [hG]; exact h), fun t h => hr.lfree t (by rw [hL]; exact h), hr.wf⟩

theorem wpList_back {σ0 : Sg} {w0 : World} {w' : World} (hp : Post σ0 σ w0 w') : ∀ (l' : List Oper) (a : Act) (w1 : World), wpList P ops (Conc c.nt Q σ w') l' a w1 → wpList P ops (Conc c.nt Q σ0 w0) l' a w1 := by
  intro l'
  induction l' with
  | nil => exact fun a w1 h => h.back hp
  | cons o rest ih =>
    intro a w1 h
    unfold wpList at h ⊢
    split
    · rename_i hw
      rw [if_pos hw] at h
      rcases h with h | ⟨h1, a0, w0, h2⟩
      · left
        unfold Oper.wp at *
        generalize (execOp a.eval o).run P w1 = r at *
        cases r with
        | ok n w2 =>
          cases n <;> simp only [Oper.upon] at h ⊢ <;> first | exact ih _ _ h | exact h | skip
          · exact Calls.mono h (fun e w3 he => by
              cases e with
              | returned v => exact ih _ _ he
              | panicked ch => exact Conc.back hp he
              | outgrown => obtain ⟨a0, w0, x, s', σ'', hx, _⟩ := he; cases hx)
          · exact Rows.mono h (fun v w3 he => ih _ _ he)
        | halt x w2 => cases x <;> simp only [Oper.upon] at h ⊢ <;> first | exact Conc.back hp h | exact h
      · obtain ⟨x, s', σ'', hx, _⟩ := h2; cases hx
    · rename_i hw; rw [if_neg hw] at h; exact ih _ _ h

def headOf (ops : Array Oper) (n : Nat) : Array Bool := ((List.range ops.size).map fun j => decide (j < n)).toArray

def fnsOk (ops : Array Oper) (n : Nat) : Bool :=
  Region.noSelect ops && fnsB ops n && decide (n ≤ ops.size) && ((decide (n = ops.size)) || (List.range n).all fun i => lateF ops n i) && Region.seqB .any ops (ops.size - n) n (headOf ops n)

/-- No slot's value may be appended to from a cell. -/
def noC (s : St) : Prop := ∀ t v, get s.ts t = some v → v.dis isC = v

theorem fns_sound {n : Nat} (hB : fnsB ops n = true) (hn : n ≤ ops.size) (hlate : n = ops.size ∨ ∀ i, i < n → lateF ops n i = true) (hseq : Region.seqB .any ops (ops.size - n) n (headOf ops n) = true)
    {l : List Oper} (hl : ∀ j, l[j]? = ops[n + j]?) (hll : l.length = ops.size - n) {sF : St} (hK : vopsL P c ops Q l sF) {σ0 : Sg} {w0 : World}
    (hall : ∀ i o, i < n → ops[i]? = some o → ∃ v, OpTo P c ops sF o v ∧ ∀ d, o.dst = some d → get sF.ts d = some v) : ∀ (m : Nat) (listed : Array Bool) (s' : St) (σ : Sg) (a : Act) (w : World),
    cnt listed n = m → HeadInv .any ops n listed → RelS σ s' c.nt a w → Post σ0 σ w0 w → noC s' → s'.L = sF.L → s'.G = sF.G →
    (∀ t, (∀ j o, j < n → ops[j]? = some o → listed.getD j true = false → o.dst ≠ some t) → get s'.ts t = get sF.ts t) →
    wpAny P .any ops (Conc c.nt Q σ0 w0) (m + (ops.size - n)) listed a w := by
  intro m
  induction m with
  | zero =>
    intro listed s' σ a w hm hi hr hp hc hL hG hg
    have hz := cnt_zero hm
    have hls : listed = headOf ops n := by
      apply Array.ext
      · simp [headOf, hi.size]
      · intro j h1 h2
        have hjs : j < ops.size := by rw [← hi.size]; exact h1
        have e : listed[j] = listed.getD j true := by simp [h1]
        rw [e]
        simp only [headOf, List.getElem_toArray, List.getElem_map, List.getElem_range]
        by_cases hjn : j < n
        · rw [hz j hjn]; simp [hjn]
        · rw [hi.tail j (by omega) hjs]; simp [hjn]
    subst hls
    have hr' : RelS σ sF c.nt a w := hr.alike hL hG fun t => hg t fun j o hj _ hf => by rw [hz j hj] at hf; cases hf
    have h1 := vops_sound _ sF (vops_of_list (ops := ops) l n sF hl hK) σ a _ hr'
    rw [wpOps_eq_wpList _ _ hl] at h1
    have := wpAny_of_seq (md := .any) (Q' := Conc c.nt Q σ0 w0) l n (headOf ops n) a w hl (by rw [hll]; exact hseq) (wpList_back hp _ _ _ h1)
    rw [hll] at this
    simpa using this
  | succ m ih =>
    intro listed s' σ a w hm hi hr hp hc hL hG hg
    obtain ⟨j0, hj0, hj0f, hj0l⟩ := cnt_pos (listed := listed) (k := n) (by omega)
    obtain ⟨o0, ho0⟩ : ∃ o, ops[j0]? = some o := ⟨ops[j0]'(by omega), Array.getElem?_eq_getElem (by omega)⟩
    rw [show m + 1 + (ops.size - n) = m + (ops.size - n) + 1 by omega]
    have hls : ∀ {i : Nat}, i < n → listed.getD i true = true → listed.getD i false = true := fun {i} h1 h2 => by
      have : i < listed.size := by rw [hi.size]; omega
      simp [this] at h2 ⊢; exact h2
    refine ⟨fun he => ?_, fun i hir => ?_⟩
    · exfalso
      have : j0 ∈ Region.ready .any ops listed := mem_ready.2 ⟨hj0f, o0, ho0, fun e he hb => by
        have h1 := (fnsB_spec hB hj0 ho0).1 e he hb
        exact hls (by omega) (hj0l _ h1)⟩
      rw [he] at this; cases this
    · obtain ⟨hif, o, hoi, hdeps⟩ := mem_ready.1 hir
      have hin : i < n := by
        rcases Nat.lt_or_ge i n with h | h
        · exact h
        · have hisz : i < ops.size := (Array.getElem?_eq_some_iff.1 hoi).1
          rcases hlate with h' | h'
          · omega
          · rcases lateF_waits (h' j0 hj0) i h hisz with h2 | h2
            · omega
            · exfalso
              have hcl : HeadInv .any ops ops.size listed := ⟨hi.size, hi.closed, fun t h1 h2 => by omega⟩
              have := waits_listed hcl h2 o hoi hdeps
              have h3 : j0 < listed.size := by rw [hi.size]; omega
              simp [h3] at this hj0f
              rw [this] at hj0f; cases hj0f
      obtain ⟨v, hv, hd⟩ := hall i o hin hoi
      obtain ⟨-, hsp⟩ := fnsB_spec hB hin hoi
      have hal : Alike (o.looksAt ops) sF s' := ⟨hL, hG, fun t ht => hg t fun j oj hj hoj hf hdj => by
        obtain ⟨-, e, he, hb, hej⟩ := (hsp j oj t hoj hdj).1 ht
        have := hdeps e he hb
        rw [hej] at this
        have h3 : j < listed.size := by rw [hi.size]; omega
        simp [h3] at this hf
        rw [this] at hf; cases hf⟩
      obtain ⟨hdk, hvd, hop⟩ := hv.alike hal
      have hi' := hi.set hir hin
      have hm' : cnt (listed.setIfInBounds i true) n = m := by
        have := cnt_set hif n
        rw [if_pos hin] at this; omega
      have next : ∀ (s'' : St) (σ' : Sg) (a' : Act) (w' : World), s''.L = s'.L → s''.G = s'.G → (∀ t, o.dst ≠ some t → get s''.ts t = get s'.ts t) → (∀ d, o.dst = some d → get s''.ts d = some v) →
          RelS σ' s'' c.nt a' w' → Post σ σ' w w' → wpAny P .any ops (Conc c.nt Q σ0 w0) (m + (ops.size - n)) (listed.setIfInBounds i true) a' w' := by
        intro s'' σ' a' w' hL' hG' hn1 hn2 hr' hp'
        refine ih _ s'' σ' a' w' hm' hi' hr' (hp.trans hp') ?_ (hL'.trans hL) (hG'.trans hG) ?_
        · intro t x hx
          by_cases hdt : o.dst = some t
          · rw [hn2 t hdt] at hx; cases hx; exact hvd
          · rw [hn1 t hdt] at hx; exact hc t x hx
        · intro t ht
          by_cases hdt : o.dst = some t
          · rw [hn2 t hdt, hd t hdt]
          · rw [hn1 t hdt]
            refine hg t fun j oj hj hoj hf hdj => ?_
            by_cases hji : j = i
            · subst hji
              have := Option.some.inj (hoj.symm.trans hoi)
              subst this
              exact hdt hdj
            · exact ht j oj hj hoj (by rw [getD_set_ne true (Ne.symm hji)]; exact hf) hdj
      have run : EvTo P c s' o v → o.wp P a w (fun a' w' => wpAny P .any ops (Conc c.nt Q σ0 w0) (m + (ops.size - n)) (listed.setIfInBounds i true) a' w') (Conc c.nt Q σ0 w0) := by
        rintro (h1 | ⟨f, args, h1, h2, h3⟩)
        · obtain ⟨x, hx1, hx2⟩ := avalB_run hr h1
          unfold Oper.wp
          rw [hx1]
          refine next (s'.put o.dst v) σ _ w (by cases o.dst <;> rfl) (by cases o.dst <;> rfl) (fun t ht => get_put_ne ht) (fun d hd => by rw [hd, get_put_eq]) (hr.put hx2 hdk) (.refl _ _)
        · have hvop : vop P c o (fun s'' => s'' = (s'.dis isC).put o.dst v) (fun _ _ => False) s' := by
            unfold vop
            rw [if_neg (fun ha => by rw [anyB_bad ha] at h1; cases h1), h1]
            exact ⟨h2, h3.mono (by rintro r G' ⟨rfl, rfl⟩; rfl)⟩
          refine vop_sound hvop hr (fun s'' σ' a' w' hs hr' hp' => ?_) (fun _ _ _ _ _ _ h => h.elim)
          subst hs
          refine next _ σ' a' w' (by cases o.dst <;> rfl) (by cases o.dst <;> rfl) (fun t ht => ?_) (fun d hd => by rw [hd, get_put_eq]) hr' hp'
          rw [get_put_ne ht]
          show get (s'.ts.map fun x => (x.1, x.2.dis isC)) t = _
          rw [get_map]
          cases hgt : get s'.ts t with
          | none => rfl
          | some x => simp [hc t x hgt]
      unfold wpOp
      simp only [hoi]
      cases hgd : o.guard with
      | none =>
        have hw : Region.wanted o (yielded ops a.tmps) = true := by simp [Region.wanted, hgd]
        rw [if_pos hw]
        simp only [hgd] at hop
        exact .inl (run hop)
      | some p =>
        obtain ⟨j, want⟩ := p
        simp only [hgd] at hop
        obtain ⟨b, hb, h1, h2⟩ := hop
        have hy := guardVal_rel hr hb
        by_cases hbw : b = want
        · have hw : Region.wanted o (yielded ops a.tmps) = true := by simp [Region.wanted, hgd, hy, hbw]
          rw [if_pos hw]
          exact .inl (run (h1 hbw))
        · have hw : Region.wanted o (yielded ops a.tmps) = false := by simp [Region.wanted, hgd, hy, hbw]
          rw [if_neg (by rw [hw]; simp)]
          have hvt := h2 (by cases b <;> cases want <;> simp at hbw ⊢)
          subst hvt
          exact next (s'.put o.dst (.tuple [])) σ _ w (by cases o.dst <;> rfl) (by cases o.dst <;> rfl) (fun t ht => get_put_ne ht) (fun d hd => by rw [hd, get_put_eq]) (hr.put (.tuple rfl (by simp)) hdk) (.refl _ _)

/-- A region whose order is open: n operations that read or call what leaves the heap alone, and others that wait for one another. -/
theorem awp_fns {id : Nat} {l : List Oper} (n : Nat) (hm : P.follows .mixedOrders = true) (hB : fnsOk l.toArray n = true) (hc : s.ts.all (fun x => x.2.chk (fun _ => true) (fun t => !isC t)) = true)
    (h : vfn P c l.toArray (fun s => vopsL P c l.toArray Q (l.drop n) s) (l.take n) s) : AWp P c.nt (.region id l.toArray true) Q s := by
  intro σ a w hr
  simp only [fnsOk, Bool.and_eq_true, Bool.or_eq_true, decide_eq_true_eq] at hB
  obtain ⟨⟨⟨⟨hsel, hB⟩, hn⟩, hlate⟩, hseq⟩ := hB
  have hn' : n ≤ l.length := by simpa using hn
  refine wp_region_any hm ?_
  obtain ⟨sF, hK, hL, hG, hfr, hall⟩ := vfn_spec hB (l.take n) 0 s (fun j hj => by simp at hj; simp [show j < n by omega]) (by simp; omega) h
  have inv0 : HeadInv .any l.toArray n (Array.replicate l.toArray.size false) :=
    ⟨by simp, fun j oj _ hl => (by rw [getD_replicate_false] at hl; cases hl), fun t _ ht => getD_in (by simpa using ht) (getD_replicate_false _ _)⟩
  have hcnt : ∀ k, k ≤ l.toArray.size → cnt (Array.replicate l.toArray.size false) k = k := by
    intro k
    induction k with
    | zero => intro _; rfl
    | succ k ih =>
      intro hk
      simp only [cnt]
      rw [ih (by omega)]
      have : (Array.replicate l.toArray.size false).getD k true = false := getD_in (by simp at hk ⊢; omega) (getD_replicate_false _ _)
      rw [this]; simp
  have := fns_sound (Q := Q) (σ0 := σ) (w0 := w) hB hn (hlate.imp (fun h => h) fun h i hi => List.all_eq_true.1 h i (List.mem_range.2 hi)) hseq (l := l.drop n) (fun j => by simp [List.getElem?_drop]) (by simp) hK (fun i o hi ho => hall i o (Nat.zero_le _) hi ho) n
    (Array.replicate l.toArray.size false) s σ a { w with drawn := w.drawn + 1 } (hcnt n hn) inv0 (hr.draw _) (.draw _ _ _) ?_ hL.symm hG.symm ?_
  · rw [show n + (l.toArray.size - n) = l.toArray.size by omega] at this
    exact this
  · intro t v hv
    have hmem := List.all_eq_true.1 hc _ (mem_of_get hv)
    exact dis_same v hmem
  · intro t ht
    exact (hfr t fun i o _ hi ho => ht i o hi ho (by
      exact getD_in (by simp; omega) (getD_replicate_false _ _))).symm

theorem vfn_done {K : St → Prop} (k : K s) : vfn P c ops K [] s := k

theorem vfn_ev {K : St → Prop} {o : Oper} {l : List Oper} {v : AV} (hg : o.guard = none) (hd : dstOk c.nt o.dst = true) (hv : v.dis isC = v) (he : EvTo P c s o v) (k : vfn P c ops K l (s.put o.dst v)) : vfn P c ops K (o :: l) s :=
  ⟨v, ⟨hd, hv, by simp only [hg]; exact he⟩, k⟩
theorem vfn_evG {K : St → Prop} {o : Oper} {l : List Oper} {v : AV} {j : Nat} {want : Bool} (hg : o.guard = some (j, want)) (hw : guardVal ops s j want = some want) (hd : dstOk c.nt o.dst = true) (hv : v.dis isC = v) (he : EvTo P c s o v) (k : vfn P c ops K l (s.put o.dst v)) : vfn P c ops K (o :: l) s :=
  ⟨v, ⟨hd, hv, by simp only [hg]; exact ⟨want, hw, fun _ => he, fun e => by cases want <;> simp at e⟩⟩, k⟩
theorem vfn_off {K : St → Prop} {o : Oper} {l : List Oper} {j : Nat} {want b : Bool} (hg : o.guard = some (j, want)) (hw : guardVal ops s j want = some b) (hb : b ≠ want) (hd : dstOk c.nt o.dst = true) (k : vfn P c ops K l (s.put o.dst (.tuple []))) : vfn P c ops K (o :: l) s :=
  ⟨.tuple [], ⟨hd, rfl, by simp only [hg]; exact ⟨b, hw, fun e => absurd e hb, fun _ => trivial⟩⟩, k⟩

theorem runV_mem {l : List Oper} : ∀ {s s' : St}, runV P c ops l s = some s' → ∀ x ∈ s.ts, x ∈ s'.ts := by
  induction l with
  | nil => intro s s' h x hx; simp only [runV, Option.some.injEq] at h; subst h; exact hx
  | cons o l ih =>
    intro s s' h x hx
    have step : ∀ {v : AV}, runV P c ops l (s.put o.dst v) = some s' → x ∈ s'.ts := fun h => ih h x (by
      cases o.dst with
      | none => exact hx
      | some d => exact List.mem_cons_of_mem _ hx)
    simp only [runV] at h
    split at h
    · split at h
      · split at h
        · exact step h
        · simp at h
      · simp at h
    · split at h
      · split at h
        · split at h
          · split at h
            · exact step h
            · simp at h
          · simp at h
        · split at h
          · exact step h
          · simp at h
      · simp at h

abbrev noCB (s : St) : Bool := s.ts.all fun x => x.2.chk (fun _ => true) (fun t => !isC t)

theorem vfn_run {K : St → Prop} {r : List Oper} : ∀ {l : List Oper} {s s' : St}, (∀ o ∈ l, o.dst ≠ none) → runV P c ops l s = some s' → noCB s' = true → vfn P c ops K r s' → vfn P c ops K (l ++ r) s
  | [], s, s', hdn, h, hc, k => by simp only [runV, Option.some.injEq] at h; subst h; exact k
  | o :: l, s, s', hdn, h, hc, k => by
    have hdl : ∀ o ∈ l, o.dst ≠ none := fun x hx => hdn x (List.mem_cons_of_mem _ hx)
    obtain ⟨d, hd⟩ : ∃ d, o.dst = some d := by
      cases h : o.dst with
      | none => exact absurd h (hdn o (by simp))
      | some d => exact ⟨d, rfl⟩
    have hv : ∀ {v : AV}, runV P c ops l (s.put o.dst v) = some s' → v.dis isC = v := fun {v} h => by
      have hm := runV_mem h (d, v) (by rw [hd]; exact List.mem_cons_self ..)
      exact dis_same v (List.all_eq_true.1 hc _ hm)
    simp only [runV] at h
    simp only [List.cons_append]
    split at h
    · rename_i hg
      split at h
      · rename_i v hv'
        split at h
        · rename_i hd'; exact vfn_ev hg hd' (hv h) (.inl hv') (vfn_run hdl h hc k)
        · simp at h
      · simp at h
    · rename_i j want hg
      split at h
      · rename_i b hb
        split at h
        · rename_i hbw
          subst hbw
          split at h
          · rename_i v hv'
            split at h
            · rename_i hd'; exact vfn_evG hg hb hd' (hv h) (.inl hv') (vfn_run hdl h hc k)
            · simp at h
          · simp at h
        · rename_i hbw
          split at h
          · rename_i hd'; exact vfn_off hg hb hbw hd' (vfn_run hdl h hc k)
          · simp at h
      · simp at h

theorem vfn_take (n : Nat) {K : St → Prop} {l : List Oper} (hdn : (l.take n).all (fun o => o.dst.isSome) = true) (h : runV P c ops (l.take n) s = some s') (hc : noCB s' = true) (k : vfn P c ops K (l.drop n) s') : vfn P c ops K l s := by
  have := vfn_run (fun o ho e => by have := List.all_eq_true.1 hdn o ho; rw [e] at this; cases this) h hc k
  rwa [List.take_append_drop] at this

theorem vfn_cmp {o : Oper} {l : List Oper} {K : St → Prop} {b : Bool} (hg : o.guard = none) (hv : avalB P s o = some (.p (.bool b))) (hd : dstOk c.nt o.dst = true)
    (k : ∀ b', b = b' → vfn P c ops K l (s.put o.dst (.p (.bool b')))) : vfn P c ops K (o :: l) s := vfn_ev hg hd rfl (.inl hv) (k b rfl)
theorem vfn_cmpG {o : Oper} {l : List Oper} {K : St → Prop} {b : Bool} {j : Nat} {want : Bool} (hg : o.guard = some (j, want)) (hw : guardVal ops s j want = some want) (hv : avalB P s o = some (.p (.bool b))) (hd : dstOk c.nt o.dst = true)
    (k : ∀ b', b = b' → vfn P c ops K l (s.put o.dst (.p (.bool b')))) : vfn P c ops K (o :: l) s := vfn_evG hg hw hd rfl (.inl hv) (k b rfl)
theorem vfn_idx {o : Oper} {l : List Oper} {K : St → Prop} {t e : TypeId} {x i : Operand} {rows : List (List PV)} {row : List PV} {k : IntKind} {n : Nat} (hr : rows[n]? = some row) (hg : o.guard = none) (ho : o.op = .indexAddr t x i)
    (ht : P.underlying t = some (.slice e)) (hx : ev s x = some (.p (.vec rows))) (hi : ev s i = some (.p (.int k n))) (hl : row.length = P.cellsOf e) (h0 : P.cellsOf e ≠ 0) (hd : dstOk c.nt o.dst = true) (hk : vfn P c ops K l (s.put o.dst (.rop row))) : vfn P c ops K (o :: l) s :=
  vfn_ev hg hd rfl (.inl (avalB_index ho ht hx hi hr hl h0)) hk
theorem vfn_idxG {o : Oper} {l : List Oper} {K : St → Prop} {t e : TypeId} {x i : Operand} {rows : List (List PV)} {row : List PV} {k : IntKind} {n : Nat} {j : Nat} {want : Bool} (hr : rows[n]? = some row) (hg : o.guard = some (j, want)) (hw : guardVal ops s j want = some want) (ho : o.op = .indexAddr t x i)
    (ht : P.underlying t = some (.slice e)) (hx : ev s x = some (.p (.vec rows))) (hi : ev s i = some (.p (.int k n))) (hl : row.length = P.cellsOf e) (h0 : P.cellsOf e ≠ 0) (hd : dstOk c.nt o.dst = true) (hk : vfn P c ops K l (s.put o.dst (.rop row))) : vfn P c ops K (o :: l) s :=
  vfn_evG hg hw hd rfl (.inl (avalB_index ho ht hx hi hr hl h0)) hk
theorem vfn_fn {o : Oper} {l : List Oper} {K : St → Prop} {f : FuncId} {args : List AV} {v : AV} (hg : o.guard = none) (he : eff P c s o = .call f args) (hf : args.all AV.free = true) (hd : dstOk c.nt o.dst = true) (hv : v.dis isC = v) (hc : FnIs P f args s.G v)
    (k : vfn P c ops K l (s.put o.dst v)) : vfn P c ops K (o :: l) s := vfn_ev hg hd hv (.inr ⟨f, args, he, hf, hc⟩) k
theorem vfn_fnG {o : Oper} {l : List Oper} {K : St → Prop} {f : FuncId} {args : List AV} {v : AV} {j : Nat} {want : Bool} (hg : o.guard = some (j, want)) (hw : guardVal ops s j want = some want) (he : eff P c s o = .call f args) (hf : args.all AV.free = true) (hd : dstOk c.nt o.dst = true) (hv : v.dis isC = v) (hc : FnIs P f args s.G v)
    (k : vfn P c ops K l (s.put o.dst v)) : vfn P c ops K (o :: l) s := vfn_evG hg hw hd hv (.inr ⟨f, args, he, hf, hc⟩) k

theorem vopsL_callG {o : Oper} {l : List Oper} {f : FuncId} {args : List AV} {j : Nat} {want : Bool} (hg : o.guard = some (j, want)) (hw : guardVal ops s j want = some want) (he : eff P c s o = .call f args) (hf : args.all AV.free = true) {R : AEnd → List Blk → Prop} (hc : ACalls P f args s.G R)
    (k : ∀ r G', R r G' → match r with
      | .ret v => vopsL P c ops Q l (({ s with G := G' }.dis isC).put o.dst v)
      | .panic v => Q (.panic v) ({ s with G := G' }.dis isC)) : vopsL P c ops Q (o :: l) s := by
  refine vopsL_on hg hw ?_
  unfold vop
  rw [if_neg (fun ha => by rw [anyB_bad ha] at he; cases he), he]
  exact ⟨hf, hc.mono k⟩

/-- Lists of the state are no longer than lists may be. -/
theorem awp_len {code : Code} {t : Nat} {rows : List (List PV)} (ht : get s.ts t = some (.p (.vec rows))) (h : rows.length ≤ 9223372036854775807 → AWp P nt code Q s) : AWp P nt code Q s := by
  intro σ a w hr
  refine h (show rows.length ≤ maxLen from ?_) σ a w hr
  obtain ⟨-, hx⟩ := hr.vals _ _ ht
  generalize a.tmps.getD t undef = x at hx
  cases hx with | p hx =>
  cases hx with
  | vec0 => simp
  | vec rows b o cap sz val hsz hI hR hmax hcap => exact hmax

theorem drop_get {α : Type} {l : List α} {i : Nat} {e : α} (h : l[i]? = some e) : l.drop i = e :: l.drop (i + 1) := by
  obtain ⟨h1, h2⟩ := List.getElem?_eq_some_iff.1 h
  rw [List.drop_eq_getElem_cons h1, h2]
end
end Go.Abs

/-
  The reference's counts of parts.
-/
set_option linter.unusedVariables false
set_option maxRecDepth 100000
namespace Go.Proofs.Ytnicgdfnfnchjaa
open Go.Abs

abbrev cfg (n : Nat) : Cfg := ⟨n, [], false, fun _ => none, fun _ => none⟩

def exprsS (es : List E) (most n : Int) (i : Nat) (G : List Blk) : St := { ts := [(0, .p (.vec (E.rows es))), (1, .p (j64 most)), (5, .p (j64 n)), (6, .p (j64 i))], L := [], G := G }
def exprsE (n : Int) (G : List Blk) : St := { ts := [(5, .p (j64 n))], L := [], G := G }

def ExprsC (es : List E) : Prop := ∀ (most : Int) (G : List Blk), most < 1000000 → -1000000 < most →
    ACalls Try.prog 75 [.p (.vec (E.rows es)), .p (j64 most)] G fun r G' => G' = G ∧ ∃ n : Int, r = .ret (.p (j64 n)) ∧ Cut (E.sizes es) most n 1

theorem Cut.le {s : Nat} {most n k : Int} (h : Cut s most n k) (hn : n ≤ most) : n = s := by rcases h.2 with h | h <;> omega
theorem Cut.gt {s s' : Nat} {most n k k' : Int} (h : Cut s most n k) (hn : ¬ n ≤ most) (hs : s ≤ s') (hk : k ≤ k') : Cut s' most n k' := by
  rcases h.2 with h' | h'
  · omega
  · exact ⟨h.1, .inr ⟨by omega, by omega, by omega⟩⟩

theorem lt_get {α : Type} {l : List α} {rows : List (List PV)} {i : Nat} (hlen : rows.length = l.length) (h : decide ((i : Int) < (rows.length : Int)) = true) : ∃ e, l[i]? = some e ∧ i < l.length := by
  have : i < l.length := by simp [hlen] at h; omega
  exact ⟨l[i], List.getElem?_eq_getElem this, this⟩
theorem ge_eq {α : Type} {l : List α} {rows : List (List PV)} {i : Nat} (hlen : rows.length = l.length) (hi : i ≤ l.length) (h : decide ((i : Int) < (rows.length : Int)) = false) : i = l.length := by
  simp [hlen] at h; omega

theorem c_exprs (es : List E) (ih : ∀ op n nm ks, E.mk op n nm ks ∈ es → ExprsC ks) : ExprsC es := by
  intro most G h1 h2
  have hlen := E.rows_len es
  refine acalls_fn (cfg 35) Try.func75 rfl rfl rfl (by simp) fun hG => ?_
  refine awp_seq ?_
  refine awp_run rfl ?_
  refine awp_seq ?_
  refine awp_run rfl ?_
  refine awp_seq ?_
  refine awp_seq ?_
  refine awp_run rfl ?_
  refine awp_weak (s' := exprsS es most 0 0 G) (weakL _ ⟨rfl, rfl, rfl, rfl, trivial⟩ rfl rfl) ?_
  refine awp_forE (fun m s => ∃ (i : Nat) (n : Int), s = exprsS es most n i G ∧ i ≤ es.length ∧ m = es.length - i ∧ (i : Int) ≤ max (most + 1) 0 ∧ Cut (E.sizes (es.take i)) most n 1)
    (fun s => ∃ n : Int, s = exprsE n G ∧ Cut (E.sizes es) most n 1) es.length ⟨0, 0, rfl, by omega, by omega, by omega, by simp [Cut, E.sizes]; omega⟩ ?_ ?_
  · rintro m s ⟨i, n, rfl, hi, rfl, him, hc⟩
    refine awp_seq ?_
    refine awp_seq ?_
    refine awp_ops ?_
    refine vopsL_take 3 rfl ?_
    refine vopsL_cmp rfl rfl rfl (by decide) rfl fun b hb10 => ?_
    cases b with
    | false =>
      refine vopsL_take 5 rfl ?_
      refine awp_if false rfl (fun e => by cases e) fun _ => ?_
      refine awp_exit ?_
      refine ⟨exprsE n G, weakL _ ⟨rfl, trivial⟩ rfl rfl, n, rfl, ?_⟩
      have := ge_eq hlen hi hb10
      subst this
      simpa using hc
    | true =>
      obtain ⟨e, he, hlt⟩ := lt_get hlen hb10
      have hx := E.rows_get he
      have htk := E.sizes_take_succ he
      have htl := E.sizes_take_le es (i + 1)
      obtain ⟨op, en, nm, ks⟩ := e
      simp only [E.size] at htk
      refine vopsL_take 3 rfl ?_
      refine vopsL_cmpG rfl rfl rfl rfl (by decide) rfl fun b hb14 => ?_
      cases b with
      | false =>
        refine vopsL_take 1 rfl ?_
        refine awp_if false rfl (fun e => by cases e) fun _ => ?_
        refine awp_exit ?_
        refine ⟨exprsE n G, weakL _ ⟨rfl, trivial⟩ rfl rfl, n, rfl, ?_⟩
        exact hc.gt (by simpa using hb14) (E.sizes_take_le es i) (by omega)
      | true =>
        have hm : n ≤ most := by simpa using hb14
        have hn0 := hc.1
        have hn := hc.le hm
        have hil := E.len_le (es.take i)
        rw [List.length_take, Nat.min_eq_left hi] at hil
        refine vopsL_take 1 rfl ?_
        refine awp_if true rfl (fun _ => ?_) (fun e => by cases e)
        refine awp_skip ?_
        refine awp_seq ?_
        refine awp_block ?_
        refine awp_seq ?_
        refine awp_run rfl ?_
        rw [wrap64 (x := n + 1) (by omega)]
        refine awp_seq ?_
        refine awp_ops ?_
        refine vopsL_take 2 rfl ?_
        refine vopsL_cmp rfl rfl rfl (by decide) rfl fun b hb22 => ?_
        cases b with
        | false =>
          have hm2 : ¬ n + 1 ≤ most := by simpa using hb22
          refine awp_if false rfl (fun e => by cases e) fun _ => ?_
          refine awp_skip ?_
          refine awp_run rfl ?_
          rw [wrap64 (x := (i : Int) + 1) (by omega)]
          refine ⟨exprsS es most (n + 1) (i + 1) G, weakL _ ⟨rfl, rfl, rfl, rfl, trivial⟩ rfl rfl, es.length - (i + 1), by omega, i + 1, n + 1, rfl, by omega, rfl, by omega, ?_⟩
          exact ⟨by omega, .inr ⟨by omega, by omega, by omega⟩⟩
        | true =>
          have hm2 : n + 1 ≤ most := by simpa using hb22
          refine awp_if true rfl (fun _ => ?_) (fun e => by cases e)
          refine awp_ops ?_
          refine vopsL_take 3 rfl ?_
          refine vopsL_idx hx rfl rfl rfl (by decide) rfl rfl rfl rfl (by decide) ?_
          refine vopsL_take 5 rfl ?_
          rw [wrap64 (x := most - (n + 1)) (by omega)]
          refine vopsL_call rfl rfl rfl (ih op en nm ks (List.mem_of_getElem? he) (most - (n + 1)) G (by omega) (by omega)) ?_
          rintro r G1 ⟨hg, q, rfl, hq⟩
          rw [show G1 = G from hg]
          refine vopsL_take 2 rfl ?_
          have hq0 := hq.1
          have hqu : q ≤ most - n := by rcases hq.2 with h | h <;> omega
          rw [wrap64 (x := n + 1 + q) (by omega)]
          refine awp_run rfl ?_
          rw [wrap64 (x := (i : Int) + 1) (by omega)]
          refine ⟨exprsS es most (n + 1 + q) (i + 1) G, weakL _ ⟨rfl, rfl, rfl, rfl, trivial⟩ rfl rfl, es.length - (i + 1), by omega, i + 1, n + 1 + q, rfl, by omega, rfl, by omega, ?_⟩
          refine ⟨by omega, ?_⟩
          rcases hq.2 with h | h
          · left; omega
          · right; omega
  · rintro s s' ⟨n, rfl, hc⟩ hw
    refine awp_weak hw ?_
    refine awp_seq ?_
    refine awp_run rfl ?_
    refine awp_ret ?_
    exact leave_ret_same [] rfl hG (by simp [exprsE]) rfl ⟨rfl, n, rfl, hc⟩

theorem Cut.add {a b : Nat} {most n q k k' : Int} (h : Cut a most n k) (hn : n ≤ most) (hq : Cut b (most - n) q k') (hk : 0 ≤ k') : Cut (a + b) most (n + q) k' := by
  have h0 := h.1
  have h1 := hq.1
  have := h.le hn
  refine ⟨by omega, ?_⟩
  rcases hq.2 with h | h
  · left; omega
  · right; omega

/-- One more than there is room for, at most. -/
theorem Cut.one {a b : Nat} {most n q k : Int} (h : Cut a most n k) (hn : n ≤ most) (hq : Cut b (most - n) q 1) : Cut (a + 1 + b) most (n + 1 + q) 2 := by
  have h0 := h.1
  have h1 := hq.1
  have := h.le hn
  refine ⟨by omega, ?_⟩
  rcases hq.2 with h | h
  · by_cases h3 : ((a + 1 + b : Nat) : Int) ≤ most
    · left; omega
    · right; omega
  · right; omega

theorem Cut.bound {a : Nat} {most n k : Int} (h : Cut a most n k) (h0 : -1000000 < most) (h1 : most < 1000000) (hk : k ≤ 2) : 0 ≤ n ∧ n ≤ max (most + 2) 0 := by
  rcases h.2 with h' | h' <;> exact ⟨h.1, by omega⟩

theorem Cut.mono {a : Nat} {most n k k' : Int} (h : Cut a most n k) (hk : k ≤ k') : Cut a most n k' := by
  refine ⟨h.1, ?_⟩
  rcases h.2 with h' | h'
  · exact .inl h'
  · right; omega

theorem Cut.more {a b : Nat} {most n k : Int} (h : Cut a most n k) (hn : ¬ n ≤ most) (hb : a ≤ b) : Cut b most n k := h.gt hn hb (Int.le_refl _)

def statsS (es : List S) (most n : Int) (i : Nat) (G : List Blk) : St := { ts := [(0, .p (.vec (S.rows es))), (1, .p (j64 most)), (5, .p (j64 n)), (6, .p (j64 i))], L := [], G := G }

def StatsC (es : List S) : Prop := ∀ (most : Int) (G : List Blk), most < 1000000 → -1000000 < most →
    ACalls Try.prog 29 [.p (.vec (S.rows es)), .p (j64 most)] G fun r G' => G' = G ∧ ∃ n : Int, r = .ret (.p (j64 n)) ∧ Cut (S.sizes es) most n 2

theorem c_stats (es : List S) (hE : ∀ es, ExprsC es) (ih : ∀ op n ex bo ot, S.mk op n ex bo ot ∈ es → StatsC bo ∧ StatsC ot) : StatsC es := by
  intro most G h1 h2
  have hlen := S.rows_len es
  refine acalls_fn (cfg 59) Try.func29 rfl rfl rfl (by simp) fun hG => ?_
  refine awp_seq ?_
  refine awp_run rfl ?_
  refine awp_seq ?_
  refine awp_run rfl ?_
  refine awp_seq ?_
  refine awp_seq ?_
  refine awp_run rfl ?_
  refine awp_weak (s' := statsS es most 0 0 G) (weakL _ ⟨rfl, rfl, rfl, rfl, trivial⟩ rfl rfl) ?_
  refine awp_forE (fun m s => ∃ (i : Nat) (n : Int), s = statsS es most n i G ∧ i ≤ es.length ∧ m = es.length - i ∧ (i : Int) ≤ max (most + 1) 0 ∧ Cut (S.sizes (es.take i)) most n 2)
    (fun s => ∃ n : Int, s = exprsE n G ∧ Cut (S.sizes es) most n 2) es.length ⟨0, 0, rfl, by omega, by omega, by omega, by simp [Cut, S.sizes]; omega⟩ ?_ ?_
  · rintro m s ⟨i, n, rfl, hi, rfl, him, hc⟩
    refine awp_seq ?_
    refine awp_seq ?_
    refine awp_ops ?_
    refine vopsL_take 3 rfl ?_
    refine vopsL_cmp rfl rfl rfl (by decide) rfl fun b hb10 => ?_
    cases b with
    | false =>
      refine vopsL_take 5 rfl ?_
      refine awp_if false rfl (fun e => by cases e) fun _ => ?_
      refine awp_exit ?_
      refine ⟨exprsE n G, weakL _ ⟨rfl, trivial⟩ rfl rfl, n, rfl, ?_⟩
      have := ge_eq hlen hi hb10
      subst this
      simpa using hc
    | true =>
      obtain ⟨e, he, hlt⟩ := lt_get hlen hb10
      have hx := S.rows_get he
      have htk := S.sizes_take_succ he
      have htl := S.sizes_take_le es (i + 1)
      obtain ⟨op, en, ex, bo, ot⟩ := e
      simp only [S.size] at htk
      obtain ⟨ihb, iho⟩ := ih op en ex bo ot (List.mem_of_getElem? he)
      refine vopsL_take 3 rfl ?_
      refine vopsL_cmpG rfl rfl rfl rfl (by decide) rfl fun b hb14 => ?_
      cases b with
      | false =>
        refine vopsL_take 1 rfl ?_
        refine awp_if false rfl (fun e => by cases e) fun _ => ?_
        refine awp_exit ?_
        refine ⟨exprsE n G, weakL _ ⟨rfl, trivial⟩ rfl rfl, n, rfl, ?_⟩
        exact hc.more (by simpa using hb14) (S.sizes_take_le es i)
      | true =>
        have hm : n ≤ most := by simpa using hb14
        have hn0 := hc.1
        have hn := hc.le hm
        have hil := S.len_le (es.take i)
        rw [List.length_take, Nat.min_eq_left hi] at hil
        refine vopsL_take 1 rfl ?_
        refine awp_if true rfl (fun _ => ?_) (fun e => by cases e)
        refine awp_skip ?_
        refine awp_cut (fun s => ∃ n : Int, s = statsS es most n i G ∧ Cut (S.sizes (es.take (i + 1))) most n 2) (awp_block ?_) ?_
        · refine awp_seq ?_
          refine awp_ops ?_
          refine vopsL_take 4 rfl ?_
          refine vopsL_idx hx rfl rfl rfl (by decide) rfl rfl rfl rfl (by decide) ?_
          refine vopsL_take 5 rfl ?_
          rw [wrap64 (x := n + 1) (by omega), wrap64 (x := most - n) (by omega)]
          refine vopsL_call rfl rfl rfl (hE ex (most - n) G (by omega) (by omega)) ?_
          rintro r G1 ⟨hg, q, rfl, hq⟩
          rw [show G1 = G from hg]
          refine vopsL_take 2 rfl ?_
          have hq2 := hq.bound (by omega) (by omega) (by decide)
          rw [wrap64 (x := n + 1 + q) (by omega)]
          have hc1 := hc.one hm hq
          refine awp_weak (s' := statsS es most (n + 1 + q) i G) (weakL _ ⟨rfl, rfl, rfl, rfl, trivial⟩ rfl rfl) ?_
          generalize n + 1 + q = n1 at hc1
          clear hq hq2 q hn hn0 hm hb14 hc n
          refine awp_cut (fun s => ∃ n : Int, s = statsS es most n i G ∧ Cut (S.sizes (es.take i) + 1 + E.sizes ex + S.sizes bo) most n 2) ?_ ?_
          · refine awp_seq ?_
            refine awp_ops ?_
            refine vopsL_take 2 rfl ?_
            refine vopsL_cmp rfl rfl rfl (by decide) rfl fun b hb32 => ?_
            cases b with
            | false =>
              refine awp_if false rfl (fun e => by cases e) fun _ => ?_
              refine awp_skip ?_
              refine ⟨statsS es most n1 i G, weakL _ ⟨rfl, rfl, rfl, rfl, trivial⟩ rfl rfl, n1, rfl, ?_⟩
              exact hc1.more (by simpa using hb32) (by omega)
            | true =>
              have hm : n1 ≤ most := by simpa using hb32
              have hn0 := hc1.1
              refine awp_if true rfl (fun _ => ?_) (fun e => by cases e)
              refine awp_ops ?_
              refine vopsL_take 3 rfl ?_
              refine vopsL_idx hx rfl rfl rfl (by decide) rfl rfl rfl rfl (by decide) ?_
              refine vopsL_take 5 rfl ?_
              rw [wrap64 (x := most - n1) (by omega)]
              refine vopsL_call rfl rfl rfl (ihb (most - n1) G (by omega) (by omega)) ?_
              rintro r G1 ⟨hg, q, rfl, hq⟩
              rw [show G1 = G from hg]
              refine vopsL_take 2 rfl ?_
              have hq2 := hq.bound (by omega) (by omega) (by decide)
              rw [wrap64 (x := n1 + q) (by omega)]
              refine ⟨statsS es most (n1 + q) i G, weakL _ ⟨rfl, rfl, rfl, rfl, trivial⟩ rfl rfl, n1 + q, rfl, hc1.add hm hq (by decide)⟩
          · rintro s ⟨n2, rfl, hc2⟩
            clear hc1 n1
            refine awp_seq ?_
            refine awp_ops ?_
            refine vopsL_take 2 rfl ?_
            refine vopsL_cmp rfl rfl rfl (by decide) rfl fun b hb46 => ?_
            rw [htk]
            cases b with
            | false =>
              refine awp_if false rfl (fun e => by cases e) fun _ => ?_
              refine awp_skip ?_
              refine ⟨statsS es most n2 i G, weakL _ ⟨rfl, rfl, rfl, rfl, trivial⟩ rfl rfl, n2, rfl, ?_⟩
              exact hc2.more (by simpa using hb46) (by omega)
            | true =>
              have hm : n2 ≤ most := by simpa using hb46
              have hn0 := hc2.1
              refine awp_if true rfl (fun _ => ?_) (fun e => by cases e)
              refine awp_ops ?_
              refine vopsL_take 3 rfl ?_
              refine vopsL_idx hx rfl rfl rfl (by decide) rfl rfl rfl rfl (by decide) ?_
              refine vopsL_take 5 rfl ?_
              rw [wrap64 (x := most - n2) (by omega)]
              refine vopsL_call rfl rfl rfl (iho (most - n2) G (by omega) (by omega)) ?_
              rintro r G1 ⟨hg, q, rfl, hq⟩
              rw [show G1 = G from hg]
              refine vopsL_take 2 rfl ?_
              have hq2 := hq.bound (by omega) (by omega) (by decide)
              rw [wrap64 (x := n2 + q) (by omega)]
              refine ⟨statsS es most (n2 + q) i G, weakL _ ⟨rfl, rfl, rfl, rfl, trivial⟩ rfl rfl, n2 + q, rfl, ?_⟩
              have := hc2.add hm hq (by decide)
              rwa [show S.sizes (es.take i) + 1 + E.sizes ex + S.sizes bo + S.sizes ot = S.sizes (es.take i) + (1 + E.sizes ex + S.sizes bo + S.sizes ot) by omega] at this
        · rintro s ⟨n3, rfl, hc3⟩
          refine awp_run rfl ?_
          rw [wrap64 (x := (i : Int) + 1) (by omega)]
          exact ⟨statsS es most n3 (i + 1) G, weakL _ ⟨rfl, rfl, rfl, rfl, trivial⟩ rfl rfl, es.length - (i + 1), by omega, i + 1, n3, rfl, by omega, rfl, by omega, hc3⟩
  · rintro s s' ⟨n, rfl, hc⟩ hw
    refine awp_weak hw ?_
    refine awp_seq ?_
    refine awp_run rfl ?_
    refine awp_ret ?_
    exact leave_ret_same [] rfl hG (by simp [exprsE]) rfl ⟨rfl, n, rfl, hc⟩

theorem exprsC : ∀ es : List E, ExprsC es := E.ind c_exprs
theorem statsC : ∀ es : List S, StatsC es := S.ind fun es ih => c_stats es exprsC ih
end Go.Proofs.Ytnicgdfnfnchjaa

/-
  Modules as data; how great they are.
-/
set_option linter.unusedVariables false
set_option maxRecDepth 100000
namespace Go.Proofs.Ytnicgdfnfnchjaa
open Go.Abs

structure F where
  name : ByteArray
  weak : Bool
  params : Int
  locals : Int
  body : List S

structure RF where
  place : Int
  name : ByteArray

structure D where
  name : ByteArray
  weak : Bool
  words : List Int
  refs : List RF

structure M where
  pkg : ByteArray
  funcs : List F
  datas : List D

def F.row (f : F) : List PV := [.str f.name, .bool f.weak, j64 f.params, j64 f.locals, .vec (S.rows f.body)]
def RF.row (r : RF) : List PV := [j64 r.place, .str r.name]
def wordRow (n : Int) : List PV := [j64 n]
def D.row (d : D) : List PV := [.str d.name, .bool d.weak, .vec (d.words.map wordRow), .vec (d.refs.map RF.row)]
def M.row (m : M) : List PV := [.str m.pkg, .vec (m.funcs.map F.row), .vec (m.datas.map D.row)]
def M.cells (m : M) : List AV := [.p (.str m.pkg), .p (.vec (m.funcs.map F.row)), .p (.vec (m.datas.map D.row))]

theorem map_get {α : Type} {f : α → List PV} {l : List α} {i : Nat} {e : α} (h : l[i]? = some e) : (l.map f)[i]? = some (f e) := by simp [h]
theorem map_len {α : Type} (f : α → List PV) (l : List α) : (l.map f).length = l.length := List.length_map ..

def sumBy {α : Type} (f : α → Nat) : List α → Nat
  | [] => 0
  | x :: r => f x + sumBy f r
theorem sumBy_append {α : Type} (f : α → Nat) (l r : List α) : sumBy f (l ++ r) = sumBy f l + sumBy f r := by
  induction l with
  | nil => simp [sumBy]
  | cons e l ih => simp [sumBy, ih]; omega
theorem sumBy_take_succ {α : Type} {f : α → Nat} {l : List α} {i : Nat} {e : α} (h : l[i]? = some e) : sumBy f (l.take (i + 1)) = sumBy f (l.take i) + f e := by
  rw [take_succ h, sumBy_append]; simp [sumBy]
theorem sumBy_take_le {α : Type} (f : α → Nat) (l : List α) (i : Nat) : sumBy f (l.take i) ≤ sumBy f l := by
  have := sumBy_append f (l.take i) (l.drop i)
  rw [List.take_append_drop] at this; omega
theorem sumBy_mem {α : Type} {f : α → Nat} {l : List α} {e : α} (h : e ∈ l) : f e ≤ sumBy f l := by
  induction l with
  | nil => cases h
  | cons x l ih =>
    rcases List.mem_cons.1 h with rfl | h
    · simp [sumBy]
    · have := ih h; simp [sumBy]; omega

def F.size (f : F) : Nat := S.sizes f.body
def M.parts (m : M) : Nat := sumBy F.size m.funcs
def M.words (m : M) : Nat := sumBy (fun d => d.words.length) m.datas
def D.bulk (d : D) : Nat := d.words.length + d.refs.length

/-- Lists are no longer than lists may be. -/
def M.fit (m : M) : Prop := m.funcs.length < 1000000000000000000 ∧ m.datas.length < 1000000000000000000

/-- No more than a statement goes through. -/
def M.mild (m : M) : Prop := m.parts ≤ 25000 ∧ sumBy D.bulk m.datas ≤ 25000 ∧ m.funcs.length + m.datas.length ≤ 200

def boxS (m : M) (ts : TS) (G : List Blk) : St := { ts := (1, .ptr (.l 1) 0) :: ts, L := [(1, m.cells)], G := G }

/-- So many so far, if few. -/
def Few (n : Int) (k : Nat) (most : Int) : Prop := 0 ≤ n ∧ n ≤ 3000000000000000000 ∧ (n ≤ most → n = k)

theorem Few.cut {n q : Int} {k b : Nat} {most : Int} (h : Few n k most) (hn : n ≤ most) (h1 : most < 1000000) (hq : Cut b (most - n) q 2) : Few (n + q) (k + b) most := by
  have h0 := h.1
  have h2 := h.2.2 hn
  have h3 := hq.1
  refine ⟨by omega, ?_, fun h4 => ?_⟩ <;> rcases hq.2 with h | h <;> omega

theorem c_great (m : M) (hf : m.fit) (G : List Blk) : ACalls Try.prog 11 [.agg m.cells] G fun r G' => G' = G ∧ ∃ b : Bool, r = .ret (.p (.bool b)) ∧ (b = false → m.mild) := by
  have hlen := map_len F.row m.funcs
  have hlen2 := map_len D.row m.datas
  obtain ⟨hf1, hf2⟩ := hf
  refine acalls_fn (cfg 77) Try.func11 rfl rfl rfl (by simp) fun hG => ?_
  refine awp_seq ?_
  refine awp_run rfl ?_
  refine awp_seq ?_
  refine awp_run rfl ?_
  rw [wrap64 (by rw [hlen, hlen2]; omega)]
  rw [hlen, hlen2]
  refine awp_seq ?_
  refine awp_seq ?_
  refine awp_run rfl ?_
  generalize hk : (m.funcs.length : Int) + m.datas.length = k
  have hk' : k = ((m.funcs.length + m.datas.length : Nat) : Int) := by omega
  refine awp_weak (s' := boxS m [(3, .p (j64 k)), (4, .p (j64 0))] G) (weakL _ ⟨rfl, rfl, rfl, trivial⟩ rfl rfl) ?_
  refine awp_forA (fun t s => ∃ (i : Nat) (n : Int), s = boxS m [(3, .p (j64 n)), (4, .p (j64 i))] G ∧ i ≤ m.funcs.length ∧ t = m.funcs.length - i ∧ Few n (m.funcs.length + m.datas.length + sumBy F.size (m.funcs.take i)) 25000)
    (fun s => ∃ n : Int, s = boxS m [(3, .p (j64 n))] G ∧ Few n (m.funcs.length + m.datas.length + m.parts) 25000) m.funcs.length ⟨0, k, rfl, by omega, by omega, by omega, by omega, by simp [sumBy]; omega⟩ ?_ ?_
  · rintro t s ⟨i, n, rfl, hi, rfl, hc⟩
    refine awp_seq ?_
    refine awp_seq ?_
    refine awp_ops ?_
    refine vopsL_take 4 rfl ?_
    refine vopsL_cmp rfl rfl rfl (by decide) rfl fun b hb17 => ?_
    cases b with
    | false =>
      refine vopsL_take 4 rfl ?_
      refine awp_if false rfl (fun e => by cases e) fun _ => ?_
      refine awp_exit ?_
      refine ⟨boxS m [(3, .p (j64 n))] G, weakL _ ⟨rfl, rfl, trivial⟩ rfl rfl, n, rfl, ?_⟩
      have := ge_eq hlen hi hb17
      subst this
      simpa [M.parts] using hc
    | true =>
      obtain ⟨e, he, hlt⟩ := lt_get hlen hb17
      have hx := map_get (f := F.row) he
      have htk := sumBy_take_succ (f := F.size) he
      have htl := sumBy_take_le F.size m.funcs (i + 1)
      have htl0 := sumBy_take_le F.size m.funcs i
      refine vopsL_take 2 rfl ?_
      refine vopsL_cmpG rfl rfl rfl rfl (by decide) rfl fun b hb20 => ?_
      cases b with
      | false =>
        have hm : ¬ n ≤ 25000 := by simpa using hb20
        refine vopsL_take 1 rfl ?_
        refine awp_if false rfl (fun e => by cases e) fun _ => ?_
        refine awp_exit ?_
        exact ⟨boxS m [(3, .p (j64 n))] G, weakL _ ⟨rfl, rfl, trivial⟩ rfl rfl, n, rfl, hc.1, hc.2.1, fun h => absurd h hm⟩
      | true =>
        have hm : n ≤ 25000 := by simpa using hb20
        have hn0 := hc.1
        refine vopsL_take 1 rfl ?_
        refine awp_if true rfl (fun _ => ?_) (fun e => by cases e)
        refine awp_skip ?_
        refine awp_seq ?_
        refine awp_block ?_
        refine awp_ops ?_
        refine vopsL_take 4 rfl ?_
        refine vopsL_idx hx rfl rfl rfl (by decide) rfl rfl rfl rfl (by decide) ?_
        refine vopsL_take 4 rfl ?_
        rw [wrap64 (x := 25000 - n) (by omega)]
        refine vopsL_call rfl rfl rfl (statsC e.body (25000 - n) G (by omega) (by omega)) ?_
        rintro r G1 ⟨hg, q, rfl, hq⟩
        rw [show G1 = G from hg]
        have hc' := hc.cut hm (by decide) hq
        refine vopsL_take 2 rfl ?_
        rw [wrap64 (x := n + q) (by have := hc'.1; have := hc'.2.1; omega)]
        refine awp_run rfl ?_
        rw [wrap64 (x := (i : Int) + 1) (by omega)]
        refine ⟨boxS m [(3, .p (j64 (n + q))), (4, .p (j64 ((i + 1 : Nat) : Int)))] G, weakL _ ⟨rfl, rfl, rfl, trivial⟩ rfl rfl, m.funcs.length - (i + 1), by omega, i + 1, n + q, rfl, by omega, rfl, ?_⟩
        rw [htk, ← Nat.add_assoc]
        exact hc'
  · rintro s ⟨n, rfl, hc⟩
    refine awp_seq ?_
    refine awp_seq ?_
    refine awp_run rfl ?_
    refine awp_weak (s' := boxS m [(3, .p (j64 n)), (5, .p (j64 0))] G) (weakL _ ⟨rfl, rfl, rfl, trivial⟩ rfl rfl) ?_
    refine awp_forA (fun t s => ∃ (i : Nat) (n : Int), s = boxS m [(3, .p (j64 n)), (5, .p (j64 i))] G ∧ i ≤ m.datas.length ∧ t = m.datas.length - i ∧ Few n (m.funcs.length + m.datas.length + m.parts + sumBy D.bulk (m.datas.take i)) 25000)
      (fun s => ∃ n : Int, s = boxS m [(3, .p (j64 n))] G ∧ Few n (m.funcs.length + m.datas.length + m.parts + sumBy D.bulk m.datas) 25000) m.datas.length ⟨0, n, rfl, by omega, by omega, by simpa [sumBy] using hc⟩ ?_ ?_
    · clear hc n
      rintro t s ⟨i, n, rfl, hi, rfl, hc⟩
      refine awp_seq ?_
      refine awp_seq ?_
      refine awp_ops ?_
      refine vopsL_take 4 rfl ?_
      refine vopsL_cmp rfl rfl rfl (by decide) rfl fun b hb39 => ?_
      cases b with
      | false =>
        refine vopsL_take 4 rfl ?_
        refine awp_if false rfl (fun e => by cases e) fun _ => ?_
        refine awp_exit ?_
        refine ⟨boxS m [(3, .p (j64 n))] G, weakL _ ⟨rfl, rfl, trivial⟩ rfl rfl, n, rfl, ?_⟩
        have := ge_eq hlen2 hi hb39
        subst this
        simpa using hc
      | true =>
        obtain ⟨e, he, hlt⟩ := lt_get hlen2 hb39
        have hx := map_get (f := D.row) he
        have htk := sumBy_take_succ (f := D.bulk) he
        refine vopsL_take 2 rfl ?_
        refine vopsL_cmpG rfl rfl rfl rfl (by decide) rfl fun b hb42 => ?_
        cases b with
        | false =>
          have hm : ¬ n ≤ 25000 := by simpa using hb42
          refine vopsL_take 1 rfl ?_
          refine awp_if false rfl (fun e => by cases e) fun _ => ?_
          refine awp_exit ?_
          exact ⟨boxS m [(3, .p (j64 n))] G, weakL _ ⟨rfl, rfl, trivial⟩ rfl rfl, n, rfl, hc.1, hc.2.1, fun h => absurd h hm⟩
        | true =>
          have hm : n ≤ 25000 := by simpa using hb42
          have hn0 := hc.1
          refine vopsL_take 1 rfl ?_
          refine awp_if true rfl (fun _ => ?_) (fun e => by cases e)
          refine awp_skip ?_
          refine awp_seq ?_
          refine awp_block ?_
          refine awp_sl mixed (by kernel_rfl) ?_
          refine vsl_take 4 rfl ?_
          refine vsl_idx hx rfl rfl rfl rfl rfl rfl (by decide) rfl ?_
          refine vsl_take 8 rfl ?_
          refine vsl_idx hx rfl rfl rfl rfl rfl rfl (by decide) rfl ?_
          refine vsl_take 6 rfl ?_
          refine vsl_done ?_
          refine awp_run rfl ?_
          rw [wrap64 (x := (i : Int) + 1) (by omega)]
          generalize hv : IntKind.wrap .i64 (IntKind.wrap .i64 _ + _) = v
          refine ⟨boxS m [(3, .p (j64 v)), (5, .p (j64 ((i + 1 : Nat) : Int)))] G, weakL _ ⟨rfl, rfl, rfl, trivial⟩ rfl rfl, m.datas.length - (i + 1), by omega, i + 1, v, rfl, by omega, rfl, ?_⟩
          rw [htk]
          have h0 := hc.2.2 hm
          simp only [List.length_map, Bool.false_eq_true, if_false] at hv
          have hw : (if (30000 : Int) < (e.words.length : Int) then (30000 : Int) else e.words.length) ≤ 30000 ∧ (0 : Int) ≤ (if (30000 : Int) < (e.words.length : Int) then (30000 : Int) else e.words.length) := by split <;> omega
          have hr : (if (30000 : Int) < (e.refs.length : Int) then (30000 : Int) else e.refs.length) ≤ 30000 ∧ (0 : Int) ≤ (if (30000 : Int) < (e.refs.length : Int) then (30000 : Int) else e.refs.length) := by split <;> omega
          rw [wrap64 (x := n + _) (by omega), wrap64 (by omega)] at hv
          have hbk : e.bulk = e.words.length + e.refs.length := rfl
          refine ⟨by omega, by omega, fun h5 => ?_⟩
          split at hv <;> split at hv <;> omega
    · clear hc n
      rintro s ⟨n, rfl, hc⟩
      refine awp_seq ?_
      refine awp_ops ?_
      refine vopsL_take 1 rfl ?_
      refine vopsL_cmp rfl rfl rfl (by decide) rfl fun b hb66 => ?_
      cases b with
      | false =>
        refine vopsL_take 8 rfl ?_
        rw [wrap64 (x := (((m.funcs.map F.row).length : Nat) : Int) + (((m.datas.map D.row).length : Nat) : Int)) (by rw [hlen, hlen2]; omega)]
        rw [hlen, hlen2]
        refine vopsL_cmpG rfl rfl rfl rfl (by decide) rfl fun b hb75 => ?_
        cases b with
        | false =>
          refine vopsL_take 2 rfl ?_
          refine awp_ret ?_
          refine leave_ret_same [] rfl hG (by simp [boxS]) rfl ⟨rfl, false, rfl, fun _ => ?_⟩
          have h1 : n ≤ 25000 := by simpa using hb66
          have h2 : (m.funcs.length : Int) + m.datas.length ≤ 200 := by simpa using hb75
          have h3 := hc.2.2 h1
          exact ⟨by omega, by omega, by omega⟩
        | true =>
          refine vopsL_take 2 rfl ?_
          refine awp_ret ?_
          exact leave_ret_same [] rfl hG (by simp [boxS]) rfl ⟨rfl, true, rfl, fun e => by cases e⟩
      | true =>
        refine vopsL_take 11 rfl ?_
        refine awp_ret ?_
        exact leave_ret_same [] rfl hG (by simp [boxS]) rfl ⟨rfl, true, rfl, fun e => by cases e⟩

theorem c_parts (m : M) (hf : m.fit) (G : List Blk) : ACalls Try.prog 35 [.agg m.cells] G fun r G' => G' = G ∧ ∃ n : Int, r = .ret (.p (j64 n)) ∧ (m.parts ≤ 20000 → n ≤ 20000) ∧ (20000 < m.parts → 20000 < n) := by
  have hlen := map_len F.row m.funcs
  obtain ⟨hf1, hf2⟩ := hf
  refine acalls_fn (cfg 28) Try.func35 rfl rfl rfl (by simp) fun hG => ?_
  refine awp_seq ?_
  refine awp_run rfl ?_
  refine awp_seq ?_
  refine awp_run rfl ?_
  refine awp_seq ?_
  refine awp_seq ?_
  refine awp_run rfl ?_
  refine awp_weak (s' := boxS m [(3, .p (j64 0)), (4, .p (j64 0))] G) (weakL _ ⟨rfl, rfl, rfl, trivial⟩ rfl rfl) ?_
  refine awp_forA (fun t s => ∃ (i : Nat) (n : Int), s = boxS m [(3, .p (j64 n)), (4, .p (j64 i))] G ∧ i ≤ m.funcs.length ∧ t = m.funcs.length - i ∧ Cut (sumBy F.size (m.funcs.take i)) 20000 n 2)
    (fun s => ∃ n : Int, s = boxS m [(3, .p (j64 n))] G ∧ Cut m.parts 20000 n 2) m.funcs.length ⟨0, 0, rfl, by omega, by omega, by simp [Cut, sumBy]⟩ ?_ ?_
  · rintro t s ⟨i, n, rfl, hi, rfl, hc⟩
    refine awp_seq ?_
    refine awp_seq ?_
    refine awp_ops ?_
    refine vopsL_take 4 rfl ?_
    refine vopsL_cmp rfl rfl rfl (by decide) rfl fun b hb9 => ?_
    cases b with
    | false =>
      refine vopsL_take 4 rfl ?_
      refine awp_if false rfl (fun e => by cases e) fun _ => ?_
      refine awp_exit ?_
      refine ⟨boxS m [(3, .p (j64 n))] G, weakL _ ⟨rfl, rfl, trivial⟩ rfl rfl, n, rfl, ?_⟩
      have := ge_eq hlen hi hb9
      subst this
      simpa [M.parts] using hc
    | true =>
      obtain ⟨e, he, hlt⟩ := lt_get hlen hb9
      have hx := map_get (f := F.row) he
      have htk := sumBy_take_succ (f := F.size) he
      refine vopsL_take 2 rfl ?_
      refine vopsL_cmpG rfl rfl rfl rfl (by decide) rfl fun b hb12 => ?_
      cases b with
      | false =>
        refine vopsL_take 1 rfl ?_
        refine awp_if false rfl (fun e => by cases e) fun _ => ?_
        refine awp_exit ?_
        exact ⟨boxS m [(3, .p (j64 n))] G, weakL _ ⟨rfl, rfl, trivial⟩ rfl rfl, n, rfl, hc.more (by simpa using hb12) (sumBy_take_le F.size m.funcs i)⟩
      | true =>
        have hm : n ≤ 20000 := by simpa using hb12
        have hn0 := hc.1
        refine vopsL_take 1 rfl ?_
        refine awp_if true rfl (fun _ => ?_) (fun e => by cases e)
        refine awp_skip ?_
        refine awp_seq ?_
        refine awp_block ?_
        refine awp_ops ?_
        refine vopsL_take 4 rfl ?_
        refine vopsL_idx hx rfl rfl rfl (by decide) rfl rfl rfl rfl (by decide) ?_
        refine vopsL_take 4 rfl ?_
        rw [wrap64 (x := 20000 - n) (by omega)]
        refine vopsL_call rfl rfl rfl (statsC e.body (20000 - n) G (by omega) (by omega)) ?_
        rintro r G1 ⟨hg, q, rfl, hq⟩
        rw [show G1 = G from hg]
        have hq2 := hq.bound (by omega) (by omega) (by decide)
        refine vopsL_take 2 rfl ?_
        rw [wrap64 (x := n + q) (by omega)]
        refine awp_run rfl ?_
        rw [wrap64 (x := (i : Int) + 1) (by omega)]
        refine ⟨boxS m [(3, .p (j64 (n + q))), (4, .p (j64 ((i + 1 : Nat) : Int)))] G, weakL _ ⟨rfl, rfl, rfl, trivial⟩ rfl rfl, m.funcs.length - (i + 1), by omega, i + 1, n + q, rfl, by omega, rfl, ?_⟩
        rw [htk]
        exact hc.add hm hq (by decide)
  · rintro s ⟨n, rfl, hc⟩
    refine awp_seq ?_
    refine awp_run rfl ?_
    refine awp_ret ?_
    refine leave_ret_same [] rfl hG (by simp [boxS]) rfl ⟨rfl, n, rfl, ?_, ?_⟩ <;> intro h <;> rcases hc.2 with h' | h' <;> omega

theorem c_words (m : M) (hf : m.fit) (G : List Blk) : ACalls Try.prog 36 [.agg m.cells] G fun r G' => G' = G ∧ ∃ n : Int, r = .ret (.p (j64 n)) ∧ (m.words ≤ 16384 → n ≤ 16384) ∧ (16384 < m.words → 16384 < n) := by
  have hlen := map_len D.row m.datas
  obtain ⟨hf1, hf2⟩ := hf
  refine acalls_fn (cfg 27) Try.func36 rfl rfl rfl (by simp) fun hG => ?_
  refine awp_seq ?_
  refine awp_run rfl ?_
  refine awp_seq ?_
  refine awp_run rfl ?_
  refine awp_seq ?_
  refine awp_seq ?_
  refine awp_run rfl ?_
  refine awp_weak (s' := boxS m [(3, .p (j64 0)), (4, .p (j64 0))] G) (weakL _ ⟨rfl, rfl, rfl, trivial⟩ rfl rfl) ?_
  refine awp_forA (fun t s => ∃ (i : Nat) (n : Int), s = boxS m [(3, .p (j64 n)), (4, .p (j64 i))] G ∧ i ≤ m.datas.length ∧ t = m.datas.length - i ∧ Cut (sumBy (fun d => d.words.length) (m.datas.take i)) 16384 n 16385)
    (fun s => ∃ n : Int, s = boxS m [(3, .p (j64 n))] G ∧ Cut m.words 16384 n 16385) m.datas.length ⟨0, 0, rfl, by omega, by omega, by simp [Cut, sumBy]⟩ ?_ ?_
  · rintro t s ⟨i, n, rfl, hi, rfl, hc⟩
    refine awp_seq ?_
    refine awp_seq ?_
    refine awp_ops ?_
    refine vopsL_take 4 rfl ?_
    refine vopsL_cmp rfl rfl rfl (by decide) rfl fun b hb9 => ?_
    cases b with
    | false =>
      refine vopsL_take 4 rfl ?_
      refine awp_if false rfl (fun e => by cases e) fun _ => ?_
      refine awp_exit ?_
      refine ⟨boxS m [(3, .p (j64 n))] G, weakL _ ⟨rfl, rfl, trivial⟩ rfl rfl, n, rfl, ?_⟩
      have := ge_eq hlen hi hb9
      subst this
      simpa [M.words] using hc
    | true =>
      obtain ⟨e, he, hlt⟩ := lt_get hlen hb9
      have hx := map_get (f := D.row) he
      have htk := sumBy_take_succ (f := fun d : D => d.words.length) he
      refine vopsL_take 2 rfl ?_
      refine vopsL_cmpG rfl rfl rfl rfl (by decide) rfl fun b hb12 => ?_
      cases b with
      | false =>
        refine vopsL_take 1 rfl ?_
        refine awp_if false rfl (fun e => by cases e) fun _ => ?_
        refine awp_exit ?_
        exact ⟨boxS m [(3, .p (j64 n))] G, weakL _ ⟨rfl, rfl, trivial⟩ rfl rfl, n, rfl, hc.more (by simpa using hb12) (sumBy_take_le (fun d : D => d.words.length) m.datas i)⟩
      | true =>
        have hm : n ≤ 16384 := by simpa using hb12
        have hn0 := hc.1
        refine vopsL_take 1 rfl ?_
        refine awp_if true rfl (fun _ => ?_) (fun e => by cases e)
        refine awp_skip ?_
        refine awp_seq ?_
        refine awp_block ?_
        refine awp_ops ?_
        refine vopsL_take 4 rfl ?_
        refine vopsL_idx hx rfl rfl rfl (by decide) rfl rfl rfl rfl (by decide) ?_
        refine vopsL_take 6 rfl ?_
        refine awp_run rfl ?_
        rw [wrap64 (x := (i : Int) + 1) (by omega)]
        generalize hv : IntKind.wrap .i64 (n + _) = v
        refine ⟨boxS m [(3, .p (j64 v)), (4, .p (j64 ((i + 1 : Nat) : Int)))] G, weakL _ ⟨rfl, rfl, rfl, trivial⟩ rfl rfl, m.datas.length - (i + 1), by omega, i + 1, v, rfl, by omega, rfl, ?_⟩
        rw [htk]
        have h0 := hc.le hm
        simp only [List.length_map, Bool.false_eq_true, if_false] at hv
        have hw : (if (16385 : Int) < (e.words.length : Int) then (16385 : Int) else e.words.length) ≤ 16385 ∧ (0 : Int) ≤ (if (16385 : Int) < (e.words.length : Int) then (16385 : Int) else e.words.length) := by split <;> omega
        rw [wrap64 (x := n + _) (by omega)] at hv
        refine ⟨by omega, ?_⟩
        split at hv <;> omega
  · rintro s ⟨n, rfl, hc⟩
    refine awp_seq ?_
    refine awp_run rfl ?_
    refine awp_ret ?_
    refine leave_ret_same [] rfl hG (by simp [boxS]) rfl ⟨rfl, n, rfl, ?_, ?_⟩ <;> intro h <;> rcases hc.2 with h' | h' <;> omega
end Go.Proofs.Ytnicgdfnfnchjaa

/-
  The counter of tree code.
-/
set_option linter.unusedVariables false
set_option maxRecDepth 100000
namespace Go.Abs
theorem weakK (s : St) (d : Nat) : Weak s (s.kill d) := fun σ nt a w hr => hr.kill d
end Go.Abs
namespace Go.Proofs.Ytnicgdfnfnchjaa
open Go.Abs

def ctr (n most : Int) : Blk := .cells [.p (j64 n), .p (j64 most)]

/-- What a count has come to from n on. -/
def Cnt (n : Int) (size : Nat) (most n' : Int) : Prop := n ≤ n' ∧ n' ≤ max n (most + 1) ∧ n' ≤ n + size ∧ (n' ≤ most → n' = n + size)

def E.args : E → List AV
  | .mk op n nm ks => [.p (j64 op), .p (j64 n), .p (.str nm), .p (.vec (E.rows ks))]

def CexprC (e : E) : Prop := ∀ n most : Int, 0 ≤ n → n ≤ most → most ≤ 4611686018427387904 →
  ACalls Try.prog 94 [.ptr (.g 0) 0, .agg e.args] [ctr n most] fun r G' => ∃ n', r = .ret (.tuple []) ∧ G' = [ctr n' most] ∧ Cnt n e.size most n'

def cexprS (e : E) (n most : Int) (ts : TS) : St := { ts := (0, .ptr (.g 0) 0) :: (3, .ptr (.l 3) 0) :: ts, L := [(3, e.args)], G := [ctr n most] }

theorem Cnt.step {n n1 n2 most : Int} {a b : Nat} (h : Cnt n a most n1) (h1 : n1 ≤ most) (h2 : Cnt n1 b most n2) : Cnt n (a + b) most n2 := by
  obtain ⟨p1, p2, p3, p4⟩ := h
  obtain ⟨q1, q2, q3, q4⟩ := h2
  have := p4 h1
  refine ⟨by omega, by omega, by omega, fun h => ?_⟩
  have := q4 h
  omega

theorem Cnt.more {n n1 most : Int} {a b : Nat} (h : Cnt n a most n1) (h1 : ¬ n1 ≤ most) (hab : a ≤ b) : Cnt n b most n1 := by
  obtain ⟨p1, p2, p3, p4⟩ := h
  exact ⟨p1, p2, by omega, fun h => absurd h h1⟩

theorem c_cexpr (op en : Int) (nm : ByteArray) (ks : List E) (ih : ∀ e ∈ ks, CexprC e) : CexprC (.mk op en nm ks) := by
  intro n most h1 h2 h3
  have hlen := E.rows_len ks
  refine acalls_fn (cfg 37) Try.func94 rfl rfl rfl (by simp) fun hG => ?_
  refine awp_seq ?_
  refine awp_run rfl ?_
  refine awp_seq ?_
  refine awp_run rfl ?_
  rw [wrap64 (x := n + 1) (by omega)]
  refine awp_seq ?_
  refine awp_run rfl ?_
  refine awp_weak (s' := cexprS (.mk op en nm ks) (n + 1) most [(4, .p (j64 0))]) (weakL _ ⟨rfl, rfl, rfl, trivial⟩ rfl rfl) ?_
  refine awp_forN (fun t s => ∃ (i : Nat) (k : Int), s = cexprS (.mk op en nm ks) k most [(4, .p (j64 i))] ∧ i ≤ ks.length ∧ t = ks.length - i ∧ Cnt n (1 + E.sizes (ks.take i)) most k)
    ks.length ⟨0, n + 1, rfl, by omega, by omega, by simp [Cnt, E.sizes]; omega⟩ ?_
  · rintro t s ⟨i, k, rfl, hi, rfl, hc⟩
    refine awp_seq ?_
    refine awp_seq ?_
    refine awp_sl mixed (by kernel_rfl) ?_
    refine vsl_take 4 rfl ?_
    refine vsl_cmp rfl rfl rfl fun b hb16 => ?_
    cases b with
    | false =>
      refine vsl_take 11 rfl ?_
      refine vsl_done ?_
      refine awp_if false rfl (fun e => by cases e) fun _ => ?_
      refine awp_exit ?_
      refine at_exit ?_
      refine leave_normal (v := .tuple []) rfl rfl ⟨k, rfl, rfl, ?_⟩
      have := ge_eq hlen hi hb16
      subst this
      simpa [E.size] using hc
    | true =>
      obtain ⟨e, he, hlt⟩ := lt_get hlen hb16
      have hx := E.rows_get he
      have htk := E.sizes_take_succ he
      refine vsl_take 9 rfl ?_
      refine vsl_cmpG rfl rfl rfl rfl fun b hb26 => ?_
      cases b with
      | false =>
        refine vsl_take 1 rfl ?_
        refine vsl_done ?_
        refine awp_if false rfl (fun e => by cases e) fun _ => ?_
        refine awp_exit ?_
        refine at_exit ?_
        exact leave_normal (v := .tuple []) rfl rfl ⟨k, rfl, rfl, hc.more (by simpa using hb26) (by have := E.sizes_take_le ks i; simp only [E.size]; omega)⟩
      | true =>
        have hm : k ≤ most := by simpa using hb26
        have hil := E.len_le (ks.take i)
        rw [List.length_take, Nat.min_eq_left hi] at hil
        have hk := hc.2.2.2 hm
        have hk1 := hc.1
        refine vsl_take 1 rfl ?_
        refine vsl_done ?_
        refine awp_if true rfl (fun _ => ?_) (fun e => by cases e)
        refine awp_skip ?_
        refine awp_seq ?_
        refine awp_block ?_
        refine awp_ops ?_
        refine vopsL_take 4 rfl ?_
        refine vopsL_idx hx rfl rfl rfl (by decide) rfl rfl rfl (by cases e; rfl) (by decide) ?_
        have hcall := ih e (List.mem_of_getElem? he) k most (by omega) hm h3
        obtain ⟨eop, een, enm, eks⟩ := e
        refine vopsL_take 1 rfl ?_
        refine vopsL_call rfl rfl rfl hcall ?_
        rintro r G1 ⟨k', rfl, rfl, hk'⟩
        refine awp_run rfl ?_
        rw [wrap64 (x := (i : Int) + 1) (by omega)]
        refine ⟨cexprS (.mk op en nm ks) k' most [(4, .p (j64 ((i + 1 : Nat) : Int)))], weakL _ ⟨rfl, rfl, rfl, trivial⟩ rfl rfl, ks.length - (i + 1), by omega, i + 1, k', rfl, by omega, rfl, ?_⟩
        rw [htk, ← Nat.add_assoc]
        exact hc.step hm hk'

mutual
theorem cexprC : ∀ e : E, CexprC e
  | .mk op n nm ks => c_cexpr op n nm ks (cexprCs ks)
theorem cexprCs : ∀ (ks : List E) (e : E), e ∈ ks → CexprC e
  | [], e, h => by cases h
  | k :: ks, e, h => by
    rcases List.mem_cons.1 h with h | h
    · rw [h]; exact cexprC k
    · exact cexprCs ks e h
end

def CstatsC (ss : List S) : Prop := ∀ n most : Int, 0 ≤ n → n ≤ most + 1 → most ≤ 4611686018427387904 →
  ACalls Try.prog 51 [.ptr (.g 0) 0, .p (.vec (S.rows ss))] [ctr n most] fun r G' => ∃ n', r = .ret (.tuple []) ∧ G' = [ctr n' most] ∧ Cnt n (S.sizes ss) most n'

def cstatsS (ss : List S) (n most : Int) (ts : TS) : St := { ts := (0, .ptr (.g 0) 0) :: (1, .p (.vec (S.rows ss))) :: ts, L := [], G := [ctr n most] }

/-- The next count takes up where the last one stopped. -/
theorem Cnt.seq {n n1 n2 most : Int} {a b : Nat} (h : Cnt n a most n1) (h2 : Cnt n1 b most n2) : Cnt n (a + b) most n2 := by
  obtain ⟨p1, p2, p3, p4⟩ := h
  obtain ⟨q1, q2, q3, q4⟩ := h2
  refine ⟨by omega, by omega, by omega, fun h => ?_⟩
  have := q4 h
  have := p4 (by omega)
  omega

theorem c_cstats (ss : List S) (ih : ∀ op n ex bo ot, S.mk op n ex bo ot ∈ ss → CstatsC bo ∧ CstatsC ot) : CstatsC ss := by
  intro n most h1 h2 h3
  have hlen := S.rows_len ss
  refine acalls_fn (cfg 75) Try.func51 rfl rfl rfl (by simp) fun hG => ?_
  refine awp_seq ?_
  refine awp_run rfl ?_
  refine awp_weak (s' := cstatsS ss n most [(4, .p (j64 0))]) (weakL _ ⟨rfl, rfl, rfl, trivial⟩ rfl rfl) ?_
  refine awp_forN (fun t s => ∃ (i : Nat) (k : Int), s = cstatsS ss k most [(4, .p (j64 i))] ∧ i ≤ ss.length ∧ t = ss.length - i ∧ Cnt n (S.sizes (ss.take i)) most k)
    ss.length ⟨0, n, rfl, by omega, by omega, by simp [Cnt, S.sizes]; omega⟩ ?_
  · rintro t s ⟨i, k, rfl, hi, rfl, hc⟩
    refine awp_seq ?_
    refine awp_seq ?_
    refine awp_sl mixed (by kernel_rfl) ?_
    refine vsl_take 3 rfl ?_
    refine vsl_cmp rfl rfl rfl fun b hb9 => ?_
    cases b with
    | false =>
      refine vsl_take 11 rfl ?_
      refine vsl_done ?_
      refine awp_if false rfl (fun e => by cases e) fun _ => ?_
      refine awp_exit ?_
      refine at_exit ?_
      refine leave_normal (v := .tuple []) rfl rfl ⟨k, rfl, rfl, ?_⟩
      have := ge_eq hlen hi hb9
      subst this
      simpa using hc
    | true =>
      obtain ⟨e, he, hlt⟩ := lt_get hlen hb9
      have hx := S.rows_get he
      have htk := S.sizes_take_succ he
      have htl := S.sizes_take_le ss i
      refine vsl_take 9 rfl ?_
      refine vsl_cmpG rfl rfl rfl rfl fun b hb19 => ?_
      cases b with
      | false =>
        refine vsl_take 1 rfl ?_
        refine vsl_done ?_
        refine awp_if false rfl (fun e => by cases e) fun _ => ?_
        refine awp_exit ?_
        refine at_exit ?_
        exact leave_normal (v := .tuple []) rfl rfl ⟨k, rfl, rfl, hc.more (by simpa using hb19) htl⟩
      | true =>
        have hm : k ≤ most := by simpa using hb19
        have hil := S.len_le (ss.take i)
        rw [List.length_take, Nat.min_eq_left hi] at hil
        have hk := hc.2.2.2 hm
        have hk1 := hc.1
        obtain ⟨op, en, ex, bo, ot⟩ := e
        obtain ⟨ihb, iho⟩ := ih op en ex bo ot (List.mem_of_getElem? he)
        simp only [S.size] at htk
        have hlenE := E.rows_len ex
        refine vsl_take 1 rfl ?_
        refine vsl_done ?_
        refine awp_if true rfl (fun _ => ?_) (fun e => by cases e)
        refine awp_skip ?_
        refine awp_seq ?_
        refine awp_block ?_
        refine awp_seq ?_
        refine awp_run rfl ?_
        rw [wrap64 (x := k + 1) (by omega)]
        refine awp_seq ?_
        refine awp_seq ?_
        refine awp_run rfl ?_
        refine awp_weak (s' := cstatsS ss (k + 1) most [(4, .p (j64 i)), (5, .p (j64 0))]) (weakL _ ⟨rfl, rfl, rfl, rfl, trivial⟩ rfl rfl) ?_
        have hc0 : Cnt n (S.sizes (ss.take i) + 1) most (k + 1) := ⟨by omega, by omega, by have := hc.2.2.1; omega, fun h => by omega⟩
        refine awp_forA (fun t s => ∃ (j : Nat) (q : Int), s = cstatsS ss q most [(4, .p (j64 i)), (5, .p (j64 j))] ∧ j ≤ ex.length ∧ t = ex.length - j ∧ Cnt n (S.sizes (ss.take i) + 1 + E.sizes (ex.take j)) most q)
          (fun s => ∃ q : Int, s = cstatsS ss q most [(4, .p (j64 i))] ∧ Cnt n (S.sizes (ss.take i) + 1 + E.sizes ex) most q) ex.length ⟨0, k + 1, rfl, by omega, by omega, by simpa [E.sizes] using hc0⟩ ?_ ?_
        · rintro t s ⟨j, q, rfl, hj, rfl, hcq⟩
          refine awp_seq ?_
          refine awp_seq ?_
          refine awp_sl mixed (by kernel_rfl) ?_
          refine vsl_take 3 rfl ?_
          refine vsl_idx hx rfl rfl rfl rfl rfl rfl (by decide) rfl ?_
          refine vsl_take 3 rfl ?_
          refine vsl_cmp rfl rfl rfl fun b hb37 => ?_
          cases b with
          | false =>
            refine vsl_take 11 rfl ?_
            refine vsl_done ?_
            refine awp_if false rfl (fun e => by cases e) fun _ => ?_
            refine awp_exit ?_
            refine ⟨cstatsS ss q most [(4, .p (j64 i))], weakL _ ⟨rfl, rfl, rfl, trivial⟩ rfl rfl, q, rfl, ?_⟩
            have := ge_eq hlenE hj hb37
            subst this
            simpa using hcq
          | true =>
            obtain ⟨e, hee, hltE⟩ := lt_get hlenE hb37
            have hxE := E.rows_get hee
            have htkE := E.sizes_take_succ hee
            have htlE := E.sizes_take_le ex j
            refine vsl_take 9 rfl ?_
            refine vsl_cmpG rfl rfl rfl rfl fun b hb47 => ?_
            cases b with
            | false =>
              refine vsl_take 1 rfl ?_
              refine vsl_done ?_
              refine awp_if false rfl (fun e => by cases e) fun _ => ?_
              refine awp_exit ?_
              exact ⟨cstatsS ss q most [(4, .p (j64 i))], weakL _ ⟨rfl, rfl, rfl, trivial⟩ rfl rfl, q, rfl, hcq.more (by simpa using hb47) (by omega)⟩
            | true =>
              have hmq : q ≤ most := by simpa using hb47
              have hilE := E.len_le (ex.take j)
              rw [List.length_take, Nat.min_eq_left hj] at hilE
              have hkq := hcq.2.2.2 hmq
              have hkq1 := hcq.1
              refine vsl_take 1 rfl ?_
              refine vsl_done ?_
              refine awp_if true rfl (fun _ => ?_) (fun e => by cases e)
              refine awp_skip ?_
              refine awp_seq ?_
              refine awp_block ?_
              refine awp_ops ?_
              refine vopsL_take 3 rfl ?_
              refine vopsL_idx hx rfl rfl rfl (by decide) rfl rfl rfl rfl (by decide) ?_
              refine vopsL_take 3 rfl ?_
              refine vopsL_idx hxE rfl rfl rfl (by decide) rfl rfl rfl (by cases e; rfl) (by decide) ?_
              have hcall := cexprC e q most (by omega) hmq h3
              obtain ⟨eop, een, enm, eks⟩ := e
              refine vopsL_take 1 rfl ?_
              refine vopsL_call rfl rfl rfl hcall ?_
              rintro r G1 ⟨q', rfl, rfl, hq'⟩
              refine awp_run rfl ?_
              rw [wrap64 (x := (j : Int) + 1) (by omega)]
              refine ⟨cstatsS ss q' most [(4, .p (j64 i)), (5, .p (j64 ((j + 1 : Nat) : Int)))], weakL _ ⟨rfl, rfl, rfl, rfl, trivial⟩ rfl rfl, ex.length - (j + 1), by omega, j + 1, q', rfl, by omega, rfl, ?_⟩
              rw [htkE, ← Nat.add_assoc]
              exact hcq.step hmq hq'
        · rintro s ⟨q, rfl, hcq⟩
          have hq1 := hcq.1
          have hq2 := hcq.2.1
          refine awp_seq ?_
          refine awp_ops ?_
          refine vopsL_take 3 rfl ?_
          refine vopsL_idx hx rfl rfl rfl (by decide) rfl rfl rfl rfl (by decide) ?_
          refine vopsL_take 2 rfl ?_
          refine vopsL_call rfl rfl rfl (ihb q most (by omega) (by omega) h3) ?_
          rintro r G1 ⟨q', rfl, rfl, hq'⟩
          have hc2 := hcq.seq hq'
          have hq'1 := hc2.1
          have hq'2 := hc2.2.1
          refine awp_ops ?_
          refine vopsL_take 3 rfl ?_
          refine vopsL_idx hx rfl rfl rfl (by decide) rfl rfl rfl rfl (by decide) ?_
          refine vopsL_take 2 rfl ?_
          refine vopsL_call rfl rfl rfl (iho q' most (by omega) (by omega) h3) ?_
          rintro r G1 ⟨q3, rfl, rfl, hq3⟩
          have hc3 := hc2.seq hq3
          refine awp_run rfl ?_
          rw [wrap64 (x := (i : Int) + 1) (by omega)]
          refine ⟨cstatsS ss q3 most [(4, .p (j64 ((i + 1 : Nat) : Int)))], weakL _ ⟨rfl, rfl, rfl, trivial⟩ rfl rfl, ss.length - (i + 1), by omega, i + 1, q3, rfl, by omega, rfl, ?_⟩
          rw [htk]
          rwa [show S.sizes (ss.take i) + 1 + E.sizes ex + S.sizes bo + S.sizes ot = S.sizes (ss.take i) + (1 + E.sizes ex + S.sizes bo + S.sizes ot) by omega] at hc3

theorem cstatsC : ∀ ss : List S, CstatsC ss := S.ind c_cstats
end Go.Proofs.Ytnicgdfnfnchjaa

/-
  Which expressions and statements are right: the tree code's own functions.
-/
set_option linter.unusedVariables false
set_option maxRecDepth 100000
namespace Go.Proofs.Ytnicgdfnfnchjaa
open Go.Abs

def nameOk (s : ByteArray) : Bool := decide (1 ≤ s.size) && decide (s.size ≤ 60)
def placeOk (n : Int) : Bool := decide (0 ≤ n) && decide (n ≤ 2147483647)
def codeOk (n : Int) : Bool := decide (1 ≤ n) && decide (n ≤ 999)

theorem c_name (x : ByteArray) (G : List Blk) : FnIs Try.prog 76 [.p (.str x)] G (.p (.bool (nameOk x))) := by
  refine acalls_fn (cfg 11) Try.func76 rfl rfl rfl (by simp) fun hG => ?_
  refine awp_seq ?_
  refine awp_run rfl ?_
  refine awp_seq ?_
  refine awp_ops ?_
  refine vopsL_take 2 rfl ?_
  refine vopsL_cmp rfl rfl rfl (by decide) rfl fun b hb5 => ?_
  cases b with
  | false =>
    refine vopsL_take 6 rfl ?_
    refine awp_ret ?_
    exact leave_ret_same [] rfl hG (List.append_nil G).symm rfl ⟨congrArg (fun b => AEnd.ret (.p (.bool b))) (by simp_all [nameOk] <;> omega), rfl⟩
  | true =>
    refine vopsL_take 3 rfl ?_
    refine vopsL_cmpG rfl rfl rfl rfl (by decide) rfl fun b hb9 => ?_
    cases b with
    | false =>
      refine vopsL_take 2 rfl ?_
      refine awp_ret ?_
      exact leave_ret_same [] rfl hG (List.append_nil G).symm rfl ⟨congrArg (fun b => AEnd.ret (.p (.bool b))) (by simp_all [nameOk] <;> omega), rfl⟩
    | true =>
      refine vopsL_take 2 rfl ?_
      refine awp_ret ?_
      exact leave_ret_same [] rfl hG (List.append_nil G).symm rfl ⟨congrArg (fun b => AEnd.ret (.p (.bool b))) (by simp_all [nameOk] <;> omega), rfl⟩

theorem c_rname (x : ByteArray) (G : List Blk) : FnIs Try.prog 78 [.p (.str x)] G (.p (.bool (nameOk x))) := by
  refine acalls_fn (cfg 11) Try.func78 rfl rfl rfl (by simp) fun hG => ?_
  refine awp_seq ?_
  refine awp_run rfl ?_
  refine awp_seq ?_
  refine awp_ops ?_
  refine vopsL_take 2 rfl ?_
  refine vopsL_cmp rfl rfl rfl (by decide) rfl fun b hb5 => ?_
  cases b with
  | false =>
    refine vopsL_take 6 rfl ?_
    refine awp_ret ?_
    exact leave_ret_same [] rfl hG (List.append_nil G).symm rfl ⟨congrArg (fun b => AEnd.ret (.p (.bool b))) (by simp_all [nameOk] <;> omega), rfl⟩
  | true =>
    refine vopsL_take 3 rfl ?_
    refine vopsL_cmpG rfl rfl rfl rfl (by decide) rfl fun b hb9 => ?_
    cases b with
    | false =>
      refine vopsL_take 2 rfl ?_
      refine awp_ret ?_
      exact leave_ret_same [] rfl hG (List.append_nil G).symm rfl ⟨congrArg (fun b => AEnd.ret (.p (.bool b))) (by simp_all [nameOk] <;> omega), rfl⟩
    | true =>
      refine vopsL_take 2 rfl ?_
      refine awp_ret ?_
      exact leave_ret_same [] rfl hG (List.append_nil G).symm rfl ⟨congrArg (fun b => AEnd.ret (.p (.bool b))) (by simp_all [nameOk] <;> omega), rfl⟩

theorem c_place (x : Int) (G : List Blk) : FnIs Try.prog 133 [.p (j64 x)] G (.p (.bool (placeOk x))) := by
  refine acalls_fn (cfg 9) Try.func133 rfl rfl rfl (by simp) fun hG => ?_
  refine awp_seq ?_
  refine awp_run rfl ?_
  refine awp_seq ?_
  refine awp_ops ?_
  refine vopsL_take 1 rfl ?_
  refine vopsL_cmp rfl rfl rfl (by decide) rfl fun b hb4 => ?_
  cases b with
  | false =>
    refine vopsL_take 5 rfl ?_
    refine awp_ret ?_
    exact leave_ret_same [] rfl hG (List.append_nil G).symm rfl ⟨congrArg (fun b => AEnd.ret (.p (.bool b))) (by simp_all [placeOk] <;> omega), rfl⟩
  | true =>
    refine vopsL_take 2 rfl ?_
    refine vopsL_cmpG rfl rfl rfl rfl (by decide) rfl fun b hb7 => ?_
    cases b with
    | false =>
      refine vopsL_take 2 rfl ?_
      refine awp_ret ?_
      exact leave_ret_same [] rfl hG (List.append_nil G).symm rfl ⟨congrArg (fun b => AEnd.ret (.p (.bool b))) (by simp_all [placeOk] <;> omega), rfl⟩
    | true =>
      refine vopsL_take 2 rfl ?_
      refine awp_ret ?_
      exact leave_ret_same [] rfl hG (List.append_nil G).symm rfl ⟨congrArg (fun b => AEnd.ret (.p (.bool b))) (by simp_all [placeOk] <;> omega), rfl⟩

theorem c_code (x : Int) (G : List Blk) : FnIs Try.prog 134 [.p (j64 x)] G (.p (.bool (codeOk x))) := by
  refine acalls_fn (cfg 9) Try.func134 rfl rfl rfl (by simp) fun hG => ?_
  refine awp_seq ?_
  refine awp_run rfl ?_
  refine awp_seq ?_
  refine awp_ops ?_
  refine vopsL_take 1 rfl ?_
  refine vopsL_cmp rfl rfl rfl (by decide) rfl fun b hb4 => ?_
  cases b with
  | false =>
    refine vopsL_take 5 rfl ?_
    refine awp_ret ?_
    exact leave_ret_same [] rfl hG (List.append_nil G).symm rfl ⟨congrArg (fun b => AEnd.ret (.p (.bool b))) (by simp_all [codeOk] <;> omega), rfl⟩
  | true =>
    refine vopsL_take 2 rfl ?_
    refine vopsL_cmpG rfl rfl rfl rfl (by decide) rfl fun b hb7 => ?_
    cases b with
    | false =>
      refine vopsL_take 2 rfl ?_
      refine awp_ret ?_
      exact leave_ret_same [] rfl hG (List.append_nil G).symm rfl ⟨congrArg (fun b => AEnd.ret (.p (.bool b))) (by simp_all [codeOk] <;> omega), rfl⟩
    | true =>
      refine vopsL_take 2 rfl ?_
      refine awp_ret ?_
      exact leave_ret_same [] rfl hG (List.append_nil G).symm rfl ⟨congrArg (fun b => AEnd.ret (.p (.bool b))) (by simp_all [codeOk] <;> omega), rfl⟩

def S.args : S → List AV
  | .mk op n ex bo ot => [.p (j64 op), .p (j64 n), .p (.vec (E.rows ex)), .p (.vec (S.rows bo)), .p (.vec (S.rows ot))]

def hasOk (ex : List E) (bo ot : List S) (n : Int) (body other : Bool) : Bool := decide ((ex.length : Int) = n) && (body || bo.length == 0) && (other || ot.length == 0)

theorem c_has (op en : Int) (ex : List E) (bo ot : List S) (n : Int) (body other : Bool) (G : List Blk) : FnIs Try.prog 132 [.agg (S.args (.mk op en ex bo ot)), .p (j64 n), .p (.bool body), .p (.bool other)] G (.p (.bool (hasOk ex bo ot n body other))) := by
  have h1 := E.rows_len ex
  have h2 := S.rows_len bo
  have h3 := S.rows_len ot
  cases body <;> cases other
  ·
    refine acalls_fn (cfg 32) Try.func132 rfl rfl rfl (by simp) fun hG => ?_
    refine awp_seq ?_
    refine awp_run rfl ?_
    refine awp_seq ?_
    refine awp_ops ?_
    refine vopsL_take 4 rfl ?_
    refine vopsL_cmp rfl rfl rfl (by decide) rfl fun b hb13 => ?_
    cases b with
    | false =>
      refine vopsL_take 19 rfl ?_
      refine awp_ret ?_
      exact leave_ret_same [] rfl hG (List.append_nil G).symm rfl ⟨congrArg (fun b => AEnd.ret (.p (.bool b))) (by simp_all [hasOk] <;> omega), rfl⟩
    | true =>
      refine vopsL_take 6 rfl ?_
      refine vopsL_cmpG rfl rfl rfl rfl (by decide) rfl fun b hb20 => ?_
      cases b with
      | false =>
        refine vopsL_take 12 rfl ?_
        refine awp_ret ?_
        exact leave_ret_same [] rfl hG (List.append_nil G).symm rfl ⟨congrArg (fun b => AEnd.ret (.p (.bool b))) (by simp_all [hasOk] <;> omega), rfl⟩
      | true =>
        refine vopsL_take 8 rfl ?_
        refine vopsL_cmpG rfl rfl rfl rfl (by decide) rfl fun b hb29 => ?_
        cases b with
        | false =>
          refine vopsL_take 3 rfl ?_
          refine awp_ret ?_
          exact leave_ret_same [] rfl hG (List.append_nil G).symm rfl ⟨congrArg (fun b => AEnd.ret (.p (.bool b))) (by simp_all [hasOk] <;> omega), rfl⟩
        | true =>
          refine vopsL_take 3 rfl ?_
          refine awp_ret ?_
          exact leave_ret_same [] rfl hG (List.append_nil G).symm rfl ⟨congrArg (fun b => AEnd.ret (.p (.bool b))) (by simp_all [hasOk] <;> omega), rfl⟩
  ·
    refine acalls_fn (cfg 32) Try.func132 rfl rfl rfl (by simp) fun hG => ?_
    refine awp_seq ?_
    refine awp_run rfl ?_
    refine awp_seq ?_
    refine awp_ops ?_
    refine vopsL_take 4 rfl ?_
    refine vopsL_cmp rfl rfl rfl (by decide) rfl fun b hb13 => ?_
    cases b with
    | false =>
      refine vopsL_take 19 rfl ?_
      refine awp_ret ?_
      exact leave_ret_same [] rfl hG (List.append_nil G).symm rfl ⟨congrArg (fun b => AEnd.ret (.p (.bool b))) (by simp_all [hasOk] <;> omega), rfl⟩
    | true =>
      refine vopsL_take 6 rfl ?_
      refine vopsL_cmpG rfl rfl rfl rfl (by decide) rfl fun b hb20 => ?_
      cases b with
      | false =>
        refine vopsL_take 12 rfl ?_
        refine awp_ret ?_
        exact leave_ret_same [] rfl hG (List.append_nil G).symm rfl ⟨congrArg (fun b => AEnd.ret (.p (.bool b))) (by simp_all [hasOk] <;> omega), rfl⟩
      | true =>
        refine vopsL_take 12 rfl ?_
        refine awp_ret ?_
        exact leave_ret_same [] rfl hG (List.append_nil G).symm rfl ⟨congrArg (fun b => AEnd.ret (.p (.bool b))) (by simp_all [hasOk] <;> omega), rfl⟩
  ·
    refine acalls_fn (cfg 32) Try.func132 rfl rfl rfl (by simp) fun hG => ?_
    refine awp_seq ?_
    refine awp_run rfl ?_
    refine awp_seq ?_
    refine awp_ops ?_
    refine vopsL_take 4 rfl ?_
    refine vopsL_cmp rfl rfl rfl (by decide) rfl fun b hb13 => ?_
    cases b with
    | false =>
      refine vopsL_take 19 rfl ?_
      refine awp_ret ?_
      exact leave_ret_same [] rfl hG (List.append_nil G).symm rfl ⟨congrArg (fun b => AEnd.ret (.p (.bool b))) (by simp_all [hasOk] <;> omega), rfl⟩
    | true =>
      refine vopsL_take 15 rfl ?_
      refine vopsL_cmpG rfl rfl rfl rfl (by decide) rfl fun b hb29 => ?_
      cases b with
      | false =>
        refine vopsL_take 3 rfl ?_
        refine awp_ret ?_
        exact leave_ret_same [] rfl hG (List.append_nil G).symm rfl ⟨congrArg (fun b => AEnd.ret (.p (.bool b))) (by simp_all [hasOk] <;> omega), rfl⟩
      | true =>
        refine vopsL_take 3 rfl ?_
        refine awp_ret ?_
        exact leave_ret_same [] rfl hG (List.append_nil G).symm rfl ⟨congrArg (fun b => AEnd.ret (.p (.bool b))) (by simp_all [hasOk] <;> omega), rfl⟩
  ·
    refine acalls_fn (cfg 32) Try.func132 rfl rfl rfl (by simp) fun hG => ?_
    refine awp_seq ?_
    refine awp_run rfl ?_
    refine awp_seq ?_
    refine awp_ops ?_
    refine vopsL_take 4 rfl ?_
    refine vopsL_cmp rfl rfl rfl (by decide) rfl fun b hb13 => ?_
    cases b with
    | false =>
      refine vopsL_take 19 rfl ?_
      refine awp_ret ?_
      exact leave_ret_same [] rfl hG (List.append_nil G).symm rfl ⟨congrArg (fun b => AEnd.ret (.p (.bool b))) (by simp_all [hasOk] <;> omega), rfl⟩
    | true =>
      refine vopsL_take 19 rfl ?_
      refine awp_ret ?_
      exact leave_ret_same [] rfl hG (List.append_nil G).symm rfl ⟨congrArg (fun b => AEnd.ret (.p (.bool b))) (by simp_all [hasOk] <;> omega), rfl⟩

end Go.Proofs.Ytnicgdfnfnchjaa

/-
  Which operations there are: 'word.Bin' and 'word.Un' at ones.
-/
set_option linter.unusedVariables false
set_option maxRecDepth 100000
namespace Go.Abs
theorem fn_lift {P : Program} {f : FuncId} {args : List AV} {v : AV} (h : FnIs P f args [] v) (G : List Blk) (ha : args.map (AV.ren []) = args) (hv : v.ren [] = v) (hok : subOk args [] = true) : FnIs P f args G v := by
  have := ACalls.frame (G := G) h [] List.nodup_nil rfl hok (fun i b hb => by simp at hb) (fun r H' hr => by rw [hr.2])
  rw [ha] at this
  refine this.mono ?_
  rintro r G' ⟨r0, H', ⟨rfl, rfl⟩, rfl, rfl⟩
  exact ⟨by show AEnd.ret (v.ren []) = _; rw [hv], rfl⟩
end Go.Abs
namespace Go.Proofs.Ytnicgdfnfnchjaa
open Go.Abs

noncomputable def xf0 : XF := xcall Try.prog extOf xdOf heapOf (fun _ _ => none) fzOf 1000 6
theorem xf0_ok : xf0.ok Try.prog := xcall_sound ext_ok xd_ok mixed 6

def okBin (op : Int) : Bool := decide (1 ≤ op) && decide (op ≤ 16)
def okUn (op : Int) : Bool := decide (1 ≤ op) && decide (op ≤ 3)

theorem c_bin_in (op v : Int) (h : xf0 128 [.p (j64 op), .p (j64 1), .p (j64 1)] [] = some (.ret (.tuple [.p (j64 v), .p (j64 0)]), [], [])) (G : List Blk) : FnIs Try.prog 128 [.p (j64 op), .p (j64 1), .p (j64 1)] G (.tuple [.p (j64 v), .p (j64 0)]) :=
  fn_lift (xf0_ok _ _ _ _ _ _ h certs_nil) G rfl rfl rfl
theorem c_un_in (op v : Int) (h : xf0 129 [.p (j64 op), .p (j64 1)] [] = some (.ret (.tuple [.p (j64 v), .p (j64 0)]), [], [])) (G : List Blk) : FnIs Try.prog 129 [.p (j64 op), .p (j64 1)] G (.tuple [.p (j64 v), .p (j64 0)]) :=
  fn_lift (xf0_ok _ _ _ _ _ _ h certs_nil) G rfl rfl rfl

theorem c_bin_out (op : Int) (h : ¬ (1 ≤ op ∧ op ≤ 16)) (G : List Blk) : FnIs Try.prog 128 [.p (j64 op), .p (j64 1), .p (j64 1)] G (.tuple [.p (j64 0), .p (j64 (-1))]) := by
  refine acalls_fn (cfg 96) Try.func128 rfl rfl rfl (by simp) fun hG => ?_
  refine awp_seq ?_
  refine awp_run rfl ?_
  refine awp_seq ?_
  refine awp_seq ?_
  refine awp_run rfl ?_
  refine awp_block ?_
  refine awp_seq ?_
  refine awp_ops ?_
  refine vopsL_cmp rfl rfl rfl (by decide) rfl fun b hb10 => ?_
  obtain rfl : b = false := by rw [← hb10]; simp; omega
  refine vopsL_take 1 rfl ?_
  refine awp_if false rfl (fun e => by cases e) fun _ => ?_
  refine awp_seq ?_
  refine awp_ops ?_
  refine vopsL_cmp rfl rfl rfl (by decide) rfl fun b hb15 => ?_
  obtain rfl : b = false := by rw [← hb15]; simp; omega
  refine vopsL_take 1 rfl ?_
  refine awp_if false rfl (fun e => by cases e) fun _ => ?_
  refine awp_seq ?_
  refine awp_ops ?_
  refine vopsL_cmp rfl rfl rfl (by decide) rfl fun b hb20 => ?_
  obtain rfl : b = false := by rw [← hb20]; simp; omega
  refine vopsL_take 1 rfl ?_
  refine awp_if false rfl (fun e => by cases e) fun _ => ?_
  refine awp_seq ?_
  refine awp_seq ?_
  refine awp_ops ?_
  refine vopsL_cmp rfl rfl rfl (by decide) rfl fun b hb25 => ?_
  obtain rfl : b = false := by rw [← hb25]; simp; omega
  refine vopsL_take 1 rfl ?_
  refine awp_if false rfl (fun e => by cases e) fun _ => ?_
  refine awp_ops ?_
  refine vopsL_cmp rfl rfl rfl (by decide) rfl fun b hb26 => ?_
  obtain rfl : b = false := by rw [← hb26]; simp; omega
  refine vopsL_take 1 rfl ?_
  refine awp_if false rfl (fun e => by cases e) fun _ => ?_
  refine awp_seq ?_
  refine awp_ops ?_
  refine vopsL_cmp rfl rfl rfl (by decide) rfl fun b hb34 => ?_
  obtain rfl : b = false := by rw [← hb34]; simp; omega
  refine vopsL_take 1 rfl ?_
  refine awp_if false rfl (fun e => by cases e) fun _ => ?_
  refine awp_seq ?_
  refine awp_ops ?_
  refine vopsL_cmp rfl rfl rfl (by decide) rfl fun b hb39 => ?_
  obtain rfl : b = false := by rw [← hb39]; simp; omega
  refine vopsL_take 1 rfl ?_
  refine awp_if false rfl (fun e => by cases e) fun _ => ?_
  refine awp_seq ?_
  refine awp_ops ?_
  refine vopsL_cmp rfl rfl rfl (by decide) rfl fun b hb44 => ?_
  obtain rfl : b = false := by rw [← hb44]; simp; omega
  refine vopsL_take 1 rfl ?_
  refine awp_if false rfl (fun e => by cases e) fun _ => ?_
  refine awp_seq ?_
  refine awp_ops ?_
  refine vopsL_cmp rfl rfl rfl (by decide) rfl fun b hb49 => ?_
  obtain rfl : b = false := by rw [← hb49]; simp; omega
  refine vopsL_take 1 rfl ?_
  refine awp_if false rfl (fun e => by cases e) fun _ => ?_
  refine awp_seq ?_
  refine awp_ops ?_
  refine vopsL_cmp rfl rfl rfl (by decide) rfl fun b hb55 => ?_
  obtain rfl : b = false := by rw [← hb55]; simp; omega
  refine vopsL_take 1 rfl ?_
  refine awp_if false rfl (fun e => by cases e) fun _ => ?_
  refine awp_seq ?_
  refine awp_ops ?_
  refine vopsL_cmp rfl rfl rfl (by decide) rfl fun b hb61 => ?_
  obtain rfl : b = false := by rw [← hb61]; simp; omega
  refine vopsL_take 1 rfl ?_
  refine awp_if false rfl (fun e => by cases e) fun _ => ?_
  refine awp_seq ?_
  refine awp_ops ?_
  refine vopsL_cmp rfl rfl rfl (by decide) rfl fun b hb67 => ?_
  obtain rfl : b = false := by rw [← hb67]; simp; omega
  refine vopsL_take 1 rfl ?_
  refine awp_if false rfl (fun e => by cases e) fun _ => ?_
  refine awp_seq ?_
  refine awp_ops ?_
  refine vopsL_cmp rfl rfl rfl (by decide) rfl fun b hb73 => ?_
  obtain rfl : b = false := by rw [← hb73]; simp; omega
  refine vopsL_take 1 rfl ?_
  refine awp_if false rfl (fun e => by cases e) fun _ => ?_
  refine awp_seq ?_
  refine awp_ops ?_
  refine vopsL_cmp rfl rfl rfl (by decide) rfl fun b hb79 => ?_
  obtain rfl : b = false := by rw [← hb79]; simp; omega
  refine vopsL_take 1 rfl ?_
  refine awp_if false rfl (fun e => by cases e) fun _ => ?_
  refine awp_seq ?_
  refine awp_ops ?_
  refine vopsL_cmp rfl rfl rfl (by decide) rfl fun b hb85 => ?_
  obtain rfl : b = false := by rw [← hb85]; simp; omega
  refine vopsL_take 1 rfl ?_
  refine awp_if false rfl (fun e => by cases e) fun _ => ?_
  refine awp_seq ?_
  refine awp_ops ?_
  refine vopsL_cmp rfl rfl rfl (by decide) rfl fun b hb91 => ?_
  obtain rfl : b = false := by rw [← hb91]; simp; omega
  refine vopsL_take 1 rfl ?_
  refine awp_if false rfl (fun e => by cases e) fun _ => ?_
  refine awp_skip ?_
  refine awp_seq ?_
  refine awp_run rfl ?_
  refine awp_ret ?_
  exact leave_ret_same [] rfl hG (List.append_nil G).symm rfl ⟨rfl, rfl⟩

theorem c_un_out (op : Int) (h : ¬ (1 ≤ op ∧ op ≤ 3)) (G : List Blk) : FnIs Try.prog 129 [.p (j64 op), .p (j64 1)] G (.tuple [.p (j64 0), .p (j64 (-1))]) := by
  refine acalls_fn (cfg 20) Try.func129 rfl rfl rfl (by simp) fun hG => ?_
  refine awp_seq ?_
  refine awp_run rfl ?_
  refine awp_seq ?_
  refine awp_seq ?_
  refine awp_run rfl ?_
  refine awp_block ?_
  refine awp_seq ?_
  refine awp_ops ?_
  refine vopsL_cmp rfl rfl rfl (by decide) rfl fun b hb8 => ?_
  obtain rfl : b = false := by rw [← hb8]; simp; omega
  refine vopsL_take 1 rfl ?_
  refine awp_if false rfl (fun e => by cases e) fun _ => ?_
  refine awp_seq ?_
  refine awp_ops ?_
  refine vopsL_cmp rfl rfl rfl (by decide) rfl fun b hb12 => ?_
  obtain rfl : b = false := by rw [← hb12]; simp; omega
  refine vopsL_take 1 rfl ?_
  refine awp_if false rfl (fun e => by cases e) fun _ => ?_
  refine awp_seq ?_
  refine awp_ops ?_
  refine vopsL_cmp rfl rfl rfl (by decide) rfl fun b hb16 => ?_
  obtain rfl : b = false := by rw [← hb16]; simp; omega
  refine vopsL_take 1 rfl ?_
  refine awp_if false rfl (fun e => by cases e) fun _ => ?_
  refine awp_skip ?_
  refine awp_seq ?_
  refine awp_run rfl ?_
  refine awp_ret ?_
  exact leave_ret_same [] rfl hG (List.append_nil G).symm rfl ⟨rfl, rfl⟩

theorem c_bin (op : Int) (G : List Blk) : ∃ v, FnIs Try.prog 128 [.p (j64 op), .p (j64 1), .p (j64 1)] G (.tuple [.p (j64 v), .p (j64 (if okBin op then 0 else -1))]) := by
  by_cases h : 1 ≤ op ∧ op ≤ 16
  · rw [show okBin op = true by simp [okBin, h.1, h.2]]
    have : op = 1 ∨ op = 2 ∨ op = 3 ∨ op = 4 ∨ op = 5 ∨ op = 6 ∨ op = 7 ∨ op = 8 ∨ op = 9 ∨ op = 10 ∨ op = 11 ∨ op = 12 ∨ op = 13 ∨ op = 14 ∨ op = 15 ∨ op = 16 := by omega
    rcases this with rfl | rfl | rfl | rfl | rfl | rfl | rfl | rfl | rfl | rfl | rfl | rfl | rfl | rfl | rfl | rfl
    · exact ⟨2, c_bin_in _ 2 (by kernel_rfl) G⟩
    · exact ⟨0, c_bin_in _ 0 (by kernel_rfl) G⟩
    · exact ⟨1, c_bin_in _ 1 (by kernel_rfl) G⟩
    · exact ⟨1, c_bin_in _ 1 (by kernel_rfl) G⟩
    · exact ⟨0, c_bin_in _ 0 (by kernel_rfl) G⟩
    · exact ⟨1, c_bin_in _ 1 (by kernel_rfl) G⟩
    · exact ⟨1, c_bin_in _ 1 (by kernel_rfl) G⟩
    · exact ⟨0, c_bin_in _ 0 (by kernel_rfl) G⟩
    · exact ⟨2, c_bin_in _ 2 (by kernel_rfl) G⟩
    · exact ⟨0, c_bin_in _ 0 (by kernel_rfl) G⟩
    · exact ⟨1, c_bin_in _ 1 (by kernel_rfl) G⟩
    · exact ⟨0, c_bin_in _ 0 (by kernel_rfl) G⟩
    · exact ⟨0, c_bin_in _ 0 (by kernel_rfl) G⟩
    · exact ⟨1, c_bin_in _ 1 (by kernel_rfl) G⟩
    · exact ⟨0, c_bin_in _ 0 (by kernel_rfl) G⟩
    · exact ⟨1, c_bin_in _ 1 (by kernel_rfl) G⟩
  · rw [show okBin op = false by simp only [okBin, Bool.and_eq_false_iff, decide_eq_false_iff_not]; omega]
    exact ⟨0, c_bin_out op h G⟩

theorem c_un (op : Int) (G : List Blk) : ∃ v, FnIs Try.prog 129 [.p (j64 op), .p (j64 1)] G (.tuple [.p (j64 v), .p (j64 (if okUn op then 0 else -1))]) := by
  by_cases h : 1 ≤ op ∧ op ≤ 3
  · rw [show okUn op = true by simp [okUn, h.1, h.2]]
    have : op = 1 ∨ op = 2 ∨ op = 3 := by omega
    rcases this with rfl | rfl | rfl
    · exact ⟨-1, c_un_in _ (-1) (by kernel_rfl) G⟩
    · exact ⟨-2, c_un_in _ (-2) (by kernel_rfl) G⟩
    · exact ⟨0, c_un_in _ (0) (by kernel_rfl) G⟩
  · rw [show okUn op = false by simp only [okUn, Bool.and_eq_false_iff, decide_eq_false_iff_not]; omega]
    exact ⟨0, c_un_out op h G⟩

end Go.Proofs.Ytnicgdfnfnchjaa

/-
  The shape of an expression.
-/
set_option linter.unusedVariables false
set_option maxRecDepth 100000
namespace Go.Proofs.Ytnicgdfnfnchjaa
open Go.Abs

def chk (locals loops : Int) : Blk := .cells [.p (j64 locals), .p (j64 loops)]
def noName (s : ByteArray) : Bool := beqS s ⟨#[]⟩

def shapeOk (L : Int) : E → Bool
  | .mk op n nm ks =>
    if op = 1 then ks.length == 0 && noName nm
    else if op = 2 then ks.length == 0 && noName nm && decide (0 ≤ n) && decide (n < L)
    else if op = 3 then ks.length == 2 && noName nm && okBin n
    else if op = 4 then ks.length == 1 && noName nm && okUn n
    else if op = 5 then ks.length == 1 && noName nm && placeOk n
    else if op = 6 then decide (ks.length ≤ 16) && nameOk nm && n == 0
    else if op = 7 then decide (1 ≤ ks.length) && decide (ks.length ≤ 17) && noName nm && n == 0
    else if op = 8 then ks.length == 0 && nameOk nm && n == 0
    else if op = 9 then ks.length == 0 && nameOk nm && n == 0
    else if op = 10 then ks.length == 1 && noName nm && n == 0
    else if op = 11 then ks.length == 0 && noName nm && n == 0
    else if op = 12 then ks.length == 3 && noName nm && n == 0
    else if op = 13 then ks.length == 2 && noName nm && codeOk n
    else false

section
variable (L l n : Int) (nm : ByteArray) (ks : List E)
theorem c_shape1 : FnIs Try.prog 135 [.ptr (.g 0) 0, .agg (E.args (.mk 1 n nm ks))] [chk L l] (.p (.bool (shapeOk L (.mk 1 n nm ks)))) := by
  have hlen := E.rows_len ks
  refine acalls_fn (cfg 202) Try.func135 rfl rfl rfl (by simp) fun hG => ?_
  refine awp_seq ?_
  refine awp_run rfl ?_
  refine awp_seq ?_
  refine awp_run rfl ?_
  refine awp_seq ?_
  refine awp_seq ?_
  refine awp_run rfl ?_
  refine awp_block ?_
  refine awp_seq ?_
  refine awp_run rfl ?_
  refine awp_if true rfl (fun _ => ?_) (fun e => by cases e)
  refine awp_seq ?_
  refine awp_ops ?_
  refine vopsL_take 1 rfl ?_
  refine vopsL_cmp rfl rfl rfl (by decide) rfl fun b hb18 => ?_
  cases b with
  | false =>
    refine vopsL_take 6 rfl ?_
    refine awp_ret ?_
    refine q_block (q_ret ?_)
    exact leave_ret_same (G := [chk L l]) [] rfl hG rfl rfl ⟨congrArg (fun b => AEnd.ret (.p (.bool b))) (by simp_all [shapeOk, noName] <;> omega), rfl⟩
  | true =>
    refine vopsL_take 3 rfl ?_
    refine vopsL_cmpG rfl rfl rfl rfl (by decide) rfl fun b hb22 => ?_
    cases b with
    | false =>
      refine vopsL_take 2 rfl ?_
      refine awp_ret ?_
      refine q_block (q_ret ?_)
      exact leave_ret_same (G := [chk L l]) [] rfl hG rfl rfl ⟨congrArg (fun b => AEnd.ret (.p (.bool b))) (by simp_all [shapeOk, noName] <;> omega), rfl⟩
    | true =>
      refine vopsL_take 2 rfl ?_
      refine awp_ret ?_
      refine q_block (q_ret ?_)
      exact leave_ret_same (G := [chk L l]) [] rfl hG rfl rfl ⟨congrArg (fun b => AEnd.ret (.p (.bool b))) (by simp_all [shapeOk, noName] <;> omega), rfl⟩
theorem c_shape2 : FnIs Try.prog 135 [.ptr (.g 0) 0, .agg (E.args (.mk 2 n nm ks))] [chk L l] (.p (.bool (shapeOk L (.mk 2 n nm ks)))) := by
  have hlen := E.rows_len ks
  refine acalls_fn (cfg 202) Try.func135 rfl rfl rfl (by simp) fun hG => ?_
  refine awp_seq ?_
  refine awp_run rfl ?_
  refine awp_seq ?_
  refine awp_run rfl ?_
  refine awp_seq ?_
  refine awp_seq ?_
  refine awp_run rfl ?_
  refine awp_block ?_
  refine awp_seq ?_
  refine awp_run rfl ?_
  refine awp_if false rfl (fun e => by cases e) fun _ => ?_
  refine awp_seq ?_
  refine awp_run rfl ?_
  refine awp_if true rfl (fun _ => ?_) (fun e => by cases e)
  refine awp_seq ?_
  refine awp_sl mixed (by kernel_rfl) ?_
  refine vsl_take 1 rfl ?_
  refine vsl_cmp rfl rfl rfl fun b hb27 => ?_
  cases b with
  | false =>
    refine vsl_take 20 rfl ?_
    refine vsl_done ?_
    refine awp_ret ?_
    refine q_block (q_ret ?_)
    exact leave_ret_same (G := [chk L l]) [] rfl hG rfl rfl ⟨congrArg (fun b => AEnd.ret (.p (.bool b))) (by simp_all [shapeOk, noName] <;> omega), rfl⟩
  | true =>
    refine vsl_take 3 rfl ?_
    refine vsl_cmpG rfl rfl rfl rfl fun b hb31 => ?_
    cases b with
    | false =>
      refine vsl_take 16 rfl ?_
      refine vsl_done ?_
      refine awp_ret ?_
      refine q_block (q_ret ?_)
      exact leave_ret_same (G := [chk L l]) [] rfl hG rfl rfl ⟨congrArg (fun b => AEnd.ret (.p (.bool b))) (by simp_all [shapeOk, noName] <;> omega), rfl⟩
    | true =>
      refine vsl_take 4 rfl ?_
      refine vsl_cmpG rfl rfl rfl rfl fun b hb36 => ?_
      cases b with
      | false =>
        refine vsl_take 11 rfl ?_
        refine vsl_done ?_
        refine awp_ret ?_
        refine q_block (q_ret ?_)
        exact leave_ret_same (G := [chk L l]) [] rfl hG rfl rfl ⟨congrArg (fun b => AEnd.ret (.p (.bool b))) (by simp_all [shapeOk, noName] <;> omega), rfl⟩
      | true =>
        refine vsl_take 8 rfl ?_
        refine vsl_cmpG rfl rfl rfl rfl fun b hb45 => ?_
        cases b with
        | false =>
          refine vsl_take 2 rfl ?_
          refine vsl_done ?_
          refine awp_ret ?_
          refine q_block (q_ret ?_)
          exact leave_ret_same (G := [chk L l]) [] rfl hG rfl rfl ⟨congrArg (fun b => AEnd.ret (.p (.bool b))) (by simp_all [shapeOk, noName] <;> omega), rfl⟩
        | true =>
          refine vsl_take 2 rfl ?_
          refine vsl_done ?_
          refine awp_ret ?_
          refine q_block (q_ret ?_)
          exact leave_ret_same (G := [chk L l]) [] rfl hG rfl rfl ⟨congrArg (fun b => AEnd.ret (.p (.bool b))) (by simp_all [shapeOk, noName] <;> omega), rfl⟩
theorem c_shape3 : FnIs Try.prog 135 [.ptr (.g 0) 0, .agg (E.args (.mk 3 n nm ks))] [chk L l] (.p (.bool (shapeOk L (.mk 3 n nm ks)))) := by
  have hlen := E.rows_len ks
  obtain ⟨v, hbin⟩ := c_bin n [chk L l]
  refine acalls_fn (cfg 202) Try.func135 rfl rfl rfl (by simp) fun hG => ?_
  refine awp_seq ?_
  refine awp_run rfl ?_
  refine awp_seq ?_
  refine awp_run rfl ?_
  refine awp_seq ?_
  refine awp_seq ?_
  refine awp_run rfl ?_
  refine awp_block ?_
  refine awp_seq ?_
  refine awp_run rfl ?_
  refine awp_if false rfl (fun e => by cases e) fun _ => ?_
  refine awp_seq ?_
  refine awp_run rfl ?_
  refine awp_if false rfl (fun e => by cases e) fun _ => ?_
  refine awp_seq ?_
  refine awp_run rfl ?_
  refine awp_if true rfl (fun _ => ?_) (fun e => by cases e)
  refine awp_seq ?_
  refine awp_ops ?_
  refine vopsL_take 2 rfl ?_
  refine vopsL_fn rfl rfl rfl (hbin) ?_
  refine vopsL_take 5 rfl ?_
  refine awp_seq ?_
  refine awp_ops ?_
  refine vopsL_take 1 rfl ?_
  refine vopsL_cmp rfl rfl rfl (by decide) rfl fun b hb56 => ?_
  cases b with
  | false =>
    refine vopsL_take 10 rfl ?_
    refine awp_ret ?_
    refine q_block (q_ret ?_)
    exact leave_ret_same (G := [chk L l]) [] rfl hG rfl rfl ⟨congrArg (fun b => AEnd.ret (.p (.bool b))) (by simp_all [shapeOk, noName] <;> omega), rfl⟩
  | true =>
    refine vopsL_take 3 rfl ?_
    refine vopsL_cmpG rfl rfl rfl rfl (by decide) rfl fun b hb60 => ?_
    cases b with
    | false =>
      refine vopsL_take 6 rfl ?_
      refine awp_ret ?_
      refine q_block (q_ret ?_)
      exact leave_ret_same (G := [chk L l]) [] rfl hG rfl rfl ⟨congrArg (fun b => AEnd.ret (.p (.bool b))) (by simp_all [shapeOk, noName] <;> omega), rfl⟩
    | true =>
      refine vopsL_take 3 rfl ?_
      refine vopsL_cmpG rfl rfl rfl rfl (by decide) rfl fun b hb64 => ?_
      cases b with
      | false =>
        refine vopsL_take 2 rfl ?_
        refine awp_ret ?_
        refine q_block (q_ret ?_)
        exact leave_ret_same (G := [chk L l]) [] rfl hG rfl rfl ⟨congrArg (fun b => AEnd.ret (.p (.bool b))) (by simp_all [shapeOk, noName] <;> omega), rfl⟩
      | true =>
        refine vopsL_take 2 rfl ?_
        refine awp_ret ?_
        refine q_block (q_ret ?_)
        exact leave_ret_same (G := [chk L l]) [] rfl hG rfl rfl ⟨congrArg (fun b => AEnd.ret (.p (.bool b))) (by simp_all [shapeOk, noName] <;> omega), rfl⟩
theorem c_shape4 : FnIs Try.prog 135 [.ptr (.g 0) 0, .agg (E.args (.mk 4 n nm ks))] [chk L l] (.p (.bool (shapeOk L (.mk 4 n nm ks)))) := by
  have hlen := E.rows_len ks
  obtain ⟨v, hun⟩ := c_un n [chk L l]
  refine acalls_fn (cfg 202) Try.func135 rfl rfl rfl (by simp) fun hG => ?_
  refine awp_seq ?_
  refine awp_run rfl ?_
  refine awp_seq ?_
  refine awp_run rfl ?_
  refine awp_seq ?_
  refine awp_seq ?_
  refine awp_run rfl ?_
  refine awp_block ?_
  refine awp_seq ?_
  refine awp_run rfl ?_
  refine awp_if false rfl (fun e => by cases e) fun _ => ?_
  refine awp_seq ?_
  refine awp_run rfl ?_
  refine awp_if false rfl (fun e => by cases e) fun _ => ?_
  refine awp_seq ?_
  refine awp_run rfl ?_
  refine awp_if false rfl (fun e => by cases e) fun _ => ?_
  refine awp_seq ?_
  refine awp_run rfl ?_
  refine awp_if true rfl (fun _ => ?_) (fun e => by cases e)
  refine awp_seq ?_
  refine awp_ops ?_
  refine vopsL_take 2 rfl ?_
  refine vopsL_fn rfl rfl rfl (hun) ?_
  refine vopsL_take 5 rfl ?_
  refine awp_seq ?_
  refine awp_ops ?_
  refine vopsL_take 1 rfl ?_
  refine vopsL_cmp rfl rfl rfl (by decide) rfl fun b hb75 => ?_
  cases b with
  | false =>
    refine vopsL_take 10 rfl ?_
    refine awp_ret ?_
    refine q_block (q_ret ?_)
    exact leave_ret_same (G := [chk L l]) [] rfl hG rfl rfl ⟨congrArg (fun b => AEnd.ret (.p (.bool b))) (by simp_all [shapeOk, noName] <;> omega), rfl⟩
  | true =>
    refine vopsL_take 3 rfl ?_
    refine vopsL_cmpG rfl rfl rfl rfl (by decide) rfl fun b hb79 => ?_
    cases b with
    | false =>
      refine vopsL_take 6 rfl ?_
      refine awp_ret ?_
      refine q_block (q_ret ?_)
      exact leave_ret_same (G := [chk L l]) [] rfl hG rfl rfl ⟨congrArg (fun b => AEnd.ret (.p (.bool b))) (by simp_all [shapeOk, noName] <;> omega), rfl⟩
    | true =>
      refine vopsL_take 3 rfl ?_
      refine vopsL_cmpG rfl rfl rfl rfl (by decide) rfl fun b hb83 => ?_
      cases b with
      | false =>
        refine vopsL_take 2 rfl ?_
        refine awp_ret ?_
        refine q_block (q_ret ?_)
        exact leave_ret_same (G := [chk L l]) [] rfl hG rfl rfl ⟨congrArg (fun b => AEnd.ret (.p (.bool b))) (by simp_all [shapeOk, noName] <;> omega), rfl⟩
      | true =>
        refine vopsL_take 2 rfl ?_
        refine awp_ret ?_
        refine q_block (q_ret ?_)
        exact leave_ret_same (G := [chk L l]) [] rfl hG rfl rfl ⟨congrArg (fun b => AEnd.ret (.p (.bool b))) (by simp_all [shapeOk, noName] <;> omega), rfl⟩
theorem c_shape5 : FnIs Try.prog 135 [.ptr (.g 0) 0, .agg (E.args (.mk 5 n nm ks))] [chk L l] (.p (.bool (shapeOk L (.mk 5 n nm ks)))) := by
  have hlen := E.rows_len ks
  refine acalls_fn (cfg 202) Try.func135 rfl rfl rfl (by simp) fun hG => ?_
  refine awp_seq ?_
  refine awp_run rfl ?_
  refine awp_seq ?_
  refine awp_run rfl ?_
  refine awp_seq ?_
  refine awp_seq ?_
  refine awp_run rfl ?_
  refine awp_block ?_
  refine awp_seq ?_
  refine awp_run rfl ?_
  refine awp_if false rfl (fun e => by cases e) fun _ => ?_
  refine awp_seq ?_
  refine awp_run rfl ?_
  refine awp_if false rfl (fun e => by cases e) fun _ => ?_
  refine awp_seq ?_
  refine awp_run rfl ?_
  refine awp_if false rfl (fun e => by cases e) fun _ => ?_
  refine awp_seq ?_
  refine awp_run rfl ?_
  refine awp_if false rfl (fun e => by cases e) fun _ => ?_
  refine awp_seq ?_
  refine awp_run rfl ?_
  refine awp_if true rfl (fun _ => ?_) (fun e => by cases e)
  refine awp_seq ?_
  refine awp_ops ?_
  refine vopsL_take 1 rfl ?_
  refine vopsL_cmp rfl rfl rfl (by decide) rfl fun b hb88 => ?_
  cases b with
  | false =>
    refine vopsL_take 11 rfl ?_
    refine awp_ret ?_
    refine q_block (q_ret ?_)
    exact leave_ret_same (G := [chk L l]) [] rfl hG rfl rfl ⟨congrArg (fun b => AEnd.ret (.p (.bool b))) (by simp_all [shapeOk, noName] <;> omega), rfl⟩
  | true =>
    refine vopsL_take 3 rfl ?_
    refine vopsL_cmpG rfl rfl rfl rfl (by decide) rfl fun b hb92 => ?_
    cases b with
    | false =>
      refine vopsL_take 7 rfl ?_
      refine awp_ret ?_
      refine q_block (q_ret ?_)
      exact leave_ret_same (G := [chk L l]) [] rfl hG rfl rfl ⟨congrArg (fun b => AEnd.ret (.p (.bool b))) (by simp_all [shapeOk, noName] <;> omega), rfl⟩
    | true =>
      refine vopsL_take 4 rfl ?_
      refine vopsL_fnG rfl rfl rfl rfl (c_place n _) ?_
      cases hb97 : placeOk n with
      | false =>
        refine vopsL_take 2 rfl ?_
        refine awp_ret ?_
        refine q_block (q_ret ?_)
        exact leave_ret_same (G := [chk L l]) [] rfl hG rfl rfl ⟨congrArg (fun b => AEnd.ret (.p (.bool b))) (by simp_all [shapeOk, noName] <;> omega), rfl⟩
      | true =>
        refine vopsL_take 2 rfl ?_
        refine awp_ret ?_
        refine q_block (q_ret ?_)
        exact leave_ret_same (G := [chk L l]) [] rfl hG rfl rfl ⟨congrArg (fun b => AEnd.ret (.p (.bool b))) (by simp_all [shapeOk, noName] <;> omega), rfl⟩
theorem c_shape6 : FnIs Try.prog 135 [.ptr (.g 0) 0, .agg (E.args (.mk 6 n nm ks))] [chk L l] (.p (.bool (shapeOk L (.mk 6 n nm ks)))) := by
  have hlen := E.rows_len ks
  refine acalls_fn (cfg 202) Try.func135 rfl rfl rfl (by simp) fun hG => ?_
  refine awp_seq ?_
  refine awp_run rfl ?_
  refine awp_seq ?_
  refine awp_run rfl ?_
  refine awp_seq ?_
  refine awp_seq ?_
  refine awp_run rfl ?_
  refine awp_block ?_
  refine awp_seq ?_
  refine awp_run rfl ?_
  refine awp_if false rfl (fun e => by cases e) fun _ => ?_
  refine awp_seq ?_
  refine awp_run rfl ?_
  refine awp_if false rfl (fun e => by cases e) fun _ => ?_
  refine awp_seq ?_
  refine awp_run rfl ?_
  refine awp_if false rfl (fun e => by cases e) fun _ => ?_
  refine awp_seq ?_
  refine awp_run rfl ?_
  refine awp_if false rfl (fun e => by cases e) fun _ => ?_
  refine awp_seq ?_
  refine awp_run rfl ?_
  refine awp_if false rfl (fun e => by cases e) fun _ => ?_
  refine awp_seq ?_
  refine awp_run rfl ?_
  refine awp_if true rfl (fun _ => ?_) (fun e => by cases e)
  refine awp_seq ?_
  refine awp_ops ?_
  refine vopsL_take 1 rfl ?_
  refine vopsL_cmp rfl rfl rfl (by decide) rfl fun b hb102 => ?_
  cases b with
  | false =>
    refine vopsL_take 11 rfl ?_
    refine awp_ret ?_
    refine q_block (q_ret ?_)
    exact leave_ret_same (G := [chk L l]) [] rfl hG rfl rfl ⟨congrArg (fun b => AEnd.ret (.p (.bool b))) (by simp_all [shapeOk, noName] <;> omega), rfl⟩
  | true =>
    refine vopsL_take 3 rfl ?_
    refine vopsL_fnG rfl rfl rfl rfl (c_name nm _) ?_
    cases hb106 : nameOk nm with
    | false =>
      refine vopsL_take 7 rfl ?_
      refine awp_ret ?_
      refine q_block (q_ret ?_)
      exact leave_ret_same (G := [chk L l]) [] rfl hG rfl rfl ⟨congrArg (fun b => AEnd.ret (.p (.bool b))) (by simp_all [shapeOk, noName] <;> omega), rfl⟩
    | true =>
      refine vopsL_take 4 rfl ?_
      refine vopsL_cmpG rfl rfl rfl rfl (by decide) rfl fun b hb111 => ?_
      cases b with
      | false =>
        refine vopsL_take 2 rfl ?_
        refine awp_ret ?_
        refine q_block (q_ret ?_)
        exact leave_ret_same (G := [chk L l]) [] rfl hG rfl rfl ⟨congrArg (fun b => AEnd.ret (.p (.bool b))) (by simp_all [shapeOk, noName] <;> omega), rfl⟩
      | true =>
        refine vopsL_take 2 rfl ?_
        refine awp_ret ?_
        refine q_block (q_ret ?_)
        exact leave_ret_same (G := [chk L l]) [] rfl hG rfl rfl ⟨congrArg (fun b => AEnd.ret (.p (.bool b))) (by simp_all [shapeOk, noName] <;> omega), rfl⟩
theorem c_shape7 : FnIs Try.prog 135 [.ptr (.g 0) 0, .agg (E.args (.mk 7 n nm ks))] [chk L l] (.p (.bool (shapeOk L (.mk 7 n nm ks)))) := by
  have hlen := E.rows_len ks
  refine acalls_fn (cfg 202) Try.func135 rfl rfl rfl (by simp) fun hG => ?_
  refine awp_seq ?_
  refine awp_run rfl ?_
  refine awp_seq ?_
  refine awp_run rfl ?_
  refine awp_seq ?_
  refine awp_seq ?_
  refine awp_run rfl ?_
  refine awp_block ?_
  refine awp_seq ?_
  refine awp_run rfl ?_
  refine awp_if false rfl (fun e => by cases e) fun _ => ?_
  refine awp_seq ?_
  refine awp_run rfl ?_
  refine awp_if false rfl (fun e => by cases e) fun _ => ?_
  refine awp_seq ?_
  refine awp_run rfl ?_
  refine awp_if false rfl (fun e => by cases e) fun _ => ?_
  refine awp_seq ?_
  refine awp_run rfl ?_
  refine awp_if false rfl (fun e => by cases e) fun _ => ?_
  refine awp_seq ?_
  refine awp_run rfl ?_
  refine awp_if false rfl (fun e => by cases e) fun _ => ?_
  refine awp_seq ?_
  refine awp_run rfl ?_
  refine awp_if false rfl (fun e => by cases e) fun _ => ?_
  refine awp_seq ?_
  refine awp_run rfl ?_
  refine awp_if true rfl (fun _ => ?_) (fun e => by cases e)
  refine awp_seq ?_
  refine awp_ops ?_
  refine vopsL_take 1 rfl ?_
  refine vopsL_cmp rfl rfl rfl (by decide) rfl fun b hb116 => ?_
  cases b with
  | false =>
    refine vopsL_take 15 rfl ?_
    refine awp_ret ?_
    refine q_block (q_ret ?_)
    exact leave_ret_same (G := [chk L l]) [] rfl hG rfl rfl ⟨congrArg (fun b => AEnd.ret (.p (.bool b))) (by simp_all [shapeOk, noName] <;> omega), rfl⟩
  | true =>
    refine vopsL_take 2 rfl ?_
    refine vopsL_cmpG rfl rfl rfl rfl (by decide) rfl fun b hb119 => ?_
    cases b with
    | false =>
      refine vopsL_take 12 rfl ?_
      refine awp_ret ?_
      refine q_block (q_ret ?_)
      exact leave_ret_same (G := [chk L l]) [] rfl hG rfl rfl ⟨congrArg (fun b => AEnd.ret (.p (.bool b))) (by simp_all [shapeOk, noName] <;> omega), rfl⟩
    | true =>
      refine vopsL_take 4 rfl ?_
      refine vopsL_cmpG rfl rfl rfl rfl (by decide) rfl fun b hb124 => ?_
      cases b with
      | false =>
        refine vopsL_take 7 rfl ?_
        refine awp_ret ?_
        refine q_block (q_ret ?_)
        exact leave_ret_same (G := [chk L l]) [] rfl hG rfl rfl ⟨congrArg (fun b => AEnd.ret (.p (.bool b))) (by simp_all [shapeOk, noName] <;> omega), rfl⟩
      | true =>
        refine vopsL_take 4 rfl ?_
        refine vopsL_cmpG rfl rfl rfl rfl (by decide) rfl fun b hb129 => ?_
        cases b with
        | false =>
          refine vopsL_take 2 rfl ?_
          refine awp_ret ?_
          refine q_block (q_ret ?_)
          exact leave_ret_same (G := [chk L l]) [] rfl hG rfl rfl ⟨congrArg (fun b => AEnd.ret (.p (.bool b))) (by simp_all [shapeOk, noName] <;> omega), rfl⟩
        | true =>
          refine vopsL_take 2 rfl ?_
          refine awp_ret ?_
          refine q_block (q_ret ?_)
          exact leave_ret_same (G := [chk L l]) [] rfl hG rfl rfl ⟨congrArg (fun b => AEnd.ret (.p (.bool b))) (by simp_all [shapeOk, noName] <;> omega), rfl⟩
theorem c_shape8 : FnIs Try.prog 135 [.ptr (.g 0) 0, .agg (E.args (.mk 8 n nm ks))] [chk L l] (.p (.bool (shapeOk L (.mk 8 n nm ks)))) := by
  have hlen := E.rows_len ks
  refine acalls_fn (cfg 202) Try.func135 rfl rfl rfl (by simp) fun hG => ?_
  refine awp_seq ?_
  refine awp_run rfl ?_
  refine awp_seq ?_
  refine awp_run rfl ?_
  refine awp_seq ?_
  refine awp_seq ?_
  refine awp_run rfl ?_
  refine awp_block ?_
  refine awp_seq ?_
  refine awp_run rfl ?_
  refine awp_if false rfl (fun e => by cases e) fun _ => ?_
  refine awp_seq ?_
  refine awp_run rfl ?_
  refine awp_if false rfl (fun e => by cases e) fun _ => ?_
  refine awp_seq ?_
  refine awp_run rfl ?_
  refine awp_if false rfl (fun e => by cases e) fun _ => ?_
  refine awp_seq ?_
  refine awp_run rfl ?_
  refine awp_if false rfl (fun e => by cases e) fun _ => ?_
  refine awp_seq ?_
  refine awp_run rfl ?_
  refine awp_if false rfl (fun e => by cases e) fun _ => ?_
  refine awp_seq ?_
  refine awp_run rfl ?_
  refine awp_if false rfl (fun e => by cases e) fun _ => ?_
  refine awp_seq ?_
  refine awp_run rfl ?_
  refine awp_if false rfl (fun e => by cases e) fun _ => ?_
  refine awp_seq ?_
  refine awp_seq ?_
  refine awp_run rfl ?_
  refine awp_if true rfl (fun _ => ?_) (fun e => by cases e)
  refine awp_skip ?_
  refine awp_if true rfl (fun _ => ?_) (fun e => by cases e)
  refine awp_seq ?_
  refine awp_ops ?_
  refine vopsL_take 1 rfl ?_
  refine vopsL_cmp rfl rfl rfl (by decide) rfl fun b hb135 => ?_
  cases b with
  | false =>
    refine vopsL_take 11 rfl ?_
    refine awp_ret ?_
    refine q_block (q_ret ?_)
    exact leave_ret_same (G := [chk L l]) [] rfl hG rfl rfl ⟨congrArg (fun b => AEnd.ret (.p (.bool b))) (by simp_all [shapeOk, noName] <;> omega), rfl⟩
  | true =>
    refine vopsL_take 3 rfl ?_
    refine vopsL_fnG rfl rfl rfl rfl (c_name nm _) ?_
    cases hb139 : nameOk nm with
    | false =>
      refine vopsL_take 7 rfl ?_
      refine awp_ret ?_
      refine q_block (q_ret ?_)
      exact leave_ret_same (G := [chk L l]) [] rfl hG rfl rfl ⟨congrArg (fun b => AEnd.ret (.p (.bool b))) (by simp_all [shapeOk, noName] <;> omega), rfl⟩
    | true =>
      refine vopsL_take 4 rfl ?_
      refine vopsL_cmpG rfl rfl rfl rfl (by decide) rfl fun b hb144 => ?_
      cases b with
      | false =>
        refine vopsL_take 2 rfl ?_
        refine awp_ret ?_
        refine q_block (q_ret ?_)
        exact leave_ret_same (G := [chk L l]) [] rfl hG rfl rfl ⟨congrArg (fun b => AEnd.ret (.p (.bool b))) (by simp_all [shapeOk, noName] <;> omega), rfl⟩
      | true =>
        refine vopsL_take 2 rfl ?_
        refine awp_ret ?_
        refine q_block (q_ret ?_)
        exact leave_ret_same (G := [chk L l]) [] rfl hG rfl rfl ⟨congrArg (fun b => AEnd.ret (.p (.bool b))) (by simp_all [shapeOk, noName] <;> omega), rfl⟩
theorem c_shape9 : FnIs Try.prog 135 [.ptr (.g 0) 0, .agg (E.args (.mk 9 n nm ks))] [chk L l] (.p (.bool (shapeOk L (.mk 9 n nm ks)))) := by
  have hlen := E.rows_len ks
  refine acalls_fn (cfg 202) Try.func135 rfl rfl rfl (by simp) fun hG => ?_
  refine awp_seq ?_
  refine awp_run rfl ?_
  refine awp_seq ?_
  refine awp_run rfl ?_
  refine awp_seq ?_
  refine awp_seq ?_
  refine awp_run rfl ?_
  refine awp_block ?_
  refine awp_seq ?_
  refine awp_run rfl ?_
  refine awp_if false rfl (fun e => by cases e) fun _ => ?_
  refine awp_seq ?_
  refine awp_run rfl ?_
  refine awp_if false rfl (fun e => by cases e) fun _ => ?_
  refine awp_seq ?_
  refine awp_run rfl ?_
  refine awp_if false rfl (fun e => by cases e) fun _ => ?_
  refine awp_seq ?_
  refine awp_run rfl ?_
  refine awp_if false rfl (fun e => by cases e) fun _ => ?_
  refine awp_seq ?_
  refine awp_run rfl ?_
  refine awp_if false rfl (fun e => by cases e) fun _ => ?_
  refine awp_seq ?_
  refine awp_run rfl ?_
  refine awp_if false rfl (fun e => by cases e) fun _ => ?_
  refine awp_seq ?_
  refine awp_run rfl ?_
  refine awp_if false rfl (fun e => by cases e) fun _ => ?_
  refine awp_seq ?_
  refine awp_seq ?_
  refine awp_run rfl ?_
  refine awp_if false rfl (fun e => by cases e) fun _ => ?_
  refine awp_run rfl ?_
  refine awp_if true rfl (fun _ => ?_) (fun e => by cases e)
  refine awp_seq ?_
  refine awp_ops ?_
  refine vopsL_take 1 rfl ?_
  refine vopsL_cmp rfl rfl rfl (by decide) rfl fun b hb135 => ?_
  cases b with
  | false =>
    refine vopsL_take 11 rfl ?_
    refine awp_ret ?_
    refine q_block (q_ret ?_)
    exact leave_ret_same (G := [chk L l]) [] rfl hG rfl rfl ⟨congrArg (fun b => AEnd.ret (.p (.bool b))) (by simp_all [shapeOk, noName] <;> omega), rfl⟩
  | true =>
    refine vopsL_take 3 rfl ?_
    refine vopsL_fnG rfl rfl rfl rfl (c_name nm _) ?_
    cases hb139 : nameOk nm with
    | false =>
      refine vopsL_take 7 rfl ?_
      refine awp_ret ?_
      refine q_block (q_ret ?_)
      exact leave_ret_same (G := [chk L l]) [] rfl hG rfl rfl ⟨congrArg (fun b => AEnd.ret (.p (.bool b))) (by simp_all [shapeOk, noName] <;> omega), rfl⟩
    | true =>
      refine vopsL_take 4 rfl ?_
      refine vopsL_cmpG rfl rfl rfl rfl (by decide) rfl fun b hb144 => ?_
      cases b with
      | false =>
        refine vopsL_take 2 rfl ?_
        refine awp_ret ?_
        refine q_block (q_ret ?_)
        exact leave_ret_same (G := [chk L l]) [] rfl hG rfl rfl ⟨congrArg (fun b => AEnd.ret (.p (.bool b))) (by simp_all [shapeOk, noName] <;> omega), rfl⟩
      | true =>
        refine vopsL_take 2 rfl ?_
        refine awp_ret ?_
        refine q_block (q_ret ?_)
        exact leave_ret_same (G := [chk L l]) [] rfl hG rfl rfl ⟨congrArg (fun b => AEnd.ret (.p (.bool b))) (by simp_all [shapeOk, noName] <;> omega), rfl⟩
theorem c_shape10 : FnIs Try.prog 135 [.ptr (.g 0) 0, .agg (E.args (.mk 10 n nm ks))] [chk L l] (.p (.bool (shapeOk L (.mk 10 n nm ks)))) := by
  have hlen := E.rows_len ks
  refine acalls_fn (cfg 202) Try.func135 rfl rfl rfl (by simp) fun hG => ?_
  refine awp_seq ?_
  refine awp_run rfl ?_
  refine awp_seq ?_
  refine awp_run rfl ?_
  refine awp_seq ?_
  refine awp_seq ?_
  refine awp_run rfl ?_
  refine awp_block ?_
  refine awp_seq ?_
  refine awp_run rfl ?_
  refine awp_if false rfl (fun e => by cases e) fun _ => ?_
  refine awp_seq ?_
  refine awp_run rfl ?_
  refine awp_if false rfl (fun e => by cases e) fun _ => ?_
  refine awp_seq ?_
  refine awp_run rfl ?_
  refine awp_if false rfl (fun e => by cases e) fun _ => ?_
  refine awp_seq ?_
  refine awp_run rfl ?_
  refine awp_if false rfl (fun e => by cases e) fun _ => ?_
  refine awp_seq ?_
  refine awp_run rfl ?_
  refine awp_if false rfl (fun e => by cases e) fun _ => ?_
  refine awp_seq ?_
  refine awp_run rfl ?_
  refine awp_if false rfl (fun e => by cases e) fun _ => ?_
  refine awp_seq ?_
  refine awp_run rfl ?_
  refine awp_if false rfl (fun e => by cases e) fun _ => ?_
  refine awp_seq ?_
  refine awp_seq ?_
  refine awp_run rfl ?_
  refine awp_if false rfl (fun e => by cases e) fun _ => ?_
  refine awp_run rfl ?_
  refine awp_if false rfl (fun e => by cases e) fun _ => ?_
  refine awp_seq ?_
  refine awp_run rfl ?_
  refine awp_if true rfl (fun _ => ?_) (fun e => by cases e)
  refine awp_seq ?_
  refine awp_ops ?_
  refine vopsL_take 1 rfl ?_
  refine vopsL_cmp rfl rfl rfl (by decide) rfl fun b hb149 => ?_
  cases b with
  | false =>
    refine vopsL_take 11 rfl ?_
    refine awp_ret ?_
    refine q_block (q_ret ?_)
    exact leave_ret_same (G := [chk L l]) [] rfl hG rfl rfl ⟨congrArg (fun b => AEnd.ret (.p (.bool b))) (by simp_all [shapeOk, noName] <;> omega), rfl⟩
  | true =>
    refine vopsL_take 3 rfl ?_
    refine vopsL_cmpG rfl rfl rfl rfl (by decide) rfl fun b hb153 => ?_
    cases b with
    | false =>
      refine vopsL_take 7 rfl ?_
      refine awp_ret ?_
      refine q_block (q_ret ?_)
      exact leave_ret_same (G := [chk L l]) [] rfl hG rfl rfl ⟨congrArg (fun b => AEnd.ret (.p (.bool b))) (by simp_all [shapeOk, noName] <;> omega), rfl⟩
    | true =>
      refine vopsL_take 4 rfl ?_
      refine vopsL_cmpG rfl rfl rfl rfl (by decide) rfl fun b hb158 => ?_
      cases b with
      | false =>
        refine vopsL_take 2 rfl ?_
        refine awp_ret ?_
        refine q_block (q_ret ?_)
        exact leave_ret_same (G := [chk L l]) [] rfl hG rfl rfl ⟨congrArg (fun b => AEnd.ret (.p (.bool b))) (by simp_all [shapeOk, noName] <;> omega), rfl⟩
      | true =>
        refine vopsL_take 2 rfl ?_
        refine awp_ret ?_
        refine q_block (q_ret ?_)
        exact leave_ret_same (G := [chk L l]) [] rfl hG rfl rfl ⟨congrArg (fun b => AEnd.ret (.p (.bool b))) (by simp_all [shapeOk, noName] <;> omega), rfl⟩
theorem c_shape11 : FnIs Try.prog 135 [.ptr (.g 0) 0, .agg (E.args (.mk 11 n nm ks))] [chk L l] (.p (.bool (shapeOk L (.mk 11 n nm ks)))) := by
  have hlen := E.rows_len ks
  refine acalls_fn (cfg 202) Try.func135 rfl rfl rfl (by simp) fun hG => ?_
  refine awp_seq ?_
  refine awp_run rfl ?_
  refine awp_seq ?_
  refine awp_run rfl ?_
  refine awp_seq ?_
  refine awp_seq ?_
  refine awp_run rfl ?_
  refine awp_block ?_
  refine awp_seq ?_
  refine awp_run rfl ?_
  refine awp_if false rfl (fun e => by cases e) fun _ => ?_
  refine awp_seq ?_
  refine awp_run rfl ?_
  refine awp_if false rfl (fun e => by cases e) fun _ => ?_
  refine awp_seq ?_
  refine awp_run rfl ?_
  refine awp_if false rfl (fun e => by cases e) fun _ => ?_
  refine awp_seq ?_
  refine awp_run rfl ?_
  refine awp_if false rfl (fun e => by cases e) fun _ => ?_
  refine awp_seq ?_
  refine awp_run rfl ?_
  refine awp_if false rfl (fun e => by cases e) fun _ => ?_
  refine awp_seq ?_
  refine awp_run rfl ?_
  refine awp_if false rfl (fun e => by cases e) fun _ => ?_
  refine awp_seq ?_
  refine awp_run rfl ?_
  refine awp_if false rfl (fun e => by cases e) fun _ => ?_
  refine awp_seq ?_
  refine awp_seq ?_
  refine awp_run rfl ?_
  refine awp_if false rfl (fun e => by cases e) fun _ => ?_
  refine awp_run rfl ?_
  refine awp_if false rfl (fun e => by cases e) fun _ => ?_
  refine awp_seq ?_
  refine awp_run rfl ?_
  refine awp_if false rfl (fun e => by cases e) fun _ => ?_
  refine awp_seq ?_
  refine awp_run rfl ?_
  refine awp_if true rfl (fun _ => ?_) (fun e => by cases e)
  refine awp_seq ?_
  refine awp_ops ?_
  refine vopsL_take 1 rfl ?_
  refine vopsL_cmp rfl rfl rfl (by decide) rfl fun b hb163 => ?_
  cases b with
  | false =>
    refine vopsL_take 11 rfl ?_
    refine awp_ret ?_
    refine q_block (q_ret ?_)
    exact leave_ret_same (G := [chk L l]) [] rfl hG rfl rfl ⟨congrArg (fun b => AEnd.ret (.p (.bool b))) (by simp_all [shapeOk, noName] <;> omega), rfl⟩
  | true =>
    refine vopsL_take 3 rfl ?_
    refine vopsL_cmpG rfl rfl rfl rfl (by decide) rfl fun b hb167 => ?_
    cases b with
    | false =>
      refine vopsL_take 7 rfl ?_
      refine awp_ret ?_
      refine q_block (q_ret ?_)
      exact leave_ret_same (G := [chk L l]) [] rfl hG rfl rfl ⟨congrArg (fun b => AEnd.ret (.p (.bool b))) (by simp_all [shapeOk, noName] <;> omega), rfl⟩
    | true =>
      refine vopsL_take 4 rfl ?_
      refine vopsL_cmpG rfl rfl rfl rfl (by decide) rfl fun b hb172 => ?_
      cases b with
      | false =>
        refine vopsL_take 2 rfl ?_
        refine awp_ret ?_
        refine q_block (q_ret ?_)
        exact leave_ret_same (G := [chk L l]) [] rfl hG rfl rfl ⟨congrArg (fun b => AEnd.ret (.p (.bool b))) (by simp_all [shapeOk, noName] <;> omega), rfl⟩
      | true =>
        refine vopsL_take 2 rfl ?_
        refine awp_ret ?_
        refine q_block (q_ret ?_)
        exact leave_ret_same (G := [chk L l]) [] rfl hG rfl rfl ⟨congrArg (fun b => AEnd.ret (.p (.bool b))) (by simp_all [shapeOk, noName] <;> omega), rfl⟩
theorem c_shape12 : FnIs Try.prog 135 [.ptr (.g 0) 0, .agg (E.args (.mk 12 n nm ks))] [chk L l] (.p (.bool (shapeOk L (.mk 12 n nm ks)))) := by
  have hlen := E.rows_len ks
  refine acalls_fn (cfg 202) Try.func135 rfl rfl rfl (by simp) fun hG => ?_
  refine awp_seq ?_
  refine awp_run rfl ?_
  refine awp_seq ?_
  refine awp_run rfl ?_
  refine awp_seq ?_
  refine awp_seq ?_
  refine awp_run rfl ?_
  refine awp_block ?_
  refine awp_seq ?_
  refine awp_run rfl ?_
  refine awp_if false rfl (fun e => by cases e) fun _ => ?_
  refine awp_seq ?_
  refine awp_run rfl ?_
  refine awp_if false rfl (fun e => by cases e) fun _ => ?_
  refine awp_seq ?_
  refine awp_run rfl ?_
  refine awp_if false rfl (fun e => by cases e) fun _ => ?_
  refine awp_seq ?_
  refine awp_run rfl ?_
  refine awp_if false rfl (fun e => by cases e) fun _ => ?_
  refine awp_seq ?_
  refine awp_run rfl ?_
  refine awp_if false rfl (fun e => by cases e) fun _ => ?_
  refine awp_seq ?_
  refine awp_run rfl ?_
  refine awp_if false rfl (fun e => by cases e) fun _ => ?_
  refine awp_seq ?_
  refine awp_run rfl ?_
  refine awp_if false rfl (fun e => by cases e) fun _ => ?_
  refine awp_seq ?_
  refine awp_seq ?_
  refine awp_run rfl ?_
  refine awp_if false rfl (fun e => by cases e) fun _ => ?_
  refine awp_run rfl ?_
  refine awp_if false rfl (fun e => by cases e) fun _ => ?_
  refine awp_seq ?_
  refine awp_run rfl ?_
  refine awp_if false rfl (fun e => by cases e) fun _ => ?_
  refine awp_seq ?_
  refine awp_run rfl ?_
  refine awp_if false rfl (fun e => by cases e) fun _ => ?_
  refine awp_seq ?_
  refine awp_run rfl ?_
  refine awp_if true rfl (fun _ => ?_) (fun e => by cases e)
  refine awp_seq ?_
  refine awp_ops ?_
  refine vopsL_take 1 rfl ?_
  refine vopsL_cmp rfl rfl rfl (by decide) rfl fun b hb177 => ?_
  cases b with
  | false =>
    refine vopsL_take 11 rfl ?_
    refine awp_ret ?_
    refine q_block (q_ret ?_)
    exact leave_ret_same (G := [chk L l]) [] rfl hG rfl rfl ⟨congrArg (fun b => AEnd.ret (.p (.bool b))) (by simp_all [shapeOk, noName] <;> omega), rfl⟩
  | true =>
    refine vopsL_take 3 rfl ?_
    refine vopsL_cmpG rfl rfl rfl rfl (by decide) rfl fun b hb181 => ?_
    cases b with
    | false =>
      refine vopsL_take 7 rfl ?_
      refine awp_ret ?_
      refine q_block (q_ret ?_)
      exact leave_ret_same (G := [chk L l]) [] rfl hG rfl rfl ⟨congrArg (fun b => AEnd.ret (.p (.bool b))) (by simp_all [shapeOk, noName] <;> omega), rfl⟩
    | true =>
      refine vopsL_take 4 rfl ?_
      refine vopsL_cmpG rfl rfl rfl rfl (by decide) rfl fun b hb186 => ?_
      cases b with
      | false =>
        refine vopsL_take 2 rfl ?_
        refine awp_ret ?_
        refine q_block (q_ret ?_)
        exact leave_ret_same (G := [chk L l]) [] rfl hG rfl rfl ⟨congrArg (fun b => AEnd.ret (.p (.bool b))) (by simp_all [shapeOk, noName] <;> omega), rfl⟩
      | true =>
        refine vopsL_take 2 rfl ?_
        refine awp_ret ?_
        refine q_block (q_ret ?_)
        exact leave_ret_same (G := [chk L l]) [] rfl hG rfl rfl ⟨congrArg (fun b => AEnd.ret (.p (.bool b))) (by simp_all [shapeOk, noName] <;> omega), rfl⟩
theorem c_shape13 : FnIs Try.prog 135 [.ptr (.g 0) 0, .agg (E.args (.mk 13 n nm ks))] [chk L l] (.p (.bool (shapeOk L (.mk 13 n nm ks)))) := by
  have hlen := E.rows_len ks
  refine acalls_fn (cfg 202) Try.func135 rfl rfl rfl (by simp) fun hG => ?_
  refine awp_seq ?_
  refine awp_run rfl ?_
  refine awp_seq ?_
  refine awp_run rfl ?_
  refine awp_seq ?_
  refine awp_seq ?_
  refine awp_run rfl ?_
  refine awp_block ?_
  refine awp_seq ?_
  refine awp_run rfl ?_
  refine awp_if false rfl (fun e => by cases e) fun _ => ?_
  refine awp_seq ?_
  refine awp_run rfl ?_
  refine awp_if false rfl (fun e => by cases e) fun _ => ?_
  refine awp_seq ?_
  refine awp_run rfl ?_
  refine awp_if false rfl (fun e => by cases e) fun _ => ?_
  refine awp_seq ?_
  refine awp_run rfl ?_
  refine awp_if false rfl (fun e => by cases e) fun _ => ?_
  refine awp_seq ?_
  refine awp_run rfl ?_
  refine awp_if false rfl (fun e => by cases e) fun _ => ?_
  refine awp_seq ?_
  refine awp_run rfl ?_
  refine awp_if false rfl (fun e => by cases e) fun _ => ?_
  refine awp_seq ?_
  refine awp_run rfl ?_
  refine awp_if false rfl (fun e => by cases e) fun _ => ?_
  refine awp_seq ?_
  refine awp_seq ?_
  refine awp_run rfl ?_
  refine awp_if false rfl (fun e => by cases e) fun _ => ?_
  refine awp_run rfl ?_
  refine awp_if false rfl (fun e => by cases e) fun _ => ?_
  refine awp_seq ?_
  refine awp_run rfl ?_
  refine awp_if false rfl (fun e => by cases e) fun _ => ?_
  refine awp_seq ?_
  refine awp_run rfl ?_
  refine awp_if false rfl (fun e => by cases e) fun _ => ?_
  refine awp_seq ?_
  refine awp_run rfl ?_
  refine awp_if false rfl (fun e => by cases e) fun _ => ?_
  refine awp_seq ?_
  refine awp_run rfl ?_
  refine awp_if true rfl (fun _ => ?_) (fun e => by cases e)
  refine awp_seq ?_
  refine awp_ops ?_
  refine vopsL_take 1 rfl ?_
  refine vopsL_cmp rfl rfl rfl (by decide) rfl fun b hb191 => ?_
  cases b with
  | false =>
    refine vopsL_take 11 rfl ?_
    refine awp_ret ?_
    refine q_block (q_ret ?_)
    exact leave_ret_same (G := [chk L l]) [] rfl hG rfl rfl ⟨congrArg (fun b => AEnd.ret (.p (.bool b))) (by simp_all [shapeOk, noName] <;> omega), rfl⟩
  | true =>
    refine vopsL_take 3 rfl ?_
    refine vopsL_cmpG rfl rfl rfl rfl (by decide) rfl fun b hb195 => ?_
    cases b with
    | false =>
      refine vopsL_take 7 rfl ?_
      refine awp_ret ?_
      refine q_block (q_ret ?_)
      exact leave_ret_same (G := [chk L l]) [] rfl hG rfl rfl ⟨congrArg (fun b => AEnd.ret (.p (.bool b))) (by simp_all [shapeOk, noName] <;> omega), rfl⟩
    | true =>
      refine vopsL_take 4 rfl ?_
      refine vopsL_fnG rfl rfl rfl rfl (c_code n _) ?_
      cases hb200 : codeOk n with
      | false =>
        refine vopsL_take 2 rfl ?_
        refine awp_ret ?_
        refine q_block (q_ret ?_)
        exact leave_ret_same (G := [chk L l]) [] rfl hG rfl rfl ⟨congrArg (fun b => AEnd.ret (.p (.bool b))) (by simp_all [shapeOk, noName] <;> omega), rfl⟩
      | true =>
        refine vopsL_take 2 rfl ?_
        refine awp_ret ?_
        refine q_block (q_ret ?_)
        exact leave_ret_same (G := [chk L l]) [] rfl hG rfl rfl ⟨congrArg (fun b => AEnd.ret (.p (.bool b))) (by simp_all [shapeOk, noName] <;> omega), rfl⟩
theorem c_shape0 (op : Int) (h : ¬ (1 ≤ op ∧ op ≤ 13)) : FnIs Try.prog 135 [.ptr (.g 0) 0, .agg (E.args (.mk op n nm ks))] [chk L l] (.p (.bool (shapeOk L (.mk op n nm ks)))) := by
  have hlen := E.rows_len ks
  refine acalls_fn (cfg 202) Try.func135 rfl rfl rfl (by simp) fun hG => ?_
  refine awp_seq ?_
  refine awp_run rfl ?_
  refine awp_seq ?_
  refine awp_run rfl ?_
  refine awp_seq ?_
  refine awp_seq ?_
  refine awp_run rfl ?_
  refine awp_block ?_
  refine awp_seq ?_
  refine awp_ops ?_
  refine vopsL_cmp rfl rfl rfl (by decide) rfl fun b hb16 => ?_
  obtain rfl : b = false := by rw [← hb16]; simp; omega
  refine vopsL_take 1 rfl ?_
  refine awp_if false rfl (fun e => by cases e) fun _ => ?_
  refine awp_seq ?_
  refine awp_ops ?_
  refine vopsL_cmp rfl rfl rfl (by decide) rfl fun b hb25 => ?_
  obtain rfl : b = false := by rw [← hb25]; simp; omega
  refine vopsL_take 1 rfl ?_
  refine awp_if false rfl (fun e => by cases e) fun _ => ?_
  refine awp_seq ?_
  refine awp_ops ?_
  refine vopsL_cmp rfl rfl rfl (by decide) rfl fun b hb48 => ?_
  obtain rfl : b = false := by rw [← hb48]; simp; omega
  refine vopsL_take 1 rfl ?_
  refine awp_if false rfl (fun e => by cases e) fun _ => ?_
  refine awp_seq ?_
  refine awp_ops ?_
  refine vopsL_cmp rfl rfl rfl (by decide) rfl fun b hb67 => ?_
  obtain rfl : b = false := by rw [← hb67]; simp; omega
  refine vopsL_take 1 rfl ?_
  refine awp_if false rfl (fun e => by cases e) fun _ => ?_
  refine awp_seq ?_
  refine awp_ops ?_
  refine vopsL_cmp rfl rfl rfl (by decide) rfl fun b hb86 => ?_
  obtain rfl : b = false := by rw [← hb86]; simp; omega
  refine vopsL_take 1 rfl ?_
  refine awp_if false rfl (fun e => by cases e) fun _ => ?_
  refine awp_seq ?_
  refine awp_ops ?_
  refine vopsL_cmp rfl rfl rfl (by decide) rfl fun b hb100 => ?_
  obtain rfl : b = false := by rw [← hb100]; simp; omega
  refine vopsL_take 1 rfl ?_
  refine awp_if false rfl (fun e => by cases e) fun _ => ?_
  refine awp_seq ?_
  refine awp_ops ?_
  refine vopsL_cmp rfl rfl rfl (by decide) rfl fun b hb114 => ?_
  obtain rfl : b = false := by rw [← hb114]; simp; omega
  refine vopsL_take 1 rfl ?_
  refine awp_if false rfl (fun e => by cases e) fun _ => ?_
  refine awp_seq ?_
  refine awp_seq ?_
  refine awp_ops ?_
  refine vopsL_cmp rfl rfl rfl (by decide) rfl fun b hb132 => ?_
  obtain rfl : b = false := by rw [← hb132]; simp; omega
  refine vopsL_take 1 rfl ?_
  refine awp_if false rfl (fun e => by cases e) fun _ => ?_
  refine awp_ops ?_
  refine vopsL_cmp rfl rfl rfl (by decide) rfl fun b hb133 => ?_
  obtain rfl : b = false := by rw [← hb133]; simp; omega
  refine vopsL_take 1 rfl ?_
  refine awp_if false rfl (fun e => by cases e) fun _ => ?_
  refine awp_seq ?_
  refine awp_ops ?_
  refine vopsL_cmp rfl rfl rfl (by decide) rfl fun b hb147 => ?_
  obtain rfl : b = false := by rw [← hb147]; simp; omega
  refine vopsL_take 1 rfl ?_
  refine awp_if false rfl (fun e => by cases e) fun _ => ?_
  refine awp_seq ?_
  refine awp_ops ?_
  refine vopsL_cmp rfl rfl rfl (by decide) rfl fun b hb161 => ?_
  obtain rfl : b = false := by rw [← hb161]; simp; omega
  refine vopsL_take 1 rfl ?_
  refine awp_if false rfl (fun e => by cases e) fun _ => ?_
  refine awp_seq ?_
  refine awp_ops ?_
  refine vopsL_cmp rfl rfl rfl (by decide) rfl fun b hb175 => ?_
  obtain rfl : b = false := by rw [← hb175]; simp; omega
  refine vopsL_take 1 rfl ?_
  refine awp_if false rfl (fun e => by cases e) fun _ => ?_
  refine awp_seq ?_
  refine awp_ops ?_
  refine vopsL_cmp rfl rfl rfl (by decide) rfl fun b hb189 => ?_
  obtain rfl : b = false := by rw [← hb189]; simp; omega
  refine vopsL_take 1 rfl ?_
  refine awp_if false rfl (fun e => by cases e) fun _ => ?_
  refine awp_skip ?_
  refine awp_seq ?_
  refine awp_run rfl ?_
  refine awp_ret ?_
  exact leave_ret_same (G := [chk L l]) [] rfl hG rfl rfl ⟨congrArg (fun b => AEnd.ret (.p (.bool b))) (by simp only [shapeOk]; repeat rw [if_neg (by omega)]), rfl⟩

theorem c_shape (op : Int) : FnIs Try.prog 135 [.ptr (.g 0) 0, .agg (E.args (.mk op n nm ks))] [chk L l] (.p (.bool (shapeOk L (.mk op n nm ks)))) := by
  by_cases h : 1 ≤ op ∧ op ≤ 13
  · have : op = 1 ∨ op = 2 ∨ op = 3 ∨ op = 4 ∨ op = 5 ∨ op = 6 ∨ op = 7 ∨ op = 8 ∨ op = 9 ∨ op = 10 ∨ op = 11 ∨ op = 12 ∨ op = 13 := by omega
    rcases this with rfl | rfl | rfl | rfl | rfl | rfl | rfl | rfl | rfl | rfl | rfl | rfl | rfl
    · exact c_shape1 L l n nm ks
    · exact c_shape2 L l n nm ks
    · exact c_shape3 L l n nm ks
    · exact c_shape4 L l n nm ks
    · exact c_shape5 L l n nm ks
    · exact c_shape6 L l n nm ks
    · exact c_shape7 L l n nm ks
    · exact c_shape8 L l n nm ks
    · exact c_shape9 L l n nm ks
    · exact c_shape10 L l n nm ks
    · exact c_shape11 L l n nm ks
    · exact c_shape12 L l n nm ks
    · exact c_shape13 L l n nm ks
  · exact c_shape0 L l n nm ks op h
end
end Go.Proofs.Ytnicgdfnfnchjaa

/-
  Which expressions are right: the tree code's own 'expr'.
-/
set_option linter.unusedVariables false
set_option linter.unusedSimpArgs false
set_option maxRecDepth 100000
namespace Go.Proofs.Ytnicgdfnfnchjaa
open Go.Abs

mutual
def exprOk (L : Int) : Int → E → Bool
  | a, .mk op n nm ks => decide (a ≤ 100) && shapeOk L (.mk op n nm ks) && exprsOk L (a + 1) ks
def exprsOk (L : Int) : Int → List E → Bool
  | _, [] => true
  | a, e :: r => exprOk L a e && exprsOk L a r
end

theorem exprsOk_append (L a : Int) (l r : List E) : exprsOk L a (l ++ r) = (exprsOk L a l && exprsOk L a r) := by
  induction l with
  | nil => simp [exprsOk]
  | cons e l ih => simp [exprsOk, ih, Bool.and_assoc]
theorem exprsOk_all (L a : Int) (l : List E) : exprsOk L a l = l.all (exprOk L a) := by
  induction l with
  | nil => simp [exprsOk]
  | cons e l ih => simp [exprsOk, ih]
theorem exprsOk_take_succ {L a : Int} {l : List E} {i : Nat} {e : E} (h : l[i]? = some e) : exprsOk L a (l.take (i + 1)) = (exprsOk L a (l.take i) && exprOk L a e) := by
  rw [take_succ h, exprsOk_append]; simp [exprsOk]
theorem exprsOk_not {L a : Int} {l : List E} {e : E} (h : e ∈ l) (hf : exprOk L a e = false) : exprsOk L a l = false := by
  rw [exprsOk_all, List.all_eq_false]
  exact ⟨e, h, by rw [hf]; simp⟩

theorem shapeOk_kids {L op n : Int} {nm : ByteArray} {ks : List E} (h : shapeOk L (.mk op n nm ks) = true) : ks.length ≤ 17 := by
  refine Nat.le_of_not_lt fun hk => ?_
  have e0 : (ks.length == 0) = false := beq_false_of_ne (by omega)
  have e1 : (ks.length == 1) = false := beq_false_of_ne (by omega)
  have e2 : (ks.length == 2) = false := beq_false_of_ne (by omega)
  have e3 : (ks.length == 3) = false := beq_false_of_ne (by omega)
  have e4 : decide (ks.length ≤ 16) = false := decide_eq_false (by omega)
  have e5 : decide (ks.length ≤ 17) = false := decide_eq_false (by omega)
  simp only [shapeOk, e0, e1, e2, e3, e4, e5, Bool.false_and, Bool.and_false, ite_self] at h
  cases h

def ExprOkC (e : E) : Prop := ∀ L l a : Int, 0 ≤ a → a ≤ 101 → FnIs Try.prog 114 [.ptr (.g 0) 0, .agg e.args, .p (j64 a)] [chk L l] (.p (.bool (exprOk L a e)))

def exprLS (L l a : Int) (ks : List E) (i : Nat) : St := { ts := [(0, .ptr (.g 0) 0), (2, .p (j64 a)), (18, .p (.vec (E.rows ks))), (19, .p (j64 ((E.rows ks).length))), (20, .p (j64 i))], L := [], G := [chk L l] }

theorem c_expr (op en : Int) (nm : ByteArray) (ks : List E) (ih : ∀ e ∈ ks, ExprOkC e) : ExprOkC (.mk op en nm ks) := by
  intro L l a h1 h2
  have hlen := E.rows_len ks
  refine acalls_fn (cfg 31) Try.func114 rfl rfl rfl (by simp) fun hG => ?_
  refine awp_seq ?_
  refine awp_run rfl ?_
  refine awp_seq ?_
  refine awp_seq ?_
  refine awp_ops ?_
  refine vopsL_take 1 rfl ?_
  refine vopsL_cmp rfl rfl rfl (by decide) rfl fun b hb10 => ?_
  cases b with
  | false =>
    refine vopsL_take 3 rfl ?_
    refine vopsL_fnG rfl rfl rfl rfl (c_shape L l en nm ks op) ?_
    cases hb14 : shapeOk L (.mk op en nm ks) with
    | false =>
      refine vopsL_take 2 rfl ?_
      refine awp_if true rfl (fun _ => ?_) (fun e => by cases e)
      refine awp_seq ?_
      refine awp_run rfl ?_
      refine awp_ret ?_
      refine q_ret ?_
      exact leave_ret_same (G := [chk L l]) [] rfl hG rfl rfl ⟨congrArg (fun b => AEnd.ret (.p (.bool b))) (by simp [exprOk, hb14]), rfl⟩
    | true =>
      refine vopsL_take 2 rfl ?_
      refine awp_if false rfl (fun e => by cases e) fun _ => ?_
      refine awp_skip ?_
      refine awp_seq ?_
      refine awp_seq ?_
      refine awp_run rfl ?_
      refine awp_weak (s' := exprLS L l a ks 0) ((weakK _ 4).trans (weakL _ ⟨rfl, rfl, rfl, rfl, rfl, trivial⟩ rfl rfl)) ?_
      have ha : a ≤ 100 := by simpa using hb10
      have hk := shapeOk_kids hb14
      refine awp_forA (fun m s => ∃ (i : Nat), s = exprLS L l a ks i ∧ i ≤ ks.length ∧ m = ks.length - i ∧ exprsOk L (a + 1) (ks.take i) = true)
        (fun s => s = { ts := [], L := [], G := [chk L l] } ∧ exprsOk L (a + 1) ks = true) ks.length ⟨0, rfl, by omega, by omega, by simp [exprsOk]⟩ ?_ ?_
      · rintro m s ⟨i, rfl, hi, rfl, hok⟩
        refine awp_seq ?_
        refine awp_ops ?_
        refine vopsL_cmp rfl rfl rfl (by decide) rfl fun b hb21 => ?_
        cases b with
        | false =>
          refine awp_seq ?_
          refine awp_if false rfl (fun e => by cases e) fun _ => ?_
          refine awp_exit ?_
          have := ge_eq hlen hi hb21
          subst this
          exact ⟨{ ts := [], L := [], G := [chk L l] }, weakL [] trivial rfl rfl, rfl, by simpa using hok⟩
        | true =>
          refine awp_seq ?_
          refine awp_if true rfl (fun _ => ?_) (fun e => by cases e)
          refine awp_skip ?_
          refine awp_seq ?_
          refine awp_block ?_
          refine awp_seq ?_
          refine awp_ops ?_
          obtain ⟨e, he, hlt⟩ := lt_get hlen hb21
          have hx22 := E.rows_get he
          have htk := exprsOk_take_succ (L := L) (a := a + 1) he
          have hcall := ih e (List.mem_of_getElem? he) L l (a + 1) (by omega) (by omega)
          have hmem := List.mem_of_getElem? he
          refine vopsL_idx hx22 rfl rfl rfl (by decide) rfl rfl rfl (by cases e; rfl) (by decide) ?_
          obtain ⟨eop, een, enm, eks⟩ := e
          refine vopsL_take 3 rfl ?_
          refine awp_seq ?_
          refine awp_ops ?_
          refine vopsL_take 4 rfl ?_
          rw [wrap64 (x := a + 1) (by omega)]
          refine vopsL_fn rfl rfl rfl hcall ?_
          cases hb28 : exprOk L (a + 1) (.mk eop een enm eks) with
          | false =>
            refine vopsL_take 1 rfl ?_
            refine awp_if true rfl (fun _ => ?_) (fun e => by cases e)
            refine awp_seq ?_
            refine awp_run rfl ?_
            refine awp_ret ?_
            refine q_block (q_ret (q_for (q_ret ?_)))
            exact leave_ret_same (G := [chk L l]) [] rfl hG rfl rfl ⟨congrArg (fun b => AEnd.ret (.p (.bool b))) (by simp [exprOk, exprsOk_not hmem hb28]), rfl⟩
          | true =>
            refine vopsL_take 1 rfl ?_
            refine awp_if false rfl (fun e => by cases e) fun _ => ?_
            refine awp_skip ?_
            refine awp_run rfl ?_
            rw [wrap64 (x := (i : Int) + 1) (by omega)]
            refine ⟨exprLS L l a ks (i + 1), (weakK _ 8).trans (weakL _ ⟨rfl, rfl, rfl, rfl, rfl, trivial⟩ rfl rfl), ks.length - (i + 1), by omega, i + 1, rfl, by omega, rfl, ?_⟩
            rw [htk, hok, hb28]; rfl
      · rintro s ⟨rfl, hok⟩
        refine awp_seq ?_
        refine awp_run rfl ?_
        refine awp_ret ?_
        exact leave_ret_same (G := [chk L l]) [] rfl hG rfl rfl ⟨congrArg (fun b => AEnd.ret (.p (.bool b))) (by simp [exprOk, hb14, hok, ha]), rfl⟩
  | true =>
    refine vopsL_take 6 rfl ?_
    refine awp_if true rfl (fun _ => ?_) (fun e => by cases e)
    refine awp_seq ?_
    refine awp_run rfl ?_
    refine awp_ret ?_
    refine q_ret ?_
    exact leave_ret_same (G := [chk L l]) [] rfl hG rfl rfl ⟨congrArg (fun b => AEnd.ret (.p (.bool b))) (by simp only [exprOk]; rw [show decide (a ≤ 100) = false by simpa using hb10]; simp), rfl⟩

mutual
theorem exprOkC : ∀ e : E, ExprOkC e
  | .mk op n nm ks => c_expr op n nm ks (exprOkCs ks)
theorem exprOkCs : ∀ (ks : List E) (e : E), e ∈ ks → ExprOkC e
  | [], e, h => by cases h
  | k :: ks, e, h => by
    rcases List.mem_cons.1 h with h | h
    · rw [h]; exact exprOkC k
    · exact exprOkCs ks e h
end
end Go.Proofs.Ytnicgdfnfnchjaa

/-
  Which statements are right: the tree code's own 'form' and 'stats'.
-/
set_option linter.unusedVariables false
set_option linter.unusedSimpArgs false
set_option maxRecDepth 100000
namespace Go.Proofs.Ytnicgdfnfnchjaa
open Go.Abs

def formOk (L lp : Int) : S → Bool
  | .mk op n ex bo ot =>
    if op = 1 then hasOk ex bo ot 1 false false && decide (0 ≤ n) && decide (n < L)
    else if op = 2 then hasOk ex bo ot 2 false false && placeOk n
    else if op = 3 then hasOk ex bo ot 1 false false && n == 0
    else if op = 4 then hasOk ex bo ot 1 false false && n == 0
    else if op = 5 then hasOk ex bo ot 1 true true && n == 0
    else if op = 6 then hasOk ex bo ot 0 true false && n == 0
    else if op = 7 then hasOk ex bo ot 0 false false && decide (0 ≤ n) && decide (n < lp)
    else if op = 8 then hasOk ex bo ot 0 false false && decide (0 ≤ n) && decide (n < lp)
    else if op = 9 then (hasOk ex bo ot 0 false false || hasOk ex bo ot 1 false false) && n == 0
    else if op = 10 then hasOk ex bo ot 0 false false && codeOk n
    else false

mutual
def statOk (L : Int) : Int → Int → S → Bool
  | lp, a, .mk op n ex bo ot => decide (a ≤ 100) && formOk L lp (.mk op n ex bo ot) && exprsOk L (a + 1) ex && statsOk L (if op = 6 then lp + 1 else lp) (a + 1) bo && statsOk L (if op = 6 then lp + 1 else lp) (a + 1) ot
def statsOk (L : Int) : Int → Int → List S → Bool
  | _, _, [] => true
  | lp, a, s :: r => statOk L lp a s && statsOk L lp a r
end

section
variable (L lp n : Int) (ex : List E) (bo ot : List S)
theorem c_form1 : FnIs Try.prog 113 [.ptr (.g 0) 0, .agg (S.args (.mk 1 n ex bo ot))] [chk L lp] (.p (.bool (formOk L lp (.mk 1 n ex bo ot)))) := by
  refine acalls_fn (cfg 103) Try.func113 rfl rfl rfl (by simp) fun hG => ?_
  refine awp_seq ?_
  refine awp_run rfl ?_
  refine awp_seq ?_
  refine awp_seq ?_
  refine awp_run rfl ?_
  refine awp_block ?_
  refine awp_seq ?_
  refine awp_run rfl ?_
  refine awp_if true rfl (fun _ => ?_) (fun e => by cases e)
  refine awp_seq ?_
  refine awp_fns 17 mixed (by kernel_rfl) rfl ?_
  refine vfn_take 1 rfl rfl rfl ?_
  refine vfn_fn rfl rfl rfl rfl rfl (c_has _ n ex bo ot 1 false false _) ?_
  cases hb10 : hasOk ex bo ot 1 false false with
  | false =>
    refine vfn_take 15 rfl rfl rfl ?_
    refine vfn_done ?_
    refine awp_ret ?_
    refine q_block (q_ret ?_)
    exact leave_ret_same (G := [chk L lp]) [] rfl hG rfl rfl ⟨congrArg (fun b => AEnd.ret (.p (.bool b))) (by simp_all [formOk] <;> omega), rfl⟩
  | true =>
    refine vfn_take 3 rfl rfl rfl ?_
    refine vfn_cmpG rfl rfl rfl rfl fun b hb14 => ?_
    cases b with
    | false =>
      refine vfn_take 11 rfl rfl rfl ?_
      refine vfn_done ?_
      refine awp_ret ?_
      refine q_block (q_ret ?_)
      exact leave_ret_same (G := [chk L lp]) [] rfl hG rfl rfl ⟨congrArg (fun b => AEnd.ret (.p (.bool b))) (by simp_all [formOk] <;> omega), rfl⟩
    | true =>
      refine vfn_take 8 rfl rfl rfl ?_
      refine vfn_cmpG rfl rfl rfl rfl fun b hb23 => ?_
      cases b with
      | false =>
        refine vfn_take 2 rfl rfl rfl ?_
        refine vfn_done ?_
        refine awp_ret ?_
        refine q_block (q_ret ?_)
        exact leave_ret_same (G := [chk L lp]) [] rfl hG rfl rfl ⟨congrArg (fun b => AEnd.ret (.p (.bool b))) (by simp_all [formOk] <;> omega), rfl⟩
      | true =>
        refine vfn_take 2 rfl rfl rfl ?_
        refine vfn_done ?_
        refine awp_ret ?_
        refine q_block (q_ret ?_)
        exact leave_ret_same (G := [chk L lp]) [] rfl hG rfl rfl ⟨congrArg (fun b => AEnd.ret (.p (.bool b))) (by simp_all [formOk] <;> omega), rfl⟩
theorem c_form2 : FnIs Try.prog 113 [.ptr (.g 0) 0, .agg (S.args (.mk 2 n ex bo ot))] [chk L lp] (.p (.bool (formOk L lp (.mk 2 n ex bo ot)))) := by
  refine acalls_fn (cfg 103) Try.func113 rfl rfl rfl (by simp) fun hG => ?_
  refine awp_seq ?_
  refine awp_run rfl ?_
  refine awp_seq ?_
  refine awp_seq ?_
  refine awp_run rfl ?_
  refine awp_block ?_
  refine awp_seq ?_
  refine awp_run rfl ?_
  refine awp_if false rfl (fun e => by cases e) fun _ => ?_
  refine awp_seq ?_
  refine awp_run rfl ?_
  refine awp_if true rfl (fun _ => ?_) (fun e => by cases e)
  refine awp_seq ?_
  refine awp_ops ?_
  refine vopsL_take 1 rfl ?_
  refine vopsL_fn rfl rfl rfl (c_has _ n ex bo ot 2 false false _) ?_
  cases hb28 : hasOk ex bo ot 2 false false with
  | false =>
    refine vopsL_take 6 rfl ?_
    refine awp_ret ?_
    refine q_block (q_ret ?_)
    exact leave_ret_same (G := [chk L lp]) [] rfl hG rfl rfl ⟨congrArg (fun b => AEnd.ret (.p (.bool b))) (by simp_all [formOk] <;> omega), rfl⟩
  | true =>
    refine vopsL_take 3 rfl ?_
    refine vopsL_fnG rfl rfl rfl rfl (c_place n _) ?_
    cases hb32 : placeOk n with
    | false =>
      refine vopsL_take 2 rfl ?_
      refine awp_ret ?_
      refine q_block (q_ret ?_)
      exact leave_ret_same (G := [chk L lp]) [] rfl hG rfl rfl ⟨congrArg (fun b => AEnd.ret (.p (.bool b))) (by simp_all [formOk] <;> omega), rfl⟩
    | true =>
      refine vopsL_take 2 rfl ?_
      refine awp_ret ?_
      refine q_block (q_ret ?_)
      exact leave_ret_same (G := [chk L lp]) [] rfl hG rfl rfl ⟨congrArg (fun b => AEnd.ret (.p (.bool b))) (by simp_all [formOk] <;> omega), rfl⟩
theorem c_form3 : FnIs Try.prog 113 [.ptr (.g 0) 0, .agg (S.args (.mk 3 n ex bo ot))] [chk L lp] (.p (.bool (formOk L lp (.mk 3 n ex bo ot)))) := by
  refine acalls_fn (cfg 103) Try.func113 rfl rfl rfl (by simp) fun hG => ?_
  refine awp_seq ?_
  refine awp_run rfl ?_
  refine awp_seq ?_
  refine awp_seq ?_
  refine awp_run rfl ?_
  refine awp_block ?_
  refine awp_seq ?_
  refine awp_run rfl ?_
  refine awp_if false rfl (fun e => by cases e) fun _ => ?_
  refine awp_seq ?_
  refine awp_run rfl ?_
  refine awp_if false rfl (fun e => by cases e) fun _ => ?_
  refine awp_seq ?_
  refine awp_seq ?_
  refine awp_run rfl ?_
  refine awp_if true rfl (fun _ => ?_) (fun e => by cases e)
  refine awp_skip ?_
  refine awp_if true rfl (fun _ => ?_) (fun e => by cases e)
  refine awp_seq ?_
  refine awp_ops ?_
  refine vopsL_take 1 rfl ?_
  refine vopsL_fn rfl rfl rfl (c_has _ n ex bo ot 1 false false _) ?_
  cases hb38 : hasOk ex bo ot 1 false false with
  | false =>
    refine vopsL_take 6 rfl ?_
    refine awp_ret ?_
    refine q_block (q_ret ?_)
    exact leave_ret_same (G := [chk L lp]) [] rfl hG rfl rfl ⟨congrArg (fun b => AEnd.ret (.p (.bool b))) (by simp_all [formOk] <;> omega), rfl⟩
  | true =>
    refine vopsL_take 3 rfl ?_
    refine vopsL_cmpG rfl rfl rfl rfl (by decide) rfl fun b hb42 => ?_
    cases b with
    | false =>
      refine vopsL_take 2 rfl ?_
      refine awp_ret ?_
      refine q_block (q_ret ?_)
      exact leave_ret_same (G := [chk L lp]) [] rfl hG rfl rfl ⟨congrArg (fun b => AEnd.ret (.p (.bool b))) (by simp_all [formOk] <;> omega), rfl⟩
    | true =>
      refine vopsL_take 2 rfl ?_
      refine awp_ret ?_
      refine q_block (q_ret ?_)
      exact leave_ret_same (G := [chk L lp]) [] rfl hG rfl rfl ⟨congrArg (fun b => AEnd.ret (.p (.bool b))) (by simp_all [formOk] <;> omega), rfl⟩
theorem c_form4 : FnIs Try.prog 113 [.ptr (.g 0) 0, .agg (S.args (.mk 4 n ex bo ot))] [chk L lp] (.p (.bool (formOk L lp (.mk 4 n ex bo ot)))) := by
  refine acalls_fn (cfg 103) Try.func113 rfl rfl rfl (by simp) fun hG => ?_
  refine awp_seq ?_
  refine awp_run rfl ?_
  refine awp_seq ?_
  refine awp_seq ?_
  refine awp_run rfl ?_
  refine awp_block ?_
  refine awp_seq ?_
  refine awp_run rfl ?_
  refine awp_if false rfl (fun e => by cases e) fun _ => ?_
  refine awp_seq ?_
  refine awp_run rfl ?_
  refine awp_if false rfl (fun e => by cases e) fun _ => ?_
  refine awp_seq ?_
  refine awp_seq ?_
  refine awp_run rfl ?_
  refine awp_if false rfl (fun e => by cases e) fun _ => ?_
  refine awp_run rfl ?_
  refine awp_if true rfl (fun _ => ?_) (fun e => by cases e)
  refine awp_seq ?_
  refine awp_ops ?_
  refine vopsL_take 1 rfl ?_
  refine vopsL_fn rfl rfl rfl (c_has _ n ex bo ot 1 false false _) ?_
  cases hb38 : hasOk ex bo ot 1 false false with
  | false =>
    refine vopsL_take 6 rfl ?_
    refine awp_ret ?_
    refine q_block (q_ret ?_)
    exact leave_ret_same (G := [chk L lp]) [] rfl hG rfl rfl ⟨congrArg (fun b => AEnd.ret (.p (.bool b))) (by simp_all [formOk] <;> omega), rfl⟩
  | true =>
    refine vopsL_take 3 rfl ?_
    refine vopsL_cmpG rfl rfl rfl rfl (by decide) rfl fun b hb42 => ?_
    cases b with
    | false =>
      refine vopsL_take 2 rfl ?_
      refine awp_ret ?_
      refine q_block (q_ret ?_)
      exact leave_ret_same (G := [chk L lp]) [] rfl hG rfl rfl ⟨congrArg (fun b => AEnd.ret (.p (.bool b))) (by simp_all [formOk] <;> omega), rfl⟩
    | true =>
      refine vopsL_take 2 rfl ?_
      refine awp_ret ?_
      refine q_block (q_ret ?_)
      exact leave_ret_same (G := [chk L lp]) [] rfl hG rfl rfl ⟨congrArg (fun b => AEnd.ret (.p (.bool b))) (by simp_all [formOk] <;> omega), rfl⟩
theorem c_form5 : FnIs Try.prog 113 [.ptr (.g 0) 0, .agg (S.args (.mk 5 n ex bo ot))] [chk L lp] (.p (.bool (formOk L lp (.mk 5 n ex bo ot)))) := by
  refine acalls_fn (cfg 103) Try.func113 rfl rfl rfl (by simp) fun hG => ?_
  refine awp_seq ?_
  refine awp_run rfl ?_
  refine awp_seq ?_
  refine awp_seq ?_
  refine awp_run rfl ?_
  refine awp_block ?_
  refine awp_seq ?_
  refine awp_run rfl ?_
  refine awp_if false rfl (fun e => by cases e) fun _ => ?_
  refine awp_seq ?_
  refine awp_run rfl ?_
  refine awp_if false rfl (fun e => by cases e) fun _ => ?_
  refine awp_seq ?_
  refine awp_seq ?_
  refine awp_run rfl ?_
  refine awp_if false rfl (fun e => by cases e) fun _ => ?_
  refine awp_run rfl ?_
  refine awp_if false rfl (fun e => by cases e) fun _ => ?_
  refine awp_seq ?_
  refine awp_run rfl ?_
  refine awp_if true rfl (fun _ => ?_) (fun e => by cases e)
  refine awp_seq ?_
  refine awp_ops ?_
  refine vopsL_take 1 rfl ?_
  refine vopsL_fn rfl rfl rfl (c_has _ n ex bo ot 1 true true _) ?_
  cases hb47 : hasOk ex bo ot 1 true true with
  | false =>
    refine vopsL_take 6 rfl ?_
    refine awp_ret ?_
    refine q_block (q_ret ?_)
    exact leave_ret_same (G := [chk L lp]) [] rfl hG rfl rfl ⟨congrArg (fun b => AEnd.ret (.p (.bool b))) (by simp_all [formOk] <;> omega), rfl⟩
  | true =>
    refine vopsL_take 3 rfl ?_
    refine vopsL_cmpG rfl rfl rfl rfl (by decide) rfl fun b hb51 => ?_
    cases b with
    | false =>
      refine vopsL_take 2 rfl ?_
      refine awp_ret ?_
      refine q_block (q_ret ?_)
      exact leave_ret_same (G := [chk L lp]) [] rfl hG rfl rfl ⟨congrArg (fun b => AEnd.ret (.p (.bool b))) (by simp_all [formOk] <;> omega), rfl⟩
    | true =>
      refine vopsL_take 2 rfl ?_
      refine awp_ret ?_
      refine q_block (q_ret ?_)
      exact leave_ret_same (G := [chk L lp]) [] rfl hG rfl rfl ⟨congrArg (fun b => AEnd.ret (.p (.bool b))) (by simp_all [formOk] <;> omega), rfl⟩
theorem c_form6 : FnIs Try.prog 113 [.ptr (.g 0) 0, .agg (S.args (.mk 6 n ex bo ot))] [chk L lp] (.p (.bool (formOk L lp (.mk 6 n ex bo ot)))) := by
  refine acalls_fn (cfg 103) Try.func113 rfl rfl rfl (by simp) fun hG => ?_
  refine awp_seq ?_
  refine awp_run rfl ?_
  refine awp_seq ?_
  refine awp_seq ?_
  refine awp_run rfl ?_
  refine awp_block ?_
  refine awp_seq ?_
  refine awp_run rfl ?_
  refine awp_if false rfl (fun e => by cases e) fun _ => ?_
  refine awp_seq ?_
  refine awp_run rfl ?_
  refine awp_if false rfl (fun e => by cases e) fun _ => ?_
  refine awp_seq ?_
  refine awp_seq ?_
  refine awp_run rfl ?_
  refine awp_if false rfl (fun e => by cases e) fun _ => ?_
  refine awp_run rfl ?_
  refine awp_if false rfl (fun e => by cases e) fun _ => ?_
  refine awp_seq ?_
  refine awp_run rfl ?_
  refine awp_if false rfl (fun e => by cases e) fun _ => ?_
  refine awp_seq ?_
  refine awp_run rfl ?_
  refine awp_if true rfl (fun _ => ?_) (fun e => by cases e)
  refine awp_seq ?_
  refine awp_ops ?_
  refine vopsL_take 1 rfl ?_
  refine vopsL_fn rfl rfl rfl (c_has _ n ex bo ot 0 true false _) ?_
  cases hb56 : hasOk ex bo ot 0 true false with
  | false =>
    refine vopsL_take 6 rfl ?_
    refine awp_ret ?_
    refine q_block (q_ret ?_)
    exact leave_ret_same (G := [chk L lp]) [] rfl hG rfl rfl ⟨congrArg (fun b => AEnd.ret (.p (.bool b))) (by simp_all [formOk] <;> omega), rfl⟩
  | true =>
    refine vopsL_take 3 rfl ?_
    refine vopsL_cmpG rfl rfl rfl rfl (by decide) rfl fun b hb60 => ?_
    cases b with
    | false =>
      refine vopsL_take 2 rfl ?_
      refine awp_ret ?_
      refine q_block (q_ret ?_)
      exact leave_ret_same (G := [chk L lp]) [] rfl hG rfl rfl ⟨congrArg (fun b => AEnd.ret (.p (.bool b))) (by simp_all [formOk] <;> omega), rfl⟩
    | true =>
      refine vopsL_take 2 rfl ?_
      refine awp_ret ?_
      refine q_block (q_ret ?_)
      exact leave_ret_same (G := [chk L lp]) [] rfl hG rfl rfl ⟨congrArg (fun b => AEnd.ret (.p (.bool b))) (by simp_all [formOk] <;> omega), rfl⟩
theorem c_form7 : FnIs Try.prog 113 [.ptr (.g 0) 0, .agg (S.args (.mk 7 n ex bo ot))] [chk L lp] (.p (.bool (formOk L lp (.mk 7 n ex bo ot)))) := by
  refine acalls_fn (cfg 103) Try.func113 rfl rfl rfl (by simp) fun hG => ?_
  refine awp_seq ?_
  refine awp_run rfl ?_
  refine awp_seq ?_
  refine awp_seq ?_
  refine awp_run rfl ?_
  refine awp_block ?_
  refine awp_seq ?_
  refine awp_run rfl ?_
  refine awp_if false rfl (fun e => by cases e) fun _ => ?_
  refine awp_seq ?_
  refine awp_run rfl ?_
  refine awp_if false rfl (fun e => by cases e) fun _ => ?_
  refine awp_seq ?_
  refine awp_seq ?_
  refine awp_run rfl ?_
  refine awp_if false rfl (fun e => by cases e) fun _ => ?_
  refine awp_run rfl ?_
  refine awp_if false rfl (fun e => by cases e) fun _ => ?_
  refine awp_seq ?_
  refine awp_run rfl ?_
  refine awp_if false rfl (fun e => by cases e) fun _ => ?_
  refine awp_seq ?_
  refine awp_run rfl ?_
  refine awp_if false rfl (fun e => by cases e) fun _ => ?_
  refine awp_seq ?_
  refine awp_seq ?_
  refine awp_run rfl ?_
  refine awp_if true rfl (fun _ => ?_) (fun e => by cases e)
  refine awp_skip ?_
  refine awp_if true rfl (fun _ => ?_) (fun e => by cases e)
  refine awp_seq ?_
  refine awp_fns 17 mixed (by kernel_rfl) rfl ?_
  refine vfn_take 1 rfl rfl rfl ?_
  refine vfn_fn rfl rfl rfl rfl rfl (c_has _ n ex bo ot 0 false false _) ?_
  cases hb66 : hasOk ex bo ot 0 false false with
  | false =>
    refine vfn_take 15 rfl rfl rfl ?_
    refine vfn_done ?_
    refine awp_ret ?_
    refine q_block (q_ret ?_)
    exact leave_ret_same (G := [chk L lp]) [] rfl hG rfl rfl ⟨congrArg (fun b => AEnd.ret (.p (.bool b))) (by simp_all [formOk] <;> omega), rfl⟩
  | true =>
    refine vfn_take 3 rfl rfl rfl ?_
    refine vfn_cmpG rfl rfl rfl rfl fun b hb70 => ?_
    cases b with
    | false =>
      refine vfn_take 11 rfl rfl rfl ?_
      refine vfn_done ?_
      refine awp_ret ?_
      refine q_block (q_ret ?_)
      exact leave_ret_same (G := [chk L lp]) [] rfl hG rfl rfl ⟨congrArg (fun b => AEnd.ret (.p (.bool b))) (by simp_all [formOk] <;> omega), rfl⟩
    | true =>
      refine vfn_take 8 rfl rfl rfl ?_
      refine vfn_cmpG rfl rfl rfl rfl fun b hb79 => ?_
      cases b with
      | false =>
        refine vfn_take 2 rfl rfl rfl ?_
        refine vfn_done ?_
        refine awp_ret ?_
        refine q_block (q_ret ?_)
        exact leave_ret_same (G := [chk L lp]) [] rfl hG rfl rfl ⟨congrArg (fun b => AEnd.ret (.p (.bool b))) (by simp_all [formOk] <;> omega), rfl⟩
      | true =>
        refine vfn_take 2 rfl rfl rfl ?_
        refine vfn_done ?_
        refine awp_ret ?_
        refine q_block (q_ret ?_)
        exact leave_ret_same (G := [chk L lp]) [] rfl hG rfl rfl ⟨congrArg (fun b => AEnd.ret (.p (.bool b))) (by simp_all [formOk] <;> omega), rfl⟩
theorem c_form8 : FnIs Try.prog 113 [.ptr (.g 0) 0, .agg (S.args (.mk 8 n ex bo ot))] [chk L lp] (.p (.bool (formOk L lp (.mk 8 n ex bo ot)))) := by
  refine acalls_fn (cfg 103) Try.func113 rfl rfl rfl (by simp) fun hG => ?_
  refine awp_seq ?_
  refine awp_run rfl ?_
  refine awp_seq ?_
  refine awp_seq ?_
  refine awp_run rfl ?_
  refine awp_block ?_
  refine awp_seq ?_
  refine awp_run rfl ?_
  refine awp_if false rfl (fun e => by cases e) fun _ => ?_
  refine awp_seq ?_
  refine awp_run rfl ?_
  refine awp_if false rfl (fun e => by cases e) fun _ => ?_
  refine awp_seq ?_
  refine awp_seq ?_
  refine awp_run rfl ?_
  refine awp_if false rfl (fun e => by cases e) fun _ => ?_
  refine awp_run rfl ?_
  refine awp_if false rfl (fun e => by cases e) fun _ => ?_
  refine awp_seq ?_
  refine awp_run rfl ?_
  refine awp_if false rfl (fun e => by cases e) fun _ => ?_
  refine awp_seq ?_
  refine awp_run rfl ?_
  refine awp_if false rfl (fun e => by cases e) fun _ => ?_
  refine awp_seq ?_
  refine awp_seq ?_
  refine awp_run rfl ?_
  refine awp_if false rfl (fun e => by cases e) fun _ => ?_
  refine awp_run rfl ?_
  refine awp_if true rfl (fun _ => ?_) (fun e => by cases e)
  refine awp_seq ?_
  refine awp_fns 17 mixed (by kernel_rfl) rfl ?_
  refine vfn_take 1 rfl rfl rfl ?_
  refine vfn_fn rfl rfl rfl rfl rfl (c_has _ n ex bo ot 0 false false _) ?_
  cases hb66 : hasOk ex bo ot 0 false false with
  | false =>
    refine vfn_take 15 rfl rfl rfl ?_
    refine vfn_done ?_
    refine awp_ret ?_
    refine q_block (q_ret ?_)
    exact leave_ret_same (G := [chk L lp]) [] rfl hG rfl rfl ⟨congrArg (fun b => AEnd.ret (.p (.bool b))) (by simp_all [formOk] <;> omega), rfl⟩
  | true =>
    refine vfn_take 3 rfl rfl rfl ?_
    refine vfn_cmpG rfl rfl rfl rfl fun b hb70 => ?_
    cases b with
    | false =>
      refine vfn_take 11 rfl rfl rfl ?_
      refine vfn_done ?_
      refine awp_ret ?_
      refine q_block (q_ret ?_)
      exact leave_ret_same (G := [chk L lp]) [] rfl hG rfl rfl ⟨congrArg (fun b => AEnd.ret (.p (.bool b))) (by simp_all [formOk] <;> omega), rfl⟩
    | true =>
      refine vfn_take 8 rfl rfl rfl ?_
      refine vfn_cmpG rfl rfl rfl rfl fun b hb79 => ?_
      cases b with
      | false =>
        refine vfn_take 2 rfl rfl rfl ?_
        refine vfn_done ?_
        refine awp_ret ?_
        refine q_block (q_ret ?_)
        exact leave_ret_same (G := [chk L lp]) [] rfl hG rfl rfl ⟨congrArg (fun b => AEnd.ret (.p (.bool b))) (by simp_all [formOk] <;> omega), rfl⟩
      | true =>
        refine vfn_take 2 rfl rfl rfl ?_
        refine vfn_done ?_
        refine awp_ret ?_
        refine q_block (q_ret ?_)
        exact leave_ret_same (G := [chk L lp]) [] rfl hG rfl rfl ⟨congrArg (fun b => AEnd.ret (.p (.bool b))) (by simp_all [formOk] <;> omega), rfl⟩
theorem c_form9 : FnIs Try.prog 113 [.ptr (.g 0) 0, .agg (S.args (.mk 9 n ex bo ot))] [chk L lp] (.p (.bool (formOk L lp (.mk 9 n ex bo ot)))) := by
  refine acalls_fn (cfg 103) Try.func113 rfl rfl rfl (by simp) fun hG => ?_
  refine awp_seq ?_
  refine awp_run rfl ?_
  refine awp_seq ?_
  refine awp_seq ?_
  refine awp_run rfl ?_
  refine awp_block ?_
  refine awp_seq ?_
  refine awp_run rfl ?_
  refine awp_if false rfl (fun e => by cases e) fun _ => ?_
  refine awp_seq ?_
  refine awp_run rfl ?_
  refine awp_if false rfl (fun e => by cases e) fun _ => ?_
  refine awp_seq ?_
  refine awp_seq ?_
  refine awp_run rfl ?_
  refine awp_if false rfl (fun e => by cases e) fun _ => ?_
  refine awp_run rfl ?_
  refine awp_if false rfl (fun e => by cases e) fun _ => ?_
  refine awp_seq ?_
  refine awp_run rfl ?_
  refine awp_if false rfl (fun e => by cases e) fun _ => ?_
  refine awp_seq ?_
  refine awp_run rfl ?_
  refine awp_if false rfl (fun e => by cases e) fun _ => ?_
  refine awp_seq ?_
  refine awp_seq ?_
  refine awp_run rfl ?_
  refine awp_if false rfl (fun e => by cases e) fun _ => ?_
  refine awp_run rfl ?_
  refine awp_if false rfl (fun e => by cases e) fun _ => ?_
  refine awp_seq ?_
  refine awp_run rfl ?_
  refine awp_if true rfl (fun _ => ?_) (fun e => by cases e)
  refine awp_seq ?_
  refine awp_ops ?_
  refine vopsL_take 1 rfl ?_
  refine vopsL_fn rfl rfl rfl (c_has _ n ex bo ot 0 false false _) ?_
  cases hb84 : hasOk ex bo ot 0 false false with
  | false =>
    refine vopsL_take 2 rfl ?_
    refine vopsL_fnG rfl rfl rfl rfl (c_has _ n ex bo ot 1 false false _) ?_
    cases hb87 : hasOk ex bo ot 1 false false with
    | false =>
      refine vopsL_take 7 rfl ?_
      refine awp_ret ?_
      refine q_block (q_ret ?_)
      exact leave_ret_same (G := [chk L lp]) [] rfl hG rfl rfl ⟨congrArg (fun b => AEnd.ret (.p (.bool b))) (by simp_all [formOk] <;> omega), rfl⟩
    | true =>
      refine vopsL_take 4 rfl ?_
      refine vopsL_cmpG rfl rfl rfl rfl (by decide) rfl fun b hb92 => ?_
      cases b with
      | false =>
        refine vopsL_take 2 rfl ?_
        refine awp_ret ?_
        refine q_block (q_ret ?_)
        exact leave_ret_same (G := [chk L lp]) [] rfl hG rfl rfl ⟨congrArg (fun b => AEnd.ret (.p (.bool b))) (by simp_all [formOk] <;> omega), rfl⟩
      | true =>
        refine vopsL_take 2 rfl ?_
        refine awp_ret ?_
        refine q_block (q_ret ?_)
        exact leave_ret_same (G := [chk L lp]) [] rfl hG rfl rfl ⟨congrArg (fun b => AEnd.ret (.p (.bool b))) (by simp_all [formOk] <;> omega), rfl⟩
  | true =>
    refine vopsL_take 7 rfl ?_
    refine vopsL_cmpG rfl rfl rfl rfl (by decide) rfl fun b hb92 => ?_
    cases b with
    | false =>
      refine vopsL_take 2 rfl ?_
      refine awp_ret ?_
      refine q_block (q_ret ?_)
      exact leave_ret_same (G := [chk L lp]) [] rfl hG rfl rfl ⟨congrArg (fun b => AEnd.ret (.p (.bool b))) (by simp_all [formOk] <;> omega), rfl⟩
    | true =>
      refine vopsL_take 2 rfl ?_
      refine awp_ret ?_
      refine q_block (q_ret ?_)
      exact leave_ret_same (G := [chk L lp]) [] rfl hG rfl rfl ⟨congrArg (fun b => AEnd.ret (.p (.bool b))) (by simp_all [formOk] <;> omega), rfl⟩
theorem c_form10 : FnIs Try.prog 113 [.ptr (.g 0) 0, .agg (S.args (.mk 10 n ex bo ot))] [chk L lp] (.p (.bool (formOk L lp (.mk 10 n ex bo ot)))) := by
  refine acalls_fn (cfg 103) Try.func113 rfl rfl rfl (by simp) fun hG => ?_
  refine awp_seq ?_
  refine awp_run rfl ?_
  refine awp_seq ?_
  refine awp_seq ?_
  refine awp_run rfl ?_
  refine awp_block ?_
  refine awp_seq ?_
  refine awp_run rfl ?_
  refine awp_if false rfl (fun e => by cases e) fun _ => ?_
  refine awp_seq ?_
  refine awp_run rfl ?_
  refine awp_if false rfl (fun e => by cases e) fun _ => ?_
  refine awp_seq ?_
  refine awp_seq ?_
  refine awp_run rfl ?_
  refine awp_if false rfl (fun e => by cases e) fun _ => ?_
  refine awp_run rfl ?_
  refine awp_if false rfl (fun e => by cases e) fun _ => ?_
  refine awp_seq ?_
  refine awp_run rfl ?_
  refine awp_if false rfl (fun e => by cases e) fun _ => ?_
  refine awp_seq ?_
  refine awp_run rfl ?_
  refine awp_if false rfl (fun e => by cases e) fun _ => ?_
  refine awp_seq ?_
  refine awp_seq ?_
  refine awp_run rfl ?_
  refine awp_if false rfl (fun e => by cases e) fun _ => ?_
  refine awp_run rfl ?_
  refine awp_if false rfl (fun e => by cases e) fun _ => ?_
  refine awp_seq ?_
  refine awp_run rfl ?_
  refine awp_if false rfl (fun e => by cases e) fun _ => ?_
  refine awp_seq ?_
  refine awp_run rfl ?_
  refine awp_if true rfl (fun _ => ?_) (fun e => by cases e)
  refine awp_seq ?_
  refine awp_ops ?_
  refine vopsL_take 1 rfl ?_
  refine vopsL_fn rfl rfl rfl (c_has _ n ex bo ot 0 false false _) ?_
  cases hb97 : hasOk ex bo ot 0 false false with
  | false =>
    refine vopsL_take 6 rfl ?_
    refine awp_ret ?_
    refine q_block (q_ret ?_)
    exact leave_ret_same (G := [chk L lp]) [] rfl hG rfl rfl ⟨congrArg (fun b => AEnd.ret (.p (.bool b))) (by simp_all [formOk] <;> omega), rfl⟩
  | true =>
    refine vopsL_take 3 rfl ?_
    refine vopsL_fnG rfl rfl rfl rfl (c_code n _) ?_
    cases hb101 : codeOk n with
    | false =>
      refine vopsL_take 2 rfl ?_
      refine awp_ret ?_
      refine q_block (q_ret ?_)
      exact leave_ret_same (G := [chk L lp]) [] rfl hG rfl rfl ⟨congrArg (fun b => AEnd.ret (.p (.bool b))) (by simp_all [formOk] <;> omega), rfl⟩
    | true =>
      refine vopsL_take 2 rfl ?_
      refine awp_ret ?_
      refine q_block (q_ret ?_)
      exact leave_ret_same (G := [chk L lp]) [] rfl hG rfl rfl ⟨congrArg (fun b => AEnd.ret (.p (.bool b))) (by simp_all [formOk] <;> omega), rfl⟩
theorem c_form0 (op : Int) (h : ¬ (1 ≤ op ∧ op ≤ 10)) : FnIs Try.prog 113 [.ptr (.g 0) 0, .agg (S.args (.mk op n ex bo ot))] [chk L lp] (.p (.bool (formOk L lp (.mk op n ex bo ot)))) := by
  refine acalls_fn (cfg 103) Try.func113 rfl rfl rfl (by simp) fun hG => ?_
  refine awp_seq ?_
  refine awp_run rfl ?_
  refine awp_seq ?_
  refine awp_seq ?_
  refine awp_run rfl ?_
  refine awp_block ?_
  refine awp_seq ?_
  refine awp_ops ?_
  refine vopsL_cmp rfl rfl rfl (by decide) rfl fun b hb8 => ?_
  obtain rfl : b = false := by rw [← hb8]; simp; omega
  refine vopsL_take 1 rfl ?_
  refine awp_if false rfl (fun e => by cases e) fun _ => ?_
  refine awp_seq ?_
  refine awp_ops ?_
  refine vopsL_cmp rfl rfl rfl (by decide) rfl fun b hb26 => ?_
  obtain rfl : b = false := by rw [← hb26]; simp; omega
  refine vopsL_take 1 rfl ?_
  refine awp_if false rfl (fun e => by cases e) fun _ => ?_
  refine awp_seq ?_
  refine awp_seq ?_
  refine awp_ops ?_
  refine vopsL_cmp rfl rfl rfl (by decide) rfl fun b hb35 => ?_
  obtain rfl : b = false := by rw [← hb35]; simp; omega
  refine vopsL_take 1 rfl ?_
  refine awp_if false rfl (fun e => by cases e) fun _ => ?_
  refine awp_ops ?_
  refine vopsL_cmp rfl rfl rfl (by decide) rfl fun b hb36 => ?_
  obtain rfl : b = false := by rw [← hb36]; simp; omega
  refine vopsL_take 1 rfl ?_
  refine awp_if false rfl (fun e => by cases e) fun _ => ?_
  refine awp_seq ?_
  refine awp_ops ?_
  refine vopsL_cmp rfl rfl rfl (by decide) rfl fun b hb45 => ?_
  obtain rfl : b = false := by rw [← hb45]; simp; omega
  refine vopsL_take 1 rfl ?_
  refine awp_if false rfl (fun e => by cases e) fun _ => ?_
  refine awp_seq ?_
  refine awp_ops ?_
  refine vopsL_cmp rfl rfl rfl (by decide) rfl fun b hb54 => ?_
  obtain rfl : b = false := by rw [← hb54]; simp; omega
  refine vopsL_take 1 rfl ?_
  refine awp_if false rfl (fun e => by cases e) fun _ => ?_
  refine awp_seq ?_
  refine awp_seq ?_
  refine awp_ops ?_
  refine vopsL_cmp rfl rfl rfl (by decide) rfl fun b hb63 => ?_
  obtain rfl : b = false := by rw [← hb63]; simp; omega
  refine vopsL_take 1 rfl ?_
  refine awp_if false rfl (fun e => by cases e) fun _ => ?_
  refine awp_ops ?_
  refine vopsL_cmp rfl rfl rfl (by decide) rfl fun b hb64 => ?_
  obtain rfl : b = false := by rw [← hb64]; simp; omega
  refine vopsL_take 1 rfl ?_
  refine awp_if false rfl (fun e => by cases e) fun _ => ?_
  refine awp_seq ?_
  refine awp_ops ?_
  refine vopsL_cmp rfl rfl rfl (by decide) rfl fun b hb82 => ?_
  obtain rfl : b = false := by rw [← hb82]; simp; omega
  refine vopsL_take 1 rfl ?_
  refine awp_if false rfl (fun e => by cases e) fun _ => ?_
  refine awp_seq ?_
  refine awp_ops ?_
  refine vopsL_cmp rfl rfl rfl (by decide) rfl fun b hb95 => ?_
  obtain rfl : b = false := by rw [← hb95]; simp; omega
  refine vopsL_take 1 rfl ?_
  refine awp_if false rfl (fun e => by cases e) fun _ => ?_
  refine awp_skip ?_
  refine awp_seq ?_
  refine awp_run rfl ?_
  refine awp_ret ?_
  exact leave_ret_same (G := [chk L lp]) [] rfl hG rfl rfl ⟨congrArg (fun b => AEnd.ret (.p (.bool b))) (by simp only [formOk]; repeat rw [if_neg (by omega)]), rfl⟩

theorem c_form (op : Int) : FnIs Try.prog 113 [.ptr (.g 0) 0, .agg (S.args (.mk op n ex bo ot))] [chk L lp] (.p (.bool (formOk L lp (.mk op n ex bo ot)))) := by
  by_cases h : 1 ≤ op ∧ op ≤ 10
  · have : op = 1 ∨ op = 2 ∨ op = 3 ∨ op = 4 ∨ op = 5 ∨ op = 6 ∨ op = 7 ∨ op = 8 ∨ op = 9 ∨ op = 10 := by omega
    rcases this with rfl | rfl | rfl | rfl | rfl | rfl | rfl | rfl | rfl | rfl
    · exact c_form1 L lp n ex bo ot
    · exact c_form2 L lp n ex bo ot
    · exact c_form3 L lp n ex bo ot
    · exact c_form4 L lp n ex bo ot
    · exact c_form5 L lp n ex bo ot
    · exact c_form6 L lp n ex bo ot
    · exact c_form7 L lp n ex bo ot
    · exact c_form8 L lp n ex bo ot
    · exact c_form9 L lp n ex bo ot
    · exact c_form10 L lp n ex bo ot
  · exact c_form0 L lp n ex bo ot op h
end
end Go.Proofs.Ytnicgdfnfnchjaa

/-
  Which statements are right: the tree code's own 'stats'.
-/
set_option linter.unusedVariables false
set_option linter.unusedSimpArgs false
set_option maxRecDepth 100000
namespace Go.Proofs.Ytnicgdfnfnchjaa
open Go.Abs

def StatsOkC (ss : List S) : Prop := ∀ L lp a : Int, 0 ≤ lp → lp ≤ a → a ≤ 101 → ACalls Try.prog 77 [.ptr (.g 0) 0, .p (.vec (S.rows ss)), .p (j64 a)] [chk L lp] fun r G' => ∃ lp', r = .ret (.p (.bool (statsOk L lp a ss))) ∧ G' = [chk L lp'] ∧ (statsOk L lp a ss = true → lp = lp')

theorem c_statsOk (ss : List S) (ih : ∀ op n ex bo ot, S.mk op n ex bo ot ∈ ss → StatsOkC bo ∧ StatsOkC ot) : StatsOkC ss := by
  intro L lp a h1 h2 h3
  refine acalls_fn (cfg 76) Try.func77 rfl rfl rfl (by simp) fun hG => ?_
  refine awp_seq ?_
  refine awp_run rfl ?_
  refine awp_seq ?_
  refine awp_seq ?_
  refine awp_run rfl ?_
  refine awp_weak (s' := { ts := [(0, .ptr (.g 0) 0), (2, .p (j64 a)), (11, .p (.vec (S.rows ss))), (12, .p (j64 ((S.rows ss).length))), (13, .p (j64 0))], L := [], G := [chk L lp] }) (weakL _ ⟨rfl, rfl, rfl, rfl, rfl, trivial⟩ rfl rfl) ?_
  refine awp_len (t := 11) rfl fun hle => ?_
  rw [S.rows_len] at hle
  refine awp_forA (fun m s => ∃ (i : Nat) , s = { ts := [(0, .ptr (.g 0) 0), (2, .p (j64 a)), (11, .p (.vec (S.rows ss))), (12, .p (j64 ((S.rows ss).length))), (13, .p (j64 i))], L := [], G := [chk L lp] } ∧ i ≤ ss.length ∧ m = ss.length - i ∧ statsOk L lp a ss = statsOk L lp a (ss.drop i))
    (fun s => s = { ts := [], L := [], G := [chk L lp] } ∧ statsOk L lp a ss = true) ss.length ⟨0, rfl, by omega, by omega, by simp⟩ ?_ ?_
  · rintro m s ⟨i, rfl, hi_i, rfl, hI0⟩
    refine awp_seq ?_
    refine awp_ops ?_
    refine vopsL_cmp rfl rfl rfl (by decide) rfl fun b hb14 => ?_
    cases b with
    | false =>
      have hge_i := ge_eq (S.rows_len ss) hi_i hb14
      refine awp_seq ?_
      refine awp_if false rfl (fun e => by cases e) fun _ => ?_
      refine awp_exit ?_
      refine ⟨{ ts := [], L := [], G := [chk L lp] }, weakL _ trivial rfl rfl, rfl, ?_⟩
      subst hge_i
      simpa [statsOk] using hI0
    | true =>
      obtain ⟨e, he_i, hlt_i⟩ := lt_get (S.rows_len ss) hb14
      have hx_i := S.rows_get he_i
      have hdr_i := drop_get he_i
      obtain ⟨op, n, ex, bo, ot⟩ := e
      obtain ⟨ihb, iho⟩ := ih op n ex bo ot (List.mem_of_getElem? he_i)
      refine awp_seq ?_
      refine awp_if true rfl (fun _ => ?_) (fun e => by cases e)
      refine awp_skip ?_
      refine awp_seq ?_
      refine awp_block ?_
      refine awp_seq ?_
      refine awp_ops ?_
      refine vopsL_idx hx_i rfl rfl rfl (by decide) rfl rfl rfl rfl (by decide) ?_
      refine vopsL_take 3 rfl ?_
      refine awp_seq ?_
      refine awp_seq ?_
      refine awp_ops ?_
      refine vopsL_take 1 rfl ?_
      refine vopsL_cmp rfl rfl rfl (by decide) rfl fun b hb18 => ?_
      cases b with
      | false =>
        have ha : a ≤ 100 := by simpa using hb18
        refine vopsL_take 3 rfl ?_
        refine vopsL_fnG rfl rfl rfl rfl (c_form L lp n ex bo ot op) ?_
        cases hb22 : formOk L lp (.mk op n ex bo ot) with
        | false =>
          refine vopsL_take 2 rfl ?_
          refine awp_if true rfl (fun _ => ?_) (fun e => by cases e)
          refine awp_seq ?_
          refine awp_run rfl ?_
          refine awp_ret ?_
          refine q_ret (q_block (q_ret (q_for (q_ret ?_))))
          have hv : statsOk L lp a ss = false := by rw [hI0, hdr_i]; simp [statsOk, statOk, ha, hb22]
          exact leave_ret rfl rfl ⟨_, congrArg (fun b => AEnd.ret (.p (.bool b))) hv.symm, rfl, by rw [hv]; intro h; cases h⟩
        | true =>
          refine vopsL_take 2 rfl ?_
          refine awp_if false rfl (fun e => by cases e) fun _ => ?_
          refine awp_skip ?_
          refine awp_seq ?_
          refine awp_seq ?_
          refine awp_run rfl ?_
          refine awp_weak (s' := { ts := [(0, .ptr (.g 0) 0), (2, .p (j64 a)), (8, .ptr (.l 8) 0), (11, .p (.vec (S.rows ss))), (12, .p (j64 ((S.rows ss).length))), (13, .p (j64 i)), (26, .p (.vec (E.rows ex))), (27, .p (j64 ((E.rows ex).length))), (28, .p (j64 0))], L := [(8, [.p (j64 op), .p (j64 n), .p (.vec (E.rows ex)), .p (.vec (S.rows bo)), .p (.vec (S.rows ot))])], G := [chk L lp] }) (weakL _ ⟨rfl, rfl, rfl, rfl, rfl, rfl, rfl, rfl, rfl, trivial⟩ rfl rfl) ?_
          refine awp_len (t := 26) rfl fun hlj => ?_
          rw [E.rows_len] at hlj
          refine awp_forA (fun m s => ∃ (j : Nat) , s = { ts := [(0, .ptr (.g 0) 0), (2, .p (j64 a)), (8, .ptr (.l 8) 0), (11, .p (.vec (S.rows ss))), (12, .p (j64 ((S.rows ss).length))), (13, .p (j64 i)), (26, .p (.vec (E.rows ex))), (27, .p (j64 ((E.rows ex).length))), (28, .p (j64 j))], L := [(8, [.p (j64 op), .p (j64 n), .p (.vec (E.rows ex)), .p (.vec (S.rows bo)), .p (.vec (S.rows ot))])], G := [chk L lp] } ∧ j ≤ ex.length ∧ m = ex.length - j ∧ exprsOk L (a + 1) ex = exprsOk L (a + 1) (ex.drop j))
            (fun s => s = { ts := [(0, .ptr (.g 0) 0), (2, .p (j64 a)), (8, .ptr (.l 8) 0), (11, .p (.vec (S.rows ss))), (12, .p (j64 ((S.rows ss).length))), (13, .p (j64 i))], L := [(8, [.p (j64 op), .p (j64 n), .p (.vec (E.rows ex)), .p (.vec (S.rows bo)), .p (.vec (S.rows ot))])], G := [chk L lp] } ∧ exprsOk L (a + 1) ex = true) ex.length ⟨0, rfl, by omega, by omega, by simp⟩ ?_ ?_
          · rintro m s ⟨j, rfl, hi_j, rfl, hJ0⟩
            refine awp_seq ?_
            refine awp_ops ?_
            refine vopsL_cmp rfl rfl rfl (by decide) rfl fun b hb29 => ?_
            cases b with
            | false =>
              have hge_j := ge_eq (E.rows_len ex) hi_j hb29
              refine awp_seq ?_
              refine awp_if false rfl (fun e => by cases e) fun _ => ?_
              refine awp_exit ?_
              refine ⟨{ ts := [(0, .ptr (.g 0) 0), (2, .p (j64 a)), (8, .ptr (.l 8) 0), (11, .p (.vec (S.rows ss))), (12, .p (j64 ((S.rows ss).length))), (13, .p (j64 i))], L := [(8, [.p (j64 op), .p (j64 n), .p (.vec (E.rows ex)), .p (.vec (S.rows bo)), .p (.vec (S.rows ot))])], G := [chk L lp] }, weakL _ ⟨rfl, rfl, rfl, rfl, rfl, rfl, trivial⟩ rfl rfl, rfl, ?_⟩
              subst hge_j
              simpa [exprsOk] using hJ0
            | true =>
              obtain ⟨f, he_j, hlt_j⟩ := lt_get (E.rows_len ex) hb29
              have hx_j := E.rows_get he_j
              have hdr_j := drop_get he_j
              obtain ⟨eop, en, enm, eks⟩ := f
              refine awp_seq ?_
              refine awp_if true rfl (fun _ => ?_) (fun e => by cases e)
              refine awp_skip ?_
              refine awp_seq ?_
              refine awp_block ?_
              refine awp_seq ?_
              refine awp_ops ?_
              refine vopsL_idx hx_j rfl rfl rfl (by decide) rfl rfl rfl rfl (by decide) ?_
              refine vopsL_take 3 rfl ?_
              refine awp_seq ?_
              refine awp_ops ?_
              refine vopsL_take 4 rfl ?_
              rw [wrap64 (x := a + 1) (by omega)]
              refine vopsL_fn rfl rfl rfl (exprOkC (.mk eop en enm eks) L lp (a + 1) (by omega) (by omega)) ?_
              cases hb36 : exprOk L (a + 1) (.mk eop en enm eks) with
              | false =>
                refine vopsL_take 1 rfl ?_
                refine awp_if true rfl (fun _ => ?_) (fun e => by cases e)
                refine awp_seq ?_
                refine awp_run rfl ?_
                refine awp_ret ?_
                refine q_block (q_ret (q_for (q_ret (q_block (q_ret (q_for (q_ret ?_)))))))
                have hex : exprsOk L (a + 1) ex = false := by rw [hJ0, hdr_j]; simp [exprsOk, hb36]
                have hv : statsOk L lp a ss = false := by rw [hI0, hdr_i]; simp [statsOk, statOk, ha, hb22, hex]
                exact leave_ret rfl rfl ⟨_, congrArg (fun b => AEnd.ret (.p (.bool b))) hv.symm, rfl, by rw [hv]; intro h; cases h⟩
              | true =>
                refine vopsL_take 1 rfl ?_
                refine awp_if false rfl (fun e => by cases e) fun _ => ?_
                refine awp_skip ?_
                refine awp_run rfl ?_
                rw [wrap64 (x := (j : Int) + 1) (by omega)]
                refine ⟨{ ts := [(0, .ptr (.g 0) 0), (2, .p (j64 a)), (8, .ptr (.l 8) 0), (11, .p (.vec (S.rows ss))), (12, .p (j64 ((S.rows ss).length))), (13, .p (j64 i)), (26, .p (.vec (E.rows ex))), (27, .p (j64 ((E.rows ex).length))), (28, .p (j64 ((j + 1 : Nat) : Int)))], L := [(8, [.p (j64 op), .p (j64 n), .p (.vec (E.rows ex)), .p (.vec (S.rows bo)), .p (.vec (S.rows ot))])], G := [chk L lp] }, (weakK _ 10).trans (weakL _ ⟨rfl, rfl, rfl, rfl, rfl, rfl, rfl, rfl, rfl, trivial⟩ rfl rfl), ex.length - (j + 1), by omega, j + 1, rfl, by omega, rfl, ?_⟩
                rw [hJ0, hdr_j]; simp [exprsOk, hb36]
          · rintro s ⟨rfl, hY0⟩
            refine awp_seq ?_
            refine awp_seq ?_
            refine awp_ops ?_
            refine vopsL_take 2 rfl ?_
            refine vopsL_cmp rfl rfl rfl (by decide) rfl fun b hb41 => ?_
            cases b with
            | false =>
              have h6 : ¬ op = 6 := by simpa using hb41
              refine awp_if false rfl (fun e => by cases e) fun _ => ?_
              refine awp_skip ?_
              refine awp_seq ?_
              refine awp_seq ?_
              refine awp_ops ?_
              refine vopsL_take 5 rfl ?_
              rw [wrap64 (x := a + 1) (by omega)]
              refine vopsL_call rfl rfl rfl (ihb L lp (a + 1) (by omega) (by omega) (by omega)) ?_
              rintro r G1 ⟨lp54, rfl, rfl, hlp54⟩
              cases hb54 : statsOk L lp (a + 1) bo with
              | false =>
                refine vopsL_take 10 rfl ?_
                refine awp_if true rfl (fun _ => ?_) (fun e => by cases e)
                refine awp_seq ?_
                refine awp_run rfl ?_
                refine awp_ret ?_
                refine q_ret (q_block (q_ret (q_for (q_ret ?_))))
                have hv : statsOk L lp a ss = false := by rw [hI0, hdr_i]; simp [statsOk, statOk, ha, hb22, hY0, h6, hb54]
                exact leave_ret rfl rfl ⟨_, congrArg (fun b => AEnd.ret (.p (.bool b))) hv.symm, rfl, by rw [hv]; intro h; cases h⟩
              | true =>
                have e54 := hlp54 hb54
                subst e54
                refine vopsL_take 7 rfl ?_
                rw [wrap64 (x := a + 1) (by omega)]
                refine vopsL_callG rfl rfl rfl rfl (iho L lp (a + 1) (by omega) (by omega) (by omega)) ?_
                rintro r G1 ⟨lp62, rfl, rfl, hlp62⟩
                cases hb62 : statsOk L lp (a + 1) ot with
                | false =>
                  refine vopsL_take 2 rfl ?_
                  refine awp_if true rfl (fun _ => ?_) (fun e => by cases e)
                  refine awp_seq ?_
                  refine awp_run rfl ?_
                  refine awp_ret ?_
                  refine q_ret (q_block (q_ret (q_for (q_ret ?_))))
                  have hv : statsOk L lp a ss = false := by rw [hI0, hdr_i]; simp [statsOk, statOk, ha, hb22, hY0, h6, hb54, hb62]
                  exact leave_ret rfl rfl ⟨_, congrArg (fun b => AEnd.ret (.p (.bool b))) hv.symm, rfl, by rw [hv]; intro h; cases h⟩
                | true =>
                  have e62 := hlp62 hb62
                  subst e62
                  refine vopsL_take 2 rfl ?_
                  refine awp_if false rfl (fun e => by cases e) fun _ => ?_
                  refine awp_skip ?_
                  refine awp_seq ?_
                  refine awp_ops ?_
                  refine vopsL_take 2 rfl ?_
                  refine vopsL_cmp rfl rfl rfl (by decide) rfl fun b hb67 => ?_
                  cases b with
                  | false =>
                    refine awp_if false rfl (fun e => by cases e) fun _ => ?_
                    refine awp_skip ?_
                    refine awp_run rfl ?_
                    rw [wrap64 (x := (i : Int) + 1) (by omega)]
                    refine ⟨{ ts := [(0, .ptr (.g 0) 0), (2, .p (j64 a)), (11, .p (.vec (S.rows ss))), (12, .p (j64 ((S.rows ss).length))), (13, .p (j64 ((i + 1 : Nat) : Int)))], L := [], G := [chk L lp] }, (weakK _ 8).trans (weakL _ ⟨rfl, rfl, rfl, rfl, rfl, trivial⟩ rfl rfl), ss.length - (i + 1), by omega, i + 1, rfl, by omega, rfl, ?_⟩
                    rw [hI0, hdr_i]; simp [statsOk, statOk, ha, hb22, hY0, h6, hb54, hb62]
                  | true =>
                    exact absurd (by simpa using hb67) h6
            | true =>
              obtain rfl : op = 6 := by simpa using hb41
              refine awp_if true rfl (fun _ => ?_) (fun e => by cases e)
              refine awp_run rfl ?_
              rw [wrap64 (x := lp + 1) (by omega)]
              refine awp_seq ?_
              refine awp_seq ?_
              refine awp_ops ?_
              refine vopsL_take 5 rfl ?_
              rw [wrap64 (x := a + 1) (by omega)]
              refine vopsL_call rfl rfl rfl (ihb L (lp + 1) (a + 1) (by omega) (by omega) (by omega)) ?_
              rintro r G1 ⟨lp54, rfl, rfl, hlp54⟩
              cases hb54 : statsOk L (lp + 1) (a + 1) bo with
              | false =>
                refine vopsL_take 10 rfl ?_
                refine awp_if true rfl (fun _ => ?_) (fun e => by cases e)
                refine awp_seq ?_
                refine awp_run rfl ?_
                refine awp_ret ?_
                refine q_ret (q_block (q_ret (q_for (q_ret ?_))))
                have hv : statsOk L lp a ss = false := by rw [hI0, hdr_i]; simp [statsOk, statOk, ha, hb22, hY0, hb54]
                exact leave_ret rfl rfl ⟨_, congrArg (fun b => AEnd.ret (.p (.bool b))) hv.symm, rfl, by rw [hv]; intro h; cases h⟩
              | true =>
                have e54 := hlp54 hb54
                subst e54
                refine vopsL_take 7 rfl ?_
                rw [wrap64 (x := a + 1) (by omega)]
                refine vopsL_callG rfl rfl rfl rfl (iho L (lp + 1) (a + 1) (by omega) (by omega) (by omega)) ?_
                rintro r G1 ⟨lp62, rfl, rfl, hlp62⟩
                cases hb62 : statsOk L (lp + 1) (a + 1) ot with
                | false =>
                  refine vopsL_take 2 rfl ?_
                  refine awp_if true rfl (fun _ => ?_) (fun e => by cases e)
                  refine awp_seq ?_
                  refine awp_run rfl ?_
                  refine awp_ret ?_
                  refine q_ret (q_block (q_ret (q_for (q_ret ?_))))
                  have hv : statsOk L lp a ss = false := by rw [hI0, hdr_i]; simp [statsOk, statOk, ha, hb22, hY0, hb54, hb62]
                  exact leave_ret rfl rfl ⟨_, congrArg (fun b => AEnd.ret (.p (.bool b))) hv.symm, rfl, by rw [hv]; intro h; cases h⟩
                | true =>
                  have e62 := hlp62 hb62
                  subst e62
                  refine vopsL_take 2 rfl ?_
                  refine awp_if false rfl (fun e => by cases e) fun _ => ?_
                  refine awp_skip ?_
                  refine awp_seq ?_
                  refine awp_run rfl ?_
                  refine awp_if true rfl (fun _ => ?_) (fun e => by cases e)
                  refine awp_run rfl ?_
                  rw [wrap64 (x := lp + 1 - 1) (by omega)]
                  refine awp_run rfl ?_
                  rw [wrap64 (x := (i : Int) + 1) (by omega)]
                  rw [show lp + 1 - 1 = lp by omega]
                  refine ⟨{ ts := [(0, .ptr (.g 0) 0), (2, .p (j64 a)), (11, .p (.vec (S.rows ss))), (12, .p (j64 ((S.rows ss).length))), (13, .p (j64 ((i + 1 : Nat) : Int)))], L := [], G := [chk L lp] }, (weakK _ 8).trans (weakL _ ⟨rfl, rfl, rfl, rfl, rfl, trivial⟩ rfl rfl), ss.length - (i + 1), by omega, i + 1, rfl, by omega, rfl, ?_⟩
                  rw [hI0, hdr_i]; simp [statsOk, statOk, ha, hb22, hY0, hb54, hb62]
      | true =>
        have ha : ¬ a ≤ 100 := by simpa using hb18
        refine vopsL_take 6 rfl ?_
        refine awp_if true rfl (fun _ => ?_) (fun e => by cases e)
        refine awp_seq ?_
        refine awp_run rfl ?_
        refine awp_ret ?_
        refine q_ret (q_block (q_ret (q_for (q_ret ?_))))
        have hv : statsOk L lp a ss = false := by rw [hI0, hdr_i]; simp [statsOk, statOk, ha]
        exact leave_ret rfl rfl ⟨_, congrArg (fun b => AEnd.ret (.p (.bool b))) hv.symm, rfl, by rw [hv]; intro h; cases h⟩
  · rintro s ⟨rfl, hX0⟩
    refine awp_seq ?_
    refine awp_run rfl ?_
    refine awp_ret ?_
    exact leave_ret rfl rfl ⟨_, congrArg (fun b => AEnd.ret (.p (.bool b))) hX0.symm, rfl, fun _ => rfl⟩

theorem statsOkC : ∀ ss : List S, StatsOkC ss := S.ind c_statsOk
end Go.Proofs.Ytnicgdfnfnchjaa

/-
  Maps that count what was met: what is asked of them, what is written.
-/
set_option linter.unusedVariables false
namespace Go.Abs

section
variable {P : Program} {s s' : St} {c : Cfg} {ops : Array Oper} {Q : AExit → St → Prop}

theorem avalB_look {o : Oper} {t key elem : TypeId} {m i : Operand} {id clock : Nat} {es : List (PV × AV × Nat)} {k : PV} {v : AV} (ho : o.op = .lookup t m i false) (ht : P.underlying t = some (.map key elem)) (hm : ev s m = some (.map id))
    (hG : s.G[id]? = some (.map es clock)) (hi : ev s i = some (.p k)) (hk : keyOk P key k = true) (hf : afind k es = some (some v)) : avalB P s o = some v.plain := by
  simp [avalB, aval, ho, hm, hi, alookup, ht, amapOf, hG, hk, hf]
theorem avalB_miss {o : Oper} {t key elem : TypeId} {m i : Operand} {id clock : Nat} {es : List (PV × AV × Nat)} {k : PV} {z : AV} (ho : o.op = .lookup t m i false) (ht : P.underlying t = some (.map key elem)) (hm : ev s m = some (.map id))
    (hG : s.G[id]? = some (.map es clock)) (hi : ev s i = some (.p k)) (hk : keyOk P key k = true) (hz : azero P elem = some z) (hf : afind k es = some none) : avalB P s o = some z := by
  simp [avalB, aval, ho, hm, hi, alookup, ht, amapOf, hG, hk, hf, hz]
theorem avalB_look2 {o : Oper} {t key elem : TypeId} {m i : Operand} {id clock : Nat} {es : List (PV × AV × Nat)} {k : PV} {v : AV} (ho : o.op = .lookup t m i true) (ht : P.underlying t = some (.map key elem)) (hm : ev s m = some (.map id))
    (hG : s.G[id]? = some (.map es clock)) (hi : ev s i = some (.p k)) (hk : keyOk P key k = true) (hf : afind k es = some (some v)) : avalB P s o = some (.tuple [v.plain, .p (.bool true)]) := by
  simp [avalB, aval, ho, hm, hi, alookup, ht, amapOf, hG, hk, hf]
theorem avalB_miss2 {o : Oper} {t key elem : TypeId} {m i : Operand} {id clock : Nat} {es : List (PV × AV × Nat)} {k : PV} {z : AV} (ho : o.op = .lookup t m i true) (ht : P.underlying t = some (.map key elem)) (hm : ev s m = some (.map id))
    (hG : s.G[id]? = some (.map es clock)) (hi : ev s i = some (.p k)) (hk : keyOk P key k = true) (hz : azero P elem = some z) (hf : afind k es = some none) : avalB P s o = some (.tuple [z, .p (.bool false)]) := by
  simp [avalB, aval, ho, hm, hi, alookup, ht, amapOf, hG, hk, hf, hz]

theorem eff_lookup {o : Oper} {t : TypeId} {m i : Operand} {ok : Bool} {d : Nat} {v : AV} (ho : o.op = .lookup t m i ok) (hd : o.dst = some d) (hn : d < c.nt) (hv : avalB P s o = some v) : eff P c s o = .st (s.put (some d) v) := by
  have h1 : avalN P s o = some v := by
    unfold avalN anilcmp
    rw [ho]
    simp only
    have : avalB P s o = aval P s o := by unfold avalB; rw [ho]
    rw [← this, hv]
  unfold eff
  rw [ho]
  simp only
  rw [h1]
  simp [Eff.of, dstOk, hd, hn]

/-- 'm[k]' is there. -/
theorem vopsL_look {o : Oper} {l : List Oper} {t key elem : TypeId} {m i : Operand} {id clock : Nat} {es : List (PV × AV × Nat)} {k : PV} {v : AV} {d : Nat} (hf : afind k es = some (some v)) (hg : o.guard = none) (ho : o.op = .lookup t m i false) (hd : o.dst = some d) (hn : d < c.nt) (ht : P.underlying t = some (.map key elem)) (hm : ev s m = some (.map id))
    (hG : s.G[id]? = some (.map es clock)) (hi : ev s i = some (.p k)) (hk : keyOk P key k = true) (h : vopsL P c ops Q l (s.put (some d) v.plain)) : vopsL P c ops Q (o :: l) s :=
  vopsL_st hg (eff_lookup ho hd hn (avalB_look ho ht hm hG hi hk hf)) h
theorem vopsL_miss {o : Oper} {l : List Oper} {t key elem : TypeId} {m i : Operand} {id clock : Nat} {es : List (PV × AV × Nat)} {k : PV} {z : AV} {d : Nat} (hf : afind k es = some none) (hg : o.guard = none) (ho : o.op = .lookup t m i false) (hd : o.dst = some d) (hn : d < c.nt) (ht : P.underlying t = some (.map key elem)) (hm : ev s m = some (.map id))
    (hG : s.G[id]? = some (.map es clock)) (hi : ev s i = some (.p k)) (hk : keyOk P key k = true) (hz : azero P elem = some z) (h : vopsL P c ops Q l (s.put (some d) z)) : vopsL P c ops Q (o :: l) s :=
  vopsL_st hg (eff_lookup ho hd hn (avalB_miss ho ht hm hG hi hk hz hf)) h
theorem vopsL_lookG {o : Oper} {l : List Oper} {t key elem : TypeId} {m i : Operand} {id clock : Nat} {es : List (PV × AV × Nat)} {k : PV} {v : AV} {d : Nat} {j : Nat} {want : Bool} (hf : afind k es = some (some v)) (hg : o.guard = some (j, want)) (hw : guardVal ops s j want = some want) (ho : o.op = .lookup t m i false) (hd : o.dst = some d) (hn : d < c.nt) (ht : P.underlying t = some (.map key elem)) (hm : ev s m = some (.map id))
    (hG : s.G[id]? = some (.map es clock)) (hi : ev s i = some (.p k)) (hk : keyOk P key k = true) (h : vopsL P c ops Q l (s.put (some d) v.plain)) : vopsL P c ops Q (o :: l) s :=
  vopsL_on hg hw (vop_st (eff_lookup ho hd hn (avalB_look ho ht hm hG hi hk hf)) h)
theorem vopsL_missG {o : Oper} {l : List Oper} {t key elem : TypeId} {m i : Operand} {id clock : Nat} {es : List (PV × AV × Nat)} {k : PV} {z : AV} {d : Nat} {j : Nat} {want : Bool} (hf : afind k es = some none) (hg : o.guard = some (j, want)) (hw : guardVal ops s j want = some want) (ho : o.op = .lookup t m i false) (hd : o.dst = some d) (hn : d < c.nt) (ht : P.underlying t = some (.map key elem)) (hm : ev s m = some (.map id))
    (hG : s.G[id]? = some (.map es clock)) (hi : ev s i = some (.p k)) (hk : keyOk P key k = true) (hz : azero P elem = some z) (h : vopsL P c ops Q l (s.put (some d) z)) : vopsL P c ops Q (o :: l) s :=
  vopsL_on hg hw (vop_st (eff_lookup ho hd hn (avalB_miss ho ht hm hG hi hk hz hf)) h)

/-- 'm[k] = v'. -/
theorem vopsL_upd {o : Oper} {l : List Oper} {t kt et : TypeId} {m k v : Operand} {id clock clock' : Nat} {es es' : List (PV × AV × Nat)} {kv : PV} {vv : AV} (ha : aput kv vv.plain clock es = some (es', clock')) (hg : o.guard = none) (ho : o.op = .mapUpdate t m k v) (hd : o.dst = none) (ht : P.underlying t = some (.map kt et))
    (hm : ev s m = some (.map id)) (hk : ev s k = some (.p kv)) (hv : ev s v = some vv) (hG : s.G[id]? = some (.map es clock)) (hok : keyOk P kt kv = true) (hfit : vv.plain.fits (.g id) = true)
    (h : vopsL P c ops Q l { s with G := s.G.set id (.map es' clock') }) : vopsL P c ops Q (o :: l) s := by
  refine vopsL_st hg (s' := { s with G := s.G.set id (.map es' clock') }) ?_ h
  unfold eff
  rw [ho]
  simp [hm, hk, hv, hd, aupdate, ht, hG, hok, hfit, ha, Eff.ofSt]
end

/-- A map whose keys were met in this order, each once. -/
def entsFrom {α : Type} (f : α → PV) (v : AV) : Nat → List α → List (PV × AV × Nat)
  | _, [] => []
  | n, a :: r => (f a, v, n) :: entsFrom f v (n + 1) r

/-- Keys are told apart. -/
def KeyF {α : Type} [DecidableEq α] (f : α → PV) : Prop := ∀ a b, pkeq (f a) (f b) = some (decide (a = b))

instance : DecidableEq ByteArray := fun a b => decidable_of_iff ((a == b) = true) (bytesBeq a b)

instance : LawfulBEq ByteArray where
  eq_of_beq := fun {a b} h => (bytesBeq a b).1 h
  rfl := fun {a} => (bytesBeq a a).2 rfl

theorem keyF_str : KeyF PV.str := fun a b => by
  simp only [pkeq]
  congr 1
  rw [Bool.eq_iff_iff]
  simp [bytesBeq]
theorem keyF_int (k : IntKind) : KeyF (PV.int k) := fun a b => by
  simp only [pkeq, if_true]
  congr 1

section
variable {α : Type} [DecidableEq α] {f : α → PV} (hf : KeyF f) {v : AV}
include hf
theorem afind_ents (x : α) : ∀ (n : Nat) (l : List α), afind (f x) (entsFrom f v n l) = some (if x ∈ l then some v else none)
  | n, [] => by simp [entsFrom, afind]
  | n, a :: r => by
    simp only [entsFrom, afind, hf x a]
    by_cases h : x = a
    · simp [h]
    · simp [h, afind_ents x (n + 1) r]
theorem afind_in {x : α} {n : Nat} {l : List α} (h : x ∈ l) : afind (f x) (entsFrom f v n l) = some (some v) := by rw [afind_ents hf, if_pos h]
theorem afind_out {x : α} {n : Nat} {l : List α} (h : x ∉ l) : afind (f x) (entsFrom f v n l) = some none := by rw [afind_ents hf, if_neg h]
theorem aput_new {x : α} {c : Nat} : ∀ {n : Nat} {l : List α}, x ∉ l → c = n + l.length → aput (f x) v c (entsFrom f v n l) = some (entsFrom f v n (l ++ [x]), c + 1)
  | n, [], h, hc => by simp at hc; simp [entsFrom, aput, hc]
  | n, a :: r, h, hc => by
    have h1 : x ≠ a := fun e => h (by simp [e])
    have h2 : x ∉ r := fun e => h (by simp [e])
    simp only [entsFrom, aput, hf x a, h1, decide_false, List.cons_append]
    rw [aput_new h2 (n := n + 1) (by simp at hc; omega)]
    rfl
theorem aput_old {x : α} {c : Nat} {u : AV} : ∀ {n : Nat} {l : List α}, x ∈ l → ∃ es', aput (f x) u c (entsFrom f v n l) = some (es', c) ∧ afind (f x) es' = some (some u)
  | n, [], h => by cases h
  | n, a :: r, h => by
    simp only [entsFrom, aput, hf x a]
    by_cases h1 : x = a
    · subst h1
      exact ⟨(f x, u, n) :: entsFrom f v (n + 1) r, by simp, by simp [afind, hf x x]⟩
    · obtain ⟨es', h2, h3⟩ := aput_old (n := n + 1) (l := r) (u := u) (c := c) (by rcases List.mem_cons.1 h with h | h; exact absurd h h1; exact h)
      exact ⟨(f a, v, n) :: es', by simp [h1, h2], by simp [afind, hf x a, h1, h3]⟩
end
theorem bytes_loop (s : ByteArray) : ∀ (n i : Nat) (r : List UInt8), s.size - i = n → ByteArray.toList.loop s i r = r.reverse ++ s.data.toList.drop i := by
  intro n
  induction n with
  | zero =>
    intro i r h
    unfold ByteArray.toList.loop
    rw [if_neg (by omega), List.drop_eq_nil_of_le (by simp; have : s.data.size = s.size := rfl; omega), List.append_nil]
  | succ n ih =>
    intro i r h
    unfold ByteArray.toList.loop
    have hi : i < s.size := by omega
    have hd : i < s.data.toList.length := by simpa using hi
    rw [if_pos hi, ih (i + 1) _ (by omega), List.drop_eq_getElem_cons hd]
    have : s.get! i = s.data.toList[i] := by
      show s.data[i]! = _
      rw [getElem!_pos s.data i hi]; simp
    simp [this]
theorem bytes_toList (s : ByteArray) : s.toList = s.data.toList := by
  unfold ByteArray.toList
  rw [bytes_loop s _ 0 [] rfl]; simp
theorem beqS_iff (x y : ByteArray) : beqS x y = true ↔ x = y := by
  simp only [beqS, beq_iff_eq, bytes_toList]
  constructor
  · intro h
    obtain ⟨⟨x⟩⟩ := x
    obtain ⟨⟨y⟩⟩ := y
    simpa using h
  · rintro rfl; rfl
theorem beqS_eq (x y : ByteArray) : beqS x y = decide (x = y) := by
  rw [Bool.eq_iff_iff, beqS_iff]; simp
end Go.Abs

/-
  Lists are no longer than lists may be; a contract about one block, wherever it lies.
-/
set_option linter.unusedVariables false
namespace Go.Abs
theorem relP_len {I : Nat → Nat → Option Value} {rows : List (List PV)} {x : Value} (hx : RelP I (.vec rows) x) : rows.length ≤ 9223372036854775807 := by
  show rows.length ≤ maxLen
  cases hx with
  | vec0 => simp
  | vec rows b o cap sz val hsz hI hR hmax hcap => exact hmax

theorem awp_lenL {P : Program} {nt : Nat} {s : St} {Q : AExit → St → Prop} {code : Code} {t off : Nat} {cs : List AV} {rows : List (List PV)} (ht : get s.L t = some cs) (hc : cs[off]? = some (.p (.vec rows))) (h : rows.length ≤ 9223372036854775807 → AWp P nt code Q s) : AWp P nt code Q s := by
  intro σ a w hr
  refine h ?_ σ a w hr
  obtain ⟨b, hb, c, T, h1, h2, h3⟩ := hr.blks (.l t) (.cells cs) (by simp [St.look, ht])
  have := h3 off _ hc
  generalize c.getD off undef = x at this
  cases this with | p hx => exact relP_len hx

theorem awp_lenG {P : Program} {nt : Nat} {s : St} {Q : AExit → St → Prop} {code : Code} {id off : Nat} {cs : List AV} {rows : List (List PV)} (ht : s.G[id]? = some (.cells cs)) (hc : cs[off]? = some (.p (.vec rows))) (h : rows.length ≤ 9223372036854775807 → AWp P nt code Q s) : AWp P nt code Q s := by
  intro σ a w hr
  refine h ?_ σ a w hr
  obtain ⟨b, hb, c, T, h1, h2, h3⟩ := hr.blks (.g id) (.cells cs) ht
  have := h3 off _ hc
  generalize c.getD off undef = x at this
  cases this with | p hx => exact relP_len hx
end Go.Abs

/-
  Which modules are right: the tree code's own 'function', 'words', 'large'.
-/
set_option linter.unusedVariables false
set_option linter.unusedSimpArgs false
set_option maxRecDepth 100000
namespace Go.Proofs.Ytnicgdfnfnchjaa
open Go.Abs

abbrev cfgh (h : List Nat) (n : Nat) : Cfg := ⟨n, h, false, fun _ => none, fun _ => none⟩

def F.args (f : F) : List AV := [.p (.str f.name), .p (.bool f.weak), .p (j64 f.params), .p (j64 f.locals), .p (.vec (S.rows f.body))]
def D.args (d : D) : List AV := [.p (.str d.name), .p (.bool d.weak), .p (.vec (d.words.map wordRow)), .p (.vec (d.refs.map RF.row))]

def funcOk (f : F) : Bool := nameOk f.name && decide (0 ≤ f.params) && decide (f.params ≤ 16) && decide (f.params ≤ f.locals) && decide (f.locals ≤ 2000) && statsOk f.locals 0 0 f.body

theorem c_function0 (f : F) : FnIs Try.prog 33 [.agg f.args] [] (.p (.bool (funcOk f))) := by
  refine acalls_fn (cfgh [33] 38) Try.func33 rfl rfl rfl (by simp) fun hG => ?_
  refine awp_seq ?_
  refine awp_run rfl ?_
  refine awp_seq ?_
  refine awp_seq ?_
  refine awp_ops ?_
  refine vopsL_take 2 rfl ?_
  refine vopsL_fn rfl rfl rfl (c_name f.name _) ?_
  cases hb6 : nameOk f.name with
  | false =>
    refine vopsL_take 23 rfl ?_
    refine awp_if true rfl (fun _ => ?_) (fun e => by cases e)
    refine awp_seq ?_
    refine awp_run rfl ?_
    refine awp_ret ?_
    refine q_ret ?_
    exact leave_ret rfl rfl ⟨congrArg (fun b => AEnd.ret (.p (.bool b))) (by simp_all [funcOk] <;> omega), rfl⟩
  | true =>
    refine vopsL_take 4 rfl ?_
    refine vopsL_cmpG rfl rfl rfl rfl (by decide) rfl fun b hb11 => ?_
    cases b with
    | false =>
      refine vopsL_take 4 rfl ?_
      refine vopsL_cmpG rfl rfl rfl rfl (by decide) rfl fun b hb16 => ?_
      cases b with
      | false =>
        refine vopsL_take 6 rfl ?_
        refine vopsL_cmpG rfl rfl rfl rfl (by decide) rfl fun b hb23 => ?_
        cases b with
        | false =>
          refine vopsL_take 4 rfl ?_
          refine vopsL_cmpG rfl rfl rfl rfl (by decide) rfl fun b hb28 => ?_
          cases b with
          | false =>
            refine vopsL_take 1 rfl ?_
            refine awp_if false rfl (fun e => by cases e) fun _ => ?_
            refine awp_skip ?_
            refine awp_seq ?_
            refine awp_run rfl ?_
            refine awp_seq ?_
            refine awp_ops ?_
            refine vopsL_take 3 rfl ?_
            refine vopsL_call rfl rfl rfl (statsOkC f.body f.locals 0 0 (by omega) (by omega) (by omega)) ?_
            rintro r G1 ⟨lp1, rfl, rfl, hlp1⟩
            refine vopsL_take 1 rfl ?_
            refine awp_ret ?_
            exact leave_ret rfl rfl ⟨congrArg (fun b => AEnd.ret (.p (.bool b))) (by simp_all [funcOk] <;> omega), rfl⟩
          | true =>
            refine vopsL_take 1 rfl ?_
            refine awp_if true rfl (fun _ => ?_) (fun e => by cases e)
            refine awp_seq ?_
            refine awp_run rfl ?_
            refine awp_ret ?_
            refine q_ret ?_
            exact leave_ret rfl rfl ⟨congrArg (fun b => AEnd.ret (.p (.bool b))) (by simp_all [funcOk] <;> omega), rfl⟩
        | true =>
          refine vopsL_take 6 rfl ?_
          refine awp_if true rfl (fun _ => ?_) (fun e => by cases e)
          refine awp_seq ?_
          refine awp_run rfl ?_
          refine awp_ret ?_
          refine q_ret ?_
          exact leave_ret rfl rfl ⟨congrArg (fun b => AEnd.ret (.p (.bool b))) (by simp_all [funcOk] <;> omega), rfl⟩
      | true =>
        refine vopsL_take 13 rfl ?_
        refine awp_if true rfl (fun _ => ?_) (fun e => by cases e)
        refine awp_seq ?_
        refine awp_run rfl ?_
        refine awp_ret ?_
        refine q_ret ?_
        exact leave_ret rfl rfl ⟨congrArg (fun b => AEnd.ret (.p (.bool b))) (by simp_all [funcOk] <;> omega), rfl⟩
    | true =>
      refine vopsL_take 18 rfl ?_
      refine awp_if true rfl (fun _ => ?_) (fun e => by cases e)
      refine awp_seq ?_
      refine awp_run rfl ?_
      refine awp_ret ?_
      refine q_ret ?_
      exact leave_ret rfl rfl ⟨congrArg (fun b => AEnd.ret (.p (.bool b))) (by simp_all [funcOk] <;> omega), rfl⟩

theorem c_function (f : F) (G : List Blk) : FnIs Try.prog 33 [.agg f.args] G (.p (.bool (funcOk f))) := fn_lift (c_function0 f) G rfl rfl rfl

def refsOk (W : Int) : List Int → List RF → Bool
  | _, [] => true
  | seen, r :: rs => nameOk r.name && decide (0 ≤ r.place) && decide (r.place < W) && decide (r.place ∉ seen) && refsOk W (seen ++ [r.place]) rs

def dataOk (d : D) : Bool := refsOk d.words.length [] d.refs && nameOk d.name

theorem c_twords0 (d : D) : FnIs Try.prog 34 [.agg d.args] [] (.p (.bool (dataOk d))) := by
  refine acalls_fn (cfg 47) Try.func34 rfl rfl rfl (by simp) fun hG => ?_
  refine awp_seq ?_
  refine awp_run rfl ?_
  refine awp_seq ?_
  refine awp_run rfl ?_
  refine awp_seq ?_
  refine awp_seq ?_
  refine awp_run rfl ?_
  refine awp_weak (s' := { ts := [(1, .ptr (.l 1) 0), (3, .map 0), (8, .p (.vec (d.refs.map RF.row))), (9, .p (j64 ((d.refs.map RF.row).length))), (10, .p (j64 0))], L := [(1, [.p (.str d.name), .p (.bool d.weak), .p (.vec (d.words.map wordRow)), .p (.vec (d.refs.map RF.row))])], G := [.map (entsFrom (PV.int .i64) (.p (j64 1)) 0 ((d.refs.take 0).map RF.place)) 0] }) (weakL _ ⟨rfl, rfl, rfl, rfl, rfl, trivial⟩ rfl rfl) ?_
  refine awp_len (t := 8) rfl fun hle => ?_
  rw [map_len] at hle
  refine awp_forA (fun m s => ∃ (i : Nat) , s = { ts := [(1, .ptr (.l 1) 0), (3, .map 0), (8, .p (.vec (d.refs.map RF.row))), (9, .p (j64 ((d.refs.map RF.row).length))), (10, .p (j64 i))], L := [(1, [.p (.str d.name), .p (.bool d.weak), .p (.vec (d.words.map wordRow)), .p (.vec (d.refs.map RF.row))])], G := [.map (entsFrom (PV.int .i64) (.p (j64 1)) 0 ((d.refs.take i).map RF.place)) i] } ∧ i ≤ d.refs.length ∧ m = d.refs.length - i ∧ refsOk d.words.length [] d.refs = refsOk d.words.length ((d.refs.take i).map RF.place) (d.refs.drop i))
    (fun s => ∃ (es : List (PV × AV × Nat)) (cl : Nat), s = { ts := [(1, .ptr (.l 1) 0)], L := [(1, [.p (.str d.name), .p (.bool d.weak), .p (.vec (d.words.map wordRow)), .p (.vec (d.refs.map RF.row))])], G := [.map es cl] } ∧ refsOk d.words.length [] d.refs = true) d.refs.length ⟨0, rfl, by omega, by omega, by simp⟩ ?_ ?_
  · rintro m s ⟨i, rfl, hi_i, rfl, hI0⟩
    refine awp_seq ?_
    refine awp_ops ?_
    refine vopsL_cmp rfl rfl rfl (by decide) rfl fun b hb11 => ?_
    cases b with
    | false =>
      have hge_i := ge_eq (map_len RF.row d.refs) hi_i hb11
      refine awp_seq ?_
      refine awp_if false rfl (fun e => by cases e) fun _ => ?_
      refine awp_exit ?_
      refine ⟨{ ts := [(1, .ptr (.l 1) 0)], L := [(1, [.p (.str d.name), .p (.bool d.weak), .p (.vec (d.words.map wordRow)), .p (.vec (d.refs.map RF.row))])], G := [.map _ _] }, weakL _ ⟨rfl, trivial⟩ rfl rfl, _, _, rfl, ?_⟩
      subst hge_i
      simpa [refsOk] using hI0
    | true =>
      obtain ⟨r, he_i, hlt_i⟩ := lt_get (map_len RF.row d.refs) hb11
      have hx_i := map_get (f := RF.row) he_i
      have hdr_i := drop_get he_i
      refine awp_seq ?_
      refine awp_if true rfl (fun _ => ?_) (fun e => by cases e)
      refine awp_skip ?_
      refine awp_seq ?_
      refine awp_block ?_
      refine awp_seq ?_
      refine awp_ops ?_
      refine vopsL_idx hx_i rfl rfl rfl (by decide) rfl rfl rfl rfl (by decide) ?_
      refine vopsL_take 3 rfl ?_
      refine awp_seq ?_
      refine awp_ops ?_
      refine vopsL_take 3 rfl ?_
      by_cases hin : r.place ∈ (d.refs.take i).map RF.place
      · refine vopsL_look (afind_in (keyF_int _) hin) rfl rfl rfl (by decide) rfl rfl rfl rfl rfl ?_
        refine vopsL_take 1 rfl ?_
        obtain ⟨es1, hes1, hfi1⟩ := aput_old (keyF_int .i64) (u := .p (j64 2)) (v := .p (j64 1)) (n := 0) (c := i) hin
        refine vopsL_upd hes1 rfl rfl rfl rfl rfl rfl rfl rfl rfl rfl ?_
        refine awp_seq ?_
        refine awp_ops ?_
        refine vopsL_take 2 rfl ?_
        refine vopsL_fn rfl rfl rfl (c_name r.name _) ?_
        cases hb21 : nameOk r.name with
        | false =>
          refine vopsL_take 21 rfl ?_
          refine awp_if true rfl (fun _ => ?_) (fun e => by cases e)
          refine awp_seq ?_
          refine awp_run rfl ?_
          refine awp_ret ?_
          refine q_block (q_ret (q_for (q_ret ?_)))
          exact leave_ret rfl rfl ⟨congrArg (fun b => AEnd.ret (.p (.bool b))) (by rw [dataOk, hI0, hdr_i]; simp_all [refsOk] <;> omega), rfl⟩
        | true =>
          refine vopsL_take 4 rfl ?_
          refine vopsL_cmpG rfl rfl rfl rfl (by decide) rfl fun b hb26 => ?_
          cases b with
          | false =>
            refine vopsL_take 7 rfl ?_
            refine vopsL_cmpG rfl rfl rfl rfl (by decide) rfl fun b hb34 => ?_
            cases b with
            | false =>
              refine vopsL_take 5 rfl ?_
              refine vopsL_lookG hfi1 rfl rfl rfl rfl (by decide) rfl rfl rfl rfl rfl ?_
              refine vopsL_take 2 rfl ?_
              refine awp_if true rfl (fun _ => ?_) (fun e => by cases e)
              refine awp_seq ?_
              refine awp_run rfl ?_
              refine awp_ret ?_
              refine q_block (q_ret (q_for (q_ret ?_)))
              exact leave_ret rfl rfl ⟨congrArg (fun b => AEnd.ret (.p (.bool b))) (by rw [dataOk, hI0, hdr_i]; simp_all [refsOk] <;> omega), rfl⟩
            | true =>
              refine vopsL_take 8 rfl ?_
              refine awp_if true rfl (fun _ => ?_) (fun e => by cases e)
              refine awp_seq ?_
              refine awp_run rfl ?_
              refine awp_ret ?_
              refine q_block (q_ret (q_for (q_ret ?_)))
              exact leave_ret rfl rfl ⟨congrArg (fun b => AEnd.ret (.p (.bool b))) (by rw [dataOk, hI0, hdr_i]; simp_all [refsOk] <;> omega), rfl⟩
          | true =>
            refine vopsL_take 16 rfl ?_
            refine awp_if true rfl (fun _ => ?_) (fun e => by cases e)
            refine awp_seq ?_
            refine awp_run rfl ?_
            refine awp_ret ?_
            refine q_block (q_ret (q_for (q_ret ?_)))
            exact leave_ret rfl rfl ⟨congrArg (fun b => AEnd.ret (.p (.bool b))) (by rw [dataOk, hI0, hdr_i]; simp_all [refsOk] <;> omega), rfl⟩
      · refine vopsL_miss (afind_out (keyF_int _) hin) rfl rfl rfl (by decide) rfl rfl rfl rfl rfl rfl ?_
        refine vopsL_take 1 rfl ?_
        refine vopsL_upd (aput_new (keyF_int _) hin (by simp; omega)) rfl rfl rfl rfl rfl rfl rfl rfl rfl rfl ?_
        refine awp_seq ?_
        refine awp_ops ?_
        refine vopsL_take 2 rfl ?_
        refine vopsL_fn rfl rfl rfl (c_name r.name _) ?_
        cases hb21 : nameOk r.name with
        | false =>
          refine vopsL_take 21 rfl ?_
          refine awp_if true rfl (fun _ => ?_) (fun e => by cases e)
          refine awp_seq ?_
          refine awp_run rfl ?_
          refine awp_ret ?_
          refine q_block (q_ret (q_for (q_ret ?_)))
          exact leave_ret rfl rfl ⟨congrArg (fun b => AEnd.ret (.p (.bool b))) (by rw [dataOk, hI0, hdr_i]; simp_all [refsOk] <;> omega), rfl⟩
        | true =>
          refine vopsL_take 4 rfl ?_
          refine vopsL_cmpG rfl rfl rfl rfl (by decide) rfl fun b hb26 => ?_
          cases b with
          | false =>
            refine vopsL_take 7 rfl ?_
            refine vopsL_cmpG rfl rfl rfl rfl (by decide) rfl fun b hb34 => ?_
            cases b with
            | false =>
              refine vopsL_take 5 rfl ?_
              refine vopsL_lookG (afind_in (keyF_int _) (by simp)) rfl rfl rfl rfl (by decide) rfl rfl rfl rfl rfl ?_
              refine vopsL_take 2 rfl ?_
              refine awp_if false rfl (fun e => by cases e) fun _ => ?_
              refine awp_skip ?_
              refine awp_run rfl ?_
              rw [wrap64 (x := (i : Int) + 1) (by omega)]
              have htk : (d.refs.take (i + 1)).map RF.place = (d.refs.take i).map RF.place ++ [r.place] := by rw [take_succ he_i]; simp
              rw [← htk]
              refine ⟨{ ts := [(1, .ptr (.l 1) 0), (3, .map 0), (8, .p (.vec (d.refs.map RF.row))), (9, .p (j64 ((d.refs.map RF.row).length))), (10, .p (j64 (i + 1 : Nat)))], L := [(1, [.p (.str d.name), .p (.bool d.weak), .p (.vec (d.words.map wordRow)), .p (.vec (d.refs.map RF.row))])], G := [.map (entsFrom (PV.int .i64) (.p (j64 1)) 0 ((d.refs.take (i + 1 : Nat)).map RF.place)) (i + 1 : Nat)] }, (weakK _ 5).trans (weakL _ ⟨rfl, rfl, rfl, rfl, rfl, trivial⟩ rfl rfl), d.refs.length - (i + 1), by omega, i + 1, rfl, by omega, rfl, ?_⟩
              rw [hI0, hdr_i, htk]; simp_all [refsOk] <;> omega
            | true =>
              refine vopsL_take 8 rfl ?_
              refine awp_if true rfl (fun _ => ?_) (fun e => by cases e)
              refine awp_seq ?_
              refine awp_run rfl ?_
              refine awp_ret ?_
              refine q_block (q_ret (q_for (q_ret ?_)))
              exact leave_ret rfl rfl ⟨congrArg (fun b => AEnd.ret (.p (.bool b))) (by rw [dataOk, hI0, hdr_i]; simp_all [refsOk] <;> omega), rfl⟩
          | true =>
            refine vopsL_take 16 rfl ?_
            refine awp_if true rfl (fun _ => ?_) (fun e => by cases e)
            refine awp_seq ?_
            refine awp_run rfl ?_
            refine awp_ret ?_
            refine q_block (q_ret (q_for (q_ret ?_)))
            exact leave_ret rfl rfl ⟨congrArg (fun b => AEnd.ret (.p (.bool b))) (by rw [dataOk, hI0, hdr_i]; simp_all [refsOk] <;> omega), rfl⟩
  · rintro s ⟨es, cl, rfl, hX0⟩
    refine awp_seq ?_
    refine awp_ops ?_
    refine vopsL_take 2 rfl ?_
    refine vopsL_fn rfl rfl rfl (c_name d.name _) ?_
    cases hb46 : nameOk d.name with
    | false =>
      refine vopsL_take 1 rfl ?_
      refine awp_ret ?_
      exact leave_ret rfl rfl ⟨congrArg (fun b => AEnd.ret (.p (.bool b))) (by rw [dataOk, hX0]; simp_all), rfl⟩
    | true =>
      refine vopsL_take 1 rfl ?_
      refine awp_ret ?_
      exact leave_ret rfl rfl ⟨congrArg (fun b => AEnd.ret (.p (.bool b))) (by rw [dataOk, hX0]; simp_all), rfl⟩

theorem c_twords (d : D) (G : List Blk) : FnIs Try.prog 34 [.agg d.args] G (.p (.bool (dataOk d))) := fn_lift (c_twords0 d) G rfl rfl rfl
end Go.Proofs.Ytnicgdfnfnchjaa

/-
  Which modules are right: the tree code's own 'large' and 'Valid'.
-/
set_option linter.unusedVariables false
set_option linter.unusedSimpArgs false
set_option maxRecDepth 100000
namespace Go.Proofs.Ytnicgdfnfnchjaa
open Go.Abs

def largeOk (m : M) : Bool := decide (20000 < m.parts) || decide (16384 < m.words)
def M.slim (m : M) : Prop := ∀ d ∈ m.datas, d.words.length ≤ 1000000

theorem c_large0 (m : M) (hs : m.slim) : FnIs Try.prog 32 [.agg m.cells] [] (.p (.bool (largeOk m))) := by
  refine acalls_fn (cfgh [10] 43) Try.func32 rfl rfl rfl (by simp) fun hG => ?_
  refine awp_seq ?_
  refine awp_run rfl ?_
  refine awp_seq ?_
  refine awp_run rfl ?_
  refine awp_seq ?_
  refine awp_seq ?_
  refine awp_run rfl ?_
  refine awp_weak (s' := { ts := [(1, .ptr (.l 1) 0), (3, .ptr (.g 0) 0), (12, .p (.vec (m.funcs.map F.row))), (13, .p (j64 ((m.funcs.map F.row).length))), (14, .p (j64 0))], L := [(1, [.p (.str m.pkg), .p (.vec (m.funcs.map F.row)), .p (.vec (m.datas.map D.row))])], G := [ctr 0 20000] }) (weakL _ ⟨rfl, rfl, rfl, rfl, rfl, trivial⟩ rfl rfl) ?_
  refine awp_len (t := 12) rfl fun hle => ?_
  rw [map_len] at hle
  refine awp_forA (fun mm s => ∃ (i : Nat) (n : Int), s = { ts := [(1, .ptr (.l 1) 0), (3, .ptr (.g 0) 0), (12, .p (.vec (m.funcs.map F.row))), (13, .p (j64 ((m.funcs.map F.row).length))), (14, .p (j64 i))], L := [(1, [.p (.str m.pkg), .p (.vec (m.funcs.map F.row)), .p (.vec (m.datas.map D.row))])], G := [ctr n 20000] } ∧ i ≤ m.funcs.length ∧ mm = m.funcs.length - i ∧ Cnt 0 (sumBy F.size (m.funcs.take i)) 20000 n)
    (fun s => ∃ (n : Int), s = { ts := [(1, .ptr (.l 1) 0), (3, .ptr (.g 0) 0)], L := [(1, [.p (.str m.pkg), .p (.vec (m.funcs.map F.row)), .p (.vec (m.datas.map D.row))])], G := [ctr n 20000] } ∧ Cnt 0 (sumBy F.size m.funcs) 20000 n) m.funcs.length ⟨0, 0, rfl, by omega, by omega, by simp [Cnt, sumBy]; omega⟩ ?_ ?_
  · rintro mm s ⟨i, n, rfl, hi_i, rfl, hI0⟩
    have hn0 := hI0.1
    have hn1 := hI0.2.1
    refine awp_seq ?_
    refine awp_ops ?_
    refine vopsL_cmp rfl rfl rfl (by decide) rfl fun b hb15 => ?_
    cases b with
    | false =>
      have hge_i := ge_eq (map_len F.row m.funcs) hi_i hb15
      refine awp_seq ?_
      refine awp_if false rfl (fun e => by cases e) fun _ => ?_
      refine awp_exit ?_
      refine ⟨{ ts := [(1, .ptr (.l 1) 0), (3, .ptr (.g 0) 0)], L := [(1, [.p (.str m.pkg), .p (.vec (m.funcs.map F.row)), .p (.vec (m.datas.map D.row))])], G := [ctr n 20000] }, weakL _ ⟨rfl, rfl, trivial⟩ rfl rfl, n, rfl, ?_⟩
      subst hge_i
      simpa using hI0
    | true =>
      obtain ⟨f, he_i, hlt_i⟩ := lt_get (map_len F.row m.funcs) hb15
      have hx_i := map_get (f := F.row) he_i
      have hdr_i := drop_get he_i
      refine awp_seq ?_
      refine awp_if true rfl (fun _ => ?_) (fun e => by cases e)
      refine awp_skip ?_
      refine awp_seq ?_
      refine awp_block ?_
      refine awp_seq ?_
      refine awp_ops ?_
      refine vopsL_idx hx_i rfl rfl rfl (by decide) rfl rfl rfl rfl (by decide) ?_
      refine vopsL_take 3 rfl ?_
      refine awp_ops ?_
      refine vopsL_take 3 rfl ?_
      refine vopsL_call rfl rfl rfl (cstatsC f.body n 20000 (by omega) (by omega) (by omega)) ?_
      rintro r G1 ⟨n', rfl, rfl, hn'⟩
      refine awp_run rfl ?_
      rw [wrap64 (x := (i : Int) + 1) (by omega)]
      refine ⟨{ ts := [(1, .ptr (.l 1) 0), (3, .ptr (.g 0) 0), (12, .p (.vec (m.funcs.map F.row))), (13, .p (j64 ((m.funcs.map F.row).length))), (14, .p (j64 (i + 1 : Nat)))], L := [(1, [.p (.str m.pkg), .p (.vec (m.funcs.map F.row)), .p (.vec (m.datas.map D.row))])], G := [ctr n' 20000] }, (weakK _ 5).trans (weakL _ ⟨rfl, rfl, rfl, rfl, rfl, trivial⟩ rfl rfl), m.funcs.length - (i + 1), by omega, i + 1, n', rfl, by omega, rfl, ?_⟩
      rw [sumBy_take_succ he_i]
      exact hI0.seq hn'
  · rintro s ⟨n, rfl, hX0⟩
    refine awp_seq ?_
    refine awp_run rfl ?_
    refine awp_seq ?_
    refine awp_seq ?_
    refine awp_run rfl ?_
    refine awp_weak (s' := { ts := [(3, .ptr (.g 0) 0), (6, .p (j64 0)), (24, .p (.vec (m.datas.map D.row))), (25, .p (j64 ((m.datas.map D.row).length))), (26, .p (j64 0))], L := [], G := [ctr n 20000] }) ((weakK _ 1).trans (weakL _ ⟨rfl, rfl, rfl, rfl, rfl, trivial⟩ rfl rfl)) ?_
    refine awp_len (t := 24) rfl fun hlj => ?_
    rw [map_len] at hlj
    refine awp_forA (fun mm s => ∃ (j : Nat) (w : Int), s = { ts := [(3, .ptr (.g 0) 0), (6, .p (j64 w)), (24, .p (.vec (m.datas.map D.row))), (25, .p (j64 ((m.datas.map D.row).length))), (26, .p (j64 j))], L := [], G := [ctr n 20000] } ∧ j ≤ m.datas.length ∧ mm = m.datas.length - j ∧ w = (sumBy (fun d : D => d.words.length) (m.datas.take j) : Nat) ∧ w ≤ 16384)
      (fun s => s = { ts := [(3, .ptr (.g 0) 0)], L := [], G := [ctr n 20000] } ∧ (m.words : Int) ≤ 16384) m.datas.length ⟨0, 0, rfl, by omega, by omega, by simp [sumBy], by omega⟩ ?_ ?_
    · rintro mm s ⟨j, w, rfl, hi_j, rfl, hJ0, hJ1⟩
      refine awp_seq ?_
      refine awp_ops ?_
      refine vopsL_cmp rfl rfl rfl (by decide) rfl fun b hb27 => ?_
      cases b with
      | false =>
        have hge_j := ge_eq (map_len D.row m.datas) hi_j hb27
        refine awp_seq ?_
        refine awp_if false rfl (fun e => by cases e) fun _ => ?_
        refine awp_exit ?_
        refine ⟨{ ts := [(3, .ptr (.g 0) 0)], L := [], G := [ctr n 20000] }, weakL _ ⟨rfl, trivial⟩ rfl rfl, rfl, ?_⟩
        subst hge_j
        simp only [M.words]
        simpa [hJ0] using hJ1
      | true =>
        obtain ⟨d, he_j, hlt_j⟩ := lt_get (map_len D.row m.datas) hb27
        have hx_j := map_get (f := D.row) he_j
        have hdr_j := drop_get he_j
        have hsl := hs d (List.mem_of_getElem? he_j)
        have htk := sumBy_take_succ (f := fun d : D => d.words.length) he_j
        have hlw := map_len wordRow d.words
        refine awp_seq ?_
        refine awp_if true rfl (fun _ => ?_) (fun e => by cases e)
        refine awp_skip ?_
        refine awp_seq ?_
        refine awp_block ?_
        refine awp_seq ?_
        refine awp_ops ?_
        refine vopsL_idx hx_j rfl rfl rfl (by decide) rfl rfl rfl rfl (by decide) ?_
        refine vopsL_take 3 rfl ?_
        refine awp_seq ?_
        refine awp_run rfl ?_
        rw [wrap64 (x := w + ((d.words.map wordRow).length)) (by omega)]
        refine awp_seq ?_
        refine awp_ops ?_
        refine vopsL_take 1 rfl ?_
        refine vopsL_cmp rfl rfl rfl (by decide) rfl fun b hb36 => ?_
        cases b with
        | false =>
          refine awp_if false rfl (fun e => by cases e) fun _ => ?_
          refine awp_skip ?_
          refine awp_run rfl ?_
          rw [wrap64 (x := (j : Int) + 1) (by omega)]
          refine ⟨{ ts := [(3, .ptr (.g 0) 0), (6, .p (j64 (w + ((d.words.map wordRow).length : Int)))), (24, .p (.vec (m.datas.map D.row))), (25, .p (j64 ((m.datas.map D.row).length))), (26, .p (j64 (j + 1 : Nat)))], L := [], G := [ctr n 20000] }, (weakK _ 8).trans (weakL _ ⟨rfl, rfl, rfl, rfl, rfl, trivial⟩ rfl rfl), m.datas.length - (j + 1), by omega, j + 1, w + ((d.words.map wordRow).length : Int), rfl, by omega, rfl, ?_, ?_⟩
          rw [htk, hJ0]; simp
          simpa using hb36
        | true =>
          refine awp_if true rfl (fun _ => ?_) (fun e => by cases e)
          refine awp_seq ?_
          refine awp_run rfl ?_
          refine awp_ret ?_
          refine q_block (q_ret (q_for (q_ret ?_)))
          exact leave_ret rfl rfl ⟨congrArg (fun b => AEnd.ret (.p (.bool b))) (by simp [largeOk]; have := sumBy_take_le (fun d : D => d.words.length) m.datas (j + 1); rw [htk] at this; simp at hb36; simp only [M.words]; omega), rfl⟩
    · rintro s ⟨rfl, hY0⟩
      refine awp_seq ?_
      refine awp_ops ?_
      refine vopsL_take 4 rfl ?_
      refine vopsL_cmp rfl rfl rfl (by decide) rfl fun b hb42 => ?_
      cases b with
      | false =>
        refine vopsL_take 1 rfl ?_
        refine awp_ret ?_
        refine leave_ret rfl rfl ⟨congrArg (fun b => AEnd.ret (.p (.bool b))) ?_, rfl⟩
        obtain ⟨c1, c2, c3, c4⟩ := hX0
        simp only [largeOk, hY0]
        rw [show (decide (16384 < m.words)) = false by simp; omega, Bool.or_false]
        simp only [M.parts]
        simp at hb42; exact (decide_eq_false (by omega)).symm
      | true =>
        refine vopsL_take 1 rfl ?_
        refine awp_ret ?_
        refine leave_ret rfl rfl ⟨congrArg (fun b => AEnd.ret (.p (.bool b))) ?_, rfl⟩
        obtain ⟨c1, c2, c3, c4⟩ := hX0
        simp only [largeOk, hY0]
        rw [show (decide (16384 < m.words)) = false by simp; omega, Bool.or_false]
        simp only [M.parts]
        simp at hb42; exact (decide_eq_true (by omega)).symm

theorem c_large (m : M) (hs : m.slim) (G : List Blk) : FnIs Try.prog 32 [.agg m.cells] G (.p (.bool (largeOk m))) := fn_lift (c_large0 m hs) G rfl rfl rfl

def uniq {α : Type} (nm : α → ByteArray) (ok : α → Bool) : List ByteArray → List α → Bool
  | _, [] => true
  | seen, x :: r => decide (nm x ∉ seen) && ok x && uniq nm ok (seen ++ [nm x]) r

def validOk (m : M) : Int := if largeOk m then 12 else if uniq F.name funcOk [] m.funcs && uniq D.name dataOk [] m.datas then 0 else 4

theorem c_valid0 (m : M) (hs : m.slim) : FnIs Try.prog 14 [.agg m.cells] [] (.p (j64 (validOk m))) := by
  refine acalls_fn (cfg 58) Try.func14 rfl rfl rfl (by simp) fun hG => ?_
  refine awp_seq ?_
  refine awp_run rfl ?_
  refine awp_seq ?_
  refine awp_seq ?_
  refine awp_ops ?_
  refine vopsL_take 1 rfl ?_
  refine vopsL_fn rfl rfl rfl (c_large m hs _) ?_
  cases hb9 : largeOk m with
  | false =>
    refine awp_if false rfl (fun e => by cases e) fun _ => ?_
    refine awp_skip ?_
    refine awp_seq ?_
    refine awp_run rfl ?_
    refine awp_seq ?_
    refine awp_seq ?_
    refine awp_run rfl ?_
    refine awp_weak (s' := { ts := [(1, .ptr (.l 1) 0), (3, .map 0), (12, .p (.vec (m.funcs.map F.row))), (13, .p (j64 ((m.funcs.map F.row).length))), (14, .p (j64 0))], L := [(1, [.p (.str m.pkg), .p (.vec (m.funcs.map F.row)), .p (.vec (m.datas.map D.row))])], G := [.map (entsFrom PV.str (.p (j64 1)) 0 ((m.funcs.take 0).map F.name)) 0] }) (weakL _ ⟨rfl, rfl, rfl, rfl, rfl, trivial⟩ rfl rfl) ?_
    refine awp_len (t := 12) rfl fun hle => ?_
    rw [map_len] at hle
    refine awp_forA (fun mm s => ∃ (i : Nat) , s = { ts := [(1, .ptr (.l 1) 0), (3, .map 0), (12, .p (.vec (m.funcs.map F.row))), (13, .p (j64 ((m.funcs.map F.row).length))), (14, .p (j64 i))], L := [(1, [.p (.str m.pkg), .p (.vec (m.funcs.map F.row)), .p (.vec (m.datas.map D.row))])], G := [.map (entsFrom PV.str (.p (j64 1)) 0 ((m.funcs.take i).map F.name)) i] } ∧ i ≤ m.funcs.length ∧ mm = m.funcs.length - i ∧ uniq F.name funcOk [] m.funcs = uniq F.name funcOk ((m.funcs.take i).map F.name) (m.funcs.drop i))
      (fun s => ∃ (es : List (PV × AV × Nat)) (cl : Nat), s = { ts := [(1, .ptr (.l 1) 0), (3, .map 0)], L := [(1, [.p (.str m.pkg), .p (.vec (m.funcs.map F.row)), .p (.vec (m.datas.map D.row))])], G := [.map es cl] } ∧ uniq F.name funcOk [] m.funcs = true) m.funcs.length ⟨0, rfl, by omega, by omega, by simp⟩ ?_ ?_
    · rintro mm s ⟨i, rfl, hi_i, rfl, hI0⟩
      refine awp_seq ?_
      refine awp_ops ?_
      refine vopsL_cmp rfl rfl rfl (by decide) rfl fun b hb15 => ?_
      cases b with
      | false =>
        have hge_i := ge_eq (map_len F.row m.funcs) hi_i hb15
        refine awp_seq ?_
        refine awp_if false rfl (fun e => by cases e) fun _ => ?_
        refine awp_exit ?_
        refine ⟨{ ts := [(1, .ptr (.l 1) 0), (3, .map 0)], L := [(1, [.p (.str m.pkg), .p (.vec (m.funcs.map F.row)), .p (.vec (m.datas.map D.row))])], G := [.map _ _] }, weakL _ ⟨rfl, rfl, trivial⟩ rfl rfl, _, _, rfl, ?_⟩
        subst hge_i
        simpa [uniq] using hI0
      | true =>
        obtain ⟨f, he_i, hlt_i⟩ := lt_get (map_len F.row m.funcs) hb15
        have hx_i := map_get (f := F.row) he_i
        have hdr_i := drop_get he_i
        refine awp_seq ?_
        refine awp_if true rfl (fun _ => ?_) (fun e => by cases e)
        refine awp_skip ?_
        refine awp_seq ?_
        refine awp_block ?_
        refine awp_seq ?_
        refine awp_ops ?_
        refine vopsL_idx hx_i rfl rfl rfl (by decide) rfl rfl rfl rfl (by decide) ?_
        refine vopsL_take 3 rfl ?_
        refine awp_seq ?_
        refine awp_ops ?_
        refine vopsL_take 3 rfl ?_
        by_cases hin_i : f.name ∈ (m.funcs.take i).map F.name
        · refine vopsL_look (afind_in keyF_str hin_i) rfl rfl rfl (by decide) rfl rfl rfl rfl rfl ?_
          refine vopsL_take 1 rfl ?_
          obtain ⟨es1, hes1, hfi1⟩ := aput_old keyF_str (u := .p (j64 2)) (v := .p (j64 1)) (n := 0) (c := i) hin_i
          refine vopsL_upd hes1 rfl rfl rfl rfl rfl rfl rfl rfl rfl rfl ?_
          refine awp_seq ?_
          refine awp_ops ?_
          refine vopsL_take 3 rfl ?_
          refine vopsL_look hfi1 rfl rfl rfl (by decide) rfl rfl rfl rfl rfl ?_
          refine vopsL_take 6 rfl ?_
          refine awp_if true rfl (fun _ => ?_) (fun e => by cases e)
          refine awp_seq ?_
          refine awp_run rfl ?_
          refine awp_ret ?_
          refine q_block (q_ret (q_for (q_ret ?_)))
          exact leave_ret rfl rfl ⟨congrArg (fun n => AEnd.ret (.p (j64 n))) (by simp [validOk, uniq, -List.map_take, hI0, hdr_i, hb9, hin_i]), rfl⟩
        · refine vopsL_miss (afind_out keyF_str hin_i) rfl rfl rfl (by decide) rfl rfl rfl rfl rfl rfl ?_
          refine vopsL_take 1 rfl ?_
          refine vopsL_upd (aput_new keyF_str hin_i (by simp; omega)) rfl rfl rfl rfl rfl rfl rfl rfl rfl rfl ?_
          refine awp_seq ?_
          refine awp_ops ?_
          refine vopsL_take 3 rfl ?_
          refine vopsL_look (afind_in keyF_str (by simp)) rfl rfl rfl (by decide) rfl rfl rfl rfl rfl ?_
          refine vopsL_take 3 rfl ?_
          refine vopsL_fnG rfl rfl rfl rfl (c_function f _) ?_
          cases hb30 : funcOk f with
          | false =>
            refine vopsL_take 2 rfl ?_
            refine awp_if true rfl (fun _ => ?_) (fun e => by cases e)
            refine awp_seq ?_
            refine awp_run rfl ?_
            refine awp_ret ?_
            refine q_block (q_ret (q_for (q_ret ?_)))
            exact leave_ret rfl rfl ⟨congrArg (fun n => AEnd.ret (.p (j64 n))) (by simp [validOk, uniq, -List.map_take, hI0, hdr_i, hb9, hin_i, hb30]), rfl⟩
          | true =>
            refine vopsL_take 2 rfl ?_
            refine awp_if false rfl (fun e => by cases e) fun _ => ?_
            refine awp_skip ?_
            refine awp_run rfl ?_
            rw [wrap64 (x := (i : Int) + 1) (by omega)]
            have htk : (m.funcs.take (i + 1)).map F.name = (m.funcs.take i).map F.name ++ [f.name] := by rw [take_succ he_i]; simp
            rw [← htk]
            refine ⟨{ ts := [(1, .ptr (.l 1) 0), (3, .map 0), (12, .p (.vec (m.funcs.map F.row))), (13, .p (j64 ((m.funcs.map F.row).length))), (14, .p (j64 (i + 1 : Nat)))], L := [(1, [.p (.str m.pkg), .p (.vec (m.funcs.map F.row)), .p (.vec (m.datas.map D.row))])], G := [.map (entsFrom PV.str (.p (j64 1)) 0 ((m.funcs.take (i + 1 : Nat)).map F.name)) (i + 1 : Nat)] }, (weakK _ 5).trans (weakL _ ⟨rfl, rfl, rfl, rfl, rfl, trivial⟩ rfl rfl), m.funcs.length - (i + 1), by omega, i + 1, rfl, by omega, rfl, ?_⟩
            rw [hI0, hdr_i, htk]; simp [uniq, -List.map_take, hb9, hin_i, hb30]
    · rintro s ⟨es, cl, rfl, hX0⟩
      refine awp_seq ?_
      refine awp_run rfl ?_
      refine awp_seq ?_
      refine awp_seq ?_
      refine awp_run rfl ?_
      refine awp_weak (s' := { ts := [(3, .map 0), (36, .p (.vec (m.datas.map D.row))), (37, .p (j64 ((m.datas.map D.row).length))), (38, .p (j64 0))], L := [], G := [.map (entsFrom PV.str (.p (j64 1)) cl ((m.datas.take 0).map D.name)) (cl + 0)] }) ((weakK _ 1).trans (weakL _ ⟨rfl, rfl, rfl, rfl, trivial⟩ rfl rfl)) ?_
      refine awp_len (t := 36) rfl fun hle => ?_
      rw [map_len] at hle
      refine awp_forA (fun mm s => ∃ (j : Nat) , s = { ts := [(3, .map 0), (36, .p (.vec (m.datas.map D.row))), (37, .p (j64 ((m.datas.map D.row).length))), (38, .p (j64 j))], L := [], G := [.map (entsFrom PV.str (.p (j64 1)) cl ((m.datas.take j).map D.name)) (cl + j)] } ∧ j ≤ m.datas.length ∧ mm = m.datas.length - j ∧ uniq D.name dataOk [] m.datas = uniq D.name dataOk ((m.datas.take j).map D.name) (m.datas.drop j))
        (fun s => ∃ (es : List (PV × AV × Nat)) (cl : Nat), s = { ts := [], L := [], G := [.map es cl] } ∧ uniq D.name dataOk [] m.datas = true) m.datas.length ⟨0, rfl, by omega, by omega, by simp⟩ ?_ ?_
      · rintro mm s ⟨j, rfl, hi_j, rfl, hJ0⟩
        refine awp_seq ?_
        refine awp_ops ?_
        refine vopsL_cmp rfl rfl rfl (by decide) rfl fun b hb39 => ?_
        cases b with
        | false =>
          have hge_j := ge_eq (map_len D.row m.datas) hi_j hb39
          refine awp_seq ?_
          refine awp_if false rfl (fun e => by cases e) fun _ => ?_
          refine awp_exit ?_
          refine ⟨{ ts := [], L := [], G := [.map _ _] }, weakL _ trivial rfl rfl, _, _, rfl, ?_⟩
          subst hge_j
          simpa [uniq] using hJ0
        | true =>
          obtain ⟨d, he_j, hlt_j⟩ := lt_get (map_len D.row m.datas) hb39
          have hx_j := map_get (f := D.row) he_j
          have hdr_j := drop_get he_j
          refine awp_seq ?_
          refine awp_if true rfl (fun _ => ?_) (fun e => by cases e)
          refine awp_skip ?_
          refine awp_seq ?_
          refine awp_block ?_
          refine awp_seq ?_
          refine awp_ops ?_
          refine vopsL_idx hx_j rfl rfl rfl (by decide) rfl rfl rfl rfl (by decide) ?_
          refine vopsL_take 3 rfl ?_
          refine awp_seq ?_
          refine awp_ops ?_
          refine vopsL_take 3 rfl ?_
          by_cases hin_j : d.name ∈ (m.datas.take j).map D.name
          · refine vopsL_look (afind_in keyF_str hin_j) rfl rfl rfl (by decide) rfl rfl rfl rfl rfl ?_
            refine vopsL_take 1 rfl ?_
            obtain ⟨es1, hes1, hfi1⟩ := aput_old keyF_str (u := .p (j64 2)) (v := .p (j64 1)) (n := cl) (c := (cl + j)) hin_j
            refine vopsL_upd hes1 rfl rfl rfl rfl rfl rfl rfl rfl rfl rfl ?_
            refine awp_seq ?_
            refine awp_ops ?_
            refine vopsL_take 3 rfl ?_
            refine vopsL_look hfi1 rfl rfl rfl (by decide) rfl rfl rfl rfl rfl ?_
            refine vopsL_take 6 rfl ?_
            refine awp_if true rfl (fun _ => ?_) (fun e => by cases e)
            refine awp_seq ?_
            refine awp_run rfl ?_
            refine awp_ret ?_
            refine q_block (q_ret (q_for (q_ret ?_)))
            exact leave_ret rfl rfl ⟨congrArg (fun n => AEnd.ret (.p (j64 n))) (by simp [validOk, uniq, -List.map_take, hJ0, hdr_j, hb9, hX0, hin_j]), rfl⟩
          · refine vopsL_miss (afind_out keyF_str hin_j) rfl rfl rfl (by decide) rfl rfl rfl rfl rfl rfl ?_
            refine vopsL_take 1 rfl ?_
            refine vopsL_upd (aput_new keyF_str hin_j (by simp; omega)) rfl rfl rfl rfl rfl rfl rfl rfl rfl rfl ?_
            refine awp_seq ?_
            refine awp_ops ?_
            refine vopsL_take 3 rfl ?_
            refine vopsL_look (afind_in keyF_str (by simp)) rfl rfl rfl (by decide) rfl rfl rfl rfl rfl ?_
            refine vopsL_take 3 rfl ?_
            refine vopsL_fnG rfl rfl rfl rfl (c_twords d _) ?_
            cases hb54 : dataOk d with
            | false =>
              refine vopsL_take 2 rfl ?_
              refine awp_if true rfl (fun _ => ?_) (fun e => by cases e)
              refine awp_seq ?_
              refine awp_run rfl ?_
              refine awp_ret ?_
              refine q_block (q_ret (q_for (q_ret ?_)))
              exact leave_ret rfl rfl ⟨congrArg (fun n => AEnd.ret (.p (j64 n))) (by simp [validOk, uniq, -List.map_take, hJ0, hdr_j, hb9, hX0, hin_j, hb54]), rfl⟩
            | true =>
              refine vopsL_take 2 rfl ?_
              refine awp_if false rfl (fun e => by cases e) fun _ => ?_
              refine awp_skip ?_
              refine awp_run rfl ?_
              rw [wrap64 (x := (j : Int) + 1) (by omega)]
              have htk : (m.datas.take (j + 1)).map D.name = (m.datas.take j).map D.name ++ [d.name] := by rw [take_succ he_j]; simp
              rw [← htk]
              refine ⟨{ ts := [(3, .map 0), (36, .p (.vec (m.datas.map D.row))), (37, .p (j64 ((m.datas.map D.row).length))), (38, .p (j64 (j + 1 : Nat)))], L := [], G := [.map (entsFrom PV.str (.p (j64 1)) cl ((m.datas.take (j + 1 : Nat)).map D.name)) (cl + (j + 1 : Nat))] }, (weakK _ 7).trans (weakL _ ⟨rfl, rfl, rfl, rfl, trivial⟩ rfl rfl), m.datas.length - (j + 1), by omega, j + 1, rfl, by omega, rfl, ?_⟩
              rw [hJ0, hdr_j, htk]; simp [uniq, -List.map_take, hb9, hin_j, hb54]
      · rintro s ⟨es, cl, rfl, hY0⟩
        refine awp_seq ?_
        refine awp_run rfl ?_
        refine awp_ret ?_
        exact leave_ret rfl rfl ⟨congrArg (fun n => AEnd.ret (.p (j64 n))) (by simp [validOk, uniq, -List.map_take, hb9, hX0, hY0]), rfl⟩
  | true =>
    refine awp_if true rfl (fun _ => ?_) (fun e => by cases e)
    refine awp_seq ?_
    refine awp_run rfl ?_
    refine awp_ret ?_
    refine q_ret ?_
    exact leave_ret rfl rfl ⟨congrArg (fun n => AEnd.ret (.p (j64 n))) (by simp [validOk, uniq, -List.map_take, hb9]), rfl⟩

theorem c_valid (m : M) (hs : m.slim) (G : List Blk) : FnIs Try.prog 14 [.agg m.cells] G (.p (j64 (validOk m))) := fn_lift (c_valid0 m hs) G rfl rfl rfl
end Go.Proofs.Ytnicgdfnfnchjaa

