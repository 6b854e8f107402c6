/-
  Tokens that go from a slot to a cell and back: 'r.out = append(r.out, x)'.
-/
import Derived.Test.YtnicgdfnfnchjaaB3
set_option linter.unusedVariables false
namespace Go.Abs

def tok2 (t1 t2 t : Tok) : Bool := t == t1 || t == t2

/-- The token t1 of a value becomes t2; other values lose both. -/
def rtokV (t1 t2 : Tok) : AV → AV
  | .own rows k => if k = t1 then .own rows t2 else if k = t2 then .p (.vec rows) else .own rows k
  | v => v.dis (tok2 t1 t2)

/-- The cell of which the token is no longer may append. -/
def St.plainC (s : St) : Tok → St
  | .c k off => match s.look k with
    | some (.cells cs) => match cs[off]? with
      | some x => s.setBlk k (cs.set off (x.dis (fun t => t == .c k off)))
      | none => s
    | _ => s
  | _ => s

/-- The token t1 becomes t2. -/
def St.rtok (t1 t2 : Tok) (s : St) : St := { ts := s.ts.map fun x => (x.1, rtokV t1 t2 x.2), L := ((s.plainC t1).plainC t2).L, G := ((s.plainC t1).plainC t2).G }

def Sg.rtok (t1 t2 : Tok) (σ : Sg) : Sg := { σ with tok := fun t => if t = t2 then σ.tok t1 else if t = t1 then none else σ.tok t }

section
variable {P : Program} {σ : Sg} {s : St} {nt : Nat} {a : Act} {w : World}

mutual
theorem chk_dis {f : Key → Bool} {g g' : Tok → Bool} : ∀ v : AV, v.chk f g = true → (v.dis g').chk f (fun t => g t && !g' t) = true
  | .own rows k, h => by
    simp only [AV.dis]
    split
    · rfl
    · rename_i hk; simp only [AV.chk] at h ⊢; simp [h, hk]
  | .fn g a b, h => by simp only [AV.dis, AV.chk, Bool.and_eq_true] at *; exact ⟨chks_dis a h.1, chks_dis b h.2⟩
  | .iface t v, h => by simp only [AV.dis, AV.chk] at *; exact chk_dis v h
  | .agg l, h => by simp only [AV.dis, AV.chk] at *; exact chks_dis l h
  | .tuple l, h => by simp only [AV.dis, AV.chk] at *; exact chks_dis l h
  | .p v, h => rfl
  | .full rows, h => rfl
  | .ptr k o, h => h
  | .ref k a b c, h => h
  | .rop r, h => rfl
  | .map id, h => h
  | .undef, h => rfl
theorem chks_dis {f : Key → Bool} {g g' : Tok → Bool} : ∀ l : List AV, AV.chks f g l = true → AV.chks f (fun t => g t && !g' t) (AV.diss g' l) = true
  | [], _ => rfl
  | x :: r, h => by simp only [AV.diss, AV.chks, Bool.and_eq_true] at *; exact ⟨chk_dis x h.1, chks_dis r h.2⟩
end

mutual
theorem chk_and {f f' : Key → Bool} {g g' : Tok → Bool} : ∀ v : AV, v.chk f g = true → v.chk f' g' = true → v.chk (fun k => f k && f' k) (fun t => g t && g' t) = true
  | .full rows, h, h' => rfl
  | .own rows k, h, h' => by simp only [AV.chk] at *; simp [h, h']
  | .fn q a b, h, h' => by simp only [AV.chk, Bool.and_eq_true] at *; exact ⟨chks_and a h.1 h'.1, chks_and b h.2 h'.2⟩
  | .iface t v, h, h' => by simp only [AV.chk] at *; exact chk_and v h h'
  | .agg l, h, h' => by simp only [AV.chk] at *; exact chks_and l h h'
  | .tuple l, h, h' => by simp only [AV.chk] at *; exact chks_and l h h'
  | .p v, h, h' => rfl
  | .ptr k o, h, h' => by simp only [AV.chk] at *; simp [h, h']
  | .ref k a b c, h, h' => by simp only [AV.chk] at *; simp [h, h']
  | .rop r, h, h' => rfl
  | .map id, h, h' => by simp only [AV.chk] at *; simp [h, h']
  | .undef, h, h' => rfl
theorem chks_and {f f' : Key → Bool} {g g' : Tok → Bool} : ∀ l : List AV, AV.chks f g l = true → AV.chks f' g' l = true → AV.chks (fun k => f k && f' k) (fun t => g t && g' t) l = true
  | [], _, _ => rfl
  | x :: r, h, h' => by simp only [AV.chks, Bool.and_eq_true] at *; exact ⟨chk_and x h.1 h'.1, chks_and r h.2 h'.2⟩
end

/-- A cell is told less of. -/
theorem RelS.lessCell (hr : RelS σ s nt a w) {k : Key} {cs : List AV} (hl : s.look k = some (.cells cs)) {off : Nat} {x y : AV} (hx : cs[off]? = some x) (hxy : ∀ z, Rel σ x z → Rel σ y z) (hc : y.chk (keyf k) (fun t => t == .c k off) = true) : RelS σ (s.setBlk k (cs.set off y)) nt a w := by
  refine ⟨hr.sz, hr.df, ?_, fun k' blk h => ?_, fun k' blk h => ?_, fun id h => ?_, fun t h => ?_, hr.wf⟩
  · cases k <;> exact hr.vals
  · by_cases hk : k' = k
    · subst hk
      rw [St.look_setBlk _ _ _ _ hl] at h
      simp only [Option.some.injEq] at h; subst h
      obtain ⟨b, hb, c, T, h1, h2, h3⟩ := hr.blks _ _ hl
      refine ⟨b, hb, c, T, h1, by simpa using h2, fun j z hj => ?_⟩
      rw [List.getElem?_set] at hj
      split at hj
      · rename_i e
        subst e
        split at hj
        · simp only [Option.some.injEq] at hj; subst hj; exact hxy _ (h3 _ _ hx)
        · simp at hj
      · exact h3 j z hj
    · rw [St.look_setBlk_ne _ _ _ _ hk] at h
      exact hr.blks _ _ h
  · by_cases hk : k' = k
    · subst hk
      rw [St.look_setBlk _ _ _ _ hl] at h
      simp only [Option.some.injEq] at h; subst h
      exact (hr.cinv _ _ hl).set hc
    · rw [St.look_setBlk_ne _ _ _ _ hk] at h
      exact hr.cinv _ _ h
  · cases k with
    | g id' => exact hr.gfree _ (by simpa [St.setBlk] using h)
    | l t => exact hr.gfree _ h
  · cases k with
    | g id' => exact hr.lfree _ h
    | l t' =>
      simp only [St.setBlk, get_upd] at h
      split at h
      · simp at h
      · exact hr.lfree _ h

theorem RelS.plainC (hr : RelS σ s nt a w) (t : Tok) : RelS σ (s.plainC t) nt a w := by
  unfold St.plainC
  split
  · rename_i k off
    split
    · rename_i cs hl
      split
      · rename_i x hx
        exact hr.lessCell hl hx (fun z h => h.dis _) (chk_imp (fun _ h => h) (fun t h => by simp at h) _ (chk_dis (g' := fun t => t == .c k off) x (hr.cinv _ _ hl off x hx)))
      · exact hr
    · exact hr
  · exact hr

/-- Which cells may name which tokens. -/
def noTok (t : Tok) (s : St) : Prop := ∀ (k : Key) (cs : List AV) (j : Nat) (x : AV), s.look k = some (.cells cs) → cs[j]? = some x → x.chk (fun _ => true) (fun t' => !(t' == t)) = true

theorem plainC_noTok (hr : RelS σ s nt a w) (t : Tok) : noTok t (s.plainC t) := by
  intro k cs j x hl hx
  have base : ∀ {cs0 : List AV} {x0 : AV}, s.look k = some (.cells cs0) → cs0[j]? = some x0 → t ≠ .c k j → x0.chk (fun _ => true) (fun t' => !(t' == t)) = true := fun h1 h2 hne =>
    chk_imp (fun _ _ => rfl) (fun t' h => by
      have : t' = .c k j := by simpa using h
      subst this
      have : (Tok.c k j == t) = false := by simpa using fun e => hne e.symm
      simp [this]) _ (hr.cinv _ _ h1 j _ h2)
  unfold St.plainC at hl
  split at hl
  · rename_i k' off
    split at hl
    · rename_i cs' hl'
      split at hl
      · rename_i y hy
        by_cases hk : k = k'
        · subst hk
          rw [St.look_setBlk _ _ _ _ hl'] at hl
          simp only [Option.some.injEq, Blk.cells.injEq] at hl; subst hl
          rw [List.getElem?_set] at hx
          split at hx
          · rename_i e
            subst e
            split at hx
            · simp only [Option.some.injEq] at hx; subst hx; exact AV.dis_chk _ y
            · simp at hx
          · rename_i e
            exact base hl' hx (fun e' => e (by cases e'; rfl))
        · rw [St.look_setBlk_ne _ _ _ _ hk] at hl
          exact base hl hx (fun e => hk (by cases e; rfl))
      · rename_i hn
        refine base hl hx (fun e => ?_)
        cases e
        rw [hl] at hl'
        simp only [Option.some.injEq, Blk.cells.injEq] at hl'; subst hl'
        rw [hx] at hn; simp at hn
    · rename_i hn
      refine base hl hx (fun e => ?_)
      cases e
      exact hn _ hl
  · rename_i hn
    exact base hl hx (fun e => hn _ _ e)

theorem noTok_plainC {t t' : Tok} (h : noTok t s) : noTok t (s.plainC t') := by
  intro k cs j x hl hx
  unfold St.plainC at hl
  split at hl
  · rename_i k' off
    split at hl
    · rename_i cs' hl'
      split at hl
      · rename_i y hy
        by_cases hk : k = k'
        · subst hk
          rw [St.look_setBlk _ _ _ _ hl'] at hl
          simp only [Option.some.injEq, Blk.cells.injEq] at hl; subst hl
          rw [List.getElem?_set] at hx
          split at hx
          · rename_i e
            subst e
            split at hx
            · simp only [Option.some.injEq] at hx; subst hx
              exact chk_imp (fun _ h => h) (fun t h => by simp only [Bool.and_eq_true] at h; exact h.1) _ (chk_dis (g' := fun t => t == .c k off) y (h k cs' off y hl' hy))
            · simp at hx
          · exact h k cs' j x hl' hx
        · rw [St.look_setBlk_ne _ _ _ _ hk] at hl
          exact h k cs j x hl hx
      · exact h k cs j x hl hx
    · exact h k cs j x hl hx
  · exact h k cs j x hl hx

theorem rtokV_rel {t1 t2 : Tok} (hne : t1 ≠ t2) (h2n : t2 ≠ .n) {v : AV} {x : Value} (h : Rel σ v x) : Rel (σ.rtok t1 t2) (rtokV t1 t2 v) x := by
  have other : Rel (σ.rtok t1 t2) (v.dis (tok2 t1 t2)) x :=
    Rel.keep (σ := σ) (σ' := σ.rtok t1 t2) (fun _ _ _ h => h) (fun _ _ _ h => h) (fun t y ht h => by
      simp only [tok2, Bool.not_eq_true', Bool.or_eq_false_iff, beq_eq_false_iff_ne] at ht
      simp [Sg.rtok, ht.1, ht.2, h]) (h.dis _) (AV.dis_chk _ v)
  cases v with
  | own rows k =>
    cases h with | own hv ho =>
    simp only [rtokV]
    split
    · rename_i e
      subst e
      refine .own hv (ho.imp id ?_)
      rintro ⟨b, o, sz, l, q0, q1, q2, q3, q4, q5⟩
      exact ⟨b, o, sz, l, h2n, q1, q2, q3, by simp [Sg.rtok, q4], q5⟩
    · rename_i e1
      split
      · exact .p hv
      · rename_i e2
        refine .own hv (ho.imp id ?_)
        rintro ⟨b, o, sz, l, q0, q1, q2, q3, q4, q5⟩
        exact ⟨b, o, sz, l, q0, q1, q2, q3, by simp [Sg.rtok, e1, e2, q4], q5⟩
  | _ => exact other

theorem rtok_tok {t1 t2 : Tok} (hne : t1 ≠ t2) {t : Tok} {x} (h : (σ.rtok t1 t2).tok t = some x) : ∃ t', σ.tok t' = some x ∧ t' ≠ t2 ∧ (t' = t1 ↔ t = t2) ∧ (t' ≠ t1 → t' = t) := by
  simp only [Sg.rtok] at h
  split at h
  · rename_i e; exact ⟨t1, h, hne, by simp [e], by simp⟩
  · rename_i e1
    split at h
    · simp at h
    · rename_i e2; exact ⟨t, h, e1, by simp [e1, e2], by simp⟩

/-- A token goes from one to the other. -/
theorem RelS.rtok (hr : RelS σ s nt a w) {t1 t2 : Tok} (hne : t1 ≠ t2) (h2n : t2 ≠ .n) : RelS (σ.rtok t1 t2) (s.rtok t1 t2) nt a w ∧ Post σ (σ.rtok t1 t2) w w := by
  -- cells first
  have hP := (hr.plainC t1).plainC t2
  have hN1 : noTok t1 ((s.plainC t1).plainC t2) := noTok_plainC (plainC_noTok hr t1)
  have hN2 : noTok t2 ((s.plainC t1).plainC t2) := plainC_noTok (hr.plainC t1) t2
  have hwf : WFS (σ.rtok t1 t2) w := by
    refine ⟨hr.wf.inj, fun k t b e l h1 h2 => ?_, fun t t' b e l e' l' h1 h2 => ?_, hr.wf.lt, fun t b e l h => ?_, hr.wf.blkI, hr.wf.imm⟩
    · obtain ⟨t', q, _⟩ := rtok_tok hne h2; exact hr.wf.injt _ _ _ _ _ h1 q
    · obtain ⟨u, q1, q2, q3, q4⟩ := rtok_tok hne h1
      obtain ⟨u', r1, r2, r3, r4⟩ := rtok_tok hne h2
      have := hr.wf.injtt _ _ _ _ _ _ _ q1 r1
      subst this
      by_cases hu : u = t1
      · rw [q3.1 hu, r3.1 hu]
      · rw [← q4 hu, ← r4 hu]
    · obtain ⟨t', q, _⟩ := rtok_tok hne h; exact hr.wf.tokw _ _ _ _ q
  refine ⟨?_, ⟨fun _ _ _ h => h, fun _ _ _ h => .inl h, fun b hb => ?_, fun _ _ h => h, fun _ _ _ => rfl, Nat.le_refl _, rfl, rfl, rfl, rfl, fun _ => rfl⟩⟩
  · refine ⟨hr.sz, hr.df, fun t x h => ?_, fun k blk h => ?_, fun k blk h => ?_, hP.gfree, hP.lfree, hwf⟩
    · simp only [St.rtok, get_map, Option.map_eq_some_iff] at h
      obtain ⟨v, hv, rfl⟩ := h
      obtain ⟨h1, h2⟩ := hr.vals _ _ hv
      exact ⟨h1, rtokV_rel hne h2n h2⟩
    · have h : ((s.plainC t1).plainC t2).look k = some blk := by cases k <;> exact h
      obtain ⟨b, h1, h2⟩ := hP.blks k blk h
      refine ⟨b, h1, ?_⟩
      have keep : ∀ {v : AV} {x : Value}, Rel σ v x → v.chk (fun _ => true) (fun t => !(t == t1)) = true → v.chk (fun _ => true) (fun t => !(t == t2)) = true → Rel (σ.rtok t1 t2) v x := fun h q1 q2 =>
        Rel.keep (σ := σ) (σ' := σ.rtok t1 t2) (f := fun _ => true) (g := fun t => !(t == t1) && !(t == t2)) (fun _ _ _ h => h) (fun _ _ _ h => h) (fun t y ht h => by
          simp only [Bool.and_eq_true, Bool.not_eq_true', beq_eq_false_iff_ne] at ht
          simp [Sg.rtok, ht.1, ht.2, h]) h (chk_imp (fun _ h => rfl) (fun t h => h) _ (chk_and _ q1 q2))
      cases blk with
      | cells cs =>
        obtain ⟨c, T, g1, g2, g3⟩ := h2
        exact ⟨c, T, g1, g2, fun j x hj => keep (g3 j x hj) (hN1 k cs j x h hj) (hN2 k cs j x h hj)⟩
      | map es n =>
        obtain ⟨c, g1, g2, g3⟩ := h2
        have hi := hP.cinv k _ h
        refine ⟨c, g1, g2, fun j q v n hj => ⟨(g3 j q v n hj).1, ?_, (g3 j q v n hj).2.2⟩⟩
        have hv : v.chk (keyf k) (fun _ => false) = true := hi j _ hj
        exact keep (g3 j q v n hj).2.1 (chk_imp (fun _ _ => rfl) (fun t h => by simp at h) _ hv) (chk_imp (fun _ _ => rfl) (fun t h => by simp at h) _ hv)
      | dead => trivial
    · exact hP.cinv k blk (by cases k <;> exact h)
  · rcases hb with ⟨k, hb⟩ | ⟨t, e, l, hb⟩
    · exact .inl (.inl ⟨k, hb⟩)
    · obtain ⟨t', q, _⟩ := rtok_tok hne hb; exact .inl (.inr ⟨t', e, l, q⟩)
end
end Go.Abs
namespace Go.Abs

/-- What is stored may be appended to from the cell. -/
def astoreT (P : Program) (s : St) (t : TypeId) (x : Operand) (xv vv : AV) : Option St :=
  match xv, vv with
  | .ptr k off, .own rows (.s u) => if P.cellsOf t = 1 then match (s.rtok (.s u) (.c k off)).look k, ev (s.rtok (.s u) (.c k off)) x with
      | some (.cells cs), some (.ptr k' off') => if off < cs.length ∧ k' = k ∧ off' = off then some ((s.rtok (.s u) (.c k off)).setBlk k (cs.set off (.own rows (.c k off)))) else none
      | _, _ => none
    else none
  | _, _ => astore P s t xv vv

/-- An append to what a cell may append to. -/
def aappendT (P : Program) (s : St) (d : Nat) (sT xT : TypeId) (bv : AV) (x : Operand) : Option St :=
  match bv with
  | .own rows (.c k off) => match ev (s.rtok (.c k off) (.s d)) x with
    | some xv => match aappend P (s.rtok (.c k off) (.s d)) sT xT (.own rows (.s d)) xv with
      | some r => some (((s.rtok (.c k off) (.s d)).dis (appendTok d r.2)).put (some d) (.own r.1 (.s d)))
      | none => none
    | none => none
  | _ => none

section
variable {P : Program} {σ : Sg} {s : St} {nt : Nat} {a : Act} {w : World}

theorem ev_rtok {t1 t2 : Tok} {x : Operand} {rows : List (List PV)} (h : ev s x = some (.own rows t1)) (h1 : t1 ≠ .n) : ev (s.rtok t1 t2) x = some (.own rows t2) := by
  cases x with
  | tmp t =>
    simp only [ev] at h ⊢
    show get (s.ts.map fun x => (x.1, rtokV t1 t2 x.2)) t = _
    rw [get_map, h]
    simp [rtokV]
  | const v =>
    simp only [ev] at h
    unfold cv at h
    split at h <;> first | (simp at h; done) | skip
    all_goals (simp at h; try exact absurd h.2.symm h1)
  | func f => simp [ev] at h
  | global g => simp [ev] at h

theorem astoreT_does {o : Oper} {t : TypeId} {x v : Operand} (ho : o.op = .store t x v) (hd : o.dst = none) {xv vv : AV} (hx : ev s x = some xv) (hv : ev s v = some vv) {s' : St}
    (h : astoreT P s t x xv vv = some s') : Does P nt s o s' := by
  unfold astoreT at h
  split at h
  · rename_i k off rows u
    split at h
    · rename_i hsz
      split at h
      · rename_i cs k' off' hl hx'
        split at h
        · rename_i hc
          obtain ⟨hc, rfl, rfl⟩ := hc
          simp only [Option.some.injEq] at h; subst h
          intro σ a w hr
          obtain ⟨h1, p1⟩ := hr.rtok (t1 := .s u) (t2 := .c k' off') (by simp) (by simp)
          have hv1 := ev_rtok (t2 := .c k' off') hv (by simp)
          have hxr := ev_rel h1 hx'
          have hvr := ev_rel h1 hv1
          generalize hy : a.eval x = y at hxr
          cases hxr with | ptr _ hb =>
          rename_i b
          obtain ⟨b', hb', ⟨q, hq⟩, hfz, h2, p2⟩ := h1.storeT hl hc hvr (by simp [AV.chk])
          rw [hb] at hb'; cases hb'
          refine ⟨undef, _, _, .inr ⟨?_, rfl⟩, by rw [hd]; simpa [Act.put] using h2, p1.trans p2⟩
          have hone : (a.eval v).cells.size = 1 := by
            generalize a.eval v = z at hvr
            cases hvr; rfl
          have hcel : (a.eval v).cells = #[a.eval v] := by
            generalize a.eval v = z at hvr
            cases hvr; rfl
          unfold execOp
          rw [ho]
          have hne : P.cellsOf t ≠ 0 := by omega
          simp only [hy, Instr.storeAt, Instr.sureAddr, storeVar, Sem.run_bind, Sem.run_pure, Result.andThen_ok, run_sizeOf_ne hne, hone]
          rw [hcel]
          have hst : (storeCells ⟨b, off', none⟩ [a.eval v] 0).run P w = .ok () (w.setCell ⟨b, off', none⟩ (a.eval v)) := by
            have h1c : (a.eval v).oneCell' = true := by
              generalize a.eval v = z at hvr
              cases hvr; rfl
            rw [storeCells, Sem.run_bind, add_none, run_store _ _ _ _ _ h1c]
            simp only [Nat.add_zero, hq, hfz, Bool.false_eq_true, if_false, Result.andThen_ok]
            rfl
          simp [hsz, hst]
        · cases h
      · cases h
    · cases h
  · exact astore_does ho hd hx hv h

theorem aappendT_does {o : Oper} {sT xT : TypeId} {bx xx : Operand} {d : Nat} (ho : o.op = .call { callee := .builtin .append, args := #[bx, xx], argTypes := #[sT, xT] }) (hd : o.dst = some d) (hn : d < nt) {bv : AV}
    (hb : ev s bx = some bv) {s' : St} (h : aappendT P s d sT xT bv xx = some s') : Does P nt s o s' := by
  unfold aappendT at h
  split at h
  · rename_i rows k off
    split at h
    · rename_i xv hx
      split at h
      · rename_i r hr'
        simp only [Option.some.injEq] at h; subst h
        intro σ a w hr
        obtain ⟨h1, p1⟩ := hr.rtok (t1 := .c k off) (t2 := .s d) (by simp) (by simp)
        obtain ⟨y, w', σ', q1, q2, q3⟩ := aappend_does ho hd hn (ev_rtok (t2 := .s d) hb (by simp)) hx hr' _ a w h1
        exact ⟨y, w', σ', q1, q2, p1.trans q3⟩
      · cases h
    · cases h
  · cases h
end
end Go.Abs
