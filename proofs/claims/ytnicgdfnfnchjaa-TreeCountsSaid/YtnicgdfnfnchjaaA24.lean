/-
  Regions whose order is open and in which calls stand: what may be read first.
-/
import Derived.Test.YtnicgdfnfnchjaaA23
set_option linter.unusedVariables false
namespace Go.Abs

section
variable {P : Program} {σ : Sg} {s : St} {nt : Nat} {a : Act} {w : World}

theorem afield_all {st : TypeId} {f : Nat} {x v : AV} (h : afield P st f x = some v) {x' : Value} (hx : Rel σ x x') :
    ∃ r, (∀ w, (Instr.fieldAt st x' f).run P w = .ok r w) ∧ Rel σ v r := by
  unfold afield at h
  have key : ∀ (w : World) off b o, fieldOff P st f = some off → (Instr.fieldAt st (.pointer (some ⟨b, o, none⟩)) f).run P w = .ok (.pointer (some ⟨b, o + off, none⟩)) w := by
    intro w off b o hf
    unfold fieldOff at hf
    split at hf
    · rename_i fs hu
      split at hf
      · rename_i fd hfd
        split at hf
        · simp at hf
        · rename_i hne
          simp only [Option.some.injEq] at hf; subst hf
          simp [Instr.fieldAt, run_underlying hu, hfd, Instr.sureAddr, fieldPlace, run_sizeOf_ne hne, hne, add_none]
      · simp at hf
    · simp at hf
  split at h
  · rename_i off k o hf
    simp only [Option.some.injEq] at h; subst h
    cases hx with | ptr o hb => exact ⟨_, fun w => key w _ _ _ hf, .ptr _ hb⟩
  · rename_i off row hf
    simp only [Option.some.injEq] at h; subst h
    cases hx with | rop b o val hI hR =>
    refine ⟨_, fun w => key w _ _ _ hf, .rop b (o + off) (fun j => val (off + j)) (fun j hj => ?_) (fun j c hc => ?_)⟩
    · simp only [List.length_drop] at hj
      rw [Nat.add_assoc]; exact hI _ (by omega)
    · rw [List.getElem?_drop] at hc; exact hR _ _ hc
  · simp at h

theorem aindex_all {t : TypeId} {x v : AV} {i : Int} (h : aindex P t x i = some v) {x' : Value} (hx : Rel σ x x') (k : IntKind) :
    ∃ r, (∀ w, (Instr.indexAt t x' (.int k i)).run P w = .ok r w) ∧ Rel σ v r := by
  unfold aindex at h
  have vec : ∀ e rows (y : Value), P.underlying t = some (.slice e) → RelP σ.I (.vec rows) y →
      (if 0 ≤ i then match rows[i.toNat]? with
      | some row => if row.length = P.cellsOf e ∧ P.cellsOf e ≠ 0 then some (AV.rop row) else none
      | none => none
    else none) = some v → ∃ r, (∀ w, (Instr.indexAt t y (.int k i)).run P w = .ok r w) ∧ Rel σ v r := by
    intro e rows y hu hv h
    split at h
    · rename_i h0
      split at h
      · rename_i row hrow
        split at h
        · rename_i hc
          obtain ⟨hc, hne⟩ := hc
          simp only [Option.some.injEq] at h; subst h
          cases hv with
          | vec0 => simp at hrow
          | vec _ b o cap sz val hsz hI hR hmax hcap =>
            have hlt : i.toNat < rows.length := (List.getElem?_eq_some_iff.1 hrow).1
            have hs : sz = P.cellsOf e := by rw [← hc]; exact (hsz row (List.mem_of_getElem? hrow)).symm
            have hlt' : i < (rows.length : Int) := by omega
            refine ⟨.pointer (some ⟨b, o + i.toNat * P.cellsOf e, none⟩), ?_, .rop _ _ (val i.toNat) (fun j hj => ?_) (fun j c hcc => hR _ _ _ _ hrow hcc)⟩
            · intro w; simp [Instr.indexAt, asIntOf_int, run_underlying hu, h0, hlt', run_sizeOf_ne hne, add_none]
            · rw [← hs]; exact hI _ _ hlt (by rw [hs, ← hc]; exact hj)
        · simp at h
      · simp at h
    · simp at h
  split at h
  · rename_i hu; cases hx with | p hx => exact vec _ _ _ hu hx h
  · rename_i hu; cases hx with | own hx _ => exact vec _ _ _ hu hx h
  · rename_i e key off len cap hu
    split at h
    · rename_i hc
      obtain ⟨h0, h1, hne⟩ := hc
      simp only [Option.some.injEq] at h; subst h
      cases hx with | ref _ _ _ cap' hb hcc =>
      exact ⟨.pointer (some ⟨_, off + i.toNat * P.cellsOf e, none⟩), fun w => by simp [Instr.indexAt, asIntOf_int, run_underlying hu, h0, h1, run_sizeOf_ne hne, add_none], .ptr _ hb⟩
    · simp at h
  · rename_i len e key off hu
    split at h
    · rename_i hc
      obtain ⟨h0, h1, hne⟩ := hc
      simp only [Option.some.injEq] at h; subst h
      cases hx with | ptr _ hb =>
      exact ⟨.pointer (some ⟨_, off + i.toNat * P.cellsOf e, none⟩), fun w => by simp [Instr.indexAt, asIntOf_int, run_underlying hu, h0, h1, run_sizeOf_ne hne, add_none, Instr.sureAddr], .ptr _ hb⟩
    · simp at h
  · simp at h

/-- What stays while others act: what stands for ever, and the frame's own variables. -/
def SL (σ : Sg) (w w' : World) : Prop := (∀ b o v, σ.I b o = some v → w'.cell? ⟨b, o, none⟩ = some v) ∧ ∀ t b, σ.blk (.l t) = some b → w'.heap[b]? = w.heap[b]?

/-- What lies at an address, in all worlds that keep it. -/
def CellsAll (σ : Sg) (w : World) (x : Value) (cells : List AV) : Prop :=
  ∃ b o, x = .pointer (some ⟨b, o, none⟩) ∧ ∀ j v, cells[j]? = some v → ∃ u, (∀ w', SL σ w w' → w'.cell? ⟨b, o + j, none⟩ = some u) ∧ Rel σ v u

theorem aload_all {t : TypeId} {cells : List AV} {v : AV} (h : aload P t cells = some v) {x : Value} (hc : CellsAll σ w x cells) :
    ∃ r, (∀ w', SL σ w w' → (Instr.loadAt t x).run P w' = .ok r w') ∧ Rel σ v r := by
  obtain ⟨b, o, rfl, hcs⟩ := hc
  unfold aload at h
  have agg : ∀ d, P.underlying t = some d → (match d with | .struct _ | .array _ _ => true | _ => false) = true →
      (if P.cellsOf t ≤ cells.length then some (AV.agg ((cells.take (P.cellsOf t)).map AV.plain)) else none) = some v →
      ∃ r, (∀ w', SL σ w w' → (Instr.loadAt t (.pointer (some ⟨b, o, none⟩))).run P w' = .ok r w') ∧ Rel σ v r := by
    intro d hd hag h
    obtain ⟨i, hi⟩ := info_of_underlying hd
    split at h
    · rename_i hle
      simp only [Option.some.injEq] at h; subst h
      have hch : ∀ j, ∃ u, j < cells.length → (∀ w', SL σ w w' → w'.cell? ⟨b, o + j, none⟩ = some u) ∧ ∀ v, cells[j]? = some v → Rel σ v u := fun j => by
        by_cases hj : j < cells.length
        · obtain ⟨u, h1, h2⟩ := hcs j _ (List.getElem?_eq_getElem hj)
          exact ⟨u, fun _ => ⟨h1, fun v hv => by rw [List.getElem?_eq_getElem hj] at hv; cases hv; exact h2⟩⟩
        · exact ⟨undef, fun h => absurd h hj⟩
      let f : Nat → Value := fun j => (hch j).choose
      have hf : ∀ w', SL σ w w' → ∀ j, j < P.cellsOf t → w'.cell? ((⟨b, o, none⟩ : Addr).add j) = some (f j) := by
        intro w' hw j hj
        rw [add_none]
        exact ((hch j).choose_spec (by omega)).1 w' hw
      refine ⟨.agg ((List.range (P.cellsOf t)).map f).toArray, fun w' hw => ?_, .agg (by simp [hle]) ?_⟩
      · simp only [Instr.loadAt, Instr.sureAddr, loadVar, isAgg, Sem.run_bind, Sem.run_pure, Result.andThen_ok, run_underlying hd]
        cases d <;> simp only [reduceCtorEq] at hag <;> simp only [Sem.run_pure, Result.andThen_ok, if_true, Sem.run_bind, run_sizeOf' hi, run_loadCells w' _ _ f (hf w' hw)]
      · intro j v hv
        simp only [List.getElem?_map, Option.map_eq_some_iff, List.getElem?_take] at hv
        obtain ⟨u, hu, rfl⟩ := hv
        split at hu
        · rename_i hj
          have hr := ((hch j).choose_spec (by omega)).2 u hu
          have : ((List.range (P.cellsOf t)).map f).toArray.getD j undef = f j := by simp [hj]
          rw [this]; exact hr.plain
        · simp at hu
    · simp at h
  split at h
  · exact agg _ (by assumption) rfl h
  · exact agg _ (by assumption) rfl h
  · rename_i d hns hna hd
    rw [Option.map_eq_some_iff] at h
    obtain ⟨u, hu, rfl⟩ := h
    rw [List.head?_eq_getElem?] at hu
    obtain ⟨y, hy, hr⟩ := hcs 0 u hu
    refine ⟨y, fun w' hw => ?_, hr.ld⟩
    have hy := hy w' hw
    simp only [Nat.add_zero] at hy
    simp only [Instr.loadAt, Instr.sureAddr, loadVar, isAgg, Sem.run_bind, Sem.run_pure, Result.andThen_ok, run_underlying hd]
    cases d <;> first | exact absurd hd (hns _) | exact absurd hd (hna _ _) | simp [hy]
  · simp at h

/-- Is it a place that stays? -/
def AV.still : AV → Bool
  | .ptr (.l _) _ | .rop _ => true
  | _ => false

theorem cellsAt_all (hr : RelS σ s nt a w) {x : AV} {x' : Value} (hx : Rel σ x x') (hs : x.still = true) {cells : List AV} (h : cellsAt s x = some cells) : CellsAll σ w x' cells := by
  unfold cellsAt at h
  split at h
  · rename_i k off
    split at h
    · rename_i cs hl
      simp only [Option.some.injEq] at h; subst h
      cases k with
      | g id => simp [AV.still] at hs
      | l t =>
        cases hx with | ptr off hb =>
        obtain ⟨b', hb', c, T, hc, hsz, hcs⟩ := hr.blks _ _ hl
        rw [hb] at hb'; cases hb'
        refine ⟨_, off, rfl, fun j v hv => ?_⟩
        rw [List.getElem?_drop] at hv
        have hlt : off + j < c.size := Nat.lt_of_lt_of_le (List.getElem?_eq_some_iff.1 hv).1 hsz
        refine ⟨c.getD (off + j) undef, fun w' hw => ?_, hcs _ _ hv⟩
        rw [cell_of_block (by rw [hw.2 _ _ hb]; exact hc)]; simp [hlt]
    · simp at h
  · simp only [Option.some.injEq] at h; subst h
    cases hx with | rop b o val hI hR =>
    refine ⟨b, o, rfl, fun j v hv => ?_⟩
    simp only [List.getElem?_map, Option.map_eq_some_iff] at hv
    obtain ⟨c, hc, rfl⟩ := hv
    exact ⟨val j, fun w' hw => hw.1 _ _ _ (hI j (List.getElem?_eq_some_iff.1 hc).1), .p (hR j c hc)⟩
  · simp at h

/-- Is the model's value told by this one? -/
def AV.rigid : AV → Bool
  | .p (.bool _) | .p (.int _ _) | .p (.str _) => true
  | _ => false

theorem rigid_eq {v : AV} (hv : v.rigid = true) {x y : Value} {σ' : Sg} (h1 : Rel σ v x) (h2 : Rel σ' v y) : x = y := by
  unfold AV.rigid at hv
  split at hv
  · cases h1 with | p h1 => cases h2 with | p h2 => cases h1; cases h2; rfl
  · cases h1 with | p h1 => cases h2 with | p h2 => cases h1; cases h2; rfl
  · cases h1 with | p h1 => cases h2 with | p h2 => cases h1; cases h2; rfl
  · simp at hv

/-- Operations that may be taken first. -/
def avalS (P : Program) (s : St) (o : Oper) : Option AV :=
  match o.op with
  | .move x => ev s x
  | .load t x => match ev s x with
    | some v => if v.still then (cellsAt s v).bind (aload P t) else none
    | none => none
  | .fieldAddr st x f => (ev s x).bind (afield P st f)
  | .indexAddr t x i => match ev s x, ev s i with
    | some v, some (.p (.int _ n)) => aindex P t v n
    | _, _ => none
  | .nilCheck x => match ev s x with
    | some (.ptr k o) => some (.ptr k o)
    | some (.rop row) => some (.rop row)
    | _ => none
  | .extract x i => match ev s x with
    | some (.tuple l) => l[i]?.map AV.ld
    | _ => none
  | .binOp op t x y _ => match ev s x, ev s y with
    | some v, some u => match abin P op t v u with
      | some r => if r.rigid then some r else none
      | none => none
    | _, _ => none
  | _ => none

def isLoad : Op → Bool
  | .load _ _ => true
  | _ => false

theorem avalS_run (hr : RelS σ s nt a w) {o : Oper} {v : AV} (h : avalS P s o = some v) : ∃ x, (∀ w', (isLoad o.op = true → SL σ w w') → (execOp a.eval o).run P w' = .ok (.value x) w') ∧ Rel σ v x := by
  unfold avalS at h
  split at h
  · rename_i x hop
    exact ⟨a.eval x, fun w' _ => by unfold execOp; rw [hop]; rfl, ev_rel hr h⟩
  · rename_i t x hop
    split at h
    · rename_i u hx
      split at h
      · rename_i hst
        rw [Option.bind_eq_some_iff] at h
        obtain ⟨cells, hc, hl⟩ := h
        obtain ⟨r, h1, h2⟩ := aload_all hl (cellsAt_all hr (ev_rel hr hx) hst hc)
        refine ⟨r, fun w' hw => ?_, h2⟩
        have hw := hw (by rw [hop]; rfl)
        unfold execOp; rw [hop]
        simp only [Sem.run_bind, h1 w' hw]; rfl
      · simp at h
    · simp at h
  · rename_i st x f hop
    rw [Option.bind_eq_some_iff] at h
    obtain ⟨u, hx, hf⟩ := h
    obtain ⟨r, h1, h2⟩ := afield_all hf (ev_rel hr hx)
    refine ⟨r, fun w' _ => ?_, h2⟩
    unfold execOp; rw [hop]
    simp only [Sem.run_bind, h1 w']; rfl
  · rename_i t x i hop
    split at h
    · rename_i u k n hx hi
      have hir := ev_rel hr hi
      obtain ⟨r, h1, h2⟩ := aindex_all h (ev_rel hr hx) k
      refine ⟨r, fun w' _ => ?_, h2⟩
      unfold execOp; rw [hop]
      have : a.eval i = .int k n := by
        generalize a.eval i = y at hir
        cases hir with | p h => cases h; rfl
      simp only [Sem.run_bind, this, h1 w']; rfl
    · simp at h
  · rename_i x hop
    have hh : ∀ u, ev s x = some u → u = v → (∃ k o, u = .ptr k o) ∨ (∃ row, u = .rop row) → ∃ x, (∀ w', (isLoad o.op = true → SL σ w w') → (execOp a.eval o).run P w' = .ok (.value x) w') ∧ Rel σ v x := by
      intro u hx hu hk
      have hxr := ev_rel hr hx
      subst hu
      refine ⟨a.eval x, fun w' _ => ?_, hxr⟩
      simp only [execOp, hop]
      generalize a.eval x = y at hxr ⊢
      rcases hk with ⟨k, o, rfl⟩ | ⟨row, rfl⟩ <;> cases hxr <;> rfl
    split at h
    · rename_i k o hx
      simp only [Option.some.injEq] at h
      exact hh _ hx h (.inl ⟨k, o, rfl⟩)
    · rename_i row hx
      simp only [Option.some.injEq] at h
      exact hh _ hx h (.inr ⟨row, rfl⟩)
    · simp at h
  · rename_i x i hop
    split at h
    · rename_i l hx
      rw [Option.map_eq_some_iff] at h
      obtain ⟨u, hu, rfl⟩ := h
      have hxr := ev_rel hr hx
      generalize hy : a.eval x = y at hxr
      cases hxr with | tuple h1 h2 =>
      rename_i l'
      refine ⟨l'.getD i undef, fun w' _ => ?_, (h2 i u hu).ld⟩
      have hlt : i < l'.size := by rw [h1]; exact (List.getElem?_eq_some_iff.1 hu).1
      unfold execOp; rw [hop]
      simp [hy, Instr.extract, hlt]
    · simp at h
  · rename_i op t x y rt hop
    split at h
    · rename_i v' u' hx hy
      split at h
      · rename_i r hr'
        split at h
        · rename_i hrig
          simp only [Option.some.injEq] at h; subst h
          obtain ⟨z, h1, h2⟩ := abin_run hr' (ev_rel hr hx) (ev_rel hr hy) x y w
          refine ⟨z, fun w' _ => ?_, h2⟩
          obtain ⟨z', h3, h4⟩ := abin_run hr' (ev_rel hr hx) (ev_rel hr hy) x y w'
          have := rigid_eq hrig h2 h4
          subst this
          unfold execOp; rw [hop]
          refine lift_val h3
        · simp at h
      · simp at h
    · simp at h
  · simp at h
end
end Go.Abs
