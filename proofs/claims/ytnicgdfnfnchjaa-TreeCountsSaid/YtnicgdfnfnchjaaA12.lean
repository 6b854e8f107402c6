/-
  New slices.
-/
import Derived.Test.YtnicgdfnfnchjaaA11
set_option linter.unusedVariables false
namespace Go.Abs

def toPV : AV → Option PV
  | .p v => some v
  | .own rows _ => some (.vec rows)
  | .full rows => some (.vec rows)
  | _ => none

def toPVs : List AV → Option (List PV)
  | [] => some []
  | x :: r => match toPV x, toPVs r with | some v, some l => some (v :: l) | _, _ => none

def chunk (sz : Nat) : Nat → List PV → List (List PV)
  | 0, _ => []
  | n + 1, l => l.take sz :: chunk sz n (l.drop sz)

def zrep : Nat → List AV → List AV
  | 0, _ => []
  | n + 1, z => z ++ zrep n z

theorem length_zrep : ∀ (n : Nat) (z : List AV), (zrep n z).length = n * z.length
  | 0, z => by simp [zrep]
  | n + 1, z => by simp [zrep, length_zrep n z, Nat.add_mul]; omega

theorem getElem?_zrep : ∀ (n : Nat) (z : List AV) (o : Nat), o < n * z.length → (zrep n z)[o]? = z[o % z.length]?
  | 0, z, o, h => by simp at h
  | n + 1, z, o, h => by
    rw [zrep, List.getElem?_append]
    split
    · rename_i hlt; rw [Nat.mod_eq_of_lt hlt]
    · rename_i hge
      rw [getElem?_zrep n z (o - z.length) (by rw [Nat.add_mul] at h; omega)]
      congr 1
      rw [← Nat.mod_eq_sub_mod (by omega)]

theorem length_chunk (sz : Nat) : ∀ (n : Nat) (l : List PV), (chunk sz n l).length = n
  | 0, _ => rfl
  | n + 1, l => by simp [chunk, length_chunk sz n]

theorem getElem?_chunk (sz : Nat) : ∀ (n : Nat) (l : List PV) (i : Nat), i < n → (chunk sz n l)[i]? = some ((l.drop (i * sz)).take sz)
  | 0, _, i, h => by simp at h
  | n + 1, l, 0, h => by simp [chunk]
  | n + 1, l, i + 1, h => by
    rw [chunk, List.getElem?_cons_succ, getElem?_chunk sz n _ i (by omega), List.drop_drop]
    congr 3
    rw [Nat.add_mul]; omega

def abuildSlice (P : Program) (t : TypeId) (len : Nat) (parts : List (Nat × AV)) : Option (List (List PV)) :=
  match P.underlying t with
  | some (.slice e) => match (azero P e).bind AV.cellsOf with
    | some z => if z.length = P.cellsOf e ∧ P.cellsOf e ≠ 0 ∧ len * P.cellsOf e ≤ 16777216 then
        (((afill (fun i => some (i * P.cellsOf e, P.cellsOf e)) (zrep len z) parts).bind toPVs).map (chunk (P.cellsOf e) len)) else none
    | none => none
  | _ => none

/-- Cells from a block's begin on that nobody writes any more. -/
def Sg.addI (σ : Sg) (b n : Nat) (c : Array Value) (tok : Tok → Option (Nat × Nat × Nat)) : Sg :=
  { I := fun b' o => if b' = b then (if o < n then c[o]? else none) else σ.I b' o, blk := σ.blk, tok := tok, D := σ.D }

section
variable {P : Program} {σ : Sg} {s : St} {nt : Nat} {a : Act} {w : World}

theorem toPVs_rel : ∀ {l : List AV} {r : List PV}, toPVs l = some r → l.length = r.length ∧ ∀ (i : Nat) (v : PV), r[i]? = some v → ∃ u, l[i]? = some u ∧ ∀ (σ : Sg) x, Rel σ u x → RelP σ.I v x
  | [], r, h => by simp [toPVs] at h; subst h; simp
  | x :: l, r, h => by
    simp only [toPVs] at h
    split at h
    · rename_i v r' hx hl
      simp only [Option.some.injEq] at h; subst h
      obtain ⟨h1, h2⟩ := toPVs_rel hl
      refine ⟨by simp [h1], fun i u hu => ?_⟩
      cases i with
      | zero =>
        simp at hu; subst hu
        refine ⟨x, rfl, fun σ y hy => ?_⟩
        unfold toPV at hx
        split at hx
        · simp at hx; subst hx; cases hy with | p h => exact h
        · simp at hx; subst hx; cases hy with | own h _ => exact h
        · simp at hx; subst hx; cases hy with | full h => exact h
        · simp at hx
      | succ i => exact h2 i u (by simpa using hu)
    · simp at h

theorem addI_mono (h : WFS σ w) {n : Nat} {c : Array Value} {tok : Tok → Option (Nat × Nat × Nat)} (b o : Nat) (v : Value) (e : σ.I b o = some v) : (σ.addI w.heap.size n c tok).I b o = some v := by
  have := h.imm_lt e
  simp only [Sg.addI]
  rw [if_neg (by omega)]; exact e

theorem WFS.addI (h : WFS σ w) {n : Nat} {c : Array Value} {T : TypeId} (hn : n ≤ c.size) {tok : Tok → Option (Nat × Nat × Nat)} {k : Tok} {l : Nat} (hl : l ≤ c.size)
    (ht : ∀ t x, tok t = some x → σ.tok t = some x ∨ (t = k ∧ x = (w.heap.size, n, l))) : WFS (σ.addI w.heap.size n c tok) (w.alloc (.cells c T)) := by
  have tlt : ∀ t b e l, σ.tok t = some (b, e, l) → b < w.heap.size := fun t b e l e1 => by
    obtain ⟨⟨c, T, h3, _⟩, _⟩ := h.tokw _ _ _ _ e1
    exact (Array.getElem?_eq_some_iff.1 h3).1
  refine ⟨h.inj, fun k' t b e l e1 e2 => ?_, fun t t' b e l e' l' e1 e2 => ?_, fun k' b e1 => by have := h.lt _ _ e1; simp; omega, fun t b e l e1 => ?_, fun k' b o e1 => ?_, fun b o v e1 => ?_⟩
  · have := h.lt _ _ e1
    rcases ht _ _ e2 with e3 | ⟨_, e3⟩
    · exact h.injt _ _ _ _ _ e1 e3
    · simp at e3; omega
  · rcases ht _ _ e1 with e3 | ⟨e3, e5⟩
    · rcases ht _ _ e2 with e4 | ⟨_, e4⟩
      · exact h.injtt _ _ _ _ _ _ _ e3 e4
      · have := tlt _ _ _ _ e3; simp at e4; omega
    · rcases ht _ _ e2 with e4 | ⟨e4, _⟩
      · have := tlt _ _ _ _ e4; simp at e5; omega
      · rw [e3, e4]
  · rcases ht _ _ e1 with e3 | ⟨_, e3⟩
    · have hb := tlt _ _ _ _ e3
      obtain ⟨⟨c', T', h3, h4⟩, h5⟩ := h.tokw _ _ _ _ e3
      refine ⟨⟨c', T', by rw [heap_alloc _ _ _ hb]; exact h3, h4⟩, fun o ho => ?_⟩
      simp only [Sg.addI]
      rw [if_neg (by omega)]; exact h5 o ho
    · simp only [Prod.mk.injEq] at e3
      obtain ⟨rfl, rfl, rfl⟩ := e3
      refine ⟨⟨c, T, heap_alloc_new _ _, hl⟩, fun o ho => ?_⟩
      simp only [Sg.addI, if_true]
      rw [if_neg (by omega)]
  · have := h.lt _ _ e1
    simp only [Sg.addI]
    rw [if_neg (by omega)]; exact h.blkI _ _ _ e1
  · simp only [Sg.addI] at e1
    split at e1
    · rename_i hb
      subst hb
      split at e1
      · rw [World.cell?_alloc_new]; exact e1
      · simp at e1
    · rw [World.cell?_alloc_lt _ _ _ (h.imm_lt e1)]; exact h.imm _ _ _ e1

theorem Post.addI (h : WFS σ w) {n : Nat} {c : Array Value} {T : TypeId} {tok : Tok → Option (Nat × Nat × Nat)} {k : Tok} {l : Nat}
    (ht : ∀ t x, tok t = some x → σ.tok t = some x ∨ (t = k ∧ x = (w.heap.size, n, l))) : Post σ (σ.addI w.heap.size n c tok) w (w.alloc (.cells c T)) := by
  refine ⟨addI_mono h, fun b o v e => ?_, fun b hb => ?_, fun id b e => e, fun b hb _ => heap_alloc _ _ _ hb, by simp, rfl, rfl, rfl, rfl, frozen_alloc fun c T r e => by cases e; rfl⟩
  · simp only [Sg.addI] at e
    split at e
    · rename_i hb; right; right; omega
    · exact .inl e
  · rcases hb with ⟨k', hb⟩ | ⟨t, e, l', hb⟩
    · exact .inl (.inl ⟨k', hb⟩)
    · rcases ht _ _ hb with e1 | ⟨_, e1⟩
      · exact .inl (.inr ⟨t, e, l', e1⟩)
      · simp at e1; right; omega

theorem run_newRow (e : TypeId) (c : Array Value) (w : World) : (newRow e c).run P w = .ok ⟨w.heap.size, 0, none⟩ (w.alloc (.cells c e)) := rfl

/-- A slice's elements, laid down once. -/
theorem abuildSlice_run (hr : RelS σ s nt a w) {t : TypeId} {len : Nat} {ps : List (Nat × AV)} {rows : List (List PV)} (h : abuildSlice P t len ps = some rows) {ps' : List (Nat × Value)} (hp : PartsRel σ ps' ps) :
    ∃ c e, (Instr.buildSlice t len ps'.toArray).run P w = .ok (.slice (some ⟨w.heap.size, 0, none⟩) len len) (w.alloc (.cells c e)) ∧
      RelS (σ.addI w.heap.size c.size c σ.tok) s nt a (w.alloc (.cells c e)) ∧ Post σ (σ.addI w.heap.size c.size c σ.tok) w (w.alloc (.cells c e)) ∧
      RelP (σ.addI w.heap.size c.size c σ.tok).I (.vec rows) (.slice (some ⟨w.heap.size, 0, none⟩) len len) ∧ rows.length = len := by
  unfold abuildSlice at h
  split at h
  · rename_i e hu
    split at h
    · rename_i z hz
      rw [Option.bind_eq_some_iff] at hz
      obtain ⟨zv, hz1, hz2⟩ := hz
      obtain ⟨zx, hzx, hzr⟩ := azero_run (σ := σ) (w := w) hz1
      split at h
      · rename_i hc
        obtain ⟨hc1, hc2, hc3⟩ := hc
        rw [Option.map_eq_some_iff] at h
        obtain ⟨pvs, hpv, rfl⟩ := h
        rw [Option.bind_eq_some_iff] at hpv
        obtain ⟨out, hout, hpv⟩ := hpv
        have hzc := ArrRel_of_cells hz2 hzr
        have hzsz : zx.cells.size = P.cellsOf e := by rw [hzc.1, hc1]
        have hinit : ArrRel σ ((Array.range (len * P.cellsOf e)).map (fun i => zx.cells[i % zx.cells.size]!)) (zrep len z) := by
          refine ⟨by simp [length_zrep, hc1], fun i v hv => ?_⟩
          have hi : i < len * z.length := by rw [← length_zrep]; exact (List.getElem?_eq_some_iff.1 hv).1
          rw [getElem?_zrep _ _ _ hi] at hv
          obtain ⟨x, hx1, hx2⟩ := hzc.2 _ _ hv
          refine ⟨x, ?_, hx2⟩
          rw [hc1] at hi hx1
          rw [hzsz]
          simp [hi, getElem!_def, hx1]
        obtain ⟨c, g1, g2⟩ := fill_rel (fun i => some (i * P.cellsOf e, P.cellsOf e)) hp hinit hout
        have hcs : c.size = len * P.cellsOf e := by
          rw [g2.1]
          have : ∀ {ps : List (Nat × AV)} {cells out : List AV} {pl : Nat → Option (Nat × Nat)}, afill pl cells ps = some out → out.length = cells.length := by
            intro ps
            induction ps with
            | nil => intro cells out pl h; simp only [afill, Option.some.injEq] at h; rw [h]
            | cons p ps ih =>
              intro cells out pl h
              obtain ⟨i, v⟩ := p
              simp only [afill] at h
              split at h
              · split at h
                · rw [ih h, length_setMany]
                · simp at h
              · simp at h
          rw [this hout, length_zrep, hc1]
        obtain ⟨p1, p2⟩ := toPVs_rel hpv
        have hpl : pvs.length = len * P.cellsOf e := by rw [← p1, ← g2.1, hcs]
        have ht : ∀ t x, σ.tok t = some x → σ.tok t = some x ∨ (t = Tok.n ∧ x = (w.heap.size, c.size, c.size)) := fun t x h => .inl h
        have hwf := hr.wf.addI (T := e) (Nat.le_refl c.size) (Nat.le_refl c.size) ht
        refine ⟨c, e, ?_, ?_, Post.addI hr.wf ht, ?_, length_chunk _ _ _⟩
        · unfold Instr.buildSlice
          have hi : ∃ i, P.info? e = some i := by
            cases hi : P.info? e with
            | none => simp [Program.cellsOf, hi] at hc2
            | some i => exact ⟨i, rfl⟩
          simp only [Sem.run_bind, run_underlying hu, Result.andThen_ok, run_sizeOf_ne hc2]
          rw [if_neg (by have : (2 : Nat) ^ 24 = 16777216 := rfl; omega)]
          by_cases h0 : len * P.cellsOf e = 0
          · rw [if_pos h0]
            rw [h0] at g1
            simp only [h0]
            rw [Sem.run_bind, Sem.run_pure]
            simp only [Result.andThen_ok]
            have : (Array.range 0).map (fun i => (#[] : Array Value)[i % (#[] : Array Value).size]!) = (Array.range 0).map (fun i => zx.cells[i % zx.cells.size]!) := by simp
            rw [this, g1]
            simp only [Sem.run_bind, run_newRow, Result.andThen_ok, Sem.run_pure]
          · rw [if_neg h0]
            simp only [Sem.run_bind, hzx, Result.andThen_ok, Sem.run_pure]
            rw [g1]
            simp only [Sem.run_bind, run_newRow, Result.andThen_ok, Sem.run_pure]
        · have := hr.turn (σ' := σ.addI w.heap.size c.size c σ.tok) (w' := w.alloc (.cells c e)) (fun _ => false) (by simp) (addI_mono hr.wf) rfl (fun t x _ h => h)
            (fun k b h => heap_alloc _ _ _ (hr.wf.lt _ _ h)) hwf
          refine ⟨this.sz, this.df, fun t x h => ?_, this.blks, this.cinv, this.gfree, this.lfree, this.wf⟩
          obtain ⟨q1, q2⟩ := hr.vals t x h
          exact ⟨q1, q2.mono (σ' := σ.addI w.heap.size c.size c σ.tok) (addI_mono hr.wf) (fun _ _ h => h) (fun _ _ h => h)⟩
        · by_cases h0 : len = 0
          · subst h0; exact .vec0 _ _
          · have := RelP.vec (I := (σ.addI w.heap.size c.size c σ.tok).I) (chunk (P.cellsOf e) len pvs) w.heap.size 0 len (P.cellsOf e) (fun i j => c.getD (i * P.cellsOf e + j) undef)
              (fun row hrow => by
                obtain ⟨i, hi, rfl⟩ := List.getElem_of_mem hrow
                rw [length_chunk] at hi
                have h1 := getElem?_chunk (P.cellsOf e) len pvs i hi
                rw [List.getElem?_eq_getElem (by rw [length_chunk]; exact hi)] at h1
                simp only [Option.some.injEq] at h1
                rw [h1]
                simp only [List.length_take, List.length_drop, hpl]
                have : i * P.cellsOf e + P.cellsOf e ≤ len * P.cellsOf e := by rw [← Nat.succ_mul]; exact Nat.mul_le_mul_right _ hi
                omega)
              (fun i j hi hj => by
                rw [length_chunk] at hi
                have : i * P.cellsOf e + P.cellsOf e ≤ len * P.cellsOf e := by rw [← Nat.succ_mul]; exact Nat.mul_le_mul_right _ hi
                have hlt : i * P.cellsOf e + j < c.size := by omega
                simp [Sg.addI, hlt, Array.getD_eq_getD_getElem?])
              (fun i row j u hrow hu => by
                have hi : i < len := by have := (List.getElem?_eq_some_iff.1 hrow).1; rwa [length_chunk] at this
                rw [getElem?_chunk _ _ _ _ hi] at hrow
                simp only [Option.some.injEq] at hrow; subst hrow
                rw [List.getElem?_take] at hu
                split at hu
                · rw [List.getElem?_drop] at hu
                  obtain ⟨y, hy1, hy2⟩ := p2 _ _ hu
                  obtain ⟨x, hx1, hx2⟩ := g2.2 _ _ hy1
                  have := hy2 (σ.addI w.heap.size c.size c σ.tok) x (hx2.mono (σ' := σ.addI w.heap.size c.size c σ.tok) (addI_mono hr.wf) (fun _ _ h => h) (fun _ _ h => h))
                  simpa [Array.getD_eq_getD_getElem?, hx1] using this
                · simp at hu)
              (by
                rw [length_chunk]
                have : len ≤ len * P.cellsOf e := Nat.le_mul_of_pos_right _ (by omega)
                unfold maxLen; omega)
              (by rw [length_chunk]; exact Nat.le_refl _)
            rwa [length_chunk] at this
      · simp at h
    · simp at h
  · simp at h
end
end Go.Abs
