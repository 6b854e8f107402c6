/-
  The operations that write, one by one: stores, new variables, maps.
-/
import Derived.Test.YtnicgdfnfnchjaaA7
set_option linter.unusedVariables false
namespace Go.Abs

/-- What one operation does to the state. -/
def Does (P : Program) (nt : Nat) (s : St) (o : Oper) (s' : St) : Prop :=
  ∀ σ a w, RelS σ s nt a w → ∃ x w' σ', ((execOp a.eval o).run P w = .ok (.value x) w' ∨ ((execOp a.eval o).run P w = .ok .skip w' ∧ x = undef)) ∧
    RelS σ' s' nt (a.put o.dst x) w' ∧ Post σ σ' w w'

def setMany : List AV → Nat → List AV → List AV
  | cs, _, [] => cs
  | cs, off, x :: r => setMany (cs.set off x) (off + 1) r

@[simp] theorem length_setMany : ∀ (xs cs : List AV) (off : Nat), (setMany cs off xs).length = cs.length
  | [], _, _ => rfl
  | x :: r, cs, off => by simp [setMany, length_setMany r]

def AV.one : AV → Bool
  | .agg _ | .tuple _ | .undef => false
  | _ => true

/-- A value's cells. -/
def acells : AV → Option (List AV)
  | .agg l => if l.all AV.one then some (l.map AV.toCell) else none
  | .tuple _ | .undef => none
  | v => some [v.toCell]

section
variable {P : Program} {σ : Sg} {s : St} {nt : Nat} {a : Act} {w : World}

theorem one_cell {v : AV} {x : Value} (h : Rel σ v x) (ho : v.one = true) : x.oneCell' = true := by
  cases h with
  | p h => cases h <;> rfl
  | agg => simp [AV.one] at ho
  | tuple => simp [AV.one] at ho
  | undef => simp [AV.one] at ho
  | _ => rfl

theorem acells_rel {v : AV} {l : List AV} (h : acells v = some l) {x : Value} (hx : Rel σ v x) :
    x.cells.toList.length = l.length ∧ ∀ (i : Nat) (u : AV), l[i]? = some u → Rel σ u (x.cells.toList.getD i undef) ∧ (x.cells.toList.getD i undef).oneCell' = true := by
  have single : ∀ {v : AV} {x : Value}, Rel σ v x → v.one = true → [v.toCell] = l → x.cells.toList.length = l.length ∧ ∀ (i : Nat) (u : AV), l[i]? = some u → Rel σ u (x.cells.toList.getD i undef) ∧ (x.cells.toList.getD i undef).oneCell' = true := by
    intro v x hx ho hl
    subst hl
    have hc := one_cell hx ho
    have : x.cells = #[x] := by
      cases x <;> first | rfl | simp [Value.oneCell'] at hc
    rw [this]
    refine ⟨rfl, fun i u hu => ?_⟩
    cases i with
    | zero => simp at hu; subst hu; exact ⟨hx.toCell, hc⟩
    | succ i => simp at hu
  unfold acells at h
  split at h
  · rename_i l0
    split at h
    · rename_i hall
      simp only [Option.some.injEq] at h; subst h
      cases hx with | agg h1 h2 =>
      rename_i l'
      refine ⟨by simpa [Value.cells] using h1, fun i u hu => ?_⟩
      simp only [List.getElem?_map, Option.map_eq_some_iff] at hu
      obtain ⟨y, hy, rfl⟩ := hu
      have h3 := h2 i y hy
      have ho : y.one = true := by
        have := List.all_eq_true.1 hall y (List.mem_of_getElem? hy)
        exact this
      have e : (Value.agg l').cells.toList.getD i undef = l'.getD i undef := by
        simp [Value.cells, Array.getD_eq_getD_getElem?, List.getD_eq_getElem?_getD]
      rw [e]
      exact ⟨h3.toCell, one_cell h3 ho⟩
    · simp at h
  · simp at h
  · simp at h
  · rename_i h1 h2 h3
    simp only [Option.some.injEq] at h
    refine single hx ?_ h
    cases v <;> first | rfl | exact absurd rfl (h1 _) | exact absurd rfl (h2 _) | exact absurd rfl h3

theorem storeMany {k : Key} {b off : Nat} (hb : σ.blk k = some b) : ∀ (vs : List AV) (xs : List Value) (s : St) (cs : List AV) (w : World) (i : Nat), RelS σ s nt a w → s.look k = some (.cells cs) →
    xs.length = vs.length → (∀ (j : Nat) (v : AV), vs[j]? = some v → Rel σ v (xs.getD j undef) ∧ (xs.getD j undef).oneCell' = true) → vs.all (AV.fits k) = true → off + i + vs.length ≤ cs.length →
    ∃ w', (storeCells ⟨b, off, none⟩ xs i).run P w = .ok () w' ∧ RelS σ (if vs = [] then s else s.setBlk k (setMany cs (off + i) vs)) nt a w' ∧ Post σ σ w w'
  | [], xs, s, cs, w, i, hr, _, hlen, _, _, _ => by
    have : xs = [] := by simpa using hlen
    subst this
    exact ⟨w, rfl, by simpa using hr, .refl _ _⟩
  | v :: vs, [], _, _, _, _, _, _, hlen, _, _, _ => by simp at hlen
  | v :: vs, x :: xs, s, cs, w, i, hr, hl, hlen, hrel, hfit, hle => by
    simp only [List.all_cons, Bool.and_eq_true, List.length_cons] at hfit hle
    have h0 := hrel 0 v rfl
    simp only [List.getD_cons_zero] at h0
    have hlt : off + i < cs.length := by omega
    have hle' : off + (i + 1) + vs.length ≤ (cs.set (off + i) v).length := by rw [List.length_set]; omega
    obtain ⟨b', hb', ⟨u, hu⟩, hfz, hr', hp⟩ := hr.store hl hlt h0.1 hfit.1
    rw [hb] at hb'; cases hb'
    obtain ⟨w', h1, h2, h3⟩ := storeMany hb vs xs (s.setBlk k (cs.set (off + i) v)) (cs.set (off + i) v) (w.setCell ⟨b, off + i, none⟩ x) (i + 1) hr' (St.look_setBlk _ _ _ _ hl)
      (by simpa using hlen) (fun j y hj => by simpa using hrel (j + 1) y (by simpa using hj)) hfit.2 hle'
    refine ⟨w', ?_, ?_, hp.trans h3⟩
    · rw [storeCells, Sem.run_bind, add_none, run_store _ _ _ _ _ h0.2, hu]
      simp only [hfz, Bool.false_eq_true, if_false, Result.andThen_ok]
      exact h1
    · simp only [List.cons_ne_nil, if_false, setMany]
      by_cases he : vs = []
      · subst he; simpa [setMany] using h2
      · rw [if_neg he, St.setBlk_setBlk] at h2
        rw [show off + i + 1 = off + (i + 1) by omega]; exact h2

/-- 'x.f = v', 'xs[i] = v', 'v' of one cell or many. -/
def astore (P : Program) (s : St) (t : TypeId) (x v : AV) : Option St :=
  match x, acells v with
  | .ptr k off, some (c :: vs) => match s.look k with
    | some (.cells cs) => if (c :: vs).length = P.cellsOf t ∧ off + (c :: vs).length ≤ cs.length ∧ (c :: vs).all (AV.fits k) then some (s.setBlk k (setMany cs off (c :: vs))) else none
    | _ => none
  | _, _ => none

theorem astore_does {o : Oper} {t : TypeId} {x v : Operand} (ho : o.op = .store t x v) (hd : o.dst = none) {xv vv : AV} (hx : ev s x = some xv) (hv : ev s v = some vv) {s' : St}
    (h : astore P s t xv vv = some s') : Does P nt s o s' := by
  intro σ a w hr
  unfold astore at h
  split at h
  · rename_i k off c vs hc
    split at h
    · rename_i cs hl
      split at h
      · rename_i hcond
        obtain ⟨h1, h2, h3⟩ := hcond
        simp only [Option.some.injEq] at h; subst h
        have hxr := ev_rel hr hx
        have hvr := ev_rel hr hv
        obtain ⟨e1, e2⟩ := acells_rel hc hvr
        generalize hy : a.eval x = y at hxr
        cases hxr with | ptr off hb =>
        obtain ⟨w', g1, g2, g3⟩ := storeMany (P := P) (off := off) hb (c :: vs) (a.eval v).cells.toList s cs w 0 hr hl e1 e2 h3 (by simpa using h2)
        refine ⟨undef, w', σ, .inr ⟨?_, rfl⟩, ?_, g3⟩
        · have hne : P.cellsOf t ≠ 0 := by rw [← h1]; simp
          have hsz : (a.eval v).cells.size = P.cellsOf t := by rw [← h1, ← e1]; simp
          unfold execOp
          rw [ho]
          simp only [hy, Instr.storeAt, Instr.sureAddr, storeVar, Sem.run_bind, Sem.run_pure, Result.andThen_ok, run_sizeOf_ne hne, hsz]
          simp [g1]
        · rw [hd]
          simpa [Act.put] using g2
      · simp at h
    · simp at h
  · simp at h
end
end Go.Abs
