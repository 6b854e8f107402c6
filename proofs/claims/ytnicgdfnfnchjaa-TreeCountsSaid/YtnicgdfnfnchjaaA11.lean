/-
  Composite literals: a struct's value, a slice's elements.
-/
import Derived.Test.YtnicgdfnfnchjaaA10
set_option linter.unusedVariables false
namespace Go.Abs

theorem getElem?_setMany : ∀ (xs cs : List AV) (off o : Nat), off + xs.length ≤ cs.length → (setMany cs off xs)[o]? = if off ≤ o ∧ o < off + xs.length then xs[o - off]? else cs[o]?
  | [], cs, off, o, _ => by
    simp only [setMany, List.length_nil, Nat.add_zero]
    rw [if_neg (by omega)]
  | x :: xs, cs, off, o, h => by
    simp only [List.length_cons] at h
    rw [setMany, getElem?_setMany xs (cs.set off x) (off + 1) o (by simp; omega)]
    simp only [List.length_cons]
    by_cases h1 : off = o
    · subst h1
      rw [if_neg (by omega), if_pos (by omega)]
      simp [show off < cs.length by omega]
    · by_cases h2 : off + 1 ≤ o ∧ o < off + 1 + xs.length
      · rw [if_pos h2, if_pos (by omega), show o - off = (o - (off + 1)) + 1 by omega]
        simp
      · rw [if_neg h2, if_neg (by omega), List.getElem?_set_ne h1]

theorem foldl_set (off : Nat) : ∀ (l : List Value) (k : Nat) (arr : Array Value) (o : Nat), off + k + l.length ≤ arr.size →
    ((l.zipIdx k).foldl (fun cs (x : Value × Nat) => cs.setIfInBounds (off + x.2) x.1) arr)[o]? = if off + k ≤ o ∧ o < off + k + l.length then l[o - (off + k)]? else arr[o]?
  | [], k, arr, o, _ => by simp; omega
  | x :: l, k, arr, o, h => by
    simp only [List.length_cons] at h
    rw [List.zipIdx_cons, List.foldl_cons, foldl_set off l (k + 1) _ o (by simp; omega)]
    simp only [List.length_cons]
    by_cases h1 : off + k = o
    · subst h1
      rw [if_neg (by omega), if_pos (by omega)]
      simp [show off + k < arr.size by omega]
    · by_cases h2 : off + (k + 1) ≤ o ∧ o < off + (k + 1) + l.length
      · rw [if_pos h2, if_pos (by omega), show o - (off + k) = (o - (off + (k + 1))) + 1 by omega]
        simp
      · rw [if_neg h2, if_neg (by omega), Array.getElem?_setIfInBounds_ne h1]

theorem foldl_set_size (off : Nat) : ∀ (l : List (Value × Nat)) (arr : Array Value), (l.foldl (fun cs (x : Value × Nat) => cs.setIfInBounds (off + x.2) x.1) arr).size = arr.size
  | [], arr => rfl
  | x :: l, arr => by rw [List.foldl_cons, foldl_set_size off l]; simp

def afill (place : Nat → Option (Nat × Nat)) : List AV → List (Nat × AV) → Option (List AV)
  | cells, [] => some cells
  | cells, (i, v) :: r => match place i, acells v with
    | some (off, size), some cs => if cs.length = size ∧ off + size ≤ cells.length then afill place (setMany cells off cs) r else none
    | _, _ => none

/-- An array of cells is as a list says. -/
def ArrRel (σ : Sg) (arr : Array Value) (l : List AV) : Prop := arr.size = l.length ∧ ∀ (i : Nat) (v : AV), l[i]? = some v → ∃ x, arr[i]? = some x ∧ Rel σ v x

def PartsRel (σ : Sg) : List (Nat × Value) → List (Nat × AV) → Prop
  | [], [] => True
  | (i, x) :: r, (j, v) :: r' => i = j ∧ Rel σ v x ∧ PartsRel σ r r'
  | _, _ => False

section
variable {P : Program} {σ : Sg} {s : St} {nt : Nat} {a : Act} {w : World}

theorem fill_rel (place : Nat → Option (Nat × Nat)) : ∀ {ps : List (Nat × AV)} {ps' : List (Nat × Value)} {cells : List AV} {arr : Array Value} {out : List AV}, PartsRel σ ps' ps → ArrRel σ arr cells → afill place cells ps = some out →
    ∃ out', Instr.fill place arr ps' = some out' ∧ ArrRel σ out' out
  | [], [], cells, arr, out, _, ha, h => by simp only [afill, Option.some.injEq] at h; subst h; exact ⟨arr, rfl, ha⟩
  | [], _ :: _, _, _, _, hp, _, _ => hp.elim
  | _ :: _, [], _, _, _, hp, _, _ => hp.elim
  | (j, v) :: ps, (i, x) :: ps', cells, arr, out, hp, ha, h => by
    obtain ⟨rfl, hx, hp⟩ := hp
    simp only [afill] at h
    split at h
    · rename_i off size cs hpl hcs
      split at h
      · rename_i hc
        obtain ⟨e1, e2⟩ := acells_rel hcs hx
        have hsz : x.cells.size = size := by rw [← hc.1, ← e1]; simp
        have hle : off + x.cells.size ≤ arr.size := by rw [ha.1, hsz]; exact hc.2
        have ha' : ArrRel σ (x.cells.zipIdx.foldl (fun cs (c, j) => cs.setIfInBounds (off + j) c) arr) (setMany cells off cs) := by
          rw [← Array.foldl_toList, Array.toList_zipIdx]
          refine ⟨by rw [foldl_set_size, length_setMany]; exact ha.1, fun o u hu => ?_⟩
          have hl : x.cells.toList.length = cs.length := e1
          rw [getElem?_setMany _ _ _ _ (by rw [hc.1]; exact hc.2)] at hu
          rw [foldl_set off _ 0 arr o (by simpa using hle)]
          rw [hl, Nat.add_zero]
          split at hu
          · rename_i hin
            rw [if_pos hin]
            have h3 := (e2 _ _ hu).1
            have hlt : o - off < x.cells.toList.length := by rw [hl]; omega
            refine ⟨x.cells.toList[o - off], List.getElem?_eq_getElem hlt, ?_⟩
            rwa [List.getD_eq_getElem?_getD, List.getElem?_eq_getElem hlt] at h3
          · rename_i hin
            rw [if_neg hin]
            exact ha.2 o u hu
        obtain ⟨out', g1, g2⟩ := fill_rel place hp ha' h
        refine ⟨out', ?_, g2⟩
        simp only [Instr.fill, hpl]
        rw [if_neg (by simp [hsz]; omega)]
        exact g1
      · simp at h
    · simp at h

def evParts (s : St) : List (Nat × Operand) → Option (List (Nat × AV))
  | [] => some []
  | (i, x) :: r => match ev s x, evParts s r with | some v, some l => some ((i, v) :: l) | _, _ => none

theorem evParts_rel (hr : RelS σ s nt a w) : ∀ {l : List (Nat × Operand)} {r : List (Nat × AV)}, evParts s l = some r → PartsRel σ (l.map fun x => (x.1, a.eval x.2)) r
  | [], r, h => by simp [evParts] at h; subst h; trivial
  | (i, x) :: l, r, h => by
    simp only [evParts] at h
    split at h
    · rename_i v r' hx hl
      simp only [Option.some.injEq] at h; subst h
      exact ⟨rfl, ev_rel hr hx, evParts_rel hr hl⟩
    · simp at h

theorem ArrRel_of_cells {v : AV} {l : List AV} (h : v.cellsOf = some l) {x : Value} (hx : Rel σ v x) : ArrRel σ x.cells l := by
  obtain ⟨h1, h2⟩ := cellsOf_rel h hx
  refine ⟨h1, fun i u hu => ?_⟩
  have hlt : i < x.cells.size := by rw [h1]; exact (List.getElem?_eq_some_iff.1 hu).1
  refine ⟨x.cells[i], Array.getElem?_eq_getElem hlt, ?_⟩
  simpa [Array.getD_eq_getD_getElem?, hlt] using h2 i u hu

/-- Where a struct's fields lie. -/
def placeOf (P : Program) (fs : Array Field) (i : Nat) : Option (Nat × Nat) := (fs[i]?).map fun f => (f.offset, P.cellsOf f.type)

def allInfo (P : Program) (fs : Array Field) : Bool := fs.toList.all fun f => (P.info? f.type).isSome

def abuild (P : Program) (t : TypeId) (parts : List (Nat × AV)) : Option AV :=
  match P.underlying t, (azero P t).bind AV.cellsOf with
  | some (.struct fs), some z => if allInfo P fs then (afill (placeOf P fs) z parts).map .agg else none
  | some (.array _ e), some z => if (P.info? e).isSome then (afill (fun i => some (i * P.cellsOf e, P.cellsOf e)) z parts).map .agg else none
  | _, _ => none

theorem run_mapM_places : ∀ (fs : List Field) (w : World), (∀ f ∈ fs, (P.info? f.type).isSome = true) →
    (fs.mapM fun f => do pure (f.offset, ← sizeOf f.type) : Sem (List (Nat × Nat))).run P w = .ok (fs.map fun f => (f.offset, P.cellsOf f.type)) w
  | [], w, _ => rfl
  | f :: fs, w, h => by
    obtain ⟨i, hi⟩ := Option.isSome_iff_exists.1 (h f (List.mem_cons_self ..))
    rw [List.mapM_cons]
    simp only [Sem.run_bind, run_sizeOf' hi, Result.andThen_ok, Sem.run_pure]
    rw [run_mapM_places fs w (fun g hg => h g (List.mem_cons_of_mem _ hg))]
    rfl

theorem abuild_run {t : TypeId} {ps : List (Nat × AV)} {v : AV} (h : abuild P t ps = some v) {ps' : List (Nat × Value)} (hp : PartsRel σ ps' ps) :
    ∃ r, (Instr.build t ps'.toArray).run P w = .ok r w ∧ Rel σ v r := by
  unfold abuild at h
  split at h
  · rename_i fs z hu hz
    rw [Option.bind_eq_some_iff] at hz
    obtain ⟨zv, hz1, hz2⟩ := hz
    obtain ⟨zx, hzx, hzr⟩ := azero_run (σ := σ) (w := w) hz1
    split at h
    · rename_i hall
      rw [Option.map_eq_some_iff] at h
      obtain ⟨out, hf, rfl⟩ := h
      obtain ⟨out', g1, g2⟩ := fill_rel (placeOf P fs) hp (ArrRel_of_cells hz2 hzr) hf
      refine ⟨.agg out', ?_, .agg g2.1 (fun i x hx => ?_)⟩
      · have hm : (fs.mapM fun f => do pure (f.offset, ← sizeOf f.type) : Sem (Array (Nat × Nat))).run P w = .ok (fs.map fun f => (f.offset, P.cellsOf f.type)) w := by
          have h1 := run_mapM_places (P := P) fs.toList w (fun f hf => by simpa [allInfo] using List.all_eq_true.1 hall f hf)
          have h2 : (fs.mapM fun f => do pure (f.offset, ← sizeOf f.type) : Sem (Array (Nat × Nat))) = List.toArray <$> (fs.toList.mapM fun f => do pure (f.offset, ← sizeOf f.type) : Sem (List (Nat × Nat))) := by
            rw [Array.mapM_eq_mapM_toList]
          rw [h2, Sem.run_map, h1]
          simp only [Result.andThen_ok]
          rw [show (fs.toList.map fun f => (f.offset, P.cellsOf f.type)).toArray = fs.map fun f => (f.offset, P.cellsOf f.type) by cases fs; simp]
        unfold Instr.build
        simp only [Sem.run_bind, hzx, Result.andThen_ok, run_underlying hu, hm]
        have : (fun i => (fs.map fun f => (f.offset, P.cellsOf f.type))[i]?) = placeOf P fs := by funext i; simp [placeOf]
        rw [this, g1]; rfl
      · obtain ⟨y, hy, hyr⟩ := g2.2 i x hx
        simpa [Array.getD_eq_getD_getElem?, hy] using hyr
    · simp at h
  · rename_i n e z hu hz
    rw [Option.bind_eq_some_iff] at hz
    obtain ⟨zv, hz1, hz2⟩ := hz
    obtain ⟨zx, hzx, hzr⟩ := azero_run (σ := σ) (w := w) hz1
    split at h
    · rename_i hi
      obtain ⟨i, hi⟩ := Option.isSome_iff_exists.1 hi
      rw [Option.map_eq_some_iff] at h
      obtain ⟨out, hf, rfl⟩ := h
      obtain ⟨out', g1, g2⟩ := fill_rel (fun i => some (i * P.cellsOf e, P.cellsOf e)) hp (ArrRel_of_cells hz2 hzr) hf
      refine ⟨.agg out', ?_, .agg g2.1 (fun i x hx => ?_)⟩
      · unfold Instr.build
        simp only [Sem.run_bind, hzx, Result.andThen_ok, run_underlying hu, run_sizeOf' hi]
        rw [g1]; rfl
      · obtain ⟨y, hy, hyr⟩ := g2.2 i x hx
        simpa [Array.getD_eq_getD_getElem?, hy] using hyr
    · simp at h
  · simp at h
end
end Go.Abs
