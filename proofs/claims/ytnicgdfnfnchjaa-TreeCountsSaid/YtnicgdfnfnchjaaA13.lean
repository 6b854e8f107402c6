/-
  append.
-/
import Derived.Test.YtnicgdfnfnchjaaA12
set_option linter.unusedVariables false
namespace Go.Abs

/-- The elements of a slice of whatever kind. -/
def rowsOf (s : St) (sz : Nat) : AV → Option (List (List PV))
  | .p (.vec rows) => some rows
  | .own rows _ => some rows
  | .ref k off len _ => match s.look k with
    | some (.cells cs) => if off + len * sz ≤ cs.length then (toPVs ((cs.drop off).take (len * sz))).map (chunk sz len) else none
    | _ => none
  | _ => none

def appendTok (d : Nat) (k : Tok) (t : Tok) : Bool := t == .s d || (t == k && !(isC t) && !(t == .n))

def aappend (P : Program) (s : St) (sT xT : TypeId) (base x : AV) : Option (List (List PV) × Tok) :=
  match P.underlying sT, P.underlying xT, base with
  | some (.slice e), some (.slice _), .own rows k =>
    match rowsOf s (P.cellsOf e) x, (azero P e).bind AV.cellsOf with
    | some rows2, some z =>
      if P.cellsOf e ≠ 0 ∧ z.length = P.cellsOf e ∧ P.bytesOf e ≤ 32768 ∧ isC k = false ∧ rows.all (·.length == P.cellsOf e) ∧ rows2.all (·.length == P.cellsOf e) ∧ rows.length + rows2.length ≤ 2147483648 then
        some (rows ++ rows2, k) else none
    | _, _ => none
  | _, _, _ => none

/-- What an append asks of the elements. -/
def appC (sz : Nat) (rows rows2 : List (List PV)) : Prop := (∀ row ∈ rows, row.length = sz) ∧ (∀ row ∈ rows2, row.length = sz) ∧ rows.length + rows2.length ≤ 2147483648

/-- An append of which the elements are not known, under a condition. -/
def aappend0 (P : Program) (s : St) (sT xT : TypeId) (base x : AV) : Option (List (List PV) × Tok × Prop) :=
  match P.underlying sT, P.underlying xT, base with
  | some (.slice e), some (.slice _), .own rows k =>
    match rowsOf s (P.cellsOf e) x, (azero P e).bind AV.cellsOf with
    | some rows2, some z =>
      if P.cellsOf e ≠ 0 ∧ z.length = P.cellsOf e ∧ P.bytesOf e ≤ 32768 ∧ isC k = false then some (rows ++ rows2, k, appC (P.cellsOf e) rows rows2) else none
    | _, _ => none
  | _, _, _ => none

theorem aappend0_some {P : Program} {s : St} {sT xT : TypeId} {base x : AV} {r : List (List PV)} {k : Tok} {C : Prop} (h : aappend0 P s sT xT base x = some (r, k, C)) (hC : C) : aappend P s sT xT base x = some (r, k) := by
  unfold aappend0 at h
  split at h
  · rename_i e e2 rows k' hu hxu
    split at h
    · rename_i rows2 z hrows hz
      split at h
      · rename_i hc
        simp only [Option.some.injEq, Prod.mk.injEq] at h
        obtain ⟨rfl, rfl, rfl⟩ := h
        obtain ⟨q1, q2, q3⟩ := hC
        unfold aappend
        simp only [hu, hxu, hrows, hz]
        rw [if_pos ⟨hc.1, hc.2.1, hc.2.2.1, hc.2.2.2, List.all_eq_true.2 fun r hr => by simpa using q1 r hr, List.all_eq_true.2 fun r hr => by simpa using q2 r hr, q3⟩]
      · cases h
    · cases h
  · cases h

section
variable {P : Program} {σ : Sg} {s : St} {nt : Nat} {a : Act} {w : World}

theorem relP_one {I : Nat → Nat → Option Value} {v : PV} {x : Value} (h : RelP I v x) : x.oneCell' = true := by cases h <;> rfl

/-- What 'firstCells' reads of a slice whose elements are known. -/
def Cells (I : Nat → Nat → Option Value) (sz : Nat) (rows : List (List PV)) (arr : Array Value) : Prop :=
  arr.size = rows.length * sz ∧ ∀ i row j c, rows[i]? = some row → row[j]? = some c → RelP I c (arr.getD (i * sz + j) undef)

theorem idx_lt {i n sz j : Nat} (hi : i < n) (hj : j < sz) : i * sz + j < n * sz := by
  have : i * sz + sz ≤ n * sz := by rw [← Nat.succ_mul]; exact Nat.mul_le_mul_right _ hi
  omega

theorem vec_cells (hr : RelS σ s nt a w) {rows : List (List PV)} {sz : Nat} (hs : ∀ row ∈ rows, row.length = sz) {ba : Option Addr} {len cap : Nat} (h : RelP σ.I (.vec rows) (.slice ba len cap)) :
    ∃ arr, (Builtin.firstCells sz rows.length (.slice ba len cap)).run P w = .ok arr w ∧ Cells σ.I sz rows arr := by
  cases h with
  | vec0 =>
    refine ⟨#[], ?_, by simp, by simp⟩
    cases ba <;> simp [Builtin.firstCells, loadCells, loadCellsFrom]
  | vec _ b o _ sz' val hsz hI hR hmax hcap =>
    have hz : rows ≠ [] → sz' = sz := fun hne => by
      obtain ⟨r, hm⟩ := List.exists_mem_of_ne_nil _ hne
      exact (hsz _ hm).symm.trans (hs _ hm)
    by_cases hne : rows = []
    · subst hne
      exact ⟨#[], by simp [Builtin.firstCells, loadCells, loadCellsFrom], by simp, by simp⟩
    · have := hz hne; subst this
      by_cases h0 : sz' = 0
      · subst h0
        refine ⟨#[], by simp [Builtin.firstCells, loadCells, loadCellsFrom], by simp, fun i row j c hi hj => ?_⟩
        have h1 := hsz row (List.mem_of_getElem? hi)
        have := (List.getElem?_eq_some_iff.1 hj).1
        omega
      · let f : Nat → Value := fun n => val (n / sz') (n % sz')
        have hf : ∀ n, n < rows.length * sz' → w.cell? ((⟨b, o, none⟩ : Addr).add n) = some (f n) := by
          intro n hn
          rw [add_none]
          have h1 : n / sz' < rows.length := Nat.div_lt_of_lt_mul (by rwa [Nat.mul_comm])
          have h2 : n % sz' < sz' := Nat.mod_lt _ (by omega)
          have h3 := hr.wf.imm _ _ _ (hI _ _ h1 h2)
          have h4 : o + n / sz' * sz' + n % sz' = o + n := by rw [Nat.add_assoc, Nat.div_add_mod']
          rwa [h4] at h3
        refine ⟨((List.range (rows.length * sz')).map f).toArray, ?_, by simp, fun i row j c hi hj => ?_⟩
        · simp only [Builtin.firstCells]
          exact run_loadCells w _ _ f hf
        · have hil := (List.getElem?_eq_some_iff.1 hi).1
          have hjl : j < sz' := by rw [← hsz row (List.mem_of_getElem? hi)]; exact (List.getElem?_eq_some_iff.1 hj).1
          have hlt := idx_lt hil hjl
          have e1 : (i * sz' + j) / sz' = i := by rw [Nat.mul_comm, Nat.mul_add_div (by omega), Nat.div_eq_of_lt hjl, Nat.add_zero]
          have e2 : (i * sz' + j) % sz' = j := by rw [Nat.mul_comm, Nat.mul_add_mod, Nat.mod_eq_of_lt hjl]
          simp only [Array.getD_eq_getD_getElem?, List.getElem?_toArray, List.getElem?_map, List.getElem?_range hlt, Option.map_some, Option.getD_some, f, e1, e2]
          exact hR i row j c hi hj

theorem rowsOf_cells (hr : RelS σ s nt a w) {v : AV} {sz : Nat} (h0 : sz ≠ 0) {rows : List (List PV)} (h : rowsOf s sz v = some rows) (hs : ∀ row ∈ rows, row.length = sz) {x : Value} (hx : Rel σ v x) :
    (∃ ba len cap, x = .slice ba len cap ∧ len = rows.length) ∧ ∃ arr, (Builtin.firstCells sz rows.length x).run P w = .ok arr w ∧ Cells σ.I sz rows arr := by
  unfold rowsOf at h
  split at h
  · simp only [Option.some.injEq] at h; subst h
    cases hx with | p hx =>
    obtain ⟨ba, cap, rfl⟩ := len_vec hx
    exact ⟨⟨_, _, _, rfl, rfl⟩, vec_cells hr hs hx⟩
  · simp only [Option.some.injEq] at h; subst h
    cases hx with | own hx _ =>
    obtain ⟨ba, cap, hy⟩ := len_vec hx
    cases hy
    exact ⟨⟨_, _, _, rfl, rfl⟩, vec_cells hr hs hx⟩
  · rename_i k off len cap
    split at h
    · rename_i cs hl
      split at h
      · rename_i hle
        rw [Option.map_eq_some_iff] at h
        obtain ⟨pvs, hp, rfl⟩ := h
        obtain ⟨p1, p2⟩ := toPVs_rel hp
        have hpl : pvs.length = len * sz := by rw [← p1]; simp; omega
        cases hx with | ref _ _ _ cap' hb hcc =>
        obtain ⟨b', hb', c, T, hc, hsz, hcs⟩ := hr.blks _ _ hl
        rw [hb] at hb'; cases hb'
        refine ⟨⟨_, _, _, rfl, (length_chunk _ _ _).symm⟩, ((List.range (len * sz)).map fun n => c.getD (off + n) undef).toArray, ?_, by simp [length_chunk], fun i row j u hi hj => ?_⟩
        · rw [length_chunk]
          simp only [Builtin.firstCells]
          refine run_loadCells w _ _ _ (fun n hn => ?_)
          rw [add_none, cell_of_block hc]
          have : off + n < c.size := by omega
          simp [this, Array.getD_eq_getD_getElem?]
        · have hil : i < len := by have := (List.getElem?_eq_some_iff.1 hi).1; rwa [length_chunk] at this
          have hjl : j < sz := by rw [← hs row (List.mem_of_getElem? hi)]; exact (List.getElem?_eq_some_iff.1 hj).1
          have hlt := idx_lt hil hjl
          rw [getElem?_chunk _ _ _ _ hil] at hi
          simp only [Option.some.injEq] at hi; subst hi
          rw [List.getElem?_take, if_pos hjl, List.getElem?_drop] at hj
          obtain ⟨y, hy1, hy2⟩ := p2 _ _ hj
          rw [List.getElem?_take, if_pos hlt, List.getElem?_drop] at hy1
          have := hy2 σ _ (hcs _ _ hy1)
          simpa only [Array.getD_eq_getD_getElem?, List.getElem?_toArray, List.getElem?_map, List.getElem?_range hlt, Option.map_some, Option.getD_some] using this
      · simp at h
    · simp at h
  · simp at h

theorem Cells.one {I : Nat → Nat → Option Value} {sz : Nat} (h0 : sz ≠ 0) {rows : List (List PV)} (hs : ∀ row ∈ rows, row.length = sz) {arr : Array Value} (h : Cells I sz rows arr) : ∀ x ∈ arr.toList, x.oneCell' = true := by
  intro x hx
  obtain ⟨n, hn, rfl⟩ := List.getElem_of_mem hx
  simp only [Array.length_toList] at hn
  have hn' : n < rows.length * sz := by rw [← h.1]; exact hn
  have h1 : n / sz < rows.length := Nat.div_lt_of_lt_mul (by rwa [Nat.mul_comm])
  have h2 : n % sz < sz := Nat.mod_lt _ (by omega)
  have hrow := hs _ (List.getElem_mem h1)
  have := h.2 (n / sz) rows[n / sz] (n % sz) (rows[n / sz][n % sz]'(by rw [hrow]; exact h2)) (List.getElem?_eq_getElem h1) (List.getElem?_eq_getElem _)
  rw [Nat.div_add_mod'] at this
  simpa [Array.getD_eq_getD_getElem?, hn] using relP_one this

/-- Two lists of elements, one behind the other. -/
theorem relP_append {I : Nat → Nat → Option Value} {sz b o cap : Nat} {rows rows2 : List (List PV)} (hs : ∀ row ∈ rows, row.length = sz) (hs2 : ∀ row ∈ rows2, row.length = sz) {f : Nat → Value}
    (hI : ∀ n, n < (rows.length + rows2.length) * sz → I b (o + n) = some (f n)) (h1 : ∀ i row j c, rows[i]? = some row → row[j]? = some c → RelP I c (f (i * sz + j)))
    (h2 : ∀ i row j c, rows2[i]? = some row → row[j]? = some c → RelP I c (f ((rows.length + i) * sz + j))) (hmax : rows.length + rows2.length ≤ maxLen) (hcap : rows.length + rows2.length ≤ cap) :
    RelP I (.vec (rows ++ rows2)) (.slice (some ⟨b, o, none⟩) (rows.length + rows2.length) cap) := by
  have := RelP.vec (I := I) (rows ++ rows2) b o cap sz (fun i j => f (i * sz + j)) (fun row hr => by rcases List.mem_append.1 hr with h | h; exact hs _ h; exact hs2 _ h)
    (fun i j hi hj => by rw [Nat.add_assoc]; exact hI _ (by rw [List.length_append] at hi; exact idx_lt hi hj))
    (fun i row j c hi hj => by
      rw [List.getElem?_append] at hi
      split at hi
      · exact h1 i row j c hi hj
      · rename_i hge
        have := h2 (i - rows.length) row j c hi hj
        rwa [show rows.length + (i - rows.length) = i by omega] at this) (by rw [List.length_append]; exact hmax) (by rw [List.length_append]; exact hcap)
  rwa [List.length_append] at this
end
end Go.Abs
