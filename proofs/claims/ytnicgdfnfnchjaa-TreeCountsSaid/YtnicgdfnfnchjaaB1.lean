/-
  make of slices, copy, clear.
-/
import Derived.Test.YtnicgdfnfnchjaaA15
set_option linter.unusedVariables false
namespace Go.Abs

/-- 'make([]T, n)': a new block of the heap. -/
def amake (P : Program) (s : St) (d : Nat) (t : TypeId) (n : Int) : Option St :=
  match P.underlying t with
  | some (.slice e) => match (azero P e).bind AV.cellsOf with
    | some z => if z.length = P.cellsOf e ∧ P.cellsOf e ≠ 0 ∧ 0 ≤ n ∧ P.bytesOf e ≤ 32768 ∧ n ≤ 2147483648 ∧ z.all (AV.fits (.g s.G.length)) then
        some { ts := (d, .ref (.g s.G.length) 0 n.toNat n.toNat) :: s.ts, L := s.L, G := s.G ++ [.cells (zrep n.toNat z)] } else none
    | none => none
  | _ => none

def isSl : AV → Bool
  | .p (.vec _) | .own _ _ | .ref _ _ _ _ => true
  | _ => false

/-- 'copy(x, y)', y no longer than x. -/
def acopy (P : Program) (s : St) (t : TypeId) (x y : AV) : Option (St × Nat) :=
  match P.underlying t with
  | some (.slice e) => match rowsOf s (P.cellsOf e) y with
    | some rows => if P.cellsOf e ≠ 0 ∧ rows.all (·.length == P.cellsOf e) then match x with
        | .ref k off len _ => match s.look k with
          | some (.cells cs) => if rows.length ≤ len ∧ off + rows.length * P.cellsOf e ≤ cs.length then
              some (if rows = [] then s else s.setBlk k (setMany cs off (rows.flatten.map .p)), rows.length) else none
          | _ => none
        | v => if isSl v ∧ rows = [] then some (s, 0) else none
      else none
    | none => none
  | _ => none

def aclear (P : Program) (s : St) (t : TypeId) (x : AV) : Option St :=
  match P.underlying t, x with
  | some (.map _ _), .map id => match s.G[id]? with
    | some (.map _ clock) => some { s with G := s.G.set id (.map [] clock) }
    | _ => none
  | _, _ => none

section
variable {P : Program} {σ : Sg} {s : St} {nt : Nat} {a : Act} {w : World}

theorem i64wrap_id {n : Int} (h0 : 0 ≤ n) (h1 : n ≤ 2147483648) : IntKind.i64.wrap n = n := by
  have e : n % (2 ^ 64 : Int) = n := Int.emod_eq_of_lt h0 (by omega)
  have e2 : ¬ (n ≥ (2 ^ 63 : Int)) := by omega
  unfold IntKind.wrap
  show (if IntKind.i64.signed && decide (n % (2 ^ 64 : Int) ≥ (2 ^ 63 : Int)) then n % (2 ^ 64 : Int) - (2 ^ 64 : Int) else n % (2 ^ 64 : Int)) = n
  rw [e]
  simp
  intro _ h
  omega

theorem amake_does {o : Oper} {t : TypeId} {l c : Operand} {d : Nat} (ho : o.op = .makeSlice t l c) (hd : o.dst = some d) (hn : d < nt) {k k' : IntKind} {n : Int} (hl : ev s l = some (.p (.int k n))) (hc : ev s c = some (.p (.int k' n)))
    {s' : St} (h : amake P s d t n = some s') : Does P nt s o s' := by
  intro σ a w hr
  unfold amake at h
  split at h
  · rename_i e hu
    split at h
    · rename_i z hz
      split at h
      · rename_i hcond
        obtain ⟨hz1, hz2, h0, hby, hmax, hfit⟩ := hcond
        simp only [Option.some.injEq] at h; subst h
        rw [Option.bind_eq_some_iff] at hz
        obtain ⟨zv, hzv1, hzv2⟩ := hz
        obtain ⟨zx, hzx, hzr⟩ := azero_run (σ := σ) (w := w) hzv1
        have hzc := ArrRel_of_cells hzv2 hzr
        have hzsz : zx.cells.size = P.cellsOf e := by rw [hzc.1, hz1]
        have hlr := ev_rel hr hl
        have hcr := ev_rel hr hc
        generalize hlx : a.eval l = lx at hlr
        generalize hcx : a.eval c = cx at hcr
        have hl1 : lx = .int k n := by cases hlr with | p hlr => cases hlr; rfl
        have hc1 : cx = .int k' n := by cases hcr with | p hcr => cases hcr; rfl
        subst hl1 hc1
        obtain ⟨i, hi⟩ : ∃ i, P.info? e = some i := by
          cases hi : P.info? e with
          | none => simp [Program.cellsOf, hi] at hz2
          | some i => exact ⟨i, rfl⟩
        have hti : ∀ w, (typeInfo e).run P w = .ok i w := fun w => by simp [typeInfo, hi]
        have hib : i.bytes ≤ 32768 := by simpa [Program.bytesOf, hi] using hby
        let m := n.toNat * P.cellsOf e
        let cs := (Array.range m).map (fun i => zx.cells[i % zx.cells.size]!)
        have hinit : ArrRel σ cs (zrep n.toNat z) := by
          refine ⟨by simp [cs, m, length_zrep, hz1], fun i v hv => ?_⟩
          have hi : i < n.toNat * z.length := by rw [← length_zrep]; exact (List.getElem?_eq_some_iff.1 hv).1
          rw [getElem?_zrep _ _ _ hi] at hv
          obtain ⟨x, hx1, hx2⟩ := hzc.2 _ _ hv
          refine ⟨x, ?_, hx2⟩
          rw [hz1] at hi hx1
          simp only [cs, m]
          rw [hzsz]
          simp [hi, getElem!_def, hx1]
        have hkk := hr.gfree s.G.length (Nat.le_refl _)
        have hB : RelB (σ.setBlk (.g s.G.length) w.heap.size) (w.alloc (.cells cs e)) w.heap.size (.cells (zrep n.toNat z)) := by
          refine ⟨cs, e, heap_alloc_new _ _, Nat.le_of_eq hinit.1.symm, fun j x hj => ?_⟩
          obtain ⟨y, hy, hyr⟩ := hinit.2 j x hj
          have : cs.getD j undef = y := by simp [Array.getD_eq_getD_getElem?, hy]
          rw [this]
          exact hyr.new hkk
        have hinv : BlkInv (.g s.G.length) (.cells (zrep n.toNat z)) := by
          intro j x hj
          have hi : j < n.toNat * z.length := by rw [← length_zrep]; exact (List.getElem?_eq_some_iff.1 hj).1
          rw [getElem?_zrep _ _ _ hi] at hj
          exact chk_imp (fun _ h => h) (fun _ h => by simp at h) _ (List.all_eq_true.1 hfit x (List.mem_of_getElem? hj))
        obtain ⟨g1, g2⟩ := hr.newG (o := .cells cs e) hB hinv
        refine ⟨.slice (some ⟨w.heap.size, 0, none⟩) n.toNat n.toNat, _, _, .inl ?_, ?_, g2⟩
        · have hwr := i64wrap_id h0 hmax
          have hlarge : ¬ (i.bytes * n > 2 ^ 48) := by
            have h1 : (i.bytes : Int) * n ≤ 32768 * 2147483648 := Int.mul_le_mul (by omega) hmax h0 (by omega)
            omega
          unfold execOp; rw [ho]
          have hd1 : (decide (n < 0) || decide (2 ^ 48 < (i.bytes : Int) * n)) = false := by simp; omega
          have hn0 : ¬ n < 0 := by omega
          have hlarge' : ¬ (281474976710656 < (i.bytes : Int) * n) := by omega
          simp [hlx, hcx, Instr.makeSlice, run_underlying hu, asInt, asIntOf, hti, hwr, run_sizeOf_ne hz2, hn0, hlarge']
          by_cases hm0 : n.toNat * P.cellsOf e = 0
          · rw [if_pos hm0, hm0]
            have : (Array.map (fun x => (default : Value)) (Array.range 0)) = cs := by simp [cs, m, hm0]
            rw [this]
            simp [run_newRow]
          · rw [if_neg hm0]
            simp [hzx, run_newRow, cs, m]
        · rw [hd]
          exact g1.put (v := .ref (.g s.G.length) 0 n.toNat n.toNat) (.ref 0 _ _ _ (by simp [Sg.setBlk]) (Nat.le_refl _)) (dst := some d) (by simp [dstOk, hn])
      · simp at h
    · simp at h
  · simp at h

theorem cells_flat {I : Nat → Nat → Option Value} {sz : Nat} {rows : List (List PV)} (hs : ∀ row ∈ rows, row.length = sz) {arr : Array Value} (h : Cells I sz rows arr) :
    arr.size = rows.flatten.length ∧ ∀ (j : Nat) (v : PV), rows.flatten[j]? = some v → RelP I v (arr.getD j undef) := by
  obtain ⟨h1, h2⟩ := h
  have hlen : ∀ rows : List (List PV), (∀ row ∈ rows, row.length = sz) → rows.flatten.length = rows.length * sz := by
    intro rows hs
    induction rows with
    | nil => simp
    | cons r rs ih =>
      simp only [List.flatten_cons, List.length_append, List.length_cons, Nat.add_mul, Nat.one_mul]
      rw [ih (fun row h => hs row (by simp [h])), hs r (by simp)]; omega
  have hget : ∀ (rows : List (List PV)), (∀ row ∈ rows, row.length = sz) → ∀ (j : Nat) (v : PV), rows.flatten[j]? = some v → ∃ i r c, rows[i]? = some r ∧ r[c]? = some v ∧ j = i * sz + c := by
    intro rows hs
    induction rows with
    | nil => intro j v h; simp at h
    | cons r rs ih =>
      intro j v h
      have hr := hs r (by simp)
      rw [List.flatten_cons, List.getElem?_append] at h
      split at h
      · rename_i hj; exact ⟨0, r, j, rfl, h, by simp⟩
      · rename_i hj
        obtain ⟨i, r', c, q1, q2, q3⟩ := ih (fun row h => hs row (by simp [h])) _ _ h
        exact ⟨i + 1, r', c, by simpa using q1, q2, by rw [Nat.add_mul]; omega⟩
  refine ⟨by rw [h1, hlen rows hs], fun j v hj => ?_⟩
  obtain ⟨i, r, c, q1, q2, rfl⟩ := hget rows hs j v hj
  exact h2 i r c v q1 q2

theorem acopy_does {o : Oper} {sT xT : TypeId} {bx xx : Operand} (ho : o.op = .call { callee := .builtin .copy, args := #[bx, xx], argTypes := #[sT, xT] }) (hd : dstOk nt o.dst = true) {bv xv : AV}
    (hb : ev s bx = some bv) (hx : ev s xx = some xv) {r : St × Nat} (h : acopy P s sT bv xv = some r) : Does P nt s o (r.1.put o.dst (.p (.int .i64 r.2))) := by
  intro σ a w hr
  unfold acopy at h
  split at h
  · rename_i e hu
    split at h
    · rename_i rows hrows
      split at h
      · rename_i hcond
        obtain ⟨h0, hs⟩ := hcond
        have hs := all_len hs
        have hbr := ev_rel hr hb
        have hxr := ev_rel hr hx
        generalize hbx : a.eval bx = bx' at hbr
        generalize hxx : a.eval xx = xx' at hxr
        obtain ⟨⟨xa, xlen, xcap, hxe, hxl⟩, arr, hnr, harr⟩ := rowsOf_cells (P := P) hr h0 hrows hs hxr
        have hlenOf : (Builtin.lenOf xx').run P w = .ok rows.length w := by rw [hxe, hxl]; rfl
        have hfin : ∀ v w', (Builtin.copy_ #[sT, xT] o.type #[bx', xx']).run P w = .ok v w' → (execOp a.eval o).run P w = .ok (.value v) w' := by
          intro v w' h
          have : execOp a.eval o = (do pure (Next.value (← Builtin.copy_ #[sT, xT] o.type ((#[bx, xx] : Array Operand).map a.eval))) : Sem Next) := by
            unfold execOp; rw [ho]; rfl
          rw [this, show (#[bx, xx] : Array Operand).map a.eval = #[bx', xx'] by simp [hbx, hxx]]
          rw [Sem.run_bind, h]; rfl
        have res : ∀ {ba len cap}, bx' = .slice ba len cap → rows.length ≤ len → ∀ {w'}, (∀ (b : Addr), ba = some b → (storeCells b arr.toList).run P w = .ok () w') → (ba = none → w' = w) →
            (Builtin.copy_ #[sT, xT] o.type #[bx', xx']).run P w = .ok (goInt rows.length) w' := by
          intro ba len cap he hle w' h1 h2
          have hmin : Nat.min rows.length len = rows.length := Nat.min_eq_left hle
          subst he
          cases ba with
          | none =>
            simp [Builtin.copy_, run_underlying hu, hlenOf, hmin, run_sizeOf_ne h0, hnr, h2 rfl]
          | some b =>
            simp [Builtin.copy_, run_underlying hu, hlenOf, hmin, run_sizeOf_ne h0, hnr, h1 b rfl]
        split at h
        · rename_i k off len cap
          split at h
          · rename_i cs hl
            split at h
            · rename_i hc2
              obtain ⟨hle, hoff⟩ := hc2
              simp only [Option.some.injEq] at h; subst h
              obtain ⟨f1, f2⟩ := cells_flat hs harr
              cases hbr with | ref off len cap cap' hbk hcc =>
              have hflen : rows.flatten.length = rows.length * P.cellsOf e := by rw [← f1, harr.1]
              obtain ⟨w', g1, g2, g3⟩ := storeMany (P := P) (off := off) hbk (rows.flatten.map .p) arr.toList s cs w 0 hr hl (by rw [List.length_map, ← f1]; simp) (fun j v hj => by
                rw [List.getElem?_map, Option.map_eq_some_iff] at hj
                obtain ⟨p, hp, rfl⟩ := hj
                have := f2 j p hp
                have e1 : arr.toList.getD j undef = arr.getD j undef := by simp [Array.getD_eq_getD_getElem?, List.getD_eq_getElem?_getD]
                rw [e1]
                exact ⟨.p this, relP_one this⟩) (List.all_eq_true.2 fun x hx => by
                  obtain ⟨p, _, rfl⟩ := List.mem_map.1 hx; rfl) (by rw [List.length_map, hflen, Nat.add_zero]; exact hoff)
              refine ⟨goInt rows.length, w', σ, .inl (hfin _ _ (res rfl hle (fun b hb => by cases hb; exact g1) (fun h => by simp at h))), ?_, g3⟩
              have hiff : (rows.flatten.map AV.p = []) ↔ rows = [] := by
                constructor
                · intro h
                  have : rows.flatten.length = 0 := by rw [← List.length_map (f := AV.p), h]; rfl
                  rw [hflen] at this
                  rcases Nat.mul_eq_zero.1 this with h | h
                  · exact List.length_eq_zero_iff.1 h
                  · exact absurd h h0
                · intro h; subst h; rfl
              have g2' : RelS σ (if rows = [] then s else s.setBlk k (setMany cs off (rows.flatten.map .p))) nt a w' := by
                by_cases hrw : rows = []
                · rw [if_pos (hiff.2 hrw)] at g2; rw [if_pos hrw]; exact g2
                · rw [if_neg (fun h => hrw (hiff.1 h))] at g2; rw [if_neg hrw]; exact g2
              exact g2'.put (.p (.int _ _)) hd
            · simp at h
          · simp at h
        · rename_i hne
          split at h
          · rename_i hc2
            obtain ⟨hsl, hrw⟩ := hc2
            simp only [Option.some.injEq] at h; subst h
            subst hrw
            obtain ⟨ba, len, cap, rfl⟩ : ∃ ba len cap, bx' = .slice ba len cap := by
              cases hbr with
              | p h => cases h <;> first | (simp [isSl] at hsl; done) | exact ⟨_, _, _, rfl⟩
              | own h _ => exact ⟨_, _, _, rfl⟩
              | ref => exact ⟨_, _, _, rfl⟩
              | _ => simp [isSl] at hsl
            have harr0 : arr = #[] := by
              have := harr.1
              simpa using this
            exact ⟨goInt 0, w, σ, .inl (hfin _ _ (res rfl (by simp) (fun b hb => by rw [harr0]; rfl) (fun _ => rfl))), hr.put (.p (.int _ _)) hd, .refl _ _⟩
          · simp at h
      · simp at h
    · simp at h
  · simp at h

theorem aclear_does {o : Oper} {t : TypeId} {x : Operand} (ho : o.op = .call { callee := .builtin .clear, args := #[x], argTypes := #[t] }) (hd : dstOk nt o.dst = true) {xv : AV} (hx : ev s x = some xv)
    {s' : St} (h : aclear P s t xv = some s') : Does P nt s o (s'.put o.dst (.tuple [])) := by
  intro σ a w hr
  unfold aclear at h
  split at h
  · rename_i kt et id hu
    split at h
    · rename_i es clock hg
      simp only [Option.some.injEq] at h; subst h
      have hxr := ev_rel hr hx
      generalize hxx : a.eval x = x' at hxr
      cases hxr with | map hb =>
      rename_i b0
      obtain ⟨b', hb', es', h1, h2, h3⟩ := hr.blks (.g id) _ (show s.look (.g id) = _ from hg)
      rw [hb] at hb'; cases hb'
      have hlt := hr.wf.lt _ _ hb
      obtain ⟨g1, g2⟩ := hr.setG hg hb (o := .map #[] clock) (blk := .map [] clock) (fun w' hw' => ⟨#[], hw', rfl, by simp⟩) (fun j e he => by simp at he) hlt (nf_map h1)
      refine ⟨.tuple #[], _, σ, .inl ?_, g1.put (.tuple rfl (by simp)) hd, g2⟩
      have : execOp a.eval o = (do pure (Next.value (← Builtin.clear_ #[t] o.type ((#[x] : Array Operand).map a.eval))) : Sem Next) := by
        unfold execOp; rw [ho]; rfl
      rw [this, show (#[x] : Array Operand).map a.eval = #[.map (some b0)] by simp [hxx]]
      simp [Builtin.clear_, run_underlying hu, h1, getObj, setObj, Sem.run]
    · simp at h
  · simp at h
end
end Go.Abs
