/-
  append to nothing: a new block of the heap, that may be written in place.
-/
import Derived.Test.YtnicgdfnfnchjaaB2
set_option linter.unusedVariables false
namespace Go.Abs

def aappendF (P : Program) (s : St) (d : Nat) (sT xT : TypeId) (base x : AV) : Option St :=
  match P.underlying sT, P.underlying xT, base with
  | some (.slice e), some (.slice _), .own [] _ =>
    match rowsOf s (P.cellsOf e) x, (azero P e).bind AV.cellsOf with
    | some rows2, some z =>
      if P.cellsOf e ≠ 0 ∧ z.length = P.cellsOf e ∧ P.bytesOf e ≤ 32768 ∧ rows2.all (·.length == P.cellsOf e) ∧ rows2.length ≤ 2147483648 ∧ rows2.isEmpty = false then
        some { ts := (d, .ref (.g s.G.length) 0 rows2.length rows2.length) :: s.ts, L := s.L, G := s.G ++ [.cells (rows2.flatten.map .p)] } else none
    | _, _ => none
  | _, _, _ => none

section
variable {P : Program} {σ : Sg} {s : St} {nt : Nat} {a : Act} {w : World}

theorem aappendF_does {o : Oper} {sT xT : TypeId} {bx xx : Operand} {d : Nat} (ho : o.op = .call { callee := .builtin .append, args := #[bx, xx], argTypes := #[sT, xT] }) (hd : o.dst = some d) (hn : d < nt) {bv xv : AV}
    (hb : ev s bx = some bv) (hx : ev s xx = some xv) {s' : St} (h : aappendF P s d sT xT bv xv = some s') : Does P nt s o s' := by
  intro σ a w hr
  unfold aappendF at h
  split at h
  · rename_i e e2 k hu hxu
    split at h
    · rename_i rows2 z hrows hz
      split at h
      · rename_i hc
        obtain ⟨h0, hzl, hby, hs2, hbound, hne⟩ := hc
        simp only [Option.some.injEq] at h; subst h
        have hs2 := all_len hs2
        have hpos : 0 < rows2.length := by cases rows2 <;> simp_all
        rw [Option.bind_eq_some_iff] at hz
        obtain ⟨zv, hz1, hz2⟩ := hz
        have hbr := ev_rel hr hb
        have hxr := ev_rel hr hx
        generalize hbx : a.eval bx = bx' at hbr
        generalize hxx : a.eval xx = xx' at hxr
        obtain ⟨⟨xa, xlen, xcap, hxe, hxl⟩, new, hnr, hnew⟩ := rowsOf_cells (P := P) hr h0 hrows hs2 hxr
        cases hbr with | own hv hown =>
        rename_i ba len cap
        obtain ⟨hlen, hcap⟩ := cap_le hv
        have hlen0 : len = 0 := hlen
        have hcap0 : cap = 0 := by
          rcases hown with h | ⟨b, o, sz, l, _, _, _, h, _⟩
          · rw [h]; exact hlen0
          · exact absurd rfl h
        subst hlen0 hcap0
        have hlenOf : (Builtin.lenOf xx').run P w = .ok rows2.length w := by rw [hxe, hxl]; rfl
        have hfin : ∀ v w', (Builtin.append_ #[sT, xT] o.type #[.slice ba 0 0, xx']).run P w = .ok v w' → (execOp a.eval o).run P w = .ok (.value v) w' := by
          intro v w' h
          have : execOp a.eval o = (do pure (Next.value (← Builtin.append_ #[sT, xT] o.type ((#[bx, xx] : Array Operand).map a.eval))) : Sem Next) := by
            unfold execOp; rw [ho]; rfl
          rw [this, show (#[bx, xx] : Array Operand).map a.eval = #[.slice ba 0 0, xx'] by simp [hbx, hxx]]
          rw [Sem.run_bind, h]; rfl
        obtain ⟨zx, hzx, hzr⟩ := azero_run (σ := σ) (w := w.drew) hz1
        have hzs : zx.cells.size = P.cellsOf e := by rw [(ArrRel_of_cells hz2 hzr).1, hzl]
        obtain ⟨_, new, hnr, hnew⟩ := rowsOf_cells (P := P) hr.drew h0 hrows hs2 hxr
        obtain ⟨old, hor, hold⟩ := vec_cells (P := P) (rows := []) (sz := P.cellsOf e) hr.drew (by simp) hv
        have hold0 : old = #[] := by
          have := hold.1
          simpa using this
        subst hold0
        obtain ⟨i, hi⟩ : ∃ i, P.info? e = some i := by
          cases hi : P.info? e with
          | none => simp [Program.cellsOf, hi] at h0
          | some i => exact ⟨i, rfl⟩
        have hti : ∀ w, (typeInfo e).run P w = .ok i w := fun w => by simp [typeInfo, hi]
        have hib : i.bytes ≤ 32768 := by simpa [Program.bytesOf, hi] using hby
        let t := w.tape w.drawn (.appendCap rows2.length 0 e)
        have hcut : rows2.length ≤ (Question.appendCap rows2.length 0 e).cut t := Nat.le_add_right _ _
        generalize hnc : (Question.appendCap rows2.length 0 e).cut t = newCap at hcut
        let cs : Array Value := #[] ++ (new ++ Builtin.zeroCells zx.cells (newCap - rows2.length))
        have hnext : ¬ (281474976710656 < Builtin.nextslicecap rows2.length 0 * i.bytes) := by
          have h1 := nextcap_le rows2.length 0 (by omega)
          have h2 : Builtin.nextslicecap rows2.length 0 * i.bytes ≤ 4294967488 * 32768 := Nat.mul_le_mul (by omega) hib
          omega
        obtain ⟨f1, f2⟩ := cells_flat hs2 hnew
        have hkk := hr.drew.gfree s.G.length (Nat.le_refl _)
        have hB : RelB (σ.setBlk (.g s.G.length) w.drew.heap.size) (w.drew.alloc (.cells cs e)) w.drew.heap.size (.cells (rows2.flatten.map .p)) := by
          refine ⟨cs, e, heap_alloc_new _ _, by simp only [cs, List.length_map, ← f1, Array.size_append]; omega, fun j x hj => ?_⟩
          rw [List.getElem?_map, Option.map_eq_some_iff] at hj
          obtain ⟨v, hv, rfl⟩ := hj
          have hjl : j < new.size := by rw [f1]; exact (List.getElem?_eq_some_iff.1 hv).1
          have e1 : cs.getD j undef = new.getD j undef := by
            simp only [cs, Array.getD_eq_getD_getElem?]
            rw [Array.empty_append, Array.getElem?_append_left (by simpa using hjl)]
          rw [e1]
          exact .p (f2 j v hv)
        have hinv : BlkInv (.g s.G.length) (.cells (rows2.flatten.map .p)) := by
          intro j x hj
          rw [List.getElem?_map, Option.map_eq_some_iff] at hj
          obtain ⟨v, _, rfl⟩ := hj
          rfl
        obtain ⟨g1, g2⟩ := hr.drew.newG (o := .cells cs e) hB hinv
        refine ⟨.slice (some ⟨w.drew.heap.size, 0, none⟩) rows2.length newCap, _, _, .inl (hfin _ _ ?_), by
          rw [hd]
          exact g1.put (v := .ref (.g s.G.length) 0 rows2.length rows2.length) (.ref 0 _ _ _ (by simp [Sg.setBlk]) hcut) (dst := some d) (by simp [dstOk, hn]), (Post.drew _ _).trans g2⟩
        simp [Builtin.append_, run_underlying hu, run_sizeOf_ne h0, run_underlying hxu, hlenOf]
        have hne' : rows2 ≠ [] := by intro e; rw [e] at hpos; simp at hpos
        rw [if_neg (by first | exact hne' | omega), hti]
        simp only [Result.andThen_ok]
        rw [if_neg (by omega)]
        simp only [hti, Result.andThen_ok]
        rw [if_neg hnext]
        have hf : (Question.appendCap rows2.length 0 e).forced = false := rfl
        have hc2 : (Question.appendCap rows2.length 0 e).cut (w.tape w.drawn (Question.appendCap rows2.length 0 e)) = newCap := hnc
        rw [hf, hc2]
        simp only [Bool.false_eq_true, if_false, hti, Result.andThen_ok]
        have hor' : (Builtin.firstCells (P.cellsOf e) 0 (Value.slice ba 0 0)).run P w.drew = .ok #[] w.drew := hor
        simp only [hor', hnr, hzx, Result.andThen_ok, run_newRow]
        rfl
      · simp at h
    · simp at h
  · simp at h
end
end Go.Abs
