/-
  append where there is no room; append as a whole.
-/
import Derived.Test.YtnicgdfnfnchjaaA14
set_option linter.unusedVariables false
namespace Go.Abs

section
variable {P : Program} {σ : Sg} {s : St} {nt : Nat} {a : Act} {w : World}

theorem append_grow (hr : RelS σ s nt a w) {d : Nat} {k : Tok} {sz : Nat} (h0 : sz ≠ 0) {rows rows2 : List (List PV)} (hs : ∀ row ∈ rows, row.length = sz) (hs2 : ∀ row ∈ rows2, row.length = sz)
    {old new rest : Array Value} (hold : Cells σ.I sz rows old) (hnew : Cells σ.I sz rows2 new) {newCap : Nat} (hcap : rows.length + rows2.length ≤ newCap) (hrest : rest.size = (newCap - (rows.length + rows2.length)) * sz)
    (hmax : rows.length + rows2.length ≤ maxLen) (hpos : 0 < rows.length + rows2.length) (e : TypeId) :
    ∃ σ', RelS σ' (s.dis (appendTok d k)) nt a (w.alloc (.cells (old ++ new ++ rest) e)) ∧ Post σ σ' w (w.alloc (.cells (old ++ new ++ rest) e)) ∧
      Rel σ' (.own (rows ++ rows2) (.s d)) (.slice (some ⟨w.heap.size, 0, none⟩) (rows.length + rows2.length) newCap) := by
  have hsize : (old ++ new ++ rest).size = newCap * sz := by
    simp only [Array.size_append, hold.1, hnew.1, hrest]
    have : newCap = (rows.length + rows2.length) + (newCap - (rows.length + rows2.length)) := by omega
    rw [this]
    simp only [Nat.add_sub_cancel_left, Nat.add_mul]
  have hle : (rows.length + rows2.length) * sz ≤ (old ++ new ++ rest).size := by rw [hsize]; exact Nat.mul_le_mul_right _ hcap
  let tok' := tokApp σ d k (some (w.heap.size, (rows.length + rows2.length) * sz, newCap * sz))
  have ht : ∀ t x, tok' t = some x → σ.tok t = some x ∨ (t = Tok.s d ∧ x = (w.heap.size, (rows.length + rows2.length) * sz, newCap * sz)) := by
    intro t x h
    rcases tokApp_cases h with ⟨h1, _⟩ | h1
    · exact .inl h1
    · exact .inr h1
  have hwf := hr.wf.addI (T := e) hle (l := newCap * sz) (by rw [hsize]; exact Nat.le_refl _) ht
  refine ⟨σ.addI w.heap.size ((rows.length + rows2.length) * sz) (old ++ new ++ rest) tok', hr.turn (σ' := σ.addI w.heap.size ((rows.length + rows2.length) * sz) (old ++ new ++ rest) tok') _ (fun _ h => appendTok_isC h) (addI_mono hr.wf) rfl
    (fun t x hf h => tokApp_keep hf h) (fun k' b h => heap_alloc _ _ _ (hr.wf.lt _ _ h)) hwf, Post.addI hr.wf ht, ?_⟩
  have hI : ∀ n, n < (rows.length + rows2.length) * sz → (σ.addI w.heap.size ((rows.length + rows2.length) * sz) (old ++ new ++ rest) tok').I w.heap.size (0 + n) = some ((old ++ new ++ rest).getD n undef) := by
    intro n hn
    have hlt : n < (old ++ new ++ rest).size := by omega
    simp only [Sg.addI, if_true, Nat.zero_add, hn, Array.getD_eq_getD_getElem?]
    rw [Array.getElem?_eq_getElem hlt]; rfl
  refine .own (relP_append hs hs2 hI (fun i row j c hi hj => ?_) (fun i row j c hi hj => ?_) hmax hcap) ?_
  · have hil := (List.getElem?_eq_some_iff.1 hi).1
    have hjl : j < sz := by rw [← hs row (List.mem_of_getElem? hi)]; exact (List.getElem?_eq_some_iff.1 hj).1
    have hlt : i * sz + j < old.size := by rw [hold.1]; exact idx_lt hil hjl
    have := (hold.2 i row j c hi hj).mono (addI_mono hr.wf (n := (rows.length + rows2.length) * sz) (c := old ++ new ++ rest) (tok := tok'))
    have e2 : (old ++ new ++ rest)[i * sz + j]? = old[i * sz + j]? := by rw [Array.append_assoc, Array.getElem?_append_left hlt]
    rw [Array.getD_eq_getD_getElem?] at this ⊢
    rw [e2]; exact this
  · have hil := (List.getElem?_eq_some_iff.1 hi).1
    have hjl : j < sz := by rw [← hs2 row (List.mem_of_getElem? hi)]; exact (List.getElem?_eq_some_iff.1 hj).1
    have hlt : i * sz + j < new.size := by rw [hnew.1]; exact idx_lt hil hjl
    have := (hnew.2 i row j c hi hj).mono (addI_mono hr.wf (n := (rows.length + rows2.length) * sz) (c := old ++ new ++ rest) (tok := tok'))
    rw [Array.getD_eq_getD_getElem?] at this ⊢
    have e1 : (rows.length + i) * sz + j = old.size + (i * sz + j) := by rw [hold.1, Nat.add_mul]; omega
    have e2 : (old ++ new ++ rest)[old.size + (i * sz + j)]? = new[i * sz + j]? := by rw [Array.append_assoc, Array.getElem?_append_right (by omega), Nat.add_sub_cancel_left, Array.getElem?_append_left hlt]
    rw [e1, e2]; exact this
  · have hrr : rows ++ rows2 ≠ [] := fun h => by rw [← List.length_append, h] at hpos; simp at hpos
    exact .inr ⟨w.heap.size, 0, sz, newCap * sz, by simp, rfl, fun row hr => by rcases List.mem_append.1 hr with h | h; exact hs _ h; exact hs2 _ h, hrr, by simp [Sg.addI, tok', tokApp], by omega⟩

theorem all_len {rows : List (List PV)} {sz : Nat} (h : rows.all (·.length == sz) = true) : ∀ row ∈ rows, row.length = sz := fun row hr => by
  simpa using List.all_eq_true.1 h row hr

theorem zeroCells_size (z : Array Value) (n : Nat) : (Builtin.zeroCells z n).size = n * z.size := by simp [Builtin.zeroCells]

theorem aappend_does {o : Oper} {sT xT : TypeId} {bx xx : Operand} {d : Nat} (ho : o.op = .call { callee := .builtin .append, args := #[bx, xx], argTypes := #[sT, xT] }) (hd : o.dst = some d) (hn : d < nt) {bv xv : AV}
    (hb : ev s bx = some bv) (hx : ev s xx = some xv) {r : List (List PV) × Tok} (h : aappend P s sT xT bv xv = some r) : Does P nt s o ((s.dis (appendTok d r.2)).put (some d) (.own r.1 (.s d))) := by
  intro σ a w hr
  unfold aappend at h
  split at h
  · rename_i e e2 rows k hu hxu
    split at h
    · rename_i rows2 z hrows hz
      split at h
      · rename_i hc
        obtain ⟨h0, hzl, hby, hkc, hs, hs2, hbound⟩ := hc
        simp only [Option.some.injEq] at h; subst h
        have hs := all_len hs
        have hs2 := all_len hs2
        rw [Option.bind_eq_some_iff] at hz
        obtain ⟨zv, hz1, hz2⟩ := hz
        have hbr := ev_rel hr hb
        have hxr := ev_rel hr hx
        generalize hbx : a.eval bx = bx' at hbr
        generalize hxx : a.eval xx = xx' at hxr
        obtain ⟨⟨xa, xlen, xcap, hxe, hxl⟩, new, hnr, hnew⟩ := rowsOf_cells (P := P) hr h0 hrows hs2 hxr
        have hbr' := hbr
        cases hbr with | own hv hown =>
        rename_i ba len cap
        obtain ⟨hlen, hcap⟩ := cap_le hv
        obtain ⟨old, hor, hold⟩ := vec_cells (P := P) hr hs hv
        have hmaxl : rows.length + rows2.length ≤ maxLen := by unfold maxLen; omega
        have hlenOf : (Builtin.lenOf xx').run P w = .ok rows2.length w := by rw [hxe, hxl]; rfl
        have hfin : ∀ v w', (Builtin.append_ #[sT, xT] o.type #[.slice ba len cap, xx']).run P w = .ok v w' → (execOp a.eval o).run P w = .ok (.value v) w' := by
          intro v w' h
          have : execOp a.eval o = (do pure (Next.value (← Builtin.append_ #[sT, xT] o.type ((#[bx, xx] : Array Operand).map a.eval))) : Sem Next) := by
            unfold execOp; rw [ho]; rfl
          rw [this, show (#[bx, xx] : Array Operand).map a.eval = #[.slice ba len cap, xx'] by simp [hbx, hxx]]
          rw [Sem.run_bind, h]; rfl
        by_cases hfit : len + rows2.length ≤ cap
        · obtain ⟨w', σ', g1, g2, g3, g4⟩ := append_room (P := P) (d := d) hr hkc h0 hs hs2 hbr' hnew (by omega) hmaxl
          refine ⟨.slice ba (rows.length + rows2.length) cap, w', σ', .inl (hfin _ _ ?_), ?_, g3⟩
          · cases ba <;> simp [Builtin.append_, run_underlying hu, run_sizeOf_ne h0, run_underlying hxu, hlenOf, hnr, hlen] at g1 ⊢
            · rw [if_pos (by omega), g1]
            · rw [if_pos (by omega), g1]; rfl
          · rw [hd]; exact g2.put g4 (dst := some d) (by simp [dstOk, hn])
        · have hfit' : cap < len + rows2.length := by omega
          obtain ⟨zx, hzx, hzr⟩ := azero_run (σ := σ) (w := w.drew) hz1
          have hzs : zx.cells.size = P.cellsOf e := by rw [(ArrRel_of_cells hz2 hzr).1, hzl]
          obtain ⟨_, new, hnr, hnew⟩ := rowsOf_cells (P := P) hr.drew h0 hrows hs2 hxr
          obtain ⟨old, hor, hold⟩ := vec_cells (P := P) hr.drew hs hv
          obtain ⟨i, hi⟩ : ∃ i, P.info? e = some i := by
            cases hi : P.info? e with
            | none => simp [Program.cellsOf, hi] at h0
            | some i => exact ⟨i, rfl⟩
          have hti : ∀ w, (typeInfo e).run P w = .ok i w := fun w => by simp [typeInfo, hi]
          have hib : i.bytes ≤ 32768 := by simpa [Program.bytesOf, hi] using hby
          let t := w.tape w.drawn (.appendCap (rows.length + rows2.length) cap e)
          have hcut : rows.length + rows2.length ≤ (Question.appendCap (rows.length + rows2.length) cap e).cut t := Nat.le_add_right _ _
          generalize hnc : (Question.appendCap (rows.length + rows2.length) cap e).cut t = newCap at hcut
          obtain ⟨σ', g2, g3, g4⟩ := append_grow (d := d) (k := k) hr.drew h0 hs hs2 hold hnew hcut (rest := Builtin.zeroCells zx.cells (newCap - (rows.length + rows2.length))) (by rw [zeroCells_size, hzs]) hmaxl (by omega) e
          have hnext : ¬ (281474976710656 < Builtin.nextslicecap (rows.length + rows2.length) cap * i.bytes) := by
            have h1 := nextcap_le (rows.length + rows2.length) cap (by omega)
            have h2 : Builtin.nextslicecap (rows.length + rows2.length) cap * i.bytes ≤ 4294967488 * 32768 := Nat.mul_le_mul (by omega) hib
            omega
          refine ⟨.slice (some ⟨w.drew.heap.size, 0, none⟩) (rows.length + rows2.length) newCap, _, σ', .inl (hfin _ _ ?_), by rw [hd]; exact g2.put g4 (dst := some d) (by simp [dstOk, hn]), (Post.drew _ _).trans g3⟩
          have hsc : Builtin.nextslicecap (len + rows2.length) cap = Builtin.nextslicecap (rows.length + rows2.length) cap := by rw [hlen]
          simp [Builtin.append_, run_underlying hu, run_sizeOf_ne h0, run_underlying hxu, hlenOf]
          rw [if_neg (by omega), hti]
          simp only [Result.andThen_ok]
          rw [if_neg (by omega)]
          simp only [hti, Result.andThen_ok]
          rw [hsc, if_neg hnext]
          have hf : (Question.appendCap (len + rows2.length) cap e).forced = false := rfl
          have hc2 : (Question.appendCap (len + rows2.length) cap e).cut (w.tape w.drawn (Question.appendCap (len + rows2.length) cap e)) = newCap := by rw [hlen]; exact hnc
          rw [hf, hc2]
          rw [hlen] at hor ⊢
          simp only [Bool.false_eq_true, if_false, hti, Result.andThen_ok, hor, hnr, hzx, run_newRow]
          rfl
      · simp at h
    · simp at h
  · simp at h
end
end Go.Abs
